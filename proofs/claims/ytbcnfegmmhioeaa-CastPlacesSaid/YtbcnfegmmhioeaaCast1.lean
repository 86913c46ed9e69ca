/- Package cast: how many variables, and where each is; walked. -/
import Derived.Test.YtbcnfegmmhioeaaRCls2
namespace Go.Proofs.Ytbcnfegmmhioeaa
open Go.RowKit

/-- A class that is not great, as it lies in memory. -/
structure ClsOK (w : World) (A B : Option Addr) (C : ClsM) : Prop where
  cls : IsCls w A B C
  tl : C.tree.length ≤ 1000
  al : C.args.length ≤ 1000
  pl : ∀ x ∈ C.tree, x.path.size ≤ 1000000
theorem ClsOK.below {w W : World} {A B : Option Addr} {C : ClsM} (h : ClsOK w A B C) (hb : Below w.heap.size w W) : ClsOK W A B C := ⟨h.cls.below hb, h.tl, h.al, h.pl⟩

structure MayT (C : ClsM) : Prop where
  nf : nfiles C ≤ 4
  na : C.args.length ≤ 2
  cap : ∀ x ∈ capsM C, 0 ≤ x ∧ x ≤ 3
  c0 : 0 ≤ C.calls
  c6 : C.calls ≤ 6
  f0 : 0 ≤ C.fails
  fc : C.fails ≤ C.calls
  len : (capsM C).length ≤ 6
theorem mayT {C : ClsM} (h : mayC C = true) : MayT C := by
  rw [mayC_ref] at h
  simp only [Bool.and_eq_true, decide_eq_true_eq, numsOk, List.all_eq_true, fitsM] at h
  obtain ⟨⟨⟨⟨⟨_, h4⟩, h2⟩, ⟨⟨⟨⟨⟨a1, a2⟩, a3⟩, a4⟩, a5⟩, a6⟩⟩, _⟩, hc⟩ := h
  exact ⟨h4, h2, hc, a1, a2, a3, a4, by rw [capsM, List.length_append, fcaps_length]; omega⟩

theorem sumV_succ {l : List Int} {k : Nat} {x : Int} (h : l[k]? = some x) : sumV (l.take (k + 1)) = sumV (l.take k) + (1 + x) := by
  unfold sumV
  rw [List.take_add_one, h, List.map_append, List.sum_append]
  simp
theorem sumV_bd (l : List Int) (h : ∀ x ∈ l, 0 ≤ x ∧ x ≤ 3) : ∀ k, 0 ≤ sumV (l.take k) ∧ sumV (l.take k) ≤ 4 * k := by
  intro k
  induction k with
  | zero => simp [sumV]
  | succ k ih =>
    cases hx : l[k]? with
    | none =>
      have : l.length ≤ k := List.getElem?_eq_none_iff.1 hx
      rw [List.take_of_length_le (by omega)] at ih ⊢
      omega
    | some x =>
      rw [sumV_succ hx]
      have := h x (List.mem_of_getElem? hx)
      omega

/-- An owned row of numbers that is not empty, opened. -/
theorem owns_ints {W : World} {base e : Nat} {v : Value} {l : List Int} (h : W.ownsRow base e 1 v l.length (l.map (Value.int .i64))) (hl : 0 < l.length) : ∃ g cap, v = .slice (some ⟨g, 0, none⟩) l.length cap ∧ base ≤ g ∧ g < W.heap.size ∧ l.length ≤ cap ∧ IsSl 1 intC W (some ⟨g, 0, none⟩) l := by
  have h2 := h
  rw [← flat_ints] at h2
  obtain ⟨A, cap, rfl, hs⟩ := owns_isSlN (enc := intC) (sz := 1) (fun _ => rfl) h2
  rcases h.2 with ⟨e1, h0⟩ | ⟨g, cap', cur, e1, hb, hg, hn, _⟩
  · omega
  · cases e1
    exact ⟨g, cap, rfl, hb, lt_of_block hg, hn, hs⟩

set_option maxRecDepth 100000 in
set_option maxHeartbeats 1000000 in
theorem vars_any {w : World} (A : Option Addr) (c : Nat) (B : Option Addr) (d : Nat) (C : ClsM) (h : ClsOK w A B C) :
    Calls Try.prog 35 #[clsV A c B d C] w fun e w' => e = .returned (.int .i64 (varsM C)) ∧ Below w.heap.size w w' := by
  have hb0 : Below w.heap.size w (w.alloc (clsO A c B d C)) := (Below.refl _ _).alloc (Nat.le_refl _) _
  have hbox : (w.alloc (clsO A c B d C)).heap[w.heap.size]? = some (clsO A c B d C) := blk_new _ _
  obtain ⟨sP, p0, p1, p2, p3, p4⟩ := cls_at hbox
  have hmay := fun W (hb : Below w.heap.size w W) => cmay_any (w := W) A c B d C (h.cls.below hb) h.tl h.al h.pl
  have hcp := fun W (hb : Below w.heap.size w W) => caps_any (w := W) A c B d C (h.cls.below hb) h.tl h.al
  unfold PostInts at hcp
  clear hbox h
  unfold varsM
  cases hm : mayC C with
  | false =>
    rw [hm] at hmay
    clear hm hcp
    go_enter Try.func35, Try.ntmps35
    go_wp2_with ((go_at_call 101; ((with_reducible refine (hmay _ hb0).mono ?_); rintro e w1 ⟨rfl, hb1⟩)); have s1l : Bel w w1 := Bel.call hb1)
    go_ret
    exact ⟨rfl, s1l.out⟩
  | true =>
    rw [hm] at hmay
    obtain ⟨_, _, hcap, hc0, hc6, _, _, hlen⟩ := mayT hm
    have hsb := sumV_bd _ hcap
    have hlI : ((capsM C).length : Int) ≤ 6 := by omega
    simp only [if_true]
    generalize capsM C = cs at *
    have HSB := Lib.hid hsb
    have HCA := Lib.hid hcap
    clear hm hcap hsb hlen
    go_enter Try.func35, Try.ntmps35
    go_wp2_with (first | ((go_at_call 101; ((with_reducible refine (hmay _ hb0).mono ?_); rintro e w1 ⟨rfl, hb1⟩)); have s1l : Bel w w1 := Bel.call hb1; have s1p : SameB (w.alloc (clsO A c B d C)) w1 w.heap.size := SameB.call hb1 _) | ((go_at_call 100; ((with_reducible refine (hcp _ s1l.out).mono ?_); rintro e w2 ⟨v, rfl, ho2, hb2⟩)); have s2l : Bel w w2 := Bel.call hb2; rw [← flat_ints] at ho2; obtain ⟨A5, c5, rfl, hs5⟩ := owns_isSlN (enc := intC) (sz := 1) (fun _ => rfl) ho2))
    have HS5 := Lib.hid hs5
    have HB2 := Lib.hid s2l.out
    clear hs5 ho2 hcp hmay p0 p1 p2 p3 p4
    go_loopw [3, 14] (fun n x wr => ∃ k : Nat, n = .int .i64 (C.calls + sumV (cs.take k)) ∧ x = .int .i64 k ∧ k ≤ cs.length ∧ wr = w2) (fun n x wr => cs.length - (intOf x).toNat)
    case atStart => exact ⟨0, by simp [sumV], rfl, Nat.zero_le _, rfl⟩
    case round =>
      obtain ⟨k, rfl, rfl, hk, rfl⟩ := hrel
      by_cases hlt : k < cs.length
      · have hltI : (k : Int) < cs.length := by omega
        obtain ⟨x, hx⟩ : ∃ x, cs[k]? = some x := ⟨cs[k], List.getElem?_eq_getElem hlt⟩
        obtain ⟨b, off, rfl, hsb, hc⟩ := HS5.out.at_ hx
        have d0 : ∀ W [SameB wr W b], W.cell? ⟨b, off + k, none⟩ = some (.int .i64 x) := fun W _ => by simpa using hc W 0 _ rfl
        have hsu := sumV_succ hx
        obtain ⟨x0, x3⟩ := HCA.out x (List.mem_of_getElem? hx)
        obtain ⟨b0, b4⟩ := HSB.out k
        generalize sumV (cs.take k) = q at *
        have HSU := Lib.hid hsu
        clear hc hx hsu
        go_wp2_with fail
        go_roundw
        case rel => exact ⟨k + 1, by rw [HSU.out]; go_num, by go_num, by omega, trivial⟩
        case measure => simp [intOf]; omega
      · have hltI : ¬ (k : Int) < cs.length := by omega
        obtain rfl : k = cs.length := by omega
        go_wp2_with fail
        go_ret
        exact ⟨rfl, HB2.out⟩

set_option maxRecDepth 100000 in
set_option maxHeartbeats 1000000 in
theorem size_any {w : World} (A : Option Addr) (c : Nat) (B : Option Addr) (d : Nat) (C : ClsM) (h : ClsOK w A B C) (i : Int) :
    Calls Try.prog 32 #[clsV A c B d C, .int .i64 i] w fun e w' => e = .returned (.int .i64 (sizeM C i)) ∧ Below w.heap.size w w' := by
  have hb0 : Below w.heap.size w (w.alloc (clsO A c B d C)) := (Below.refl _ _).alloc (Nat.le_refl _) _
  have hbox : (w.alloc (clsO A c B d C)).heap[w.heap.size]? = some (clsO A c B d C) := blk_new _ _
  obtain ⟨sP, p0, p1, p2, p3, p4⟩ := cls_at hbox
  have hmay := fun W (hb : Below w.heap.size w W) => cmay_any (w := W) A c B d C (h.cls.below hb) h.tl h.al h.pl
  have hcp := fun W (hb : Below w.heap.size w W) => caps_any (w := W) A c B d C (h.cls.below hb) h.tl h.al
  have hcl : (capsM C).length ≤ 2000 := by rw [capsM, List.length_append, fcaps_length]; have : nfiles C ≤ C.tree.length := List.length_filter_le _ _; have := h.tl; have := h.al; omega
  unfold PostInts at hcp
  clear hbox h
  unfold sizeM
  cases hm : mayC C with
  | false =>
    rw [hm] at hmay
    generalize capsM C = cs at *
    simp only [Bool.false_eq_true, false_and, if_false]
    clear hm
    go_enter Try.func32, Try.ntmps32
    go_wp2_with (first | ((go_at_call 100; ((with_reducible refine (hcp _ hb0).mono ?_); rintro e w1 ⟨v, rfl, ho1, hb1⟩)); have s1l : Bel w w1 := Bel.call hb1; have s1p : SameB (w.alloc (clsO A c B d C)) w1 w.heap.size := SameB.call hb1 _; obtain ⟨A5, c5, rfl⟩ := owns_slice ho1) | ((go_at_call 101; ((with_reducible refine (hmay _ s1l.out).mono ?_); rintro e w2 ⟨rfl, hb2⟩)); have s2l : Bel w w2 := Bel.call hb2))
    go_ret
    exact ⟨rfl, s2l.out⟩
  | true =>
    rw [hm] at hmay
    obtain ⟨_, _, hcap, hc0, hc6, _, _, hlen⟩ := mayT hm
    have hsb := sumV_bd _ hcap
    have hlI : ((capsM C).length : Int) ≤ 6 := by omega
    generalize capsM C = cs at *
    simp only [true_and]
    have HSB := Lib.hid hsb
    have HCA := Lib.hid hcap
    clear hm hcap hsb hlen hcl
    by_cases hi : 0 ≤ i ∧ i < cs.length
    · rw [if_pos hi]
      obtain ⟨hi0, hi1⟩ := hi
      obtain ⟨n, rfl⟩ : ∃ n : Nat, i = n := ⟨i.toNat, by omega⟩
      have hn1 : n < cs.length := by omega
      rw [Int.toNat_natCast]
      go_enter Try.func32, Try.ntmps32
      go_wp2_with (first | ((go_at_call 100; ((with_reducible refine (hcp _ hb0).mono ?_); rintro e w1 ⟨v, rfl, ho1, hb1⟩)); have s1l : Bel w w1 := Bel.call hb1; have s1p : SameB (w.alloc (clsO A c B d C)) w1 w.heap.size := SameB.call hb1 _; obtain ⟨g5, c5, rfl, hge5, hg5, hcc5, hs5⟩ := owns_ints ho1 (by omega)) | ((go_at_call 101; ((with_reducible refine (hmay _ s1l.out).mono ?_); rintro e w2 ⟨rfl, hb2⟩)); have s2l : Bel w w2 := Bel.call hb2))
      have HS5 := Lib.hid (hs5.below hb2)
      have HB2 := Lib.hid s2l.out
      clear hs5 ho1 hcp hmay p0 p1 p2 p3 p4
      go_loopw [6, 28] (fun z x wr => ∃ k : Nat, z = .int .i64 (sumV (cs.take k)) ∧ x = .int .i64 k ∧ k ≤ n ∧ wr = w2) (fun z x wr => n - (intOf x).toNat)
      case atStart => exact ⟨0, by simp [sumV], rfl, Nat.zero_le _, rfl⟩
      case round =>
        obtain ⟨k, rfl, rfl, hk, rfl⟩ := hrel
        by_cases hlt : k < n
        · have hltI : (k : Int) < n := by omega
          obtain ⟨x, hx⟩ : ∃ x, cs[k]? = some x := ⟨cs[k], List.getElem?_eq_getElem (by omega)⟩
          obtain ⟨b, off, eA, hsb, hc⟩ := HS5.out.at_ hx
          cases eA
          have d0 : ∀ W [SameB wr W g5], W.cell? ⟨g5, k, none⟩ = some (.int .i64 x) := fun W _ => by simpa using hc W 0 _ rfl
          have hsu := sumV_succ hx
          obtain ⟨x0, x3⟩ := HCA.out x (List.mem_of_getElem? hx)
          obtain ⟨b0, b4⟩ := HSB.out k
          generalize sumV (cs.take k) = q at *
          have HSU := Lib.hid hsu
          clear hc hx hsu
          go_wp2_with fail
          go_roundw
          case rel => exact ⟨k + 1, by rw [HSU.out], by go_num, by omega, trivial⟩
          case measure => simp [intOf]; omega
        · have hltI : ¬ (k : Int) < n := by omega
          obtain rfl : k = n := by omega
          go_wp2_with fail
          go_ret
          exact ⟨rfl, HB2.out⟩
    · rw [if_neg hi]
      by_cases hi0 : i < 0
      · clear hi
        go_enter Try.func32, Try.ntmps32
        go_wp2_with (first | ((go_at_call 100; ((with_reducible refine (hcp _ hb0).mono ?_); rintro e w1 ⟨v, rfl, ho1, hb1⟩)); have s1l : Bel w w1 := Bel.call hb1; have s1p : SameB (w.alloc (clsO A c B d C)) w1 w.heap.size := SameB.call hb1 _; obtain ⟨A5, c5, rfl⟩ := owns_slice ho1) | ((go_at_call 101; ((with_reducible refine (hmay _ s1l.out).mono ?_); rintro e w2 ⟨rfl, hb2⟩)); have s2l : Bel w w2 := Bel.call hb2))
        go_ret
        exact ⟨rfl, s2l.out⟩
      · have hi1 : (cs.length : Int) ≤ i := by omega
        clear hi
        go_enter Try.func32, Try.ntmps32
        go_wp2_with (first | ((go_at_call 100; ((with_reducible refine (hcp _ hb0).mono ?_); rintro e w1 ⟨v, rfl, ho1, hb1⟩)); have s1l : Bel w w1 := Bel.call hb1; have s1p : SameB (w.alloc (clsO A c B d C)) w1 w.heap.size := SameB.call hb1 _; obtain ⟨A5, c5, rfl⟩ := owns_slice ho1) | ((go_at_call 101; ((with_reducible refine (hmay _ s1l.out).mono ?_); rintro e w2 ⟨rfl, hb2⟩)); have s2l : Bel w w2 := Bel.call hb2))
        go_ret
        exact ⟨rfl, s2l.out⟩

def byteM (C : ClsM) (i k : Int) : Option Int :=
  if mayC C = true ∧ 0 ≤ i ∧ i < (capsM C).length ∧ 0 ≤ k ∧ k < (capsM C).getD i.toNat 0 then some (sizeM C i + 1 + k) else none
def failM (C : ClsM) (k : Int) : Option Int := if mayC C = true ∧ 0 ≤ k ∧ k < C.calls then some (varsM C - C.calls + k) else none
def optP (r : Option Int) : Value := match r with | some x => .tuple #[.int .i64 x, .bool true] | none => .tuple #[.int .i64 0, .bool false]
theorem sizeM_bd (C : ClsM) (i : Int) : -1 ≤ sizeM C i ∧ sizeM C i ≤ 24 ∧ (sizeM C i = -1 ↔ ¬ (mayC C = true ∧ 0 ≤ i ∧ i < (capsM C).length)) := by
  unfold sizeM
  by_cases h : mayC C = true ∧ 0 ≤ i ∧ i < (capsM C).length
  · rw [if_pos h]
    have ht := mayT h.1
    have := sumV_bd _ ht.cap i.toNat
    have hl := ht.len
    have h2 := h.2
    refine ⟨by omega, by omega, ⟨fun e => by omega, fun e => absurd h e⟩⟩
  · rw [if_neg h]
    exact ⟨by omega, by omega, ⟨fun _ => h, fun _ => rfl⟩⟩

set_option maxRecDepth 100000 in
set_option maxHeartbeats 1000000 in
theorem byte_any {w : World} (A : Option Addr) (c : Nat) (B : Option Addr) (d : Nat) (C : ClsM) (h : ClsOK w A B C) (i k : Int) :
    Calls Try.prog 33 #[clsV A c B d C, .int .i64 i, .int .i64 k] w fun e w' => e = .returned (optP (byteM C i k)) ∧ Below w.heap.size w w' := by
  have hb0 : Below w.heap.size w (w.alloc (clsO A c B d C)) := (Below.refl _ _).alloc (Nat.le_refl _) _
  have hbox : (w.alloc (clsO A c B d C)).heap[w.heap.size]? = some (clsO A c B d C) := blk_new _ _
  obtain ⟨sP, p0, p1, p2, p3, p4⟩ := cls_at hbox
  have hsz := fun W (hb : Below w.heap.size w W) => size_any (w := W) A c B d C (h.below hb) i
  have hcp := fun W (hb : Below w.heap.size w W) => caps_any (w := W) A c B d C (h.cls.below hb) h.tl h.al
  unfold PostInts at hcp
  obtain ⟨hs0, hs1, hs2⟩ := sizeM_bd C i
  clear hbox h
  unfold byteM
  by_cases hv : mayC C = true ∧ 0 ≤ i ∧ i < (capsM C).length
  · have hne : sizeM C i ≠ -1 := fun e => hs2.1 e hv
    have hneb : (sizeM C i == -1) = false := by simpa using hne
    obtain ⟨hm, hi0, hi1⟩ := hv
    have ht := mayT hm
    have hcap := ht.cap
    have hlen := ht.len
    simp only [hm, hi0, hi1, true_and]
    generalize sizeM C i = z at *
    generalize capsM C = cs at *
    obtain ⟨n, rfl⟩ : ∃ n : Nat, i = n := ⟨i.toNat, by omega⟩
    rw [Int.toNat_natCast]
    have hn1 : n < cs.length := by omega
    obtain ⟨x, hx⟩ : ∃ x, cs[n]? = some x := ⟨cs[n], List.getElem?_eq_getElem hn1⟩
    have hgd : cs.getD n 0 = x := by rw [List.getD_eq_getElem?_getD, hx]; rfl
    rw [hgd]
    obtain ⟨x0, x3⟩ := hcap x (List.mem_of_getElem? hx)
    have HX := Lib.hid hx
    clear hs2 hm ht hcap hx hgd hne
    by_cases hk0 : k < 0
    · rw [if_neg (by omega)]
      unfold optP
      go_enter Try.func33, Try.ntmps33
      go_wp2_with ((go_at_call 32; ((with_reducible refine (hsz _ hb0).mono ?_); rintro e w1 ⟨rfl, hb1⟩)); have s1l : Bel w w1 := Bel.call hb1)
      go_ret2
      exact ⟨rfl, s1l.out⟩
    · have hcall : ∀ W, Below w.heap.size w W → Calls Try.prog 100 #[clsV A c B d C] W fun e w' => ∃ g c5, e = .returned (.slice (some ⟨g, 0, none⟩) cs.length c5) ∧ w'.cell? ⟨g, n, none⟩ = some (.int .i64 x) ∧ Below W.heap.size W w' := fun W hb => (hcp W hb).mono fun e w' ⟨v, he, ho, hb'⟩ => by
        obtain ⟨g5, c5, rfl, hge5, hg5, hcc5, hs5⟩ := owns_ints ho (by omega)
        obtain ⟨b, off, eA, _, hc⟩ := hs5.at_ HX.out
        cases eA
        exact ⟨g5, c5, he, by simpa using hc w' 0 _ rfl, hb'⟩
      clear hcp
      have hlI : (cs.length : Int) ≤ 6 := by omega
      by_cases hkx : k < x
      · rw [if_pos ⟨by omega, hkx⟩]
        unfold optP
        go_enter Try.func33, Try.ntmps33
        go_wp2_with (first | ((go_at_call 32; ((with_reducible refine (hsz _ hb0).mono ?_); rintro e w1 ⟨rfl, hb1⟩)); have s1l : Bel w w1 := Bel.call hb1; have s1p : SameB (w.alloc (clsO A c B d C)) w1 w.heap.size := SameB.call hb1 _) | ((go_at_call 100; ((with_reducible refine (hcall _ s1l.out).mono ?_); rintro e w2 ⟨g, c5, rfl, hcell, hb2⟩)); have s2l : Bel w w2 := Bel.call hb2))
        go_ret2
        exact ⟨by simp, s2l.out⟩
      · rw [if_neg (by omega)]
        unfold optP
        go_enter Try.func33, Try.ntmps33
        go_wp2_with (first | ((go_at_call 32; ((with_reducible refine (hsz _ hb0).mono ?_); rintro e w1 ⟨rfl, hb1⟩)); have s1l : Bel w w1 := Bel.call hb1; have s1p : SameB (w.alloc (clsO A c B d C)) w1 w.heap.size := SameB.call hb1 _) | ((go_at_call 100; ((with_reducible refine (hcall _ s1l.out).mono ?_); rintro e w2 ⟨g, c5, rfl, hcell, hb2⟩)); have s2l : Bel w w2 := Bel.call hb2))
        go_ret2
        exact ⟨rfl, s2l.out⟩
  · have hz : sizeM C i = -1 := hs2.2 hv
    rw [if_neg (fun ⟨a1, a2, a3, _⟩ => hv ⟨a1, a2, a3⟩)]
    rw [hz] at hsz
    unfold optP
    clear hs0 hs1 hs2 hv hz hcp
    go_enter Try.func33, Try.ntmps33
    go_wp2_with ((go_at_call 32; ((with_reducible refine (hsz _ hb0).mono ?_); rintro e w1 ⟨rfl, hb1⟩)); have s1l : Bel w w1 := Bel.call hb1)
    go_ret2
    exact ⟨rfl, s1l.out⟩

theorem varsM_bd (C : ClsM) (h : mayC C = true) : C.calls ≤ varsM C ∧ varsM C ≤ 30 := by
  unfold varsM
  rw [if_pos h]
  have ht := mayT h
  have hl := ht.len
  have := sumV_bd _ ht.cap (capsM C).length
  rw [List.take_of_length_le (Nat.le_refl _)] at this
  have := ht.c6
  omega

set_option maxRecDepth 100000 in
set_option maxHeartbeats 1000000 in
theorem fail_any {w : World} (A : Option Addr) (c : Nat) (B : Option Addr) (d : Nat) (C : ClsM) (h : ClsOK w A B C) (k : Int) :
    Calls Try.prog 34 #[clsV A c B d C, .int .i64 k] w fun e w' => e = .returned (optP (failM C k)) ∧ Below w.heap.size w w' := by
  have hb0 : Below w.heap.size w (w.alloc (clsO A c B d C)) := (Below.refl _ _).alloc (Nat.le_refl _) _
  have hbox : (w.alloc (clsO A c B d C)).heap[w.heap.size]? = some (clsO A c B d C) := blk_new _ _
  obtain ⟨sP, p0, p1, p2, p3, p4⟩ := cls_at hbox
  have hmay := fun W (hb : Below w.heap.size w W) => cmay_any (w := W) A c B d C (h.cls.below hb) h.tl h.al h.pl
  have hvr := fun W (hb : Below w.heap.size w W) => vars_any (w := W) A c B d C (h.below hb)
  clear hbox h
  unfold failM
  cases hm : mayC C with
  | false =>
    rw [hm] at hmay
    simp only [Bool.false_eq_true, false_and, if_false]
    unfold optP
    clear hm
    go_enter Try.func34, Try.ntmps34
    go_wp2_with ((go_at_call 101; ((with_reducible refine (hmay _ hb0).mono ?_); rintro e w1 ⟨rfl, hb1⟩)); have s1l : Bel w w1 := Bel.call hb1)
    go_ret2
    exact ⟨rfl, s1l.out⟩
  | true =>
    rw [hm] at hmay
    obtain ⟨v1, v2⟩ := varsM_bd C hm
    have ht := mayT hm
    have c0 := ht.c0
    have c6 := ht.c6
    simp only [true_and]
    generalize varsM C = z at *
    clear hm ht
    by_cases hk0 : k < 0
    · rw [if_neg (by omega)]
      unfold optP
      go_enter Try.func34, Try.ntmps34
      go_wp2_with ((go_at_call 101; ((with_reducible refine (hmay _ hb0).mono ?_); rintro e w1 ⟨rfl, hb1⟩)); have s1l : Bel w w1 := Bel.call hb1)
      go_ret2
      exact ⟨rfl, s1l.out⟩
    · by_cases hk1 : k < C.calls
      · rw [if_pos ⟨by omega, hk1⟩]
        unfold optP
        go_enter Try.func34, Try.ntmps34
        go_wp2_with ((go_at_call 101; ((with_reducible refine (hmay _ hb0).mono ?_); rintro e w1 ⟨rfl, hb1⟩)); have s1l : Bel w w1 := Bel.call hb1; have s1p : SameB (w.alloc (clsO A c B d C)) w1 w.heap.size := SameB.call hb1 _)
        go_region_with ((go_at_call 35; ((with_reducible refine (hvr _ bel).mono ?_); rintro e w2 ⟨rfl, hb2⟩)); have s2l : Bel w w2 := Bel.call hb2; have s2p : SameB (w.alloc (clsO A c B d C)) w2 w.heap.size := SameB.call hb2 _)
        all_goals
          go_wp2_with fail
          go_ret2
          refine ⟨?_, s2l.out⟩
          simp [Act.put, IntKind.wrap_i64]
          omega
      · rw [if_neg (by omega)]
        unfold optP
        go_enter Try.func34, Try.ntmps34
        go_wp2_with ((go_at_call 101; ((with_reducible refine (hmay _ hb0).mono ?_); rintro e w1 ⟨rfl, hb1⟩)); have s1l : Bel w w1 := Bel.call hb1; have s1p : SameB (w.alloc (clsO A c B d C)) w1 w.heap.size := SameB.call hb1 _)
        go_ret2
        exact ⟨rfl, s1l.out⟩
end Go.Proofs.Ytbcnfegmmhioeaa
