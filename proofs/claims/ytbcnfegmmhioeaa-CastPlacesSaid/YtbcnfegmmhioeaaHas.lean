/- Which inputs a class has, walked. -/
import Derived.Test.YtbcnfegmmhioeaaCast1
import Derived.Test.YtbcnfegmmhioeaaConcat
namespace Go.Proofs.Ytbcnfegmmhioeaa
open Go.RowKit

def boolC (b : Bool) : List Value := [.bool b]
def failsOk (l : List Bool) (calls most : Int) : Bool := decide ((l.length : Int) = calls) && decide (calls ≤ 6) && decide ((nfails l : Int) ≤ most)
theorem nfails_succ {l : List Bool} {k : Nat} {b : Bool} (h : l[k]? = some b) : nfails (l.take (k + 1)) = nfails (l.take k) + if b then 1 else 0 := by
  unfold nfails
  rw [List.take_add_one, h, List.countP_append]
  cases b <;> simp
theorem nfails_le (l : List Bool) : nfails l ≤ l.length := List.countP_le_length

set_option maxRecDepth 100000 in
theorem failsMay_any {w : World} (A : Option Addr) (c : Nat) (l : List Bool) (hA : IsSl 1 boolC w A l) (hl : l.length ≤ 1000) (calls most : Int) :
    Calls Try.prog 174 #[.slice A l.length c, .int .i64 calls, .int .i64 most] w fun e w' => e = .returned (.bool (failsOk l calls most)) ∧ w' = w := by
  have hlI : (l.length : Int) ≤ 1000 := by omega
  have HA := Lib.hid hA
  clear hA
  go_enter Try.func174, Try.ntmps174
  go_wp2_with fail
  go_loopw [7, 12] (fun z x wr => ∃ k : Nat, z = .int .i64 (nfails (l.take k)) ∧ x = .int .i64 k ∧ k ≤ l.length ∧ wr = w) (fun z x wr => l.length - (intOf x).toNat)
  case atStart => exact ⟨0, rfl, rfl, Nat.zero_le _, rfl⟩
  case round =>
    obtain ⟨k, rfl, rfl, hk, rfl⟩ := hrel
    by_cases hlt : k < l.length
    · have hltI : (k : Int) < l.length := by omega
      obtain ⟨x, hx⟩ : ∃ x, l[k]? = some x := ⟨l[k], List.getElem?_eq_getElem hlt⟩
      obtain ⟨b, off, rfl, hsb, hc⟩ := HA.out.at_ hx
      have d0 : ∀ W [SameB wr W b], W.cell? ⟨b, off + k, none⟩ = some (.bool x) := fun W _ => by simpa using hc W 0 _ rfl
      have hsu := nfails_succ hx
      have hq := nfails_le (l.take k)
      have hq2 : (l.take k).length ≤ k := List.length_take_le _ _
      generalize nfails (l.take k) = q at *
      have hqI : (q : Int) ≤ 1000 := by omega
      have HSU := Lib.hid hsu
      clear hc hx hsu hq hq2
      cases x with
      | true =>
        go_wp2_with fail
        go_roundw
        case rel => exact ⟨k + 1, by rw [HSU.out]; simp, by go_num, by omega, trivial⟩
        case measure => simp [intOf]; omega
      | false =>
        go_wp2_with fail
        go_roundw
        case rel => exact ⟨k + 1, by rw [HSU.out]; simp, by go_num, by omega, trivial⟩
        case measure => simp [intOf]; omega
    · have hltI : ¬ (k : Int) < l.length := by omega
      obtain rfl : k = l.length := by omega
      rw [List.take_of_length_le (Nat.le_refl _)]
      by_cases h1 : (l.length : Int) = calls
      · subst h1
        by_cases h2 : (l.length : Int) ≤ 6
        · go_wp2_with fail
          go_ret
          exact ⟨ret_bool (by simp [failsOk, h2]), rfl⟩
        · go_wp2_with fail
          go_ret
          exact ⟨ret_bool (by simp [failsOk]; omega), rfl⟩
      · have h1b : ((l.length : Int) == calls) = false := by simpa using h1
        go_wp2_with fail
        go_ret
        exact ⟨ret_bool (by simp [failsOk, h1]), rfl⟩

/-! ### an input -/
abbrev inpV (F G : SlV (SlV UInt8)) (H : SlV Bool) : Value := .agg #[.slice F.A F.l.length F.cap, .slice G.A G.l.length G.cap, .slice H.A H.l.length H.cap]
abbrev inpO (F G : SlV (SlV UInt8)) (H : SlV Bool) : Obj := .cells #[.slice F.A F.l.length F.cap, .slice G.A G.l.length G.cap, .slice H.A H.l.length H.cap] 69
structure IsInp (w : World) (F G : SlV (SlV UInt8)) (H : SlV Bool) : Prop where
  f : IsSl 1 bsC w F.A F.l
  g : IsSl 1 bsC w G.A G.l
  h : IsSl 1 boolC w H.A H.l
  fb : ∀ s ∈ F.l, IsSl 1 u8C w s.A s.l
  gb : ∀ s ∈ G.l, IsSl 1 u8C w s.A s.l
  fl : F.l.length ≤ 100
  gl : G.l.length ≤ 100
  hl : H.l.length ≤ 1000
theorem IsInp.below {w W : World} {F G : SlV (SlV UInt8)} {H : SlV Bool} (h : IsInp w F G H) (hb : Below w.heap.size w W) : IsInp W F G H :=
  ⟨h.f.below hb, h.g.below hb, h.h.below hb, fun s hs => (h.fb s hs).below hb, fun s hs => (h.gb s hs).below hb, h.fl, h.gl, h.hl⟩
theorem inp_at {W : World} {b : Nat} {F G : SlV (SlV UInt8)} {H : SlV Bool} (h : W.heap[b]? = some (inpO F G H)) : SameB W W b ∧ (∀ V [SameB W V b], V.cell? ⟨b, 0, none⟩ = some (.slice F.A F.l.length F.cap)) ∧
    (∀ V [SameB W V b], V.cell? ⟨b, 1, none⟩ = some (.slice G.A G.l.length G.cap)) ∧ (∀ V [SameB W V b], V.cell? ⟨b, 2, none⟩ = some (.slice H.A H.l.length H.cap)) :=
  ⟨SameB.self (lt_of_block h), fun _ _ => SameB.cell (blk_cell h 0), fun _ _ => SameB.cell (blk_cell h 1), fun _ _ => SameB.cell (blk_cell h 2)⟩

/-- The first k texts fit their caps. -/
def fitK (ts : List (SlV UInt8)) (cs : List Int) (k : Nat) : Bool := (List.range k).all fun i => match ts[i]?, cs[i]? with | some t, some c => decide ((t.l.length : Int) ≤ c) | _, _ => true
theorem fitK_succ {ts : List (SlV UInt8)} {cs : List Int} {k : Nat} {t : SlV UInt8} {c : Int} (ht : ts[k]? = some t) (hc : cs[k]? = some c) : fitK ts cs (k + 1) = (fitK ts cs k && decide ((t.l.length : Int) ≤ c)) := by
  unfold fitK
  rw [List.range_succ, List.all_append]
  simp [ht, hc]
theorem fitK_bad {ts : List (SlV UInt8)} {cs : List Int} {k n : Nat} {t : SlV UInt8} {c : Int} (ht : ts[k]? = some t) (hc : cs[k]? = some c) (h : ¬ (t.l.length : Int) ≤ c) (hk : k < n) : fitK ts cs n = false := by
  unfold fitK
  rw [List.all_eq_false]
  exact ⟨k, by simpa using hk, by simp only [ht, hc]; simpa using h⟩
def hasI (C : ClsM) (F G : List (SlV UInt8)) (fl : List Bool) : Bool :=
  mayC C && decide (F.length = nfiles C) && decide (G.length = C.args.length) && failsOk fl C.calls C.fails && fitK (F ++ G) (capsM C) (capsM C).length

set_option maxRecDepth 100000 in
set_option maxHeartbeats 2000000 in
theorem has_any {w : World} (A : Option Addr) (c : Nat) (B : Option Addr) (d : Nat) (C : ClsM) (h : ClsOK w A B C) (F G : SlV (SlV UInt8)) (H : SlV Bool) (hi : IsInp w F G H) :
    Calls Try.prog 106 #[clsV A c B d C, inpV F G H] w fun e w' => e = .returned (.bool (hasI C F.l G.l H.l)) ∧ Below w.heap.size w w' := by
  have hb0 : Below w.heap.size w ((w.alloc (clsO A c B d C)).alloc (inpO F G H)) := ((Below.refl _ _).alloc (Nat.le_refl _) _).alloc (by simp) _
  have hbox : ((w.alloc (clsO A c B d C)).alloc (inpO F G H)).heap[w.heap.size]? = some (clsO A c B d C) := blk_alloc (blk_new _ _) _
  have hbox2 : ((w.alloc (clsO A c B d C)).alloc (inpO F G H)).heap[w.heap.size + 1]? = some (inpO F G H) := by
    have := blk_new (w.alloc (clsO A c B d C)) (inpO F G H)
    simpa using this
  obtain ⟨sP, p0, p1, p2, p3, p4⟩ := cls_at hbox
  obtain ⟨sQ, q0, q1, q2⟩ := inp_at hbox2
  have hf := fun W (hb : Below w.heap.size w W) => files_any (w := W) A c B d C (h.cls.below hb) h.tl
  have hmay := fun W (hb : Below w.heap.size w W) => cmay_any (w := W) A c B d C (h.cls.below hb) h.tl h.al h.pl
  have hcp := fun W (hb : Below w.heap.size w W) => caps_any (w := W) A c B d C (h.cls.below hb) h.tl h.al
  have hfm := fun W (hb : Below w.heap.size w W) => failsMay_any (w := W) H.A H.cap H.l (hi.h.below hb) hi.hl C.calls C.fails
  have hnf : nfiles C ≤ C.tree.length := List.length_filter_le _ _
  have htl := h.tl
  have hal := h.al
  have hfl := hi.fl
  have hgl := hi.gl
  have hhl := hi.hl
  unfold PostInts at hcp
  unfold PostNats at hf
  rw [filesM_length] at hf
  have HX1 := Lib.hid hbox
  have HX2 := Lib.hid hbox2
  have HI := Lib.hid hi
  have i1 : (nfiles C : Int) ≤ 1000 := by omega
  have i2 : (C.args.length : Int) ≤ 1000 := by omega
  have i3 : (F.l.length : Int) ≤ 100 := by omega
  have i4 : (G.l.length : Int) ≤ 100 := by omega
  have i5 : (H.l.length : Int) ≤ 1000 := by omega
  clear hbox hbox2 hi h
  unfold hasI
  cases hm : mayC C with
  | false =>
    rw [hm] at hmay
    simp only [Bool.false_and]
    clear hm
    go_enter Try.func106, Try.ntmps106
    go_wp2_with (first | ((go_at_call 108; ((with_reducible refine (hf _ hb0).mono ?_); rintro e w1 ⟨v, rfl, ho1, hb1⟩)); have s1l : Bel w w1 := Bel.call hb1; obtain ⟨A5, c5, rfl⟩ : ∃ A5 c5, v = .slice A5 (nfiles C) c5 := owns_slice ho1; have s1p : SameB ((w.alloc (clsO A c B d C)).alloc (inpO F G H)) w1 w.heap.size := SameB.call hb1 _; have s1q : SameB ((w.alloc (clsO A c B d C)).alloc (inpO F G H)) w1 (w.heap.size + 1) := SameB.call hb1 _) | ((go_at_call 101; ((with_reducible refine (hmay _ s1l.out).mono ?_); rintro e w2 ⟨rfl, hb2⟩)); have s2l : Bel w w2 := Bel.call hb2))
    go_ret
    exact ⟨rfl, s2l.out⟩
  | true =>
    rw [hm] at hmay
    obtain ⟨_, _, hcap, hc0, hc6, _, _, hlen⟩ := mayT hm
    have hcl : (capsM C).length = nfiles C + C.args.length := by rw [capsM, List.length_append, fcaps_length]
    simp only [Bool.true_and]
    generalize capsM C = cs at *
    clear hm
    by_cases e1 : F.l.length = nfiles C
    case neg =>
      rw [decide_eq_false e1]
      simp only [Bool.false_and]
      have e1b : ((F.l.length : Int) != (nfiles C : Int)) = true := by simp; omega
      clear e1
      go_enter Try.func106, Try.ntmps106
      go_wp2_with (first | ((go_at_call 108; ((with_reducible refine (hf _ hb0).mono ?_); rintro e w1 ⟨v, rfl, ho1, hb1⟩)); have s1l : Bel w w1 := Bel.call hb1; obtain ⟨A5, c5, rfl⟩ : ∃ A5 c5, v = .slice A5 (nfiles C) c5 := owns_slice ho1; have s1p : SameB ((w.alloc (clsO A c B d C)).alloc (inpO F G H)) w1 w.heap.size := SameB.call hb1 _; have s1q : SameB ((w.alloc (clsO A c B d C)).alloc (inpO F G H)) w1 (w.heap.size + 1) := SameB.call hb1 _) | ((go_at_call 101; ((with_reducible refine (hmay _ s1l.out).mono ?_); rintro e w2 ⟨rfl, hb2⟩)); have s2l : Bel w w2 := Bel.call hb2; have s2p : SameB ((w.alloc (clsO A c B d C)).alloc (inpO F G H)) w2 w.heap.size := SameB.call hb2 _; have s2q : SameB ((w.alloc (clsO A c B d C)).alloc (inpO F G H)) w2 (w.heap.size + 1) := SameB.call hb2 _))
      go_ret
      exact ⟨rfl, s2l.out⟩
    have e1b : ((F.l.length : Int) != (nfiles C : Int)) = false := by simp [e1]
    rw [decide_eq_true e1, Bool.true_and]
    by_cases e2 : G.l.length = C.args.length
    case neg =>
      rw [decide_eq_false e2]
      simp only [Bool.false_and]
      have e2b : ((G.l.length : Int) != (C.args.length : Int)) = true := by simp; omega
      clear e1 e2
      go_enter Try.func106, Try.ntmps106
      go_wp2_with (first | ((go_at_call 108; ((with_reducible refine (hf _ hb0).mono ?_); rintro e w1 ⟨v, rfl, ho1, hb1⟩)); have s1l : Bel w w1 := Bel.call hb1; obtain ⟨A5, c5, rfl⟩ : ∃ A5 c5, v = .slice A5 (nfiles C) c5 := owns_slice ho1; have s1p : SameB ((w.alloc (clsO A c B d C)).alloc (inpO F G H)) w1 w.heap.size := SameB.call hb1 _; have s1q : SameB ((w.alloc (clsO A c B d C)).alloc (inpO F G H)) w1 (w.heap.size + 1) := SameB.call hb1 _) | ((go_at_call 101; ((with_reducible refine (hmay _ s1l.out).mono ?_); rintro e w2 ⟨rfl, hb2⟩)); have s2l : Bel w w2 := Bel.call hb2; have s2p : SameB ((w.alloc (clsO A c B d C)).alloc (inpO F G H)) w2 w.heap.size := SameB.call hb2 _; have s2q : SameB ((w.alloc (clsO A c B d C)).alloc (inpO F G H)) w2 (w.heap.size + 1) := SameB.call hb2 _))
      go_ret
      exact ⟨rfl, s2l.out⟩
    have e2b : ((G.l.length : Int) != (C.args.length : Int)) = false := by simp [e2]
    rw [decide_eq_true e2, Bool.true_and]
    have hE1 := Lib.hid e1
    have hE2 := Lib.hid e2
    clear e1 e2
    cases hfo : failsOk H.l C.calls C.fails with
    | false =>
      rw [hfo] at hfm
      simp only [Bool.false_and]
      clear hfo
      go_enter Try.func106, Try.ntmps106
      go_wp2_with (first | ((go_at_call 108; ((with_reducible refine (hf _ hb0).mono ?_); rintro e w1 ⟨v, rfl, ho1, hb1⟩)); have s1l : Bel w w1 := Bel.call hb1; obtain ⟨A5, c5, rfl⟩ : ∃ A5 c5, v = .slice A5 (nfiles C) c5 := owns_slice ho1; have s1p : SameB ((w.alloc (clsO A c B d C)).alloc (inpO F G H)) w1 w.heap.size := SameB.call hb1 _; have s1q : SameB ((w.alloc (clsO A c B d C)).alloc (inpO F G H)) w1 (w.heap.size + 1) := SameB.call hb1 _) | ((go_at_call 101; ((with_reducible refine (hmay _ s1l.out).mono ?_); rintro e w2 ⟨rfl, hb2⟩)); have s2l : Bel w w2 := Bel.call hb2; have s2p : SameB ((w.alloc (clsO A c B d C)).alloc (inpO F G H)) w2 w.heap.size := SameB.call hb2 _; have s2q : SameB ((w.alloc (clsO A c B d C)).alloc (inpO F G H)) w2 (w.heap.size + 1) := SameB.call hb2 _) | ((go_at_call 174; ((with_reducible refine (hfm _ s2l.out).mono ?_); rintro e w3 ⟨rfl, rfl⟩))))
      go_ret
      exact ⟨rfl, s2l.out⟩
    | true =>
      rw [hfo] at hfm
      simp only [Bool.true_and]
      generalize hres : fitK (F.l ++ G.l) cs cs.length = res
      have HRES := Lib.hid hres
      clear hfo hres
      go_enter Try.func106, Try.ntmps106
      go_wp2_with (first | ((go_at_call 108; ((with_reducible refine (hf _ hb0).mono ?_); rintro e w1 ⟨v, rfl, ho1, hb1⟩)); have s1l : Bel w w1 := Bel.call hb1; obtain ⟨A5, c5, rfl⟩ : ∃ A5 c5, v = .slice A5 (nfiles C) c5 := owns_slice ho1; have s1p : SameB ((w.alloc (clsO A c B d C)).alloc (inpO F G H)) w1 w.heap.size := SameB.call hb1 _; have s1q : SameB ((w.alloc (clsO A c B d C)).alloc (inpO F G H)) w1 (w.heap.size + 1) := SameB.call hb1 _) | ((go_at_call 101; ((with_reducible refine (hmay _ s1l.out).mono ?_); rintro e w2 ⟨rfl, hb2⟩)); have s2l : Bel w w2 := Bel.call hb2; have s2p : SameB ((w.alloc (clsO A c B d C)).alloc (inpO F G H)) w2 w.heap.size := SameB.call hb2 _; have s2q : SameB ((w.alloc (clsO A c B d C)).alloc (inpO F G H)) w2 (w.heap.size + 1) := SameB.call hb2 _) | ((go_at_call 174; ((with_reducible refine (hfm _ s2l.out).mono ?_); rintro e w3 ⟨rfl, rfl⟩))) | ((go_at_call 100; ((with_reducible refine (hcp _ s2l.out).mono ?_); rintro e w4 ⟨v, rfl, ho4, hb4⟩)); have s4l : Bel w w4 := Bel.call hb4; have s4q : SameB ((w.alloc (clsO A c B d C)).alloc (inpO F G H)) w4 (w.heap.size + 1) := SameB.call hb4 _; rw [← flat_ints] at ho4; obtain ⟨A6, c6, rfl, hs6⟩ := owns_isSlN (enc := intC) (sz := 1) (fun _ => rfl) ho4))
      have HS6 := Lib.hid hs6
      have HB4 := Lib.hid s4l.out
      have hclI : (nfiles C : Int) + C.args.length ≤ 6 := by omega
      clear hs6 ho4 hf hmay hcp hfm p0 p1 p2 p3 p4 q2 hcap hlen e1b e2b
      go_loopw [43] (fun x wr => ∃ k : Nat, x = .int .i64 k ∧ k ≤ nfiles C + C.args.length ∧ fitK (F.l ++ G.l) cs k = true ∧ wr = w4) (fun x wr => nfiles C + C.args.length - (intOf x).toNat)
      case atStart => exact ⟨0, rfl, Nat.zero_le _, rfl, rfl⟩
      case round =>
        obtain ⟨k, rfl, hk, hfit, rfl⟩ := hrel
        by_cases hlt : k < nfiles C + C.args.length
        · obtain ⟨x, hx⟩ : ∃ x, cs[k]? = some x := ⟨cs[k], List.getElem?_eq_getElem (by omega)⟩
          obtain ⟨b6, o6, rfl, hsb6, hc6⟩ := HS6.out.at_ hx
          have dx : ∀ W [SameB wr W b6], W.cell? ⟨b6, o6 + k, none⟩ = some (.int .i64 x) := fun W _ => by simpa using hc6 W 0 _ rfl
          have HX := Lib.hid hx
          clear hc6 hx
          by_cases hkn : k < nfiles C
          · have hkI : (k : Int) < nfiles C := by omega
            have hkI2 : (k : Int) < (nfiles C : Int) + C.args.length := by omega
            have hkF : k < F.l.length := by have := hE1.out; omega
            have hkFI : (k : Int) < F.l.length := by omega
            obtain ⟨t, ht⟩ : ∃ t, F.l[k]? = some t := ⟨F.l[k], List.getElem?_eq_getElem hkF⟩
            obtain ⟨b, off, eA, hsb, hc⟩ := (HI.out.f.below HB4.out).at_ ht
            have dt : ∀ W [SameB wr W b], W.cell? ⟨b, off + k, none⟩ = some (.slice t.A t.l.length t.cap) := fun W _ => by have := hc W 0 _ rfl; simpa [SlV.val] using this
            have ht2 : (F.l ++ G.l)[k]? = some t := by rw [List.getElem?_append_left hkF]; exact ht
            rw [eA] at q0
            have HT := Lib.hid ht2
            clear hc ht ht2 eA
            by_cases hle : (t.l.length : Int) ≤ x
            · have hsu := fitK_succ HT.out HX.out
              rw [hfit, decide_eq_true hle] at hsu
              have HSU := Lib.hid hsu
              clear hsu hfit
              go_wp2_with fail
              go_roundw
              case rel => exact ⟨k + 1, by go_num, by omega, by rw [HSU.out]; rfl, trivial⟩
              case measure => simp [intOf]; omega
            · have hr : res = false := by rw [← HRES.out]; exact fitK_bad HT.out HX.out hle (by omega)
              subst hr
              clear hfit
              go_wp2_with fail
              go_ret
              exact ⟨rfl, HB4.out⟩
          · obtain ⟨j, rfl⟩ : ∃ j, k = nfiles C + j := ⟨k - nfiles C, by omega⟩
            have hjI : (j : Int) < C.args.length := by omega
            have hjG : j < G.l.length := by have := hE2.out; omega
            have hjGI : (j : Int) < G.l.length := by omega
            obtain ⟨t, ht⟩ : ∃ t, G.l[j]? = some t := ⟨G.l[j], List.getElem?_eq_getElem hjG⟩
            obtain ⟨b, off, eA, hsb, hc⟩ := (HI.out.g.below HB4.out).at_ ht
            have dt : ∀ W [SameB wr W b], W.cell? ⟨b, off + j, none⟩ = some (.slice t.A t.l.length t.cap) := fun W _ => by have := hc W 0 _ rfl; simpa [SlV.val] using this
            have ht2 : (F.l ++ G.l)[nfiles C + j]? = some t := by
              have := hE1.out
              rw [List.getElem?_append_right (by omega), show nfiles C + j - F.l.length = j by omega]; exact ht
            rw [eA] at q1
            have HT := Lib.hid ht2
            clear hc ht ht2 eA hkn
            by_cases hle : (t.l.length : Int) ≤ x
            · have hsu := fitK_succ HT.out HX.out
              rw [hfit, decide_eq_true hle] at hsu
              have HSU := Lib.hid hsu
              clear hsu hfit
              go_wp2_with fail
              go_roundw
              case rel => exact ⟨nfiles C + j + 1, by go_num, by omega, by rw [HSU.out]; rfl, trivial⟩
              case measure => simp [intOf]; omega
            · have hr : res = false := by rw [← HRES.out]; exact fitK_bad HT.out HX.out hle (by omega)
              subst hr
              clear hfit
              go_wp2_with fail
              go_ret
              exact ⟨rfl, HB4.out⟩
        · have hkI2 : ¬ (k : Int) < (nfiles C : Int) + C.args.length := by omega
          have hr : res = true := by rw [← HRES.out, hcl, ← hfit]; congr 1; omega
          subst hr
          clear hfit
          go_wp2_with fail
          go_ret
          exact ⟨rfl, HB4.out⟩
end Go.Proofs.Ytbcnfegmmhioeaa
