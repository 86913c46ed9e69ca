/- An input as numbers, walked. -/
import Derived.Test.YtbcnfegmmhioeaaHas
namespace Go.Proofs.Ytbcnfegmmhioeaa
open Go.RowKit

theorem Try.info_u16 : (Try.prog.info? 34).map (fun i => (i.zero, i.size, i.bytes)) = some (some (.int .u16 0), 1, 2) := by kernel_rfl
def byteE (l : List UInt8) (k : Nat) : Int := match l[k]? with | some x => x.toNat | none => 0
def bytesK (l : List UInt8) (k : Nat) : List Int := (List.range k).map (byteE l)
def textE (t : SlV UInt8) (c : Int) : List Int := (t.l.length : Int) :: bytesK t.l c.toNat
def envK (ts : List (SlV UInt8)) (cs : List Int) (k : Nat) : List Int := (List.range k).flatMap fun i => match ts[i]?, cs[i]? with | some t, some c => textE t c | _, _ => []
def failE (l : List Bool) : List Int := l.map fun b => if b then 1 else 0
theorem envK_succ {ts : List (SlV UInt8)} {cs : List Int} {k : Nat} {t : SlV UInt8} {c : Int} (ht : ts[k]? = some t) (hc : cs[k]? = some c) : envK ts cs (k + 1) = envK ts cs k ++ textE t c := by
  unfold envK
  rw [List.range_succ, List.flatMap_append]
  simp [ht, hc]
theorem bytesK_succ (l : List UInt8) (k : Nat) : bytesK l (k + 1) = bytesK l k ++ [byteE l k] := by
  unfold bytesK
  rw [List.range_succ, List.map_append]; rfl
theorem envK_len {ts : List (SlV UInt8)} {cs : List Int} (h : ∀ x ∈ cs, 0 ≤ x ∧ x ≤ 3) : ∀ k, (envK ts cs k).length ≤ 4 * k := by
  intro k
  induction k with
  | zero => simp [envK]
  | succ k ih =>
    cases ht : ts[k]? with
    | none =>
      have : envK ts cs (k + 1) = envK ts cs k := by unfold envK; rw [List.range_succ, List.flatMap_append]; simp [ht]
      rw [this]; omega
    | some t =>
      cases hc : cs[k]? with
      | none =>
        have : envK ts cs (k + 1) = envK ts cs k := by unfold envK; rw [List.range_succ, List.flatMap_append]; simp [hc]
        rw [this]; omega
      | some c =>
        rw [envK_succ ht hc, List.length_append]
        have := h c (List.mem_of_getElem? hc)
        have h2 : (textE t c).length = c.toNat + 1 := by simp [textE, bytesK]
        omega
def envRes (C : ClsM) (F G : List (SlV UInt8)) (fl : List Bool) : Int × List Int :=
  if mayC C then (if hasI C F G fl then (0, envK (F ++ G) (capsM C) (capsM C).length ++ failE fl) else (12, [])) else (11, [])
def PostEnv (w : World) (r : Int × List Int) (e : Ending) (w' : World) : Prop :=
  ∃ v, e = .returned (.tuple #[v, .int .i64 r.1]) ∧ w'.ownsRow w.heap.size 34 1 v r.2.length (r.2.map (Value.int .u16)) ∧ Below w.heap.size w w'
theorem PostEnv.no {w W : World} {n : Int} (hb : Below w.heap.size w W) : PostEnv w (n, []) (.returned (.tuple #[.slice none 0 0, .int .i64 n])) W := ⟨_, rfl, World.ownsRow_nil _ _ _ _, hb⟩

theorem concat2_any {W : World} (F G : SlV (SlV UInt8)) (b : Nat) (hb : W.heap[b]? = some (.cells #[.slice F.A F.l.length F.cap, .slice G.A G.l.length G.cap] 66 (0, 0))) (hF : IsSl 1 bsC W F.A F.l) (hG : IsSl 1 bsC W G.A G.l) (fl : F.l.length ≤ 100) (gl : G.l.length ≤ 100) :
    Calls Try.prog 107 #[.slice (some ⟨b, 0, none⟩) 2 2] W fun e w' => ∃ A c, e = .returned (.slice A (F.l ++ G.l).length c) ∧ IsSl 1 bsC w' A (F.l ++ G.l) ∧ Below W.heap.size W w' := by
  have h1 : IsSl 1 rowsC W (some ⟨b, 0, none⟩) [F, G] := isSl_flatN (enc := rowsC) (sz := 1) (fun _ => rfl) [F, G] hb
  have := concat_any (w := W) (some ⟨b, 0, none⟩) 2 [F, G] h1 (fun s hs => by rcases List.mem_cons.1 hs with rfl | hs; exact hF; rcases List.mem_cons.1 hs with rfl | hs; exact hG; cases hs) (by simp) (by simp [lenR]; omega)
  have e : [F, G].flatMap (·.l) = F.l ++ G.l := by simp
  rw [e] at this
  refine this.mono fun e w' ⟨v, he, ho, hb⟩ => ?_
  obtain ⟨A, c, rfl, hs⟩ := owns_isSlN (enc := bsC) (sz := 1) (fun _ => rfl) ho
  exact ⟨A, c, he, hs, hb⟩

set_option maxRecDepth 100000 in
set_option maxHeartbeats 4000000 in
theorem env_any {w : World} (A : Option Addr) (c : Nat) (B : Option Addr) (d : Nat) (C : ClsM) (h : ClsOK w A B C) (F G : SlV (SlV UInt8)) (H : SlV Bool) (hi : IsInp w F G H) :
    Calls Try.prog 37 #[clsV A c B d C, inpV F G H] w (PostEnv w (envRes C F.l G.l H.l)) := by
  obtain ⟨HA, Hc, Hl⟩ := H
  simp only at *
  have hb0 : Below w.heap.size w ((w.alloc (clsO A c B d C)).alloc (inpO F G ⟨HA, Hc, Hl⟩)) := ((Below.refl _ _).alloc (Nat.le_refl _) _).alloc (by simp) _
  have hbox : ((w.alloc (clsO A c B d C)).alloc (inpO F G ⟨HA, Hc, Hl⟩)).heap[w.heap.size]? = some (clsO A c B d C) := blk_alloc (blk_new _ _) _
  have hbox2 : ((w.alloc (clsO A c B d C)).alloc (inpO F G ⟨HA, Hc, Hl⟩)).heap[w.heap.size + 1]? = some (inpO F G ⟨HA, Hc, Hl⟩) := by
    have := blk_new (w.alloc (clsO A c B d C)) (inpO F G ⟨HA, Hc, Hl⟩)
    simpa using this
  obtain ⟨sP, p0, p1, p2, p3, p4⟩ := cls_at hbox
  obtain ⟨sQ, q0, q1, q2⟩ := inp_at hbox2
  have hmay := fun W (hb : Below w.heap.size w W) => cmay_any (w := W) A c B d C (h.cls.below hb) h.tl h.al h.pl
  have hcp := fun W (hb : Below w.heap.size w W) => caps_any (w := W) A c B d C (h.cls.below hb) h.tl h.al
  have hhas := fun W (hb : Below w.heap.size w W) => has_any (w := W) A c B d C (h.below hb) F G ⟨HA, Hc, Hl⟩ (hi.below hb)
  have hcc := fun W b (hb : Below w.heap.size w W) hblk => concat2_any (W := W) F G b hblk (hi.f.below hb) (hi.g.below hb) hi.fl hi.gl
  have hhl : Hl.length ≤ 1000 := hi.hl
  have HX1 := Lib.hid hbox
  have HX2 := Lib.hid hbox2
  have HI := Lib.hid hi
  have i5 : (Hl.length : Int) ≤ 1000 := by omega
  unfold PostInts at hcp
  clear hbox hbox2 hi h hhl
  unfold envRes
  cases hm : mayC C with
  | false =>
    rw [hm] at hmay
    simp only [Bool.false_eq_true, if_false]
    clear hm
    go_enter Try.func37, Try.ntmps37
    go_wp2_with ((go_at_call 101; ((with_reducible refine (hmay _ hb0).mono ?_); rintro e w1 ⟨rfl, hb1⟩)); have s1l : Bel w w1 := Bel.call hb1)
    go_ret2
    exact PostEnv.no s1l.out
  | true =>
    rw [hm] at hmay
    simp only [if_true]
    cases hh : hasI C F.l G.l Hl with
    | false =>
      rw [hh] at hhas
      simp only [Bool.false_eq_true, if_false]
      clear hm hh
      go_enter Try.func37, Try.ntmps37
      go_wp2_with (first | ((go_at_call 101; ((with_reducible refine (hmay _ hb0).mono ?_); rintro e w1 ⟨rfl, hb1⟩)); have s1l : Bel w w1 := Bel.call hb1; have s1p : SameB ((w.alloc (clsO A c B d C)).alloc (inpO F G ⟨HA, Hc, Hl⟩)) w1 w.heap.size := SameB.call hb1 _; have s1q : SameB ((w.alloc (clsO A c B d C)).alloc (inpO F G ⟨HA, Hc, Hl⟩)) w1 (w.heap.size + 1) := SameB.call hb1 _) | ((go_at_call 106; ((with_reducible refine (hhas _ s1l.out).mono ?_); rintro e w2 ⟨rfl, hb2⟩)); have s2l : Bel w w2 := Bel.call hb2))
      go_ret2
      exact PostEnv.no s2l.out
    | true =>
      rw [hh] at hhas
      simp only [if_true]
      have hcap := (mayT hm).cap
      have hlen := (mayT hm).len
      have hfit : fitK (F.l ++ G.l) (capsM C) (capsM C).length = true := by simp only [hasI, Bool.and_eq_true] at hh; exact hh.2
      have hll : (F.l ++ G.l).length = (capsM C).length := by
        simp only [hasI, Bool.and_eq_true, decide_eq_true_eq] at hh
        rw [List.length_append, hh.1.1.1.2, hh.1.1.2, capsM, List.length_append, fcaps_length]
      have hlb : ∀ t ∈ F.l ++ G.l, IsSl 1 u8C w t.A t.l := fun t ht => by
        rcases List.mem_append.1 ht with ht | ht
        · exact HI.out.fb t ht
        · exact HI.out.gb t ht
      generalize F.l ++ G.l = L at *
      generalize capsM C = cs at *
      have hel := envK_len (ts := L) hcap
      have HCAP := Lib.hid hcap
      have HFIT := Lib.hid hfit
      have HLB := Lib.hid hlb
      have HLL := Lib.hid hll
      have HEL := Lib.hid hel
      have hLI : (L.length : Int) ≤ 6 := by omega
      clear hm hh hcap hfit hlb hll hel
      go_enter Try.func37, Try.ntmps37
      go_wp2_with (first | ((go_at_call 101; ((with_reducible refine (hmay _ hb0).mono ?_); rintro e w1 ⟨rfl, hb1⟩)); have s1l : Bel w w1 := Bel.call hb1; have s1p : SameB ((w.alloc (clsO A c B d C)).alloc (inpO F G ⟨HA, Hc, Hl⟩)) w1 w.heap.size := SameB.call hb1 _; have s1q : SameB ((w.alloc (clsO A c B d C)).alloc (inpO F G ⟨HA, Hc, Hl⟩)) w1 (w.heap.size + 1) := SameB.call hb1 _) | ((go_at_call 106; ((with_reducible refine (hhas _ s1l.out).mono ?_); rintro e w2 ⟨rfl, hb2⟩)); have s2l : Bel w w2 := Bel.call hb2; have s2p : SameB ((w.alloc (clsO A c B d C)).alloc (inpO F G ⟨HA, Hc, Hl⟩)) w2 w.heap.size := SameB.call hb2 _; have s2q : SameB ((w.alloc (clsO A c B d C)).alloc (inpO F G ⟨HA, Hc, Hl⟩)) w2 (w.heap.size + 1) := SameB.call hb2 _) | ((go_at_call 107; ((with_reducible refine (hcc _ _ bel (blk_new _ _)).mono ?_); rintro e w3 ⟨A5, c5, rfl, hs5, hb3⟩)); have s3l : Bel w w3 := Bel.call hb3; have s3p : SameB ((w.alloc (clsO A c B d C)).alloc (inpO F G ⟨HA, Hc, Hl⟩)) w3 w.heap.size := SameB.call hb3 _; have s3q : SameB ((w.alloc (clsO A c B d C)).alloc (inpO F G ⟨HA, Hc, Hl⟩)) w3 (w.heap.size + 1) := SameB.call hb3 _))
      have hH := HI.out.h
      simp only at hH
      have HHH := Lib.hid hH
      have HB3 := Lib.hid s3l.out
      have HS5 := Lib.hid hs5
      have hbx3 : w3.heap[w.heap.size]? = some (clsO A c B d C) := s3p.blk.trans HX1.out
      have hbx4 : w3.heap[w.heap.size + 1]? = some (inpO F G ⟨HA, Hc, Hl⟩) := s3q.blk.trans HX2.out
      have hlt3 : w.heap.size < w3.heap.size := lt_of_block hbx3
      have hlt4 : w.heap.size + 1 < w3.heap.size := lt_of_block hbx4
      have HBX3 := Lib.hid hbx3
      have HBX4 := Lib.hid hbx4
      have hcsl : cs.length = L.length := HLL.out.symm
      have HCSL := Lib.hid hcsl
      clear hH hs5 hbx3 hbx4 hmay hhas hcc p0 p1 p2 p3 p4 q0 q1 q2 hcsl
      go_loopw [6, 30] (fun v x wr => ∃ k : Nat, x = .int .i64 k ∧ k ≤ L.length ∧ wr.ownsRow w3.heap.size 34 1 v (envK L cs k).length ((envK L cs k).map (Value.int .u16)) ∧ Below w3.heap.size w3 wr) (fun v x wr => L.length - (intOf x).toNat)
      case atStart => exact ⟨0, rfl, Nat.zero_le _, World.ownsRow_nil _ _ _ _, Below.refl _ _⟩
      case round =>
        obtain ⟨k, rfl, hk, hown, hbw⟩ := hrel
        obtain ⟨w4, rfl⟩ : ∃ v, v = wr := ⟨wr, rfl⟩
        have s4l : Bel w w4 := ⟨HB3.out.trans (hbw.mono HB3.out.size)⟩
        by_cases hlt : k < L.length
        · have hltI : (k : Int) < L.length := by omega
          obtain ⟨x, hx⟩ : ∃ x, cs[k]? = some x := ⟨cs[k]'(by have := HCSL.out; omega), List.getElem?_eq_getElem _⟩
          obtain ⟨hx0, hx3⟩ := HCAP.out x (List.mem_of_getElem? hx)
          obtain ⟨n, rfl⟩ : ∃ n : Nat, x = n := ⟨x.toNat, by omega⟩
          obtain ⟨t, ht⟩ : ∃ t, L[k]? = some t := ⟨L[k], List.getElem?_eq_getElem hlt⟩
          have htn : (t.l.length : Int) ≤ n := by
            by_cases h : (t.l.length : Int) ≤ n
            · exact h
            · have := fitK_bad (n := cs.length) ht hx h (by have := HCSL.out; omega)
              rw [HFIT.out] at this; cases this
          have hsu := envK_succ ht hx
          have hel := HEL.out k
          have htb := (HLB.out t (List.mem_of_getElem? ht)).below HB3.out
          obtain ⟨b, off, rfl, hsb, hc⟩ := (HS5.out.below hbw).at_ ht
          obtain ⟨tA, tc, tl⟩ := t
          simp only at htn htb
          have dt : ∀ W [SameB w4 W b], W.cell? ⟨b, off + k, none⟩ = some (.slice tA tl.length tc) := fun W _ => by have := hc W 0 _ rfl; simpa [SlV.val] using this
          obtain ⟨sP4, p0, p1, p2, p3, p4⟩ := cls_at ((hbw.block _ hlt3).trans HBX3.out)
          have hz4 : w3.heap.size ≤ w4.heap.size := hbw.size
          have hl4 : w.heap.size < w4.heap.size := by omega
          have hcp2 : ∀ W, Below w.heap.size w W → Calls Try.prog 100 #[clsV A c B d C] W fun e w' => ∃ b6 o6 c6, e = .returned (.slice (some ⟨b6, o6, none⟩) cs.length c6) ∧ w'.cell? ⟨b6, o6 + k, none⟩ = some (.int .i64 n) ∧ Below W.heap.size W w' := fun W hb => (hcp W hb).mono fun e w' ⟨v, he, ho, hb'⟩ => by
            rw [← flat_ints] at ho
            obtain ⟨A6, c6, rfl, hs6⟩ := owns_isSlN (enc := intC) (sz := 1) (fun _ => rfl) ho
            obtain ⟨b6, o6, rfl, _, hc6⟩ := hs6.at_ hx
            exact ⟨b6, o6, c6, he, by simpa using hc6 w' 0 _ rfl, hb'⟩
          have hcsI : (cs.length : Int) = L.length := by have := HCSL.out; omega
          rw [HCSL.out] at hcp2
          have HO := Lib.hid hown
          have HBW := Lib.hid hbw
          have HSU := Lib.hid hsu
          have HTB := Lib.hid htb
          clear hc hx ht hsu htb hown hbw hcsI
          go_wp2_with (first | (at_builtin; refine wpList_app1 rfl (.tmp 35) (.tmp 39) 72 rfl w3.heap.size 34 Try.underlying72 Try.info_u16 rfl (by decide) _ (envK L cs k).length _ rfl HO.out (by omega) hz4 _ _ rfl rfl ?_; intro v5 w5 ho5 hb5 hnn5; have s5p : SameB w4 w5 w.heap.size := SameB.below hb5 hlt3 hl4; have s5l : Bel w w5 := ⟨s4l.out.trans (hb5.mono (by omega))⟩) | ((go_at_call 100; ((with_reducible refine (hcp2 _ s5l.out).mono ?_); rintro e w6 ⟨b6, o6, c6, rfl, hcell6, hb6⟩))))
          have hst6 : w6.ownsRow w3.heap.size 34 1 v5 ((envK L cs k).length + 1 + 0) ((envK L cs k ++ ((tl.length : Int) :: bytesK tl 0)).map (Value.int .u16)) := by
            have h := ownsRow_below ho5 hb6
            simpa [bytesK] using h
          have hz5 : w3.heap.size ≤ w5.heap.size := Nat.le_trans hz4 hb5.size
          have hbw6 : Below w3.heap.size w3 w6 := HBW.out.trans (hb5.trans (hb6.mono hz5))
          have HST6 := Lib.hid hst6
          have HBW6 := Lib.hid hbw6
          have HTB2 := Lib.hid HTB.out
          clear hst6 hbw6 ho5 hcp2 dt p0 p1 p2 p3 p4 hcell6
          go_loopw [6, 46] (fun v x wr => ∃ j : Nat, x = .int .i64 j ∧ j ≤ n ∧ wr.ownsRow w3.heap.size 34 1 v ((envK L cs k).length + 1 + j) ((envK L cs k ++ ((tl.length : Int) :: bytesK tl j)).map (Value.int .u16)) ∧ Below w3.heap.size w3 wr) (fun v x wr => n - (intOf x).toNat)
          case atStart => exact ⟨0, rfl, Nat.zero_le _, HST6.out, HBW6.out⟩
          case round =>
            obtain ⟨j, rfl, hj, hown, hbw⟩ := hrel
            obtain ⟨w7, rfl⟩ : ∃ v, v = wr := ⟨wr, rfl⟩
            have hz7 : w3.heap.size ≤ w7.heap.size := hbw.size
            by_cases hjn : j < n
            · have hjI : (j : Int) < n := by omega
              have hbs := bytesK_succ tl j
              have hmap : ((envK L cs k ++ ((tl.length : Int) :: bytesK tl (j + 1))).map (Value.int .u16)) = ((envK L cs k ++ ((tl.length : Int) :: bytesK tl j)).map (Value.int .u16)) ++ [Value.int .u16 (byteE tl j)] := by
                rw [hbs]; simp
              have HMAP := Lib.hid hmap
              have HO := Lib.hid hown
              have HBW := Lib.hid hbw
              clear hbs hmap hown
              by_cases hjl : j < tl.length
              · have hjlI : (j : Int) < tl.length := by omega
                obtain ⟨y, hy⟩ : ∃ y, tl[j]? = some y := ⟨tl[j], List.getElem?_eq_getElem hjl⟩
                have htw := HTB2.out.below hbw
                obtain ⟨tb, to, rfl, stb, hct⟩ := htw.at_ hy
                have dy : ∀ W [SameB w7 W tb], W.cell? ⟨tb, to + j, none⟩ = some (.int .u8 y.toNat) := fun W _ => by simpa using hct W 0 _ rfl
                have hbe : byteE tl j = y.toNat := by unfold byteE; rw [hy]
                have HBE := Lib.hid hbe
                have y0 : (0 : Int) ≤ y.toNat := by omega
                have y1 : (y.toNat : Int) ≤ 255 := by have := y.toNat_lt; omega
                clear hct hy hbe htw hbw
                go_wp2_with (at_builtin; refine wpList_app1 rfl (.tmp 57) (.tmp 60) 72 rfl w3.heap.size 34 Try.underlying72 Try.info_u16 rfl (by decide) _ ((envK L cs k).length + 1 + j) _ rfl HO.out (by omega) hz7 _ _ rfl rfl ?_; intro v8 w8 ho8 hb8 hnn8)
                go_roundw
                case rel => exact ⟨j + 1, by go_num, by omega, by rw [HMAP.out, HBE.out]; exact ho8, HBW.out.trans hb8⟩
                case measure => simp [intOf]; omega
              · have hjlI : ¬ (j : Int) < tl.length := by omega
                have hbe : byteE tl j = 0 := by unfold byteE; rw [List.getElem?_eq_none (by omega)]
                have HBE := Lib.hid hbe
                clear hbe hbw
                go_wp2_with (at_builtin; refine wpList_app1 rfl (.tmp 57) (.tmp 60) 72 rfl w3.heap.size 34 Try.underlying72 Try.info_u16 rfl (by decide) _ ((envK L cs k).length + 1 + j) _ rfl HO.out (by omega) hz7 _ _ rfl rfl ?_; intro v8 w8 ho8 hb8 hnn8)
                go_roundw
                case rel => exact ⟨j + 1, by go_num, by omega, by rw [HMAP.out, HBE.out]; exact ho8, HBW.out.trans hb8⟩
                case measure => simp [intOf]; omega
            · have hjI : ¬ (j : Int) < n := by omega
              obtain rfl : j = n := by omega
              have HO := Lib.hid hown
              have HBW := Lib.hid hbw
              clear hown hbw
              go_wp2_with fail
              go_roundw
              case rel => exact ⟨k + 1, by go_num, by omega, by
                have h := HO.out
                have e : textE ⟨tA, tc, tl⟩ (j : Int) = (tl.length : Int) :: bytesK tl j := by simp [textE]
                rw [HSU.out, e, List.length_append]
                have e2 : ((tl.length : Int) :: bytesK tl j).length = 1 + j := by simp [bytesK]; omega
                rw [e2, ← Nat.add_assoc]
                exact h, HBW.out⟩
              case measure => simp [intOf]; omega
        · have hltI : ¬ (k : Int) < L.length := by omega
          obtain rfl : k = L.length := by omega
          obtain ⟨sQ4, q0, q1, q2⟩ := inp_at ((hbw.block _ hlt4).trans HBX4.out)
          simp only at q2
          have hel := HEL.out L.length
          have hE : envK L cs L.length = envK L cs cs.length := by rw [HCSL.out]
          rw [hE] at hown hel
          generalize envK L cs cs.length = E at *
          have HST := Lib.hid hown
          have HBW := Lib.hid hbw
          clear hown hbw hE q0 q1
          go_wp2_with fail
          go_loopw [6, 67] (fun v x wr => ∃ k : Nat, x = .int .i64 k ∧ k ≤ Hl.length ∧ wr.ownsRow w3.heap.size 34 1 v (E.length + k) ((E ++ failE (Hl.take k)).map (Value.int .u16)) ∧ Below w3.heap.size w3 wr) (fun v x wr => Hl.length - (intOf x).toNat)
          case atStart => exact ⟨0, rfl, Nat.zero_le _, by simpa [failE] using HST.out, HBW.out⟩
          case round =>
            obtain ⟨k2, rfl, hk2, hown, hbw⟩ := hrel
            obtain ⟨w5, rfl⟩ : ∃ v, v = wr := ⟨wr, rfl⟩
            have hz5 : w3.heap.size ≤ w5.heap.size := hbw.size
            have hb5 : Below w.heap.size w w5 := HB3.out.trans (hbw.mono HB3.out.size)
            by_cases hlt2 : k2 < Hl.length
            · have hltI2 : (k2 : Int) < Hl.length := by omega
              obtain ⟨x, hx⟩ : ∃ x, Hl[k2]? = some x := ⟨Hl[k2], List.getElem?_eq_getElem hlt2⟩
              obtain ⟨b, off, rfl, hsb, hc⟩ := (HHH.out.below hb5).at_ hx
              have d0 : ∀ W [SameB w5 W b], W.cell? ⟨b, off + k2, none⟩ = some (.bool x) := fun W _ => by simpa using hc W 0 _ rfl
              have hmap : (E ++ failE (Hl.take (k2 + 1))).map (Value.int .u16) = (E ++ failE (Hl.take k2)).map (Value.int .u16) ++ [Value.int .u16 (if x then 1 else 0)] := by
                rw [List.take_add_one, hx]; simp [failE]
              have HMAP := Lib.hid hmap
              have HO := Lib.hid hown
              have HBW5 := Lib.hid hbw
              clear hc hx hmap hown hbw
              cases x with
              | true =>
                go_wp2_with (at_builtin; refine wpList_app1 rfl (.tmp 72) (.tmp 74) 72 rfl w3.heap.size 34 Try.underlying72 Try.info_u16 rfl (by decide) _ (E.length + k2) _ rfl HO.out (by omega) hz5 _ _ rfl rfl ?_; intro v8 w8 ho8 hb8 hnn8)
                go_roundw
                case rel => exact ⟨k2 + 1, by go_num, by omega, by rw [HMAP.out]; exact ho8, HBW5.out.trans hb8⟩
                case measure => simp [intOf]; omega
              | false =>
                go_wp2_with (at_builtin; refine wpList_app1 rfl (.tmp 72) (.tmp 74) 72 rfl w3.heap.size 34 Try.underlying72 Try.info_u16 rfl (by decide) _ (E.length + k2) _ rfl HO.out (by omega) hz5 _ _ rfl rfl ?_; intro v8 w8 ho8 hb8 hnn8)
                go_roundw
                case rel => exact ⟨k2 + 1, by go_num, by omega, by rw [HMAP.out]; exact ho8, HBW5.out.trans hb8⟩
                case measure => simp [intOf]; omega
            · have hltI2 : ¬ (k2 : Int) < Hl.length := by omega
              obtain rfl : k2 = Hl.length := by omega
              rw [List.take_of_length_le (Nat.le_refl _)] at hown
              have HO := Lib.hid hown
              clear hown
              go_wp2_with fail
              go_ret2
              refine ⟨_, rfl, ?_, hb5⟩
              have e : (E ++ failE Hl).length = E.length + Hl.length := by simp [failE]
              simp only [e]
              exact ownsRow_mono HO.out HB3.out.size
end Go.Proofs.Ytbcnfegmmhioeaa
