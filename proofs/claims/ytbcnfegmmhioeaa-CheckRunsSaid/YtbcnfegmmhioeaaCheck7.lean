/- Whether a program may run, walked. -/
import Derived.Test.YtbcnfegmmhioeaaCheck6
import Derived.Test.YtbcnfegmmhioeaaNames
namespace Go.Proofs.Ytbcnfegmmhioeaa
open Go.RowKit

open Classical in
noncomputable def reachS (L : List InstM) : Nat → Nat → Bool := fun k h => decide (Reach L k h)
theorem reachS_eq {L : List InstM} {S : Nat → Nat → Bool} (h : IsReach L S) : S = reachS L := by
  funext k j
  rw [Bool.eq_iff_iff, h k j]
  simp [reachS]

theorem first_some {L : List InstM} {n k : Nat} {i : InstM} (hi : L[k]? = some i) (hk : ∀ k' i', k' < k → L[k']? = some i' → oneM i' L.length n k' = 0) (h : oneM i L.length n k ≠ 0) :
    firstM L n = some (k, oneM i L.length n k) := by
  have hlt := (List.getElem?_eq_some_iff.1 hi).1
  unfold firstM
  obtain ⟨r, hr⟩ : ∃ r, L.length = k + (r + 1) := ⟨L.length - k - 1, by omega⟩
  have hrange : List.range L.length = List.range k ++ k :: (List.range r).map (fun x => k + (x + 1)) := by
    rw [hr, List.range_add, List.range_succ_eq_map]
    simp
  rw [List.findSome?_eq_some_iff]
  refine ⟨List.range k, k, _, hrange, ?_, ?_⟩
  · simp [hi, h]
  · intro x hx
    simp only [List.mem_range] at hx
    have hxl : x < L.length := by omega
    simp [hk x L[x] hx (List.getElem?_eq_getElem hxl), List.getElem?_eq_getElem hxl]
theorem first_none {L : List InstM} {n : Nat} (h : WellOnes L n) : firstM L n = none := by
  unfold firstM
  rw [List.findSome?_eq_none_iff]
  intro x hx
  simp only [List.mem_range] at hx
  simp [h x L[x] (List.getElem?_eq_getElem hx), List.getElem?_eq_getElem hx]
theorem stack_some {L : List InstM} {S : Nat → Nat → Bool} {k : Nat} {i : InstM} (hi : L[k]? = some i) (hk : ∀ k' i', k' < k → L[k']? = some i' → (rowM i'.1 (S k') 17).2 = true) (h : (rowM i.1 (S k) 17).2 = false) :
    stackM L S = some k := by
  have hlt := (List.getElem?_eq_some_iff.1 hi).1
  unfold stackM
  rw [List.find?_range_eq_some]
  refine ⟨by simp [hi, h], by simpa using hlt, fun j hj => ?_⟩
  have hxl : j < L.length := by omega
  simp [hk j L[j] hj (List.getElem?_eq_getElem hxl), List.getElem?_eq_getElem hxl]
theorem stack_none {L : List InstM} {S : Nat → Nat → Bool} (hk : ∀ k' i', L[k']? = some i' → (rowM i'.1 (S k') 17).2 = true) : stackM L S = none := by
  unfold stackM
  rw [List.find?_eq_none]
  intro x hx
  simp only [List.mem_range] at hx
  simp [hk x L[x] (List.getElem?_eq_getElem hx), List.getElem?_eq_getElem hx]

theorem name_all (s : ByteArray) (w : World) : Calls Try.prog 90 #[.string s] w fun e w' => e = .returned (.bool (nameB s)) ∧ Below w.heap.size w w' := by
  by_cases h : s.size ≤ 1000000
  · exact name_any s h w
  · have h8 : 8 < s.size := by omega
    have hn : nameB s = false := by simp [nameB]; omega
    rw [hn]
    clear hn h
    go_enter Try.func90, Try.ntmps90
    go_wp2_with fail
    go_ret
    exact ⟨rfl, bel⟩

set_option maxRecDepth 100000 in
set_option maxHeartbeats 4000000 in
theorem run_any {w : World} (A : Option Addr) (c : Nat) (B : Option Addr) (d : Nat) (L : List InstM) (Ns : List ByteArray) (hA : IsSl 2 instC w A L) (hB : IsSl 1 strC w B Ns) :
    Calls Try.prog 23 #[progV A L.length c B Ns.length d] w fun e w' =>
      e = .returned (.tuple #[.int .i64 (runM L Ns.length (Ns.all nameB) (reachS L)).1, .int .i64 (runM L Ns.length (Ns.all nameB) (reachS L)).2]) ∧ Below w.heap.size w w' := by
  generalize hr : runM L Ns.length (Ns.all nameB) (reachS L) = r
  unfold runM at hr
  by_cases h0 : L.length = 0
  · rw [if_pos (Or.inl h0)] at hr
    subst hr
    have h0I : ((L.length : Int) == 0) = true := by rw [h0]; rfl
    go_enter Try.func23, Try.ntmps23
    go_wp2_with fail
    go_ret2
    exact ⟨rfl, bel⟩
  have h0I : ((L.length : Int) == 0) = false := by simp only [beq_eq_false_iff_ne, ne_eq]; omega
  by_cases h1 : 96 < L.length
  · rw [if_pos (Or.inr (Or.inl h1))] at hr
    subst hr
    have h1I : (96 : Int) < L.length := by omega
    clear h0 h1
    go_enter Try.func23, Try.ntmps23
    go_wp2_with fail
    go_ret2
    exact ⟨rfl, bel⟩
  have h1I : ¬ (96 : Int) < L.length := by omega
  by_cases h2 : 8 < Ns.length
  · rw [if_pos (Or.inr (Or.inr h2))] at hr
    subst hr
    have h2I : (8 : Int) < Ns.length := by omega
    clear h0 h1 h2
    go_enter Try.func23, Try.ntmps23
    go_wp2_with fail
    go_ret2
    exact ⟨rfl, bel⟩
  have h2I : ¬ (8 : Int) < Ns.length := by omega
  rw [if_neg (by omega)] at hr
  have hHR := Lib.hid hr
  clear hr
  go_enter Try.func23, Try.ntmps23
  go_wp2_with fail
  obtain ⟨pb, hpb⟩ : ∃ p, p = Obj.cells #[.slice A L.length c, .slice B Ns.length d] 43 := ⟨_, rfl⟩
  have hp0 : (w.alloc (.cells #[.slice A L.length c, .slice B Ns.length d] 43)).heap[w.heap.size]? = some pb := by rw [hpb]; exact blk_new _ _
  have hb0 : Below w.heap.size w (w.alloc (.cells #[.slice A L.length c, .slice B Ns.length d] 43)) := (Below.refl _ _).alloc (Nat.le_refl _) _
  have HP0 := Lib.hid hp0
  have HPB := Lib.hid hpb
  have HB0 := Lib.hid hb0
  clear hp0 hpb hb0 h0I h1I h2I
  go_loopw [31] (fun x wr => ∃ k : Nat, x = .int .i64 k ∧ k ≤ Ns.length ∧ (Ns.take k).all nameB = true ∧ wr.heap[w.heap.size]? = some pb ∧ Below w.heap.size w wr) (fun x wr => Ns.length - (intOf x).toNat)
  case atStart => exact ⟨0, rfl, Nat.zero_le _, rfl, HP0, HB0⟩
  case round =>
    obtain ⟨k, rfl, hk, hall, hpw, hbw⟩ := hrel
    obtain ⟨w1, rfl⟩ : ∃ v, v = wr := ⟨wr, rfl⟩
    have s1l : Bel w w1 := ⟨hbw⟩
    have hz1 : w.heap.size < w1.heap.size := lt_of_block hpw
    by_cases hlt : k < Ns.length
    · have hltI : (k : Int) < Ns.length := by omega
      have hkI : (Ns.length : Int) ≤ 8 := by omega
      obtain ⟨s, hs⟩ : ∃ s, Ns[k]? = some s := ⟨Ns[k], List.getElem?_eq_getElem hlt⟩
      obtain ⟨bb, off, rfl, hsb, hc⟩ := (hB.below hbw).at_ hs
      have d0 : ∀ W [SameB w1 W bb], W.cell? ⟨bb, off + k, none⟩ = some (.string s) := fun W _ => by simpa using hc W 0 _ rfl
      have hnm := fun W => name_all s W
      have hsucc : (Ns.take (k + 1)).all nameB = nameB s := by
        rw [List.take_add_one, List.all_append, hall, hs]; simp
      have HSU := Lib.hid hsucc
      have HPW := Lib.hid hpw
      have hmem := List.mem_of_getElem? hs
      clear hc hall hsucc hs hpw
      cases hn : nameB s with
      | true =>
        rw [hn] at hnm
        go_wp2_with ((go_at_call 90; ((with_reducible refine (hnm _).mono ?_); rintro e w2 ⟨rfl, hb2⟩)); have s2l : Bel w w2 := Bel.call hb2)
        go_roundw
        case rel => exact ⟨k + 1, by go_num, by omega, by rw [HSU.out]; exact hn, (hb2.block _ hz1).trans HPW, s2l.out⟩
        case measure => simp [intOf]; omega
      | false =>
        rw [hn] at hnm
        have hwell : Ns.all nameB = false := by
          rw [Bool.eq_false_iff]
          intro h
          rw [List.all_eq_true] at h
          have := h s hmem
          rw [hn] at this; cases this
        have hr := hHR.out
        rw [hwell] at hr
        simp only [Bool.not_false, if_true] at hr
        have HR := Lib.hid hr
        clear hr hwell hn hmem
        go_wp2_with ((go_at_call 90; ((with_reducible refine (hnm _).mono ?_); rintro e w2 ⟨rfl, hb2⟩)); have s2l : Bel w w2 := Bel.call hb2)
        go_ret2
        rw [← HR.out]
        exact ⟨rfl, s2l.out⟩
    · have hltI : ¬ (k : Int) < Ns.length := by omega
      rw [List.take_of_length_le (by omega)] at hall
      have hr := hHR.out
      rw [hall] at hr
      simp only [Bool.not_true, Bool.false_eq_true, if_false] at hr
      have HR := Lib.hid hr
      clear hr hall hHR
      have p0 : ∀ W [SameB w1 W w.heap.size], W.cell? ⟨w.heap.size, 0, none⟩ = some (.slice A L.length c) := fun W _ => by
        have h := hpw; rw [HPB.out] at h; exact SameB.cell (blk_cell h 0)
      have s1p : SameB w1 w1 w.heap.size := SameB.self hz1
      have HPW := Lib.hid hpw
      clear hpw
      go_wp2_with fail
      clear p0
      go_loopw [42] (fun x wr => ∃ k : Nat, x = .int .i64 k ∧ k ≤ L.length ∧ (∀ k' i', k' < k → L[k']? = some i' → oneM i' L.length Ns.length k' = 0) ∧ wr.heap[w.heap.size]? = some pb ∧ Below w.heap.size w wr) (fun x wr => L.length - (intOf x).toNat)
      case atStart => exact ⟨0, rfl, Nat.zero_le _, fun _ _ h => by omega, HPW, hbw⟩
      case round =>
        obtain ⟨k2, rfl, hk2, hall, hpw, hbw2⟩ := hrel
        obtain ⟨w2, rfl⟩ : ∃ v, v = wr := ⟨wr, rfl⟩
        have s2l : Bel w w2 := ⟨hbw2⟩
        have hz2 : w.heap.size < w2.heap.size := lt_of_block hpw
        have s2p : SameB w2 w2 w.heap.size := SameB.self hz2
        have p0 : ∀ W [SameB w2 W w.heap.size], W.cell? ⟨w.heap.size, 0, none⟩ = some (.slice A L.length c) := fun W _ => by
          have h := hpw; rw [HPB.out] at h; exact SameB.cell (blk_cell h 0)
        have p1 : ∀ W [SameB w2 W w.heap.size], W.cell? ⟨w.heap.size, 1, none⟩ = some (.slice B Ns.length d) := fun W _ => by
          have h := hpw; rw [HPB.out] at h; exact SameB.cell (blk_cell h 1)
        by_cases hlt2 : k2 < L.length
        · have hltI2 : (k2 : Int) < L.length := by omega
          have hLI : (L.length : Int) ≤ 96 := by omega
          obtain ⟨i, hi⟩ : ∃ i, L[k2]? = some i := ⟨L[k2], List.getElem?_eq_getElem hlt2⟩
          have hone := one_any (w := w2) A c B Ns.length d L (hA.below hbw2) (by omega) k2 i hi
          have hfst := fun h => first_some (n := Ns.length) hi hall h
          have hsuc : oneM i L.length Ns.length k2 = 0 → ∀ k' i', k' < k2 + 1 → L[k']? = some i' → oneM i' L.length Ns.length k' = 0 := fun h k' i' hk' hi' => by
            by_cases e : k' < k2
            · exact hall k' i' e hi'
            · obtain rfl : k' = k2 := by omega
              rw [hi] at hi'; cases hi'; exact h
          generalize oneM i L.length Ns.length k2 = q at *
          have HPW2 := Lib.hid hpw
          by_cases hq : q = 0
          · have hs1 := hsuc hq
            have HS1 := Lib.hid hs1
            subst hq
            clear hs1 hfst hsuc hall hpw hi
            go_wp2_with ((go_at_call 91; ((with_reducible refine (hone).mono ?_); rintro e w3 ⟨rfl, hb3⟩)); have s3l : Bel w w3 := Bel.call hb3)
            go_roundw
            case rel => exact ⟨k2 + 1, by go_num, by omega, HS1, (hb3.block _ hz2).trans HPW2, s3l.out⟩
            case measure => simp [intOf]; omega
          · have hqb : (q != 0) = true := by simpa using hq
            have hr := HR.out
            rw [hfst hq] at hr
            have HR2 := Lib.hid hr
            clear hr hfst hsuc hall hpw hi
            go_wp2_with ((go_at_call 91; ((with_reducible refine (hone).mono ?_); rintro e w3 ⟨rfl, hb3⟩)); have s3l : Bel w w3 := Bel.call hb3)
            go_ret2
            rw [← HR2.out]
            exact ⟨rfl, s3l.out⟩
        · have hltI2 : ¬ (k2 : Int) < L.length := by omega
          have hW : WellOnes L Ns.length := fun k' i' hi' => hall k' i' (by have := (List.getElem?_eq_some_iff.1 hi').1; omega) hi'
          have hr := HR.out
          rw [first_none hW] at hr
          have HR2 := Lib.hid hr
          have hrch := reach_any (w := w2) A c B Ns.length d L (hA.below hbw2) (by omega) (by omega) hW
          have HPW2 := Lib.hid hpw
          clear hr hall hpw HR
          go_wp2_with ((go_at_call 92; ((with_reducible refine (hrch).mono ?_); rintro e w3 ⟨hb, S, rfl, hge, hS, hir, hb3⟩)); have s3l : Bel w w3 := Bel.call hb3; have s3p : SameB w2 w3 w.heap.size := SameB.call hb3 _)
          clear p0 p1 hrch
          obtain rfl := reachS_eq hir
          clear hir
          have HS := Lib.hid hS
          have hbS : hb < w3.heap.size := lt_of_block hS
          clear hS
          go_loopw [58] (fun x wr => ∃ k : Nat, x = .int .i64 k ∧ k ≤ L.length ∧ (∀ k' i', k' < k → L[k']? = some i' → (rowM i'.1 (reachS L k') 17).2 = true) ∧ wr.heap[w.heap.size]? = some pb ∧ HeightsAt wr hb (reachS L) ∧ Below w.heap.size w wr) (fun x wr => L.length - (intOf x).toNat)
          case atStart => exact ⟨0, rfl, Nat.zero_le _, fun _ _ h => by omega, (hb3.block _ hz2).trans HPW2, HS, s3l.out⟩
          case round =>
            obtain ⟨k3, rfl, hk3, hall, hpw, hS, hbw3⟩ := hrel
            obtain ⟨w4, rfl⟩ : ∃ v, v = wr := ⟨wr, rfl⟩
            have s4l : Bel w w4 := ⟨hbw3⟩
            have hz4 : w.heap.size < w4.heap.size := lt_of_block hpw
            have p0 : w4.cell? ⟨w.heap.size, 0, none⟩ = some (.slice A L.length c) := by
              have h := hpw; rw [HPB.out] at h; exact blk_cell h 0
            have p1 : w4.cell? ⟨w.heap.size, 1, none⟩ = some (.slice B Ns.length d) := by
              have h := hpw; rw [HPB.out] at h; exact blk_cell h 1
            by_cases hlt3 : k3 < L.length
            · have hltI3 : (k3 : Int) < L.length := by omega
              have hLI : (L.length : Int) ≤ 96 := by omega
              obtain ⟨i, hi⟩ : ∃ i, L[k3]? = some i := ⟨L[k3], List.getElem?_eq_getElem hlt3⟩
              have hhe := height_any (w := w4) A c B Ns.length d L (hA.below hbw3) (by omega) k3 i hi hb (reachS L) hS
              have hfst := fun h => stack_some (S := reachS L) hi hall h
              have hsuc : (rowM i.1 (reachS L k3) 17).2 = true → ∀ k' i', k' < k3 + 1 → L[k']? = some i' → (rowM i'.1 (reachS L k') 17).2 = true := fun h k' i' hk' hi' => by
                by_cases e : k' < k3
                · exact hall k' i' e hi'
                · obtain rfl : k' = k3 := by omega
                  rw [hi] at hi'; cases hi'; exact h
              generalize rowM i.1 (reachS L k3) 17 = q at *
              obtain ⟨q1, q2⟩ := q
              have HPW4 := Lib.hid hpw
              have HS4 := Lib.hid hS
              have hbS4 : hb < w4.heap.size := lt_of_block hS
              clear hS
              cases q2 with
              | true =>
                have hs1 := hsuc rfl
                have HS1 := Lib.hid hs1
                clear hs1 hfst hsuc hall hpw hi
                go_wp2_with ((go_at_call 93; ((with_reducible refine (hhe).mono ?_); rintro e w5 ⟨rfl, hb5⟩)); have s5l : Bel w w5 := Bel.call hb5)
                go_roundw
                case rel => exact ⟨k3 + 1, by go_num, by omega, HS1, (hb5.block _ hz4).trans HPW4, (hb5.block _ hbS4).trans HS4, s5l.out⟩
                case measure => simp [intOf]; omega
              | false =>
                have hr := HR2.out
                rw [hfst rfl] at hr
                have HR3 := Lib.hid hr
                clear hr hfst hsuc hall hpw hi
                go_wp2_with ((go_at_call 93; ((with_reducible refine (hhe).mono ?_); rintro e w5 ⟨rfl, hb5⟩)); have s5l : Bel w w5 := Bel.call hb5)
                go_ret2
                rw [← HR3.out]
                exact ⟨rfl, s5l.out⟩
            · have hltI3 : ¬ (k3 : Int) < L.length := by omega
              have hr := HR2.out
              rw [stack_none (fun k' i' hi' => hall k' i' (by have := (List.getElem?_eq_some_iff.1 hi').1; omega) hi')] at hr
              have HR3 := Lib.hid hr
              clear hr hall hpw hS p0 p1
              go_wp2_with fail
              go_ret2
              rw [← HR3.out]
              exact ⟨rfl, s4l.out⟩
end Go.Proofs.Ytbcnfegmmhioeaa
