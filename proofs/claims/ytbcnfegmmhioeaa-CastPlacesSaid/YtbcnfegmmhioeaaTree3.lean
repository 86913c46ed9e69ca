/- The walks of package tree: what turns a tree. -/
import Derived.Test.YtbcnfegmmhioeaaTree2
import Derived.StillTailTactics
namespace Go.Proofs.Ytbcnfegmmhioeaa
open Go.RowKit

theorem IsTree.ne {w : World} {g b : Nat} {L : Ents} {nx : Int} (h : IsTree w g b L nx) : g ≠ b := by
  rintro rfl
  obtain ⟨es, clock, hb, _⟩ := h.2
  rw [h.1] at hb
  cases hb

abbrev PostTree (g b : Nat) (v : Value) (L : Ents) (nx : Int) (w : World) (e : Ending) (w' : World) : Prop :=
  e = .returned v ∧ IsTree w' g b L nx ∧ Only (fun i => i = g ∨ i = b) w w'

set_option maxRecDepth 100000 in
theorem make_put {w : World} {g b : Nat} {L : Ents} {nx : Int} (hT : IsTree w g b L nx) (hnx : 0 ≤ nx ∧ nx ≤ 1000000) (s : ByteArray) (dir : Bool) (k1 k2 : ByteArray)
    (hof : ∀ (w : World), Calls Try.prog 86 #[.string s] w fun e w' => e = .returned (.agg #[.string k1, .string k2]) ∧ Below w.heap.size w w')
    (hab : ∀ (W : World), SameB w W g → SameB w W b → Calls Try.prog 87 #[.pointer (some ⟨g, 0, none⟩), .agg #[.string k1, .string k2]] W fun e w' => e = .returned (.int .u16 0) ∧ Below W.heap.size W w')
    (hgk : get? L (k1, k2) = none) (hdb : dir = false ∨ (dir = true ∧ k1.toList.isEmpty = true)) (h8 : ¬ 8 ≤ L.length) :
    Calls Try.prog 18 #[.pointer (some ⟨g, 0, none⟩), .string s, .bool dir] w fun e w' =>
      e = .returned (.tuple #[.int .i64 nx, .int .u16 0]) ∧ IsTree w' g b (put L (k1, k2) (nx, dir)) (nx + 1) ∧ Only (fun i => i = g ∨ i = b) w w' := by
  have hne := hT.ne
  have sg := hT.sg
  have sb := hT.sb
  have c0 := hT.c0
  have c1 := hT.c1
  have f1 := hT.f1
  have e1 := hT.look k1 k2
  have el : ∀ W [h : SameB w W b] ty, (Builtin.len_ #[141] ty #[.map (some b)]).run Try.prog W = .ok (.int .i64 L.length) W := fun W h ty => (hT.2.of_block h.blk).len Try.underlying141 ty
  have HT := Lib.hid hT
  clear hT
  simp only [hgk, Option.map_none, Option.getD_none, Option.isSome_none] at e1
  clear hgk
  have h8i : (L.length : Int) < 8 := by omega
  clear h8
  rcases hdb with rfl | ⟨rfl, b1⟩
  all_goals
    go_enter Try.func18, Try.ntmps18
    go_wp2_with (first | ((go_at_call 86; ((with_reducible refine (hof _).mono ?_); rintro e w1 ⟨rfl, hb⟩)); obtain ⟨hc1, hf1⟩ := bcell hb; have s1g : SameB w w1 g := SameB.call hb _; have s1b : SameB w w1 b := SameB.call hb _; have s1l : Bel w w1 := Bel.call hb; have hz1 : w.heap.size ≤ w1.heap.size := by have := hb.size; (try simp at this); omega) | ((go_at_call 87; ((with_reducible refine (hab _ inferInstance inferInstance).mono ?_); rintro e w2 ⟨rfl, hb2⟩)); obtain ⟨hc2, hf2⟩ := bcell hb2; have s2g : SameB w w2 g := SameB.call hb2 _; have s2b : SameB w w2 b := SameB.call hb2 _; have s2l : Bel w w2 := Bel.call hb2; have hz2 : w1.heap.size < w2.heap.size := by have := hb2.size; simp at this; omega))
    go_region
    go_wp2_with fail
    (refine wp_still_tail 11 (by kernel_rfl) (by kernel_rfl) ?_; simp only [List.take_succ_cons, List.take_zero, List.drop_succ_cons, List.drop_zero]; (repeat still_step); refine wpStill_nil ?_; show wpList _ _ _ _ _ _)
    refine wpList_put _ (by rfl) _ _ _ _ (by rfl) keyOK_tree Try.underlying141 (ve := entV) (HT.out.same).2 (k1, k2) (nx, _) (by rfl) (by rfl) (by rfl) ?_
    intro w3 hm3 hg3 hz3
    have O3 : Only (fun i => i = b) w w3 := Only.of_bel.grown hg3 (fun j hj _ => by cases hj; rfl)
    have s3g : SameB w w3 g := O3.same sg.lt hne
    have HM := Lib.hid hm3
    clear hc1 hf1 hc2 hf2 hg3 hm3 e1 el hz1 hz2 hz3
    go_wp2_with fail
    go_ret2
    have hgB : w3.heap[g]? = some (.cells #[.map (some b), .int .i64 nx] 143 (0, 0)) := s3g.blk.trans HT.out.1
    refine ⟨by simp, ⟨?_, HM.out.of_block (Below.heap_setCell _ _ _ _ (fun h => hne h.symm))⟩, (O3.mono (fun i _ h => .inr h)).setCell (fun _ => .inl rfl) _⟩
    rw [heap_setCell_same _ _ _ _ _ _ hgB]
    rfl

set_option maxRecDepth 100000 in
theorem make_any {w : World} {g b : Nat} {L : Ents} {nx : Int} (hT : IsTree w g b L nx) (hnx : 0 ≤ nx ∧ nx ≤ 1000000) (s : ByteArray) (hs : s.size ≤ 1000000) (dir : Bool) :
    Calls Try.prog 18 #[.pointer (some ⟨g, 0, none⟩), .string s, .bool dir] w fun e w' =>
      e = .returned (.tuple #[.int .i64 (makeM L nx s dir).1, .int .u16 (makeM L nx s dir).2.1]) ∧ IsTree w' g b (makeM L nx s dir).2.2.1 (makeM L nx s dir).2.2.2 ∧ Only (fun i => i = g ∨ i = b) w w' := by
  have hof := fun w => of_any s hs w
  unfold makeM
  generalize splitS s = k at *
  obtain ⟨k1, k2⟩ := k
  have hab := fun W h1 h2 => above_any (@IsTree.same w W g b L nx hT h1 h2) k1 k2
  have hne := hT.ne
  have sg := hT.sg
  have sb := hT.sb
  have c0 := hT.c0
  have c1 := hT.c1
  have f1 := hT.f1
  have e1 := hT.look k1 k2
  have el : ∀ W [h : SameB w W b] ty, (Builtin.len_ #[141] ty #[.map (some b)]).run Try.prog W = .ok (.int .i64 L.length) W := fun W h ty => (hT.2.of_block h.blk).len Try.underlying141 ty
  have HT := Lib.hid hT
  clear hT
  by_cases ha : aboveM L (k1, k2) = 0
  · rw [ha] at hab
    simp only [ha, ne_eq, not_true_eq_false, if_false]
    clear ha
    rcases hgk : get? L (k1, k2) with _ | ⟨i, d⟩
    · simp only [hgk, Option.map_none, Option.getD_none, Option.isSome_none] at e1
      simp only [Option.isSome_none, Bool.false_eq_true, if_false]
      have HGK := Lib.hid hgk
      clear hgk
      by_cases hd : dir ∧ k1 ≠ E0
      · obtain ⟨rfl, hk1⟩ := hd
        have b1 := emp_false hk1
        simp only [hk1, not_false_eq_true, and_self, if_true]
        clear hk1
        go_enter Try.func18, Try.ntmps18
        go_wp2_with (first | ((go_at_call 86; ((with_reducible refine (hof _).mono ?_); rintro e w1 ⟨rfl, hb⟩)); obtain ⟨hc1, hf1⟩ := bcell hb; have s1g : SameB w w1 g := SameB.call hb _; have s1b : SameB w w1 b := SameB.call hb _; have s1l : Bel w w1 := Bel.call hb; have hz1 : w.heap.size ≤ w1.heap.size := by have := hb.size; (try simp at this); omega) | ((go_at_call 87; ((with_reducible refine (hab _ inferInstance inferInstance).mono ?_); rintro e w2 ⟨rfl, hb2⟩)); obtain ⟨hc2, hf2⟩ := bcell hb2; have s2g : SameB w w2 g := SameB.call hb2 _; have s2b : SameB w w2 b := SameB.call hb2 _; have s2l : Bel w w2 := Bel.call hb2; have hz2 : w1.heap.size < w2.heap.size := by have := hb2.size; simp at this; omega))
        go_region
        go_wp2_with fail
        go_ret2
        exact ⟨rfl, HT.out.same, Only.of_bel⟩
      simp only [ne_eq] at hd
      rw [if_neg hd]
      have hdb : dir = false ∨ (dir = true ∧ k1.toList.isEmpty = true) := by
        cases dir
        · exact .inl rfl
        · refine .inr ⟨rfl, emp_true ?_⟩
          simp at hd; exact hd
      clear hd
      by_cases h8 : 8 ≤ L.length
      · rw [if_pos h8]
        have h8i : (8 : Int) ≤ L.length := by omega
        clear h8
        rcases hdb with rfl | ⟨rfl, b1⟩
        all_goals
          go_enter Try.func18, Try.ntmps18
          go_wp2_with (first | ((go_at_call 86; ((with_reducible refine (hof _).mono ?_); rintro e w1 ⟨rfl, hb⟩)); obtain ⟨hc1, hf1⟩ := bcell hb; have s1g : SameB w w1 g := SameB.call hb _; have s1b : SameB w w1 b := SameB.call hb _; have s1l : Bel w w1 := Bel.call hb; have hz1 : w.heap.size ≤ w1.heap.size := by have := hb.size; (try simp at this); omega) | ((go_at_call 87; ((with_reducible refine (hab _ inferInstance inferInstance).mono ?_); rintro e w2 ⟨rfl, hb2⟩)); obtain ⟨hc2, hf2⟩ := bcell hb2; have s2g : SameB w w2 g := SameB.call hb2 _; have s2b : SameB w w2 b := SameB.call hb2 _; have s2l : Bel w w2 := Bel.call hb2; have hz2 : w1.heap.size < w2.heap.size := by have := hb2.size; simp at this; omega))
          go_region
          go_wp2_with fail
          go_ret2
          exact ⟨rfl, HT.out.same, Only.of_bel⟩
      · rw [if_neg h8]
        exact make_put HT.out hnx s dir k1 k2 hof hab HGK.out hdb h8
    · simp only [hgk, Option.map_some, Option.getD_some, Option.isSome_some, entV] at e1
      simp only [Option.isSome_some, if_true]
      clear hgk
      go_enter Try.func18, Try.ntmps18
      go_wp2_with (first | ((go_at_call 86; ((with_reducible refine (hof _).mono ?_); rintro e w1 ⟨rfl, hb⟩)); obtain ⟨hc1, hf1⟩ := bcell hb; have s1g : SameB w w1 g := SameB.call hb _; have s1b : SameB w w1 b := SameB.call hb _; have s1l : Bel w w1 := Bel.call hb; have hz1 : w.heap.size ≤ w1.heap.size := by have := hb.size; (try simp at this); omega) | ((go_at_call 87; ((with_reducible refine (hab _ inferInstance inferInstance).mono ?_); rintro e w2 ⟨rfl, hb2⟩)); obtain ⟨hc2, hf2⟩ := bcell hb2; have s2g : SameB w w2 g := SameB.call hb2 _; have s2b : SameB w w2 b := SameB.call hb2 _; have s2l : Bel w w2 := Bel.call hb2; have hz2 : w1.heap.size < w2.heap.size := by have := hb2.size; simp at this; omega))
      go_region
      go_wp2_with fail
      go_ret2
      exact ⟨rfl, HT.out.same, Only.of_bel⟩
  · have b1 : (aboveM L (k1, k2) == 0) = false := by simpa using ha
    have b2 : (aboveM L (k1, k2) != 0) = true := by simpa using ha
    simp only [ne_eq, ha, not_false_eq_true, if_true]
    clear ha
    generalize aboveM L (k1, k2) = c at *
    go_enter Try.func18, Try.ntmps18
    go_wp2_with (first | ((go_at_call 86; ((with_reducible refine (hof _).mono ?_); rintro e w1 ⟨rfl, hb⟩)); have s1g : SameB w w1 g := SameB.call hb _; have s1b : SameB w w1 b := SameB.call hb _; have s1l : Bel w w1 := Bel.call hb) | ((go_at_call 87; ((with_reducible refine (hab _ inferInstance inferInstance).mono ?_); rintro e w2 ⟨rfl, hb2⟩)); have s2g : SameB w w2 g := SameB.call hb2 _; have s2b : SameB w w2 b := SameB.call hb2 _; have s2l : Bel w w2 := Bel.call hb2))
    go_ret2
    exact ⟨rfl, HT.out.same, Only.of_bel⟩
end Go.Proofs.Ytbcnfegmmhioeaa
