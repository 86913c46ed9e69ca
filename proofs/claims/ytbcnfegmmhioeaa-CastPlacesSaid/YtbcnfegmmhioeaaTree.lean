/- The walks of package tree. -/
import Derived.Test.YtbcnfegmmhioeaaTreeM
import Derived.Test.YtbcnfegmmhioeaaNames
import Derived.Laws.ResultCell
namespace Go.Proofs.Ytbcnfegmmhioeaa
open Go.RowKit

set_option maxRecDepth 100000 in
theorem above_any {w : World} {g b : Nat} {L : Ents} {nx : Int} (hT : IsTree w g b L nx) (k1 k2 : ByteArray) :
    Calls Try.prog 87 #[.pointer (some ⟨g, 0, none⟩), .agg #[.string k1, .string k2]] w fun e w' =>
      e = .returned (.int .u16 (aboveM L (k1, k2))) ∧ Below w.heap.size w w' := by
  obtain ⟨hg, hm⟩ := hT
  have sg := SameB.self (lt_of_block hg)
  have sb := SameB.self hm.lt
  have c0 : ∀ W [SameB w W g], W.cell? ⟨g, 0, none⟩ = some (.map (some b)) := fun _ _ => SameB.cell (cell_of_row w g 0 _ _ _ hg)
  have e1 : ∀ W [h : SameB w W b], (Instr.lookup 141 (.map (some b)) (.agg #[.string ⟨#[]⟩, .string k1]) true).run Try.prog W =
      .ok (.tuple #[((get? L (E0, k1)).map entV).getD (.agg #[.int .i64 0, .bool false]), .bool (get? L (E0, k1)).isSome]) W := fun W h =>
    (hm.of_block h.blk).lookup keyOK_tree Try.underlying141 (fun W => by kernel_rfl) (E0, k1) true
  clear hm
  have HT := Lib.hid hg
  clear hg
  by_cases h2 : k2 = E0
  · have b2 := emp_true h2
    have hr : aboveM L (k1, k2) = 65282 := by simp [aboveM, h2]
    rw [hr]
    go_enter Try.func87, Try.ntmps87
    go_wp2_with fail
    go_ret
    exact ⟨rfl, bel⟩
  have b2 := emp_false h2
  by_cases h1 : k1 = E0
  · have b1 := emp_true h1
    have hr : aboveM L (k1, k2) = 0 := by simp [aboveM, h1, h2]
    rw [hr]
    go_enter Try.func87, Try.ntmps87
    go_wp2_with fail
    go_ret
    exact ⟨rfl, bel⟩
  have b1 := emp_false h1
  cases hgk : get? L (E0, k1) with
  | none =>
    have hr : aboveM L (k1, k2) = 65282 := by simp [aboveM, h1, h2, hgk]
    rw [hr]
    simp only [hgk, Option.map_none, Option.getD_none, Option.isSome_none] at e1
    clear hgk h1 h2 hr
    go_enter Try.func87, Try.ntmps87
    go_wp2_with fail
    go_region
    all_goals go_wp2_with fail
    go_ret
    exact ⟨rfl, bel⟩
  | some p =>
    obtain ⟨i, d⟩ := p
    have hr : aboveM L (k1, k2) = if d then 0 else 65300 := by simp [aboveM, h1, h2, hgk]
    rw [hr]
    simp only [hgk, Option.map_some, Option.getD_some, Option.isSome_some, entV] at e1
    clear hgk h1 h2 hr
    cases d
    all_goals
      go_enter Try.func87, Try.ntmps87
      go_wp2_with fail
      go_region
      all_goals go_wp2_with fail
      go_ret
      exact ⟨rfl, bel⟩

theorem of_any (s : ByteArray) (hs : s.size ≤ 1000000) (w : World) : Calls Try.prog 86 #[.string s] w fun e w' =>
    e = .returned (.agg #[.string (splitS s).1, .string (splitS s).2]) ∧ Below w.heap.size w w' := by
  have hc := fun w => names_split s hs w
  generalize splitS s = k at *
  obtain ⟨a, b⟩ := k
  go_enter Try.func86, Try.ntmps86
  go_wp2_with ((go_at_call 161; ((with_reducible refine (hc _).mono ?_); rintro e w1 ⟨rfl, hb⟩)); obtain ⟨hc1, hf1⟩ := bcell hb)
  have : Bel w _ := Bel.call hb
  refine bodyPost_ret (v := .agg #[.string a, .string b]) (by simp [results, Try.results86, go_sem, hc1]) rfl ⟨rfl, ?_⟩
  exact bel

theorem IsTree.same {w W : World} {g b : Nat} {L : Ents} {nx : Int} (h : IsTree w g b L nx) [hg : SameB w W g] [hb : SameB w W b] : IsTree W g b L nx :=
  ⟨hg.blk.trans h.1, h.2.of_block hb.blk⟩
theorem IsTree.sg {w : World} {g b : Nat} {L : Ents} {nx : Int} (h : IsTree w g b L nx) : SameB w w g := SameB.self (lt_of_block h.1)
theorem IsTree.sb {w : World} {g b : Nat} {L : Ents} {nx : Int} (h : IsTree w g b L nx) : SameB w w b := SameB.self h.2.lt
theorem IsTree.c0 {w : World} {g b : Nat} {L : Ents} {nx : Int} (h : IsTree w g b L nx) : ∀ W [SameB w W g], W.cell? ⟨g, 0, none⟩ = some (.map (some b)) :=
  fun _ _ => SameB.cell (cell_of_row w g 0 _ _ _ h.1)
theorem IsTree.c1 {w : World} {g b : Nat} {L : Ents} {nx : Int} (h : IsTree w g b L nx) : ∀ W [SameB w W g], W.cell? ⟨g, 1, none⟩ = some (.int .i64 nx) :=
  fun _ _ => SameB.cell (cell_of_row w g 1 _ _ _ h.1)
theorem IsTree.f1 {w : World} {g b : Nat} {L : Ents} {nx : Int} (h : IsTree w g b L nx) : ∀ W [SameB w W g], W.frozen? ⟨g, 1, none⟩ = false :=
  fun _ _ => SameB.free (frozen_of_row w g 1 _ _ h.1)
theorem IsTree.look {w : World} {g b : Nat} {L : Ents} {nx : Int} (h : IsTree w g b L nx) (k1 k2 : ByteArray) : ∀ W [SameB w W b],
    (Instr.lookup 141 (.map (some b)) (.agg #[.string k1, .string k2]) true).run Try.prog W =
      .ok (.tuple #[((get? L (k1, k2)).map entV).getD (.agg #[.int .i64 0, .bool false]), .bool (get? L (k1, k2)).isSome]) W := fun _ h' =>
    (h.2.of_block h'.blk).lookup keyOK_tree Try.underlying141 (fun W => by kernel_rfl) (k1, k2) true

set_option maxRecDepth 100000 in
theorem get_any {w : World} {g b : Nat} {L : Ents} {nx : Int} (hT : IsTree w g b L nx) (s : ByteArray) (hs : s.size ≤ 1000000) :
    Calls Try.prog 88 #[.pointer (some ⟨g, 0, none⟩), .string s] w fun e w' =>
      e = .returned (.tuple #[.agg #[.int .i64 (getM L s).1.1, .bool (getM L s).1.2], .int .u16 (getM L s).2]) ∧ Below w.heap.size w w' := by
  have hof := fun w => of_any s hs w
  unfold getM
  generalize splitS s = k at *
  obtain ⟨k1, k2⟩ := k
  have hab := fun W h1 h2 => above_any (@IsTree.same w W g b L nx hT h1 h2) k1 k2
  have sg := hT.sg
  have sb := hT.sb
  have c0 := hT.c0
  have e1 := hT.look k1 k2
  clear hT
  by_cases ha : aboveM L (k1, k2) = 0
  · rw [ha] at hab ⊢
    clear ha
    rcases hgk : get? L (k1, k2) with _ | ⟨i, d⟩
    all_goals
      simp only [hgk, Option.map_none, Option.getD_none, Option.isSome_none, Option.map_some, Option.getD_some, Option.isSome_some, entV] at e1
      clear hgk
      simp only [ne_eq, not_true_eq_false, if_false]
      go_enter Try.func88, Try.ntmps88
      go_wp2_with (first | ((go_at_call 86; ((with_reducible refine (hof _).mono ?_); rintro e w1 ⟨rfl, hb⟩)); obtain ⟨hc1, hf1⟩ := bcell hb; have s1g : SameB w w1 g := SameB.call hb _; have s1b : SameB w w1 b := SameB.call hb _; have s1l : Bel w w1 := Bel.call hb; have hz1 : w.heap.size < w1.heap.size := by have := hb.size; simp at this; omega) | ((go_at_call 87; ((with_reducible refine (hab _ inferInstance inferInstance).mono ?_); rintro e w2 ⟨rfl, hb2⟩)); obtain ⟨hc2, hf2⟩ := bcell hb2; have s2g : SameB w w2 g := SameB.call hb2 _; have s2b : SameB w w2 b := SameB.call hb2 _; have s2l : Bel w w2 := Bel.call hb2; have hz2 : w1.heap.size < w2.heap.size := by have := hb2.size; simp at this; omega))
      have hz3 : w.heap.size < w2.heap.size := by omega
      have hB := blk_call hb2 (blk_alloc (blk_call hb (blk_new _ _)) _)
      have d0 := blk_cell hB 0
      have d1 := blk_cell hB 1
      clear hB
      simp at d0 d1
      go_region
      go_wp2_with fail
      first
        | (refine bodyPost_ret (v := .tuple #[.agg #[.int .i64 0, .bool false], .int .u16 65282]) (by simp [results, Try.results88, go_sem, d0, d1, hz3]) rfl ⟨rfl, bel⟩; done)
        | (refine bodyPost_ret (v := .tuple #[.agg #[.int .i64 i, .bool d], .int .u16 0]) (by simp [results, Try.results88, go_sem, d0, d1, hz3]) rfl ⟨rfl, bel⟩; done)
  · have b1 : (aboveM L (k1, k2) == 0) = false := by simpa using ha
    have b2 : (aboveM L (k1, k2) != 0) = true := by simpa using ha
    simp only [ne_eq, ha, not_false_eq_true, if_true]
    clear ha e1
    generalize aboveM L (k1, k2) = c at *
    go_enter Try.func88, Try.ntmps88
    go_wp2_with (first | ((go_at_call 86; ((with_reducible refine (hof _).mono ?_); rintro e w1 ⟨rfl, hb⟩)); obtain ⟨hc1, hf1⟩ := bcell hb; have s1g : SameB w w1 g := SameB.call hb _; have s1b : SameB w w1 b := SameB.call hb _; have s1l : Bel w w1 := Bel.call hb; have hz1 : w.heap.size < w1.heap.size := by have := hb.size; simp at this; omega) | ((go_at_call 87; ((with_reducible refine (hab _ inferInstance inferInstance).mono ?_); rintro e w2 ⟨rfl, hb2⟩)); obtain ⟨hc2, hf2⟩ := bcell hb2; have s2g : SameB w w2 g := SameB.call hb2 _; have s2b : SameB w w2 b := SameB.call hb2 _; have s2l : Bel w w2 := Bel.call hb2; have hz2 : w1.heap.size < w2.heap.size := by have := hb2.size; simp at this; omega))
    have hz3 : w.heap.size < w2.heap.size := by omega
    have hB := blk_call hb2 (blk_alloc (blk_call hb (blk_new _ _)) _)
    have d0 := blk_cell hB 0
    have d1 := blk_cell hB 1
    clear hB
    simp at d0 d1
    refine bodyPost_ret (v := .tuple #[.agg #[.int .i64 0, .bool false], .int .u16 c]) (by simp [results, Try.results88, go_sem, d0, d1]) rfl ⟨rfl, bel⟩
end Go.Proofs.Ytbcnfegmmhioeaa
