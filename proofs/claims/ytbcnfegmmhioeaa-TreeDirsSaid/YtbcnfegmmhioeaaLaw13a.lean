/- The law's example: a tree in which one file is made and found. -/
import Derived.Test.YtbcnfegmmhioeaaTree6
import Derived.Test.YtbcnfegmmhioeaaTree4
namespace Go.Proofs.Ytbcnfegmmhioeaa
open Go.RowKit

def La : Ents := [((E0, ⟨#[97]⟩), (0, false))]
theorem aw_make : makeM [] 0 ⟨#[97]⟩ false = (0, 0, La, 1) := by kernel_rfl
theorem aw_find : findM La ⟨#[97]⟩ = (0, false, 0) := by kernel_rfl
theorem aw_find2 : findM La ⟨#[98]⟩ = (-1, false, 65282) := by kernel_rfl

set_option maxRecDepth 100000 in
set_option maxHeartbeats 1000000 in
theorem awake13 (w : World) : Calls Try.prog 16 #[] w fun e w' => e = .returned (.bool true) ∧ Below w.heap.size w w' := by
  have hnew : Calls Try.prog 17 #[.slice none 0 0] w (PostNew w (some ([], 0))) := new_any none 0 [] (IsSl.nil _ _) (by simp) (by simp)
  have hmk : ∀ W, IsTree W (w.heap.size + 1) w.heap.size [] 0 → _ := fun W h => make_any h ⟨by omega, by omega⟩ ⟨#[97]⟩ (by decide) false
  rw [aw_make] at hmk
  have hf1 : ∀ W, IsTree W (w.heap.size + 1) w.heap.size La 1 → _ := fun W h => find_any h ⟨#[97]⟩ (by decide)
  have hf2 : ∀ W, IsTree W (w.heap.size + 1) w.heap.size La 1 → _ := fun W h => find_any h ⟨#[98]⟩ (by decide)
  rw [aw_find] at hf1
  rw [aw_find2] at hf2
  have hln : ∀ W, IsTree W (w.heap.size + 1) w.heap.size La 1 → _ := fun W h => len_any h
  simp only at hmk hf1 hf2
  have hL : (La.length : Int) = 1 := rfl
  rw [hL] at hln
  clear hL
  go_enter Try.func16, Try.ntmps16
  go_wp2_with (first | ((go_at_call 17; ((with_reducible refine (hnew).mono ?_); rintro e w1 ⟨rfl, hT1, hb1⟩)); have hmk1 := hmk _ hT1) | ((go_at_call 18; ((with_reducible refine (hmk1).mono ?_); rintro e w2 ⟨rfl, hT2, hO2⟩)); have ha := hf1 _ hT2) | ((go_at_call 83; ((with_reducible refine (ha).mono ?_); rintro e w3 ⟨rfl, hb3⟩)); have sg := hT2.sg; have sb := hT2.sb; have s3g : SameB w2 w3 _ := SameB.call hb3 (w.heap.size + 1); have s3b : SameB w2 w3 _ := SameB.call hb3 w.heap.size; have hT3 : IsTree w3 _ _ _ _ := hT2.same; have hc := hf2 _ hT3) | ((go_at_call 83; ((with_reducible refine (hc).mono ?_); rintro e w4 ⟨rfl, hb4⟩)); have s4g : SameB w2 w4 _ := SameB.call hb4 (w.heap.size + 1); have s4b : SameB w2 w4 _ := SameB.call hb4 w.heap.size; have hT4 : IsTree w4 _ _ _ _ := hT2.same; have hd := hln _ hT4) | ((go_at_call 84; ((with_reducible refine (hd).mono ?_); rintro e w5 ⟨rfl, rfl⟩))))
  go_ret
  refine ⟨rfl, ?_⟩
  have h2 : Below w.heap.size w w2 := hb1.trans (hO2.toBelow hb1.size (by rintro i (rfl | rfl) <;> omega))
  have h3 := h2.trans (hb3.mono h2.size)
  exact h3.trans (hb4.mono h3.size)
end Go.Proofs.Ytbcnfegmmhioeaa
