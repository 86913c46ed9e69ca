/- The document's own rows of instructions, walked. -/
import Derived.Test.YtbcnfegmmhioeaaRef1
namespace Go.Proofs.Ytbcnfegmmhioeaa
open Go.RowKit

theorem flat4 : ∀ (l : List (ByteArray × Int × Int × Int)) (n j : Nat) (x : ByteArray × Int × Int × Int), j < 4 → l[n]? = some x → (l.flatMap refC)[n * 4 + j]? = (refC x)[j]?
  | [], n, j, x, _, h => by simp at h
  | y :: l, 0, j, x, hj, h => by
    simp at h; subst h
    rw [List.flatMap_cons, List.getElem?_append_left (by simp [refC]; omega)]
    simp
  | y :: l, n + 1, j, x, hj, h => by
    rw [List.flatMap_cons, List.getElem?_append_right (by simp [refC]; omega)]
    have := flat4 l n j x hj (by simpa using h)
    rw [← this]
    congr 1
    simp [refC]; omega
theorem ref_cell {W : World} {b : Nat} (h : W.heap[b]? = some (.cells refA 251 (0, 0))) {n j : Nat} {x : ByteArray × Int × Int × Int} (hx : refL[n]? = some x) (hj : j < 4) : W.cell? ⟨b, n * 4 + j, none⟩ = (refC x)[j]? := by
  rw [blk_cell h]
  unfold refA
  rw [List.getElem?_toArray]
  exact flat4 refL n j x hj hx

theorem ref_kind (op : Int) (h : 1 ≤ op ∧ op < 42) : ∃ x, refL[op.toNat]? = some x ∧ kindM op = some (x.2.1, x.2.2.1, x.2.2.2 + 1) := by
  have hall : ∀ n, n < 42 → (refL[n]?).map (fun x => (x.2.1, x.2.2.1, x.2.2.2 + 1)) = if n = 0 then some (0, 0, 1) else kindL[n]? := by decide
  have := hall op.toNat (by omega)
  rw [if_neg (by omega)] at this
  cases hx : refL[op.toNat]? with
  | none =>
    rw [hx] at this
    have : refL.length ≤ op.toNat := List.getElem?_eq_none_iff.1 hx
    have hl : refL.length = 42 := rfl
    omega
  | some x =>
    rw [hx] at this
    refine ⟨x, rfl, ?_⟩
    unfold kindM
    rw [if_pos h, ← this]
    rfl

set_option maxRecDepth 100000 in
theorem row_any (op : Int) (w : World) : Calls Try.prog 97 #[.int .i64 op] w fun e w' =>
    ∃ s, e = .returned (match kindM op with | some k => .tuple #[.string s, .int .i64 k.1, .int .i64 k.2.1, .int .i64 (k.2.2 - 1), .bool true] | none => .tuple #[.string s, .int .i64 (-1), .int .i64 (-1), .int .i64 (-1), .bool false]) ∧ Below w.heap.size w w' := by
  have ht : ∀ W, Calls Try.prog 170 #[] W fun e w' => e = .returned (.slice (some ⟨W.heap.size, 0, none⟩) 42 42) ∧ w'.heap[W.heap.size]? = some (.cells refA 251 (0, 0)) ∧ Below W.heap.size W w' := fun W =>
    (rtable_any W).mono fun e w' ⟨h1, h2⟩ => ⟨h1, by rw [h2]; exact blk_new _ _, by rw [h2]; exact (Below.refl _ _).alloc (Nat.le_refl _) _⟩
  by_cases h : 1 ≤ op ∧ op < 42
  · obtain ⟨x, hx, hk⟩ := ref_kind op h
    obtain ⟨n, rfl⟩ : ∃ n : Nat, op = n := ⟨op.toNat, by omega⟩
    rw [Int.toNat_natCast] at hx
    rw [hk]
    simp only [Int.add_sub_cancel]
    obtain ⟨s, t, g, m⟩ := x
    obtain ⟨h1, h2⟩ := h
    clear hk
    have n1 : ¬ ((n : Int) < 1) := by omega
    go_enter Try.func97, Try.ntmps97
    go_wp2_with ((go_at_call 170; ((with_reducible refine (ht _).mono ?_); rintro e w1 ⟨rfl, hnb, hb1⟩)); have s1l : Bel w w1 := Bel.call hb1; have d0 : w1.cell? ⟨w.heap.size, n * 4, none⟩ = some (.string s) := (by exact ref_cell hnb hx (j := 0) (by omega)); have d1 : w1.cell? ⟨w.heap.size, n * 4 + 1, none⟩ = some (.int .i64 t) := (by exact ref_cell hnb hx (j := 1) (by omega)); have d2 : w1.cell? ⟨w.heap.size, n * 4 + 2, none⟩ = some (.int .i64 g) := (by exact ref_cell hnb hx (j := 2) (by omega)); have d3 : w1.cell? ⟨w.heap.size, n * 4 + 3, none⟩ = some (.int .i64 m) := (by exact ref_cell hnb hx (j := 3) (by omega)); clear hnb)
    go_region
    go_wp2_with fail
    refine bodyPost_ret (v := .tuple #[.string s, .int .i64 t, .int .i64 g, .int .i64 m, .bool true]) (by simp [results, Try.results97, go_sem]) rfl ⟨s, rfl, bel⟩
  · have hk : kindM op = none := by unfold kindM; exact if_neg h
    rw [hk]
    by_cases h1 : op < 1
    · clear h hk
      go_enter Try.func97, Try.ntmps97
      go_wp2_with ((go_at_call 170; ((with_reducible refine (ht _).mono ?_); rintro e w1 ⟨rfl, hnb, hb1⟩)); have s1l : Bel w w1 := Bel.call hb1)
      refine bodyPost_ret (v := .tuple #[.string E0, .int .i64 (-1), .int .i64 (-1), .int .i64 (-1), .bool false]) (by simp [results, Try.results97, go_sem]) rfl ⟨E0, rfl, bel⟩
    · have h2 : 42 ≤ op := by omega
      clear h hk
      go_enter Try.func97, Try.ntmps97
      go_wp2_with ((go_at_call 170; ((with_reducible refine (ht _).mono ?_); rintro e w1 ⟨rfl, hnb, hb1⟩)); have s1l : Bel w w1 := Bel.call hb1)
      refine bodyPost_ret (v := .tuple #[.string E0, .int .i64 (-1), .int .i64 (-1), .int .i64 (-1), .bool false]) (by simp [results, Try.results97, go_sem]) rfl ⟨E0, rfl, bel⟩
end Go.Proofs.Ytbcnfegmmhioeaa
