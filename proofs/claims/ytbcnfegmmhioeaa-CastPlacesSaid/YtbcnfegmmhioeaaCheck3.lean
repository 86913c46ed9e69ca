/- The check of a program: what is reached from an instruction, walked. -/
import Derived.Test.YtbcnfegmmhioeaaCheck2
import Derived.Test.YtbcnfegmmhioeaaApp
namespace Go.Proofs.Ytbcnfegmmhioeaa
open Go.RowKit

theorem Try.info_int : (Try.prog.info? 3).map (fun i => (i.zero, i.size, i.bytes)) = some (some (.int .i64 0), 1, 8) := by kernel_rfl
def natV (n : Nat) : Value := .int .i64 n

theorem next_any {w : World} (A : Option Addr) (c : Nat) (B : Option Addr) (m d : Nat) (L : List InstM) (hA : IsSl 2 instC w A L) (hL : L.length ≤ 96) (k : Nat) (i : InstM) (hi : L[k]? = some i) (hi0 : 0 ≤ i.2) :
    Calls Try.prog 169 #[progV A L.length c B m d, .int .i64 k] w fun e w' =>
      ∃ v, e = .returned v ∧ w'.ownsRow w.heap.size 3 1 v (nextM i k).length ((nextM i k).map natV) ∧ Below w.heap.size w w' := by
  have hk := (List.getElem?_eq_some_iff.1 hi).1
  obtain ⟨ab, off, rfl, hsb, hc⟩ := hA.at_ hi
  obtain ⟨op, a⟩ := i
  simp only at hi0
  have d0 : ∀ W [SameB w W ab], W.cell? ⟨ab, off + k * 2, none⟩ = some (.int .i64 op) := fun W _ => by simpa using hc W 0 _ rfl
  have d1 : ∀ W [SameB w W ab], W.cell? ⟨ab, off + k * 2 + 1, none⟩ = some (.int .i64 a) := fun W _ => hc W 1 _ rfl
  clear hc hi hA
  have hju := fun W => jumps_any op W
  have hen := fun W => ends_any op W
  have hkI : (k : Int) < L.length := by omega
  have hLI : (L.length : Int) ≤ 96 := by omega
  unfold nextM
  simp only
  have ha : natV a.toNat = .int .i64 a := by unfold natV; rw [Int.toNat_of_nonneg hi0]
  have hk1 : natV (k + 1) = .int .i64 ((k : Int) + 1) := rfl
  cases he : endsM op with
  | true =>
    rw [he] at hen
    clear he
    cases hj : jumpsM op with
    | true =>
      rw [hj] at hju
      clear hj
      simp only [if_true, List.nil_append, List.map_cons, List.map_nil, ha]
      clear ha hk1
      go_enter Try.func169, Try.ntmps169
      go_wp2_with (first | ((go_at_call 167; ((with_reducible refine (hen _).mono ?_); rintro e w1 ⟨rfl, hb⟩)); obtain ⟨hc1, hf1⟩ := bcell hb; have s1l : Bel w w1 := Bel.call hb; obtain ⟨hz1, hz1b⟩ : w.heap.size + 1 < w1.heap.size ∧ w.heap.size < w1.heap.size := by (have := hb.size; simp at this; omega)) | ((go_at_call 166; ((with_reducible refine (hju _).mono ?_); rintro e w2 ⟨rfl, hb2⟩)); obtain ⟨hc2, hf2⟩ := bcell hb2; have s2l : Bel w w2 := Bel.call hb2; obtain ⟨hz2, hz2b⟩ : w.heap.size + 1 < w2.heap.size ∧ w.heap.size < w2.heap.size := by (have := hb2.size; omega)) | (at_builtin; refine wpList_app1 rfl (.tmp 24) (.tmp 27) 47 rfl (w.heap.size + 2) 3 Try.underlying47 Try.info_int rfl (by decide) _ 0 [] rfl (World.ownsRow_nil _ _ _ _) (by omega) (by omega) _ _ rfl rfl ?_; intro v5 w5 ho5 hb5 hnn5))
      go_ret
      exact ⟨v5, rfl, ownsRow_mono ho5 (by omega), s2l.out.trans (hb5.mono (by omega))⟩
    | false =>
      rw [hj] at hju
      clear hj ha hk1
      go_enter Try.func169, Try.ntmps169
      go_wp2_with (first | ((go_at_call 167; ((with_reducible refine (hen _).mono ?_); rintro e w1 ⟨rfl, hb⟩)); obtain ⟨hc1, hf1⟩ := bcell hb; have s1l : Bel w w1 := Bel.call hb; obtain ⟨hz1, hz1b⟩ : w.heap.size + 1 < w1.heap.size ∧ w.heap.size < w1.heap.size := by (have := hb.size; simp at this; omega)) | ((go_at_call 166; ((with_reducible refine (hju _).mono ?_); rintro e w2 ⟨rfl, hb2⟩)); obtain ⟨hc2, hf2⟩ := bcell hb2; have s2l : Bel w w2 := Bel.call hb2; obtain ⟨hz2, hz2b⟩ : w.heap.size + 1 < w2.heap.size ∧ w.heap.size < w2.heap.size := by (have := hb2.size; omega)))
      go_ret
      exact ⟨_, rfl, World.ownsRow_nil _ _ _ _, bel⟩
  | false =>
    rw [he] at hen
    clear he
    cases hj : jumpsM op with
    | true =>
      rw [hj] at hju
      clear hj
      simp only [Bool.false_eq_true, if_true, if_false, List.cons_append, List.nil_append, List.map_cons, List.map_nil, ha, hk1]
      clear ha hk1
      go_enter Try.func169, Try.ntmps169
      go_wp2_with (first | ((go_at_call 167; ((with_reducible refine (hen _).mono ?_); rintro e w1 ⟨rfl, hb⟩)); obtain ⟨hc1, hf1⟩ := bcell hb; have s1l : Bel w w1 := Bel.call hb; obtain ⟨hz1, hz1b⟩ : w.heap.size + 1 < w1.heap.size ∧ w.heap.size < w1.heap.size := by (have := hb.size; simp at this; omega)) | (at_builtin; refine wpList_app1 rfl (.tmp 16) (.tmp 19) 47 rfl (w.heap.size + 2) 3 Try.underlying47 Try.info_int rfl (by decide) _ 0 [] rfl (World.ownsRow_nil _ _ _ _) (by omega) (by omega) _ _ rfl rfl ?_; intro v4 w4 ho4 hb4 hnn4; have hc4 : ∀ b o, b < w.heap.size + 2 → w4.cell? ⟨b, o, none⟩ = w1.cell? ⟨b, o, none⟩ := fun b o h => hb4.cell (p := ⟨b, o, none⟩) h; have s4l : Bel w w4 := ⟨s1l.out.trans (hb4.mono (by omega))⟩; obtain ⟨hz4, hz4b, hz4c, hz4d⟩ : w.heap.size + 1 < w4.heap.size ∧ w.heap.size < w4.heap.size ∧ w.heap.size < w.heap.size + 2 ∧ w.heap.size + 1 < w.heap.size + 2 := by (have := hb4.size; omega)) | ((go_at_call 166; ((with_reducible refine (hju _).mono ?_); rintro e w2 ⟨rfl, hb2⟩)); obtain ⟨hc2, hf2⟩ := bcell hb2; have s2l : Bel w w2 := Bel.call hb2; have ho2 := ownsRow_below ho4 hb2; obtain ⟨hz2, hz2b⟩ : w.heap.size + 1 < w2.heap.size ∧ w.heap.size < w2.heap.size := by (have := hb2.size; omega)) | (at_builtin; refine wpList_app1 rfl (.tmp 24) (.tmp 27) 47 rfl (w.heap.size + 2) 3 Try.underlying47 Try.info_int rfl (by decide) _ 1 [.int .i64 ((k : Int) + 1)] rfl ho2 (by omega) (by omega) _ _ rfl rfl ?_; intro v5 w5 ho5 hb5 hnn5))
      go_ret
      exact ⟨v5, rfl, ownsRow_mono ho5 (by omega), s2l.out.trans (hb5.mono (by omega))⟩
    | false =>
      rw [hj] at hju
      clear hj
      simp only [Bool.false_eq_true, if_false, List.append_nil, List.map_cons, List.map_nil, hk1]
      clear ha hk1
      go_enter Try.func169, Try.ntmps169
      go_wp2_with (first | ((go_at_call 167; ((with_reducible refine (hen _).mono ?_); rintro e w1 ⟨rfl, hb⟩)); obtain ⟨hc1, hf1⟩ := bcell hb; have s1l : Bel w w1 := Bel.call hb; obtain ⟨hz1, hz1b⟩ : w.heap.size + 1 < w1.heap.size ∧ w.heap.size < w1.heap.size := by (have := hb.size; simp at this; omega)) | (at_builtin; refine wpList_app1 rfl (.tmp 16) (.tmp 19) 47 rfl (w.heap.size + 2) 3 Try.underlying47 Try.info_int rfl (by decide) _ 0 [] rfl (World.ownsRow_nil _ _ _ _) (by omega) (by omega) _ _ rfl rfl ?_; intro v4 w4 ho4 hb4 hnn4; have hc4 : ∀ b o, b < w.heap.size + 2 → w4.cell? ⟨b, o, none⟩ = w1.cell? ⟨b, o, none⟩ := fun b o h => hb4.cell (p := ⟨b, o, none⟩) h; have s4l : Bel w w4 := ⟨s1l.out.trans (hb4.mono (by omega))⟩; obtain ⟨hz4, hz4b, hz4c, hz4d⟩ : w.heap.size + 1 < w4.heap.size ∧ w.heap.size < w4.heap.size ∧ w.heap.size < w.heap.size + 2 ∧ w.heap.size + 1 < w.heap.size + 2 := by (have := hb4.size; omega)) | ((go_at_call 166; ((with_reducible refine (hju _).mono ?_); rintro e w2 ⟨rfl, hb2⟩)); obtain ⟨hc2, hf2⟩ := bcell hb2; have s2l : Bel w w2 := Bel.call hb2; have ho2 := ownsRow_below ho4 hb2; obtain ⟨hz2, hz2b⟩ : w.heap.size + 1 < w2.heap.size ∧ w.heap.size < w2.heap.size := by (have := hb2.size; omega)))
      go_ret
      exact ⟨v4, rfl, ownsRow_mono ho2 (by omega), s2l.out⟩
end Go.Proofs.Ytbcnfegmmhioeaa
