/- The document's own words on an instruction, walked. -/
import Derived.Test.YtbcnfegmmhioeaaRef2
namespace Go.Proofs.Ytbcnfegmmhioeaa
open Go.RowKit

theorem rmay_any (i : InstM) (w : World) : Calls Try.prog 95 #[instV i] w fun e w' => e = .returned (.bool (mayI i)) ∧ Below w.heap.size w w' := by
  obtain ⟨op, a⟩ := i
  have ht := fun W => row_any op W
  unfold mayI instV
  cases hk : kindM op with
  | none =>
    simp only [hk] at ht
    go_enter Try.func95, Try.ntmps95
    go_wp2_with ((go_at_call 97; ((with_reducible refine (ht _).mono ?_); rintro e w1 ⟨s, rfl, hb⟩)); obtain ⟨hc1, hf1⟩ := bcell hb; have s1l : Bel w w1 := Bel.call hb; have hz1 : w.heap.size < w1.heap.size := by have := hb.size; simp at this; omega)
    go_ret
    exact ⟨rfl, bel⟩
  | some k =>
    simp only [hk] at ht
    by_cases h0 : 0 ≤ a
    · go_enter Try.func95, Try.ntmps95
      go_wp2_with ((go_at_call 97; ((with_reducible refine (ht _).mono ?_); rintro e w1 ⟨s, rfl, hb⟩)); obtain ⟨hc1, hf1⟩ := bcell hb; have s1l : Bel w w1 := Bel.call hb; have hz1 : w.heap.size < w1.heap.size := by have := hb.size; simp at this; omega)
      go_ret
      refine ⟨ret_bool ?_, bel⟩
      rw [Bool.eq_iff_iff]; simp; omega
    · go_enter Try.func95, Try.ntmps95
      go_wp2_with ((go_at_call 97; ((with_reducible refine (ht _).mono ?_); rintro e w1 ⟨s, rfl, hb⟩)); obtain ⟨hc1, hf1⟩ := bcell hb; have s1l : Bel w w1 := Bel.call hb; have hz1 : w.heap.size < w1.heap.size := by have := hb.size; simp at this; omega)
      go_ret
      refine ⟨ret_bool ?_, bel⟩
      rw [Bool.eq_iff_iff]; simp; omega

def rnamesM (i : InstM) : List Nat := if i.1 = 27 ∨ i.1 = 33 ∨ i.1 = 35 ∨ i.1 = 36 ∨ i.1 = 37 then [i.2.toNat] else if i.1 = 34 then [i.2.toNat / 8, i.2.toNat % 8] else []
def PostNats (w : World) (r : List Nat) (e : Ending) (w' : World) : Prop := ∃ v, e = .returned v ∧ w'.ownsRow w.heap.size 3 1 v r.length (r.map natV) ∧ Below w.heap.size w w'
theorem nats_new (w W : World) (h : Below w.heap.size w W) (l : List Nat) (hl : l.length ≤ 100) : PostNats w l (.returned (.slice (some ⟨W.heap.size, 0, none⟩) l.length l.length)) (W.alloc (.cells (l.map natV).toArray 3)) := by
  refine ⟨_, rfl, ⟨by simp, Or.inr ⟨W.heap.size, l.length, _, rfl, h.size, blk_new _ _, Nat.le_refl _, by unfold maxLen; omega, by simp, ?_⟩⟩, h.alloc h.size _⟩
  simp
  rw [List.take_of_length_le (by simp)]

set_option maxRecDepth 100000 in
theorem rnames_any (i : InstM) (h0 : 0 ≤ i.2) (h1 : i.2 < 65536) (w : World) : Calls Try.prog 96 #[instV i] w (PostNats w (rnamesM i)) := by
  obtain ⟨op, a⟩ := i
  simp only at h0 h1
  unfold instV
  generalize hr : rnamesM (op, a) = r
  have HR := Lib.hid hr
  clear hr
  have hone : ∀ o : Obj, PostNats w [a.toNat] (.returned (.slice (some ⟨w.heap.size + 1, 0, none⟩) 1 1)) ((w.alloc o).alloc (.cells #[.int .i64 a] 3)) := fun o => by
    have := nats_new w (w.alloc o) ((Below.refl _ _).alloc (Nat.le_refl _) _) [a.toNat] (by simp)
    simpa [natV, Int.toNat_of_nonneg h0] using this
  have htwo : ∀ o : Obj, PostNats w [a.toNat / 8, a.toNat % 8] (.returned (.slice (some ⟨w.heap.size + 1, 0, none⟩) 2 2)) ((w.alloc o).alloc (.cells #[.int .i64 (a / 8), .int .i64 (a % 8)] 3)) := fun o => by
    have := nats_new w (w.alloc o) ((Below.refl _ _).alloc (Nat.le_refl _) _) [a.toNat / 8, a.toNat % 8] (by simp)
    simpa [natV, Int.toNat_of_nonneg h0] using this
  have hnil : ∀ W, Below w.heap.size w W → PostNats w [] (.returned (.slice none 0 0)) W := fun W hb => ⟨_, rfl, World.ownsRow_nil _ _ _ _, hb⟩
  have H1 := Lib.hid hone
  have H2 := Lib.hid htwo
  have H3 := Lib.hid hnil
  clear hone htwo hnil
  go_enter Try.func96, Try.ntmps96
  go_wp2
  all_goals
    go_ret
    rw [← HR.out]
    simp only [beq_iff_eq, beq_eq_false_iff_ne] at *
    first
      | (rw [show rnamesM (op, a) = [a.toNat] by simp [rnamesM, *]]; exact H1 _)
      | (rw [show rnamesM (op, a) = [a.toNat / 8, a.toNat % 8] by simp [rnamesM, *]]; exact H2 _)
      | (rw [show rnamesM (op, a) = [] by simp [rnamesM, *]]; exact H3 _ bel)
end Go.Proofs.Ytbcnfegmmhioeaa
