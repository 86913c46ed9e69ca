/- The small functions of packages inst and check, walked. -/
import Derived.Test.YtbcnfegmmhioeaaCheck1
import Derived.RegionTactic
import Derived.Laws.ResultCell
namespace Go.Proofs.Ytbcnfegmmhioeaa
open Go.RowKit

def instV (i : InstM) : Value := .agg #[.int .i64 i.1, .int .i64 i.2]

theorem takes_any (op : Int) (w : World) : Calls Try.prog 194 #[.int .i64 op] w fun e w' => e = .returned (.int .i64 (takesM op)) ∧ Below w.heap.size w w' := by
  have ht := fun W => table_any op W
  unfold takesM
  cases hk : kindM op with
  | none =>
    simp only [kindV, hk, Option.isSome_none] at ht
    go_enter Try.func194, Try.ntmps194
    go_wp2_with ((go_at_call 193; ((with_reducible refine (ht _).mono ?_); rintro e w1 ⟨rfl, hb⟩)); have s1l : Bel w w1 := Bel.call hb)
    go_ret
    exact ⟨rfl, bel⟩
  | some k =>
    simp only [kindV, hk, Option.isSome_some] at ht
    go_enter Try.func194, Try.ntmps194
    go_wp2_with ((go_at_call 193; ((with_reducible refine (ht _).mono ?_); rintro e w1 ⟨rfl, hb⟩)); have s1l : Bel w w1 := Bel.call hb)
    go_ret
    exact ⟨rfl, bel⟩
theorem gives_any (op : Int) (w : World) : Calls Try.prog 195 #[.int .i64 op] w fun e w' => e = .returned (.int .i64 (givesM op)) ∧ Below w.heap.size w w' := by
  have ht := fun W => table_any op W
  unfold givesM
  cases hk : kindM op with
  | none =>
    simp only [kindV, hk, Option.isSome_none] at ht
    go_enter Try.func195, Try.ntmps195
    go_wp2_with ((go_at_call 193; ((with_reducible refine (ht _).mono ?_); rintro e w1 ⟨rfl, hb⟩)); have s1l : Bel w w1 := Bel.call hb)
    go_ret
    exact ⟨rfl, bel⟩
  | some k =>
    simp only [kindV, hk, Option.isSome_some] at ht
    go_enter Try.func195, Try.ntmps195
    go_wp2_with ((go_at_call 193; ((with_reducible refine (ht _).mono ?_); rintro e w1 ⟨rfl, hb⟩)); have s1l : Bel w w1 := Bel.call hb)
    go_ret
    exact ⟨rfl, bel⟩
theorem jumps_any (op : Int) (w : World) : Calls Try.prog 166 #[.int .i64 op] w fun e w' => e = .returned (.bool (jumpsM op)) ∧ Below w.heap.size w w' := by
  unfold jumpsM
  by_cases h1 : op = 22
  · subst h1
    go_enter Try.func166, Try.ntmps166
    go_wp2
    go_ret
    exact ⟨rfl, bel⟩
  · have b1 : (op == 22) = false := by simpa using h1
    go_enter Try.func166, Try.ntmps166
    go_wp2
    go_ret
    refine ⟨?_, bel⟩
    simp [h1]
    try rfl
theorem ends_any (op : Int) (w : World) : Calls Try.prog 167 #[.int .i64 op] w fun e w' => e = .returned (.bool (endsM op)) ∧ Below w.heap.size w w' := by
  unfold endsM
  by_cases h1 : op = 22
  · subst h1
    go_enter Try.func167, Try.ntmps167
    go_wp2
    go_ret
    exact ⟨rfl, bel⟩
  · have b1 : (op == 22) = false := by simpa using h1
    go_enter Try.func167, Try.ntmps167
    go_wp2
    go_ret
    refine ⟨?_, bel⟩
    simp [h1]
    try rfl
theorem may_any (i : InstM) (w : World) : Calls Try.prog 164 #[instV i] w fun e w' => e = .returned (.bool (mayI i)) ∧ Below w.heap.size w w' := by
  obtain ⟨op, a⟩ := i
  have ht := fun W => table_any op W
  unfold mayI instV
  cases hk : kindM op with
  | none =>
    simp only [kindV, hk, Option.isSome_none] at ht
    go_enter Try.func164, Try.ntmps164
    go_wp2_with ((go_at_call 193; ((with_reducible refine (ht _).mono ?_); rintro e w1 ⟨rfl, hb⟩)); have s1l : Bel w w1 := Bel.call hb)
    go_ret
    exact ⟨rfl, bel⟩
  | some k =>
    simp only [kindV, hk, Option.isSome_some] at ht
    by_cases h0 : 0 ≤ a
    · go_enter Try.func164, Try.ntmps164
      go_wp2_with ((go_at_call 193; ((with_reducible refine (ht _).mono ?_); rintro e w1 ⟨rfl, hb⟩)); obtain ⟨hc1, hf1⟩ := bcell hb; have s1l : Bel w w1 := Bel.call hb; have hz1 : w.heap.size < w1.heap.size := by have := hb.size; simp at this; omega)
      go_ret
      exact ⟨by simp [h0], bel⟩
    · go_enter Try.func164, Try.ntmps164
      go_wp2_with ((go_at_call 193; ((with_reducible refine (ht _).mono ?_); rintro e w1 ⟨rfl, hb⟩)); obtain ⟨hc1, hf1⟩ := bcell hb; have s1l : Bel w w1 := Bel.call hb; have hz1 : w.heap.size < w1.heap.size := by have := hb.size; simp at this; omega)
      go_ret
      exact ⟨by simp; omega, bel⟩

theorem cnames_any (i : InstM) (n : Nat) (h0 : 0 ≤ i.2) (h1 : i.2 < 65536) (w : World) : Calls Try.prog 165 #[instV i, .int .i64 n] w fun e w' => e = .returned (.bool (namesI i n)) ∧ Below w.heap.size w w' := by
  obtain ⟨op, a⟩ := i
  simp only at h0 h1
  unfold instV
  generalize hr : namesI (op, a) n = r
  have HR := Lib.hid hr
  clear hr
  go_enter Try.func165, Try.ntmps165
  go_wp2
  all_goals
    go_ret
    refine ⟨ret_bool ?_, bel⟩
    rw [← HR.out]
    simp only [beq_iff_eq, beq_eq_false_iff_ne] at *
    first
      | (simp [namesI, *]; done)
      | (simp [namesI, *]; omega)

theorem behind_any (i : InstM) (h : Nat) (h16 : h ≤ 16) (w : World) : Calls Try.prog 168 #[instV i, .int .i64 h] w fun e w' =>
    e = .returned (.tuple #[.int .i64 ((h : Int) - takesM i.1 + givesM i.1), .bool (behindM i.1 h).isSome]) ∧ Below w.heap.size w w' := by
  obtain ⟨op, a⟩ := i
  have ht := fun W => takes_any op W
  have hg := fun W => gives_any op W
  have b1 : -1 ≤ takesM op ∧ takesM op ≤ 3 := by
    unfold takesM; split
    · rename_i k hk; have := kind_bound hk; omega
    · omega
  have b2 : -1 ≤ givesM op ∧ givesM op ≤ 2 := by
    unfold givesM; split
    · rename_i k hk; have := kind_bound hk; omega
    · omega
  have hbm : (behindM op h).isSome = (decide (0 ≤ (h : Int) - takesM op) && decide ((h : Int) - takesM op + givesM op ≤ 16)) := by
    unfold behindM
    split
    · rename_i e; rw [Option.isSome_some, decide_eq_true e.1, decide_eq_true e.2]; rfl
    · rename_i e
      simp only [Option.isSome_none]
      rw [Bool.eq_iff_iff]
      simp only [Bool.false_eq_true, Bool.and_eq_true, decide_eq_true_eq, false_iff]
      exact e
  unfold instV
  simp only
  rw [hbm]
  clear hbm
  generalize takesM op = T at *
  generalize givesM op = G at *
  obtain ⟨b1, b1'⟩ := b1
  obtain ⟨b2, b2'⟩ := b2
  have hI : (h : Int) ≤ 16 := by omega
  by_cases h0 : 0 ≤ (h : Int) - T
  · go_enter Try.func168, Try.ntmps168
    go_wp2_with (first | ((go_at_call 194; ((with_reducible refine (ht _).mono ?_); rintro e w1 ⟨rfl, hb⟩)); obtain ⟨hc1, hf1⟩ := bcell hb; have s1l : Bel w w1 := Bel.call hb; have hz1 : w.heap.size < w1.heap.size := by have := hb.size; simp at this; omega) | ((go_at_call 195; ((with_reducible refine (hg _).mono ?_); rintro e w2 ⟨rfl, hb2⟩)); obtain ⟨hc2, hf2⟩ := bcell hb2; have s2l : Bel w w2 := Bel.call hb2))
    go_ret2
    exact ⟨by simp; omega, bel⟩
  · go_enter Try.func168, Try.ntmps168
    go_wp2_with (first | ((go_at_call 194; ((with_reducible refine (ht _).mono ?_); rintro e w1 ⟨rfl, hb⟩)); obtain ⟨hc1, hf1⟩ := bcell hb; have s1l : Bel w w1 := Bel.call hb; have hz1 : w.heap.size < w1.heap.size := by have := hb.size; simp at this; omega) | ((go_at_call 195; ((with_reducible refine (hg _).mono ?_); rintro e w2 ⟨rfl, hb2⟩)); obtain ⟨hc2, hf2⟩ := bcell hb2; have s2l : Bel w w2 := Bel.call hb2))
    go_ret2
    exact ⟨by simp; omega, bel⟩

/-! ### a program -/
def instC (i : InstM) : List Value := [.int .i64 i.1, .int .i64 i.2]
def strC (s : ByteArray) : List Value := [.string s]
abbrev progV (A : Option Addr) (n c : Nat) (B : Option Addr) (m d : Nat) : Value := .agg #[.slice A n c, .slice B m d]

theorem one_any {w : World} (A : Option Addr) (c : Nat) (B : Option Addr) (m d : Nat) (L : List InstM) (hA : IsSl 2 instC w A L) (hL : L.length ≤ 96) (k : Nat) (i : InstM) (hi : L[k]? = some i) :
    Calls Try.prog 91 #[progV A L.length c B m d, .int .i64 k] w fun e w' => e = .returned (.int .i64 (oneM i L.length m k)) ∧ Below w.heap.size w w' := by
  have hk := (List.getElem?_eq_some_iff.1 hi).1
  obtain ⟨ab, off, rfl, hsb, hc⟩ := hA.at_ hi
  obtain ⟨op, a⟩ := i
  have d0 : ∀ W [SameB w W ab], W.cell? ⟨ab, off + k * 2, none⟩ = some (.int .i64 op) := fun W _ => by simpa using hc W 0 _ rfl
  have d1 : ∀ W [SameB w W ab], W.cell? ⟨ab, off + k * 2 + 1, none⟩ = some (.int .i64 a) := fun W _ => hc W 1 _ rfl
  clear hc hi hA
  have hmay := fun W => may_any (op, a) W
  have hju := fun W => jumps_any op W
  have hen := fun W => ends_any op W
  have hkI : (k : Int) < L.length := by omega
  have hLI : (L.length : Int) ≤ 96 := by omega
  unfold oneM
  cases hm : mayI (op, a) with
  | false =>
    rw [hm] at hmay
    simp only [Bool.not_false, if_true]
    clear hm
    unfold instV at hmay
    go_enter Try.func91, Try.ntmps91
    go_wp2_with ((go_at_call 164; ((with_reducible refine (hmay _).mono ?_); rintro e w1 ⟨rfl, hb⟩)); obtain ⟨hc1, hf1⟩ := bcell hb; have s1l : Bel w w1 := Bel.call hb; have hz1 : w.heap.size < w1.heap.size := by have := hb.size; simp at this; omega)
    go_ret
    exact ⟨rfl, bel⟩
  | true =>
    have hb : 0 ≤ a ∧ a < 65536 := by
      unfold mayI at hm
      split at hm
      · rename_i k' hk'; have := kind_bound hk'; simp at hm; omega
      · cases hm
    have hnm := fun W => cnames_any (op, a) m hb.1 hb.2 W
    rw [hm] at hmay
    simp only [Bool.not_true, Bool.false_eq_true, if_false]
    clear hm
    unfold instV at hmay hnm
    cases hn : namesI (op, a) m with
    | false =>
      rw [hn] at hnm
      simp only [Bool.not_false, if_true]
      clear hn
      go_enter Try.func91, Try.ntmps91
      go_wp2_with (first | ((go_at_call 164; ((with_reducible refine (hmay _).mono ?_); rintro e w1 ⟨rfl, hb⟩)); obtain ⟨hc1, hf1⟩ := bcell hb; have s1l : Bel w w1 := Bel.call hb; obtain ⟨hz1, hz1b⟩ : w.heap.size + 1 < w1.heap.size ∧ w.heap.size < w1.heap.size := by (have := hb.size; simp at this; omega)) | ((go_at_call 165; ((with_reducible refine (hnm _).mono ?_); rintro e w2 ⟨rfl, hb2⟩)); obtain ⟨hc2, hf2⟩ := bcell hb2; have s2l : Bel w w2 := Bel.call hb2; obtain ⟨hz2, hz2b⟩ : w.heap.size + 1 < w2.heap.size ∧ w.heap.size < w2.heap.size := by (have := hb2.size; omega)))
      go_ret
      exact ⟨rfl, bel⟩
    | true =>
      rw [hn] at hnm
      simp only [Bool.not_true, Bool.false_eq_true, if_false]
      clear hn
      cases hj : jumpsM op with
      | true =>
        rw [hj] at hju
        clear hj
        by_cases ha : (L.length : Int) ≤ a
        · simp only [ha, decide_true, Bool.true_and, if_true]
          go_enter Try.func91, Try.ntmps91
          go_wp2_with (first | ((go_at_call 164; ((with_reducible refine (hmay _).mono ?_); rintro e w1 ⟨rfl, hb⟩)); obtain ⟨hc1, hf1⟩ := bcell hb; have s1l : Bel w w1 := Bel.call hb; obtain ⟨hz1, hz1b⟩ : w.heap.size + 1 < w1.heap.size ∧ w.heap.size < w1.heap.size := by (have := hb.size; simp at this; omega)) | ((go_at_call 165; ((with_reducible refine (hnm _).mono ?_); rintro e w2 ⟨rfl, hb2⟩)); obtain ⟨hc2, hf2⟩ := bcell hb2; have s2l : Bel w w2 := Bel.call hb2; obtain ⟨hz2, hz2b⟩ : w.heap.size + 1 < w2.heap.size ∧ w.heap.size < w2.heap.size := by (have := hb2.size; omega)) | ((go_at_call 166; ((with_reducible refine (hju _).mono ?_); rintro e w3 ⟨rfl, hb3⟩)); obtain ⟨hc3, hf3⟩ := bcell hb3; have s3l : Bel w w3 := Bel.call hb3; obtain ⟨hz3, hz3b⟩ : w.heap.size + 1 < w3.heap.size ∧ w.heap.size < w3.heap.size := by (have := hb3.size; omega)) | ((go_at_call 167; ((with_reducible refine (hen _).mono ?_); rintro e w4 ⟨rfl, hb4⟩)); obtain ⟨hc4, hf4⟩ := bcell hb4; have s4l : Bel w w4 := Bel.call hb4; obtain ⟨hz4, hz4b⟩ : w.heap.size + 1 < w4.heap.size ∧ w.heap.size < w4.heap.size := by (have := hb4.size; omega)))
          go_ret
          exact ⟨rfl, bel⟩
        · have ha' : a < L.length := by omega
          simp only [ha, decide_false, Bool.and_false, Bool.false_eq_true, if_false]
          clear ha
          cases he : endsM op with
          | true =>
            rw [he] at hen
            simp only [Bool.not_true, Bool.false_and, Bool.false_eq_true, if_false]
            clear he
            go_enter Try.func91, Try.ntmps91
            go_wp2_with (first | ((go_at_call 164; ((with_reducible refine (hmay _).mono ?_); rintro e w1 ⟨rfl, hb⟩)); obtain ⟨hc1, hf1⟩ := bcell hb; have s1l : Bel w w1 := Bel.call hb; obtain ⟨hz1, hz1b⟩ : w.heap.size + 1 < w1.heap.size ∧ w.heap.size < w1.heap.size := by (have := hb.size; simp at this; omega)) | ((go_at_call 165; ((with_reducible refine (hnm _).mono ?_); rintro e w2 ⟨rfl, hb2⟩)); obtain ⟨hc2, hf2⟩ := bcell hb2; have s2l : Bel w w2 := Bel.call hb2; obtain ⟨hz2, hz2b⟩ : w.heap.size + 1 < w2.heap.size ∧ w.heap.size < w2.heap.size := by (have := hb2.size; omega)) | ((go_at_call 166; ((with_reducible refine (hju _).mono ?_); rintro e w3 ⟨rfl, hb3⟩)); obtain ⟨hc3, hf3⟩ := bcell hb3; have s3l : Bel w w3 := Bel.call hb3; obtain ⟨hz3, hz3b⟩ : w.heap.size + 1 < w3.heap.size ∧ w.heap.size < w3.heap.size := by (have := hb3.size; omega)) | ((go_at_call 167; ((with_reducible refine (hen _).mono ?_); rintro e w4 ⟨rfl, hb4⟩)); obtain ⟨hc4, hf4⟩ := bcell hb4; have s4l : Bel w w4 := Bel.call hb4; obtain ⟨hz4, hz4b⟩ : w.heap.size + 1 < w4.heap.size ∧ w.heap.size < w4.heap.size := by (have := hb4.size; omega)))
            go_ret
            exact ⟨rfl, bel⟩
          | false =>
            rw [he] at hen
            clear he
            by_cases hkl : k + 1 = L.length
            · have hklI : ((k : Int) + 1 == (L.length : Int)) = true := by simp; omega
              simp only [hkl, decide_true, Bool.not_false, Bool.true_and, if_true]
              clear hkl
              go_enter Try.func91, Try.ntmps91
              go_wp2_with (first | ((go_at_call 164; ((with_reducible refine (hmay _).mono ?_); rintro e w1 ⟨rfl, hb⟩)); obtain ⟨hc1, hf1⟩ := bcell hb; have s1l : Bel w w1 := Bel.call hb; obtain ⟨hz1, hz1b⟩ : w.heap.size + 1 < w1.heap.size ∧ w.heap.size < w1.heap.size := by (have := hb.size; simp at this; omega)) | ((go_at_call 165; ((with_reducible refine (hnm _).mono ?_); rintro e w2 ⟨rfl, hb2⟩)); obtain ⟨hc2, hf2⟩ := bcell hb2; have s2l : Bel w w2 := Bel.call hb2; obtain ⟨hz2, hz2b⟩ : w.heap.size + 1 < w2.heap.size ∧ w.heap.size < w2.heap.size := by (have := hb2.size; omega)) | ((go_at_call 166; ((with_reducible refine (hju _).mono ?_); rintro e w3 ⟨rfl, hb3⟩)); obtain ⟨hc3, hf3⟩ := bcell hb3; have s3l : Bel w w3 := Bel.call hb3; obtain ⟨hz3, hz3b⟩ : w.heap.size + 1 < w3.heap.size ∧ w.heap.size < w3.heap.size := by (have := hb3.size; omega)) | ((go_at_call 167; ((with_reducible refine (hen _).mono ?_); rintro e w4 ⟨rfl, hb4⟩)); obtain ⟨hc4, hf4⟩ := bcell hb4; have s4l : Bel w w4 := Bel.call hb4; obtain ⟨hz4, hz4b⟩ : w.heap.size + 1 < w4.heap.size ∧ w.heap.size < w4.heap.size := by (have := hb4.size; omega)))
              go_ret
              exact ⟨rfl, bel⟩
            · have hklI : ((k : Int) + 1 == (L.length : Int)) = false := by simp; omega
              simp only [hkl, decide_false, Bool.and_false, Bool.false_eq_true, if_false]
              clear hkl
              go_enter Try.func91, Try.ntmps91
              go_wp2_with (first | ((go_at_call 164; ((with_reducible refine (hmay _).mono ?_); rintro e w1 ⟨rfl, hb⟩)); obtain ⟨hc1, hf1⟩ := bcell hb; have s1l : Bel w w1 := Bel.call hb; obtain ⟨hz1, hz1b⟩ : w.heap.size + 1 < w1.heap.size ∧ w.heap.size < w1.heap.size := by (have := hb.size; simp at this; omega)) | ((go_at_call 165; ((with_reducible refine (hnm _).mono ?_); rintro e w2 ⟨rfl, hb2⟩)); obtain ⟨hc2, hf2⟩ := bcell hb2; have s2l : Bel w w2 := Bel.call hb2; obtain ⟨hz2, hz2b⟩ : w.heap.size + 1 < w2.heap.size ∧ w.heap.size < w2.heap.size := by (have := hb2.size; omega)) | ((go_at_call 166; ((with_reducible refine (hju _).mono ?_); rintro e w3 ⟨rfl, hb3⟩)); obtain ⟨hc3, hf3⟩ := bcell hb3; have s3l : Bel w w3 := Bel.call hb3; obtain ⟨hz3, hz3b⟩ : w.heap.size + 1 < w3.heap.size ∧ w.heap.size < w3.heap.size := by (have := hb3.size; omega)) | ((go_at_call 167; ((with_reducible refine (hen _).mono ?_); rintro e w4 ⟨rfl, hb4⟩)); obtain ⟨hc4, hf4⟩ := bcell hb4; have s4l : Bel w w4 := Bel.call hb4; obtain ⟨hz4, hz4b⟩ : w.heap.size + 1 < w4.heap.size ∧ w.heap.size < w4.heap.size := by (have := hb4.size; omega)))
              go_ret
              exact ⟨rfl, bel⟩
      | false =>
        rw [hj] at hju
        clear hj
        simp only [Bool.false_and, Bool.false_eq_true, if_false]
        cases he : endsM op with
        | true =>
          rw [he] at hen
          simp only [Bool.not_true, Bool.false_and, Bool.false_eq_true, if_false]
          clear he
          go_enter Try.func91, Try.ntmps91
          go_wp2_with (first | ((go_at_call 164; ((with_reducible refine (hmay _).mono ?_); rintro e w1 ⟨rfl, hb⟩)); obtain ⟨hc1, hf1⟩ := bcell hb; have s1l : Bel w w1 := Bel.call hb; obtain ⟨hz1, hz1b⟩ : w.heap.size + 1 < w1.heap.size ∧ w.heap.size < w1.heap.size := by (have := hb.size; simp at this; omega)) | ((go_at_call 165; ((with_reducible refine (hnm _).mono ?_); rintro e w2 ⟨rfl, hb2⟩)); obtain ⟨hc2, hf2⟩ := bcell hb2; have s2l : Bel w w2 := Bel.call hb2; obtain ⟨hz2, hz2b⟩ : w.heap.size + 1 < w2.heap.size ∧ w.heap.size < w2.heap.size := by (have := hb2.size; omega)) | ((go_at_call 166; ((with_reducible refine (hju _).mono ?_); rintro e w3 ⟨rfl, hb3⟩)); obtain ⟨hc3, hf3⟩ := bcell hb3; have s3l : Bel w w3 := Bel.call hb3; obtain ⟨hz3, hz3b⟩ : w.heap.size + 1 < w3.heap.size ∧ w.heap.size < w3.heap.size := by (have := hb3.size; omega)) | ((go_at_call 167; ((with_reducible refine (hen _).mono ?_); rintro e w4 ⟨rfl, hb4⟩)); obtain ⟨hc4, hf4⟩ := bcell hb4; have s4l : Bel w w4 := Bel.call hb4; obtain ⟨hz4, hz4b⟩ : w.heap.size + 1 < w4.heap.size ∧ w.heap.size < w4.heap.size := by (have := hb4.size; omega)))
          go_ret
          exact ⟨rfl, bel⟩
        | false =>
          rw [he] at hen
          clear he
          by_cases hkl : k + 1 = L.length
          · have hklI : ((k : Int) + 1 == (L.length : Int)) = true := by simp; omega
            simp only [hkl, decide_true, Bool.not_false, Bool.true_and, if_true]
            clear hkl
            go_enter Try.func91, Try.ntmps91
            go_wp2_with (first | ((go_at_call 164; ((with_reducible refine (hmay _).mono ?_); rintro e w1 ⟨rfl, hb⟩)); obtain ⟨hc1, hf1⟩ := bcell hb; have s1l : Bel w w1 := Bel.call hb; obtain ⟨hz1, hz1b⟩ : w.heap.size + 1 < w1.heap.size ∧ w.heap.size < w1.heap.size := by (have := hb.size; simp at this; omega)) | ((go_at_call 165; ((with_reducible refine (hnm _).mono ?_); rintro e w2 ⟨rfl, hb2⟩)); obtain ⟨hc2, hf2⟩ := bcell hb2; have s2l : Bel w w2 := Bel.call hb2; obtain ⟨hz2, hz2b⟩ : w.heap.size + 1 < w2.heap.size ∧ w.heap.size < w2.heap.size := by (have := hb2.size; omega)) | ((go_at_call 166; ((with_reducible refine (hju _).mono ?_); rintro e w3 ⟨rfl, hb3⟩)); obtain ⟨hc3, hf3⟩ := bcell hb3; have s3l : Bel w w3 := Bel.call hb3; obtain ⟨hz3, hz3b⟩ : w.heap.size + 1 < w3.heap.size ∧ w.heap.size < w3.heap.size := by (have := hb3.size; omega)) | ((go_at_call 167; ((with_reducible refine (hen _).mono ?_); rintro e w4 ⟨rfl, hb4⟩)); obtain ⟨hc4, hf4⟩ := bcell hb4; have s4l : Bel w w4 := Bel.call hb4; obtain ⟨hz4, hz4b⟩ : w.heap.size + 1 < w4.heap.size ∧ w.heap.size < w4.heap.size := by (have := hb4.size; omega)))
            go_ret
            exact ⟨rfl, bel⟩
          · have hklI : ((k : Int) + 1 == (L.length : Int)) = false := by simp; omega
            simp only [hkl, decide_false, Bool.and_false, Bool.false_eq_true, if_false]
            clear hkl
            go_enter Try.func91, Try.ntmps91
            go_wp2_with (first | ((go_at_call 164; ((with_reducible refine (hmay _).mono ?_); rintro e w1 ⟨rfl, hb⟩)); obtain ⟨hc1, hf1⟩ := bcell hb; have s1l : Bel w w1 := Bel.call hb; obtain ⟨hz1, hz1b⟩ : w.heap.size + 1 < w1.heap.size ∧ w.heap.size < w1.heap.size := by (have := hb.size; simp at this; omega)) | ((go_at_call 165; ((with_reducible refine (hnm _).mono ?_); rintro e w2 ⟨rfl, hb2⟩)); obtain ⟨hc2, hf2⟩ := bcell hb2; have s2l : Bel w w2 := Bel.call hb2; obtain ⟨hz2, hz2b⟩ : w.heap.size + 1 < w2.heap.size ∧ w.heap.size < w2.heap.size := by (have := hb2.size; omega)) | ((go_at_call 166; ((with_reducible refine (hju _).mono ?_); rintro e w3 ⟨rfl, hb3⟩)); obtain ⟨hc3, hf3⟩ := bcell hb3; have s3l : Bel w w3 := Bel.call hb3; obtain ⟨hz3, hz3b⟩ : w.heap.size + 1 < w3.heap.size ∧ w.heap.size < w3.heap.size := by (have := hb3.size; omega)) | ((go_at_call 167; ((with_reducible refine (hen _).mono ?_); rintro e w4 ⟨rfl, hb4⟩)); obtain ⟨hc4, hf4⟩ := bcell hb4; have s4l : Bel w w4 := Bel.call hb4; obtain ⟨hz4, hz4b⟩ : w.heap.size + 1 < w4.heap.size ∧ w.heap.size < w4.heap.size := by (have := hb4.size; omega)))
            go_ret
            exact ⟨rfl, bel⟩
end Go.Proofs.Ytbcnfegmmhioeaa
