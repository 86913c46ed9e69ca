/- The document's own reading of names answers as the program's: the plain law. -/
import Derived.Test.YtbcnfegmmhioeaaNamesM
namespace Go.Proofs.Ytbcnfegmmhioeaa
open Go.RowKit

/-- The last part with one byte more. -/
def addLast : List (List UInt8) → UInt8 → List (List UInt8)
  | [], _ => []
  | [p], c => [p ++ [c]]
  | p :: q :: r, c => p :: addLast (q :: r) c
def foldN : List (List UInt8) → List UInt8 → Option (List (List UInt8))
  | ps, [] => some ps
  | ps, c :: l => if c = 47 then foldN (ps ++ [[]]) l else if letterB c then foldN (addLast ps c) l else none
def goodN (p : List UInt8) : Bool := !(p == []) && !(p == [46]) && !(p == [46, 46])
def refName (s : ByteArray) : Bool := decide (1 ≤ s.size ∧ s.size ≤ 8) && match foldN [[]] s.data.toList with | none => false | some ps => ps.all goodN && decide (ps.length ≤ 2)

theorem addLast_snoc : ∀ (ps : List (List UInt8)) (p : List UInt8) (c : UInt8), addLast (ps ++ [p]) c = ps ++ [p ++ [c]]
  | [], p, c => rfl
  | [q], p, c => rfl
  | q :: r :: ps, p, c => by
    have := addLast_snoc (r :: ps) p c
    simp only [List.cons_append] at this ⊢
    rw [addLast, this]
theorem letter_ne {c : UInt8} (h : letterB c = true) : c ≠ 47 := by
  rintro rfl; exact absurd h (by decide)
theorem fold_letters : ∀ (l : List UInt8) (ps : List (List UInt8)) (p : List UInt8), l.all letterB = true → foldN (ps ++ [p]) l = some (ps ++ [p ++ l])
  | [], ps, p, _ => by simp [foldN]
  | c :: l, ps, p, h => by
    simp only [List.all_cons, Bool.and_eq_true] at h
    rw [foldN, if_neg (letter_ne h.1), if_pos h.1, addLast_snoc, fold_letters l _ _ h.2]
    simp
theorem fold_slash : ∀ (a b : List UInt8) (ps : List (List UInt8)) (p : List UInt8), a.all letterB = true → foldN (ps ++ [p]) (a ++ 47 :: b) = foldN (ps ++ [p ++ a] ++ [[]]) b
  | [], b, ps, p, _ => by simp [foldN]
  | c :: a, b, ps, p, h => by
    simp only [List.all_cons, Bool.and_eq_true] at h
    rw [List.cons_append, foldN, if_neg (letter_ne h.1), if_pos h.1, addLast_snoc, fold_slash a b _ _ h.2]
    simp
theorem fold_bad : ∀ (l : List UInt8) (ps : List (List UInt8)), (∃ c ∈ l, c ≠ 47 ∧ letterB c = false) → foldN ps l = none
  | [], _, ⟨_, h, _⟩ => by cases h
  | c :: l, ps, ⟨x, hx, h1, h2⟩ => by
    rw [foldN]
    rcases List.mem_cons.1 hx with rfl | hx
    · rw [if_neg h1, h2]; rfl
    · split
      · exact fold_bad l _ ⟨x, hx, h1, h2⟩
      · split
        · exact fold_bad l _ ⟨x, hx, h1, h2⟩
        · rfl
theorem addLast_length : ∀ (ps : List (List UInt8)) (c : UInt8), (addLast ps c).length = ps.length
  | [], _ => rfl
  | [_], _ => rfl
  | p :: q :: r, c => by simp only [addLast, List.length_cons, addLast_length (q :: r) c]
theorem fold_length : ∀ (l : List UInt8) (ps qs : List (List UInt8)), foldN ps l = some qs → ps.length + l.count 47 = qs.length
  | [], ps, qs, h => by cases h; simp
  | c :: l, ps, qs, h => by
    rw [foldN] at h
    split at h
    · rename_i e; subst e
      have := fold_length l _ _ h
      simp at this ⊢; omega
    · rename_i e
      split at h
      · have := fold_length l _ _ h
        rw [addLast_length] at this
        rw [List.count_cons_of_ne e]; exact this
      · cases h

theorem partB_eq (s : ByteArray) : partB s = (s.data.toList.all letterB && goodN s.data.toList) := by
  unfold partB goodN
  cases s.data.toList <;> simp

theorem refName_eq (s : ByteArray) : refName s = nameB s := by
  have hsz : s.size = s.data.toList.length := Lib.size_eq s
  unfold refName nameB
  by_cases h8 : s.size ≤ 8
  case neg =>
    rw [decide_eq_false (by omega), decide_eq_false h8]; simp
  rw [decide_eq_true h8, Bool.true_and]
  by_cases hs : 0 ≤ slash s
  · -- a slash
    obtain ⟨n, hn⟩ := Int.eq_ofNat_of_zero_le hs
    obtain ⟨h1, h2⟩ := Lib.indexByte_some (l := s.data.toList) (c := 47) (o := n) hn
    have hlt := (List.getElem?_eq_some_iff.1 h1).1
    have hcut : cutS s = (s.extract 0 n, s.extract (n + 1) s.size, true) := by unfold cutS; rw [if_pos hs, hn]; rfl
    rw [hcut]
    simp only [Bool.not_true, Bool.false_or]
    rw [partB_eq, partB_eq, Lib.extract_data, Lib.extract_data]
    rw [decide_eq_true (by omega : 1 ≤ s.size ∧ s.size ≤ 8), Bool.true_and]
    have hl : s.data.toList = s.data.toList.take n ++ 47 :: s.data.toList.drop (n + 1) := by
      rw [← List.take_append_drop n s.data.toList]
      conv => lhs; rw [List.drop_eq_getElem_cons hlt]
      rw [List.getElem?_eq_getElem hlt] at h1
      rw [Option.some.inj h1]
      simp
    have e1 : (s.data.toList.drop 0).take (n - 0) = s.data.toList.take n := by simp
    have e2 : (s.data.toList.drop (n + 1)).take (s.size - (n + 1)) = s.data.toList.drop (n + 1) := List.take_of_length_le (by simp)
    rw [e1, e2]
    have hna : ∀ k : Nat, (s.data.toList.take n)[k]? ≠ some 47 := fun k hk => by
      have hkn : k < n := by have := (List.getElem?_eq_some_iff.1 hk).1; simp at this; omega
      rw [List.getElem?_take_of_lt hkn] at hk
      exact h2 k hkn hk
    clear e1 e2 h1 h2 hcut hn hs
    generalize s.data.toList.take n = a at *
    generalize s.data.toList.drop (n + 1) = b at *
    rw [hl]
    cases ha : a.all letterB with
    | false =>
      have : ∃ c ∈ a, letterB c = false := by
        have := ha
        rw [List.all_eq_false] at this
        obtain ⟨c, hc, hf⟩ := this
        exact ⟨c, hc, by simpa using hf⟩
      obtain ⟨c, hc, hf⟩ := this
      have hc47 : c ≠ 47 := by
        rintro rfl
        obtain ⟨k, hk⟩ := List.getElem?_of_mem hc
        exact hna k hk
      rw [fold_bad _ _ ⟨c, by simp [hc], hc47, hf⟩]
      simp
    | true =>
      have := fold_slash a b [] [] ha
      simp only [List.nil_append] at this
      rw [this]
      cases hb : b.all letterB with
      | true =>
        have h3 := fold_letters b [a] [] hb
        simp only [List.nil_append, List.cons_append] at h3
        rw [show ([a] ++ [[]] : List (List UInt8)) = [a, []] from rfl, h3]
        simp
      | false =>
        rw [List.all_eq_false] at hb
        obtain ⟨c, hc, hf⟩ := hb
        simp only [Bool.false_and, Bool.and_false]
        by_cases h47 : c = 47
        · cases hfo : foldN ([a] ++ [[]]) b with
          | none => rfl
          | some ps =>
            have h4 := fold_length b _ _ hfo
            have h5 : 0 < b.count 47 := List.count_pos_iff.2 (h47 ▸ hc)
            have : ¬ ps.length ≤ 2 := by simp at h4; omega
            simp [this]
        · rw [fold_bad b _ ⟨c, hc, h47, by simpa using hf⟩]
  · -- no slash
    have hm : slash s = -1 := by have := slash_ge s; omega
    have hno := Lib.indexByte_none (l := s.data.toList) (c := 47) hm
    have hcut : cutS s = (s, E0, false) := by unfold cutS; rw [if_neg hs]
    rw [hcut]
    simp only [Bool.not_false, Bool.true_or, Bool.and_true]
    rw [partB_eq]
    generalize s.data.toList = l at *
    cases hl : l.all letterB with
    | true =>
      have h3 := fold_letters l [] [] hl
      simp only [List.nil_append] at h3
      rw [h3]
      by_cases h0 : l = []
      · subst h0
        have : ¬ (1 ≤ s.size ∧ s.size ≤ 8) := by rw [hsz]; simp
        simp [this, goodN]
      · have : 1 ≤ s.size ∧ s.size ≤ 8 := by
          have : 0 < l.length := List.length_pos_iff.2 h0
          omega
        simp [this]
    | false =>
      rw [List.all_eq_false] at hl
      obtain ⟨c, hc, hf⟩ := hl
      have hc47 : c ≠ 47 := by
        rintro rfl
        obtain ⟨k, hk⟩ := List.getElem?_of_mem hc
        exact hno k hk
      rw [fold_bad l _ ⟨c, hc, hc47, by simpa using hf⟩]
      simp
end Go.Proofs.Ytbcnfegmmhioeaa
