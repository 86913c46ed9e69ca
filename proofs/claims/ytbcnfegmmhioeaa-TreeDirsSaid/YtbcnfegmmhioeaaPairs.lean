/- Plain laws on lists of pairs, as maps. -/
import Derived.Test.YtbcnfegmmhioeaaTreeM
namespace Go.Proofs.Ytbcnfegmmhioeaa
section
variable {κ ν : Type} [DecidableEq κ]
theorem get_put (L : List (κ × ν)) (k : κ) (v : ν) (k' : κ) : get? (put L k v) k' = if k = k' then some v else get? L k' := by
  induction L with
  | nil => simp [put, get?]
  | cons p L ih =>
    obtain ⟨a, x⟩ := p
    unfold put
    split
    · rename_i h; subst h
      simp only [get?]
      split <;> rfl
    · rename_i h
      simp only [get?, ih]
      split
      · rename_i h2; subst h2
        rw [if_neg (fun e => h e.symm)]
      · rfl
theorem get_none (L : List (κ × ν)) (k : κ) : get? L k = none ↔ k ∉ L.map (·.1) := by
  induction L with
  | nil => simp [get?]
  | cons p L ih =>
    obtain ⟨a, x⟩ := p
    simp only [get?, List.map_cons, List.mem_cons, not_or]
    split
    · rename_i h; subst h; simp
    · rename_i h
      rw [ih]
      exact ⟨fun h2 => ⟨fun e => h e.symm, h2⟩, fun h2 => h2.2⟩
theorem put_new (L : List (κ × ν)) (k : κ) (v : ν) (h : get? L k = none) : put L k v = L ++ [(k, v)] := by
  induction L with
  | nil => rfl
  | cons p L ih =>
    obtain ⟨a, x⟩ := p
    simp only [get?] at h
    split at h
    · cases h
    · rename_i hn
      simp [put, hn, ih h]
def NodupK (L : List (κ × ν)) : Prop := (L.map (·.1)).Nodup
theorem get_del (L : List (κ × ν)) (hn : NodupK L) (k k' : κ) : get? (del L k) k' = if k = k' then none else get? L k' := by
  induction L with
  | nil => simp [del, get?]
  | cons p L ih =>
    obtain ⟨a, x⟩ := p
    have hn2 : a ∉ L.map (·.1) ∧ NodupK L := List.nodup_cons.1 hn
    unfold del
    split
    · rename_i h; subst h
      split
      · rename_i h2; subst h2
        exact (get_none L a).2 hn2.1
      · rename_i h2
        simp [get?, h2]
    · rename_i h
      simp only [get?, ih hn2.2]
      split
      · rename_i h2; subst h2
        rw [if_neg (fun e => h e.symm)]
      · rfl
theorem del_keys (L : List (κ × ν)) (k : κ) : (del L k).Sublist L := by
  induction L with
  | nil => exact List.Sublist.slnil
  | cons p L ih =>
    obtain ⟨a, x⟩ := p
    unfold del
    split
    · exact List.sublist_cons_self _ _
    · exact ih.cons_cons _
theorem nodup_del {L : List (κ × ν)} (hn : NodupK L) (k : κ) : NodupK (del L k) := hn.sublist ((del_keys L k).map _)
theorem put_keys (L : List (κ × ν)) (k : κ) (v : ν) (h : (get? L k).isSome) : (put L k v).map (·.1) = L.map (·.1) := by
  induction L with
  | nil => simp [get?] at h
  | cons p L ih =>
    obtain ⟨a, x⟩ := p
    unfold put
    split
    · rename_i h2; subst h2; rfl
    · rename_i h2
      simp only [get?, h2, if_false] at h
      simp [ih h]
theorem nodup_put {L : List (κ × ν)} (hn : NodupK L) (k : κ) (v : ν) : NodupK (put L k v) := by
  cases hg : get? L k with
  | none =>
    rw [put_new L k v hg]
    unfold NodupK
    rw [List.map_append, List.nodup_append]
    refine ⟨hn, by simp, ?_⟩
    intro a ha b hb
    simp at hb
    subst hb
    rintro rfl
    exact (get_none L a).1 hg ha
  | some x => unfold NodupK; rw [put_keys L k v (by simp [hg])]; exact hn
theorem del_split (L : List (κ × ν)) (k : κ) (v : ν) (h : get? L k = some v) : ∃ A B, L = A ++ (k, v) :: B ∧ del L k = A ++ B := by
  induction L with
  | nil => simp [get?] at h
  | cons p L ih =>
    obtain ⟨a, x⟩ := p
    simp only [get?] at h
    split at h
    · rename_i h2; subst h2
      cases h
      exact ⟨[], L, rfl, by simp [del]⟩
    · rename_i h2
      obtain ⟨A, B, e1, e2⟩ := ih h
      exact ⟨(a, x) :: A, B, by rw [e1]; rfl, by simp [del, h2, e2]⟩
theorem del_none (L : List (κ × ν)) (k : κ) (h : get? L k = none) : del L k = L := by
  induction L with
  | nil => rfl
  | cons p L ih =>
    obtain ⟨a, x⟩ := p
    simp only [get?] at h
    split at h
    · cases h
    · rename_i h2
      simp [del, h2, ih h]
theorem put_split (L : List (κ × ν)) (k : κ) (v x : ν) (h : get? L k = some x) : ∃ A B, L = A ++ (k, x) :: B ∧ put L k v = A ++ (k, v) :: B := by
  induction L with
  | nil => simp [get?] at h
  | cons p L ih =>
    obtain ⟨a, y⟩ := p
    simp only [get?] at h
    split at h
    · rename_i h2; subst h2
      cases h
      exact ⟨[], L, rfl, by simp [put]⟩
    · rename_i h2
      obtain ⟨A, B, e1, e2⟩ := ih h
      exact ⟨(a, y) :: A, B, by rw [e1]; rfl, by simp [put, h2, e2]⟩
theorem get_mem {L : List (κ × ν)} {k : κ} {v : ν} (h : get? L k = some v) : (k, v) ∈ L := by
  obtain ⟨A, B, rfl, _⟩ := del_split L k v h
  simp
theorem mem_get {L : List (κ × ν)} (hn : NodupK L) {k : κ} {v : ν} (h : (k, v) ∈ L) : get? L k = some v := by
  induction L with
  | nil => simp at h
  | cons p L ih =>
    obtain ⟨a, x⟩ := p
    have hn2 : a ∉ L.map (·.1) ∧ NodupK L := List.nodup_cons.1 hn
    rcases List.mem_cons.1 h with h | h
    · cases h; simp [get?]
    · have : a ≠ k := by rintro rfl; exact hn2.1 (List.mem_map.2 ⟨_, h, rfl⟩)
      simp [get?, this, ih hn2.2 h]
end
end Go.Proofs.Ytbcnfegmmhioeaa
