/- What is made in a directory is counted there: the plain law. -/
import Derived.Test.YtbcnfegmmhioeaaPairs
import Derived.KernelRfl
namespace Go.Proofs.Ytbcnfegmmhioeaa

def dn (d : Nat) : ByteArray := ⟨#[(100 + d).toUInt8]⟩
def kn (k : Nat) : ByteArray := ⟨#[(97 + k).toUInt8]⟩
def pn (d k : Nat) : ByteArray := ⟨#[(100 + d).toUInt8, 47, (97 + k).toUInt8]⟩

theorem split_pn : ∀ d < 2, ∀ k < 4, splitS (pn d k) = (dn d, kn k) := by
  intro d hd k hk
  match d, hd, k, hk with
  | 0, _, 0, _ => exact (by kernel_rfl : splitS (pn 0 0) = (dn 0, kn 0))
  | 0, _, 1, _ => exact (by kernel_rfl : splitS (pn 0 1) = (dn 0, kn 1))
  | 0, _, 2, _ => exact (by kernel_rfl : splitS (pn 0 2) = (dn 0, kn 2))
  | 0, _, 3, _ => exact (by kernel_rfl : splitS (pn 0 3) = (dn 0, kn 3))
  | 1, _, 0, _ => exact (by kernel_rfl : splitS (pn 1 0) = (dn 1, kn 0))
  | 1, _, 1, _ => exact (by kernel_rfl : splitS (pn 1 1) = (dn 1, kn 1))
  | 1, _, 2, _ => exact (by kernel_rfl : splitS (pn 1 2) = (dn 1, kn 2))
  | 1, _, 3, _ => exact (by kernel_rfl : splitS (pn 1 3) = (dn 1, kn 3))
theorem split_dn : ∀ d < 2, splitS (dn d) = (E0, dn d) := by
  intro d hd
  match d, hd with
  | 0, _ => exact (by kernel_rfl : splitS (dn 0) = (E0, dn 0))
  | 1, _ => exact (by kernel_rfl : splitS (dn 1) = (E0, dn 1))
theorem dn_ne (d : Nat) : dn d ≠ E0 := by simp [dn]
theorem kn_ne (d : Nat) : kn d ≠ E0 := by simp [kn]
theorem dn_inj : ∀ d < 2, ∀ e < 2, dn d = dn e → d = e := by
  intro d hd e he h
  match d, hd, e, he with
  | 0, _, 0, _ => rfl
  | 1, _, 1, _ => rfl
  | 0, _, 1, _ => exact absurd h (by decide)
  | 1, _, 0, _ => exact absurd h (by decide)
theorem kn_inj : ∀ d < 4, ∀ e < 4, kn d = kn e → d = e := by
  intro d hd e he h
  have h1 : (97 + d).toUInt8 = (97 + e).toUInt8 := by
    have := congrArg (fun b : ByteArray => b.data.toList) h
    simpa [kn] using this
  have h2 := congrArg UInt8.toNat h1
  simp at h2
  omega

/-- Row d of eight truth values: how many are true. -/
def rowC (B : List Bool) (d : Nat) : Nat := ((B.drop (4 * d)).take 4).count true

structure Dirs (L : Ents) (B : List Bool) : Prop where
  len : B.length = 8
  get : ∀ d < 2, ∀ k < 4, (get? L (dn d, kn k)).isSome = B.getD (d * 4 + k) false
  file : ∀ d < 2, ∀ k < 4, ∀ e, get? L (dn d, kn k) = some e → e.2 = false
  dir : ∀ d < 2, ∃ i, get? L (E0, dn d) = some (i, true)
  size : L.length = 2 + B.count true
  row : ∀ d < 2, L.countP (fun p => p.1.1 = dn d) = rowC B d
  nodup : NodupK L

theorem list8 (B : List Bool) (h : B.length = 8) : ∃ a b c d e f g i, B = [a, b, c, d, e, f, g, i] := by
  match B, h with
  | [a, b, c, d, e, f, g, i], _ => exact ⟨a, b, c, d, e, f, g, i, rfl⟩

theorem count_set (B : List Bool) (j : Nat) (hj : j < B.length) (v : Bool) : (B.set j v).count true + (if B.getD j false then 1 else 0) = B.count true + (if v then 1 else 0) := by
  induction B generalizing j with
  | nil => simp at hj
  | cons a B ih =>
    cases j with
    | zero => cases a <;> cases v <;> simp
    | succ j =>
      have := ih j (by simpa using hj)
      simp only [List.set_cons_succ, List.count_cons, List.getD_cons_succ]
      omega
theorem row_set (B : List Bool) (h : B.length = 8) (d k e : Nat) (hd : d < 2) (hk : k < 4) (he : e < 2) (v : Bool) :
    rowC (B.set (d * 4 + k) v) e + (if e = d ∧ B.getD (d * 4 + k) false then 1 else 0) = rowC B e + (if e = d ∧ v then 1 else 0) := by
  obtain ⟨a, b, c, x, y, f, g, i, rfl⟩ := list8 B h
  unfold rowC
  match d, hd, k, hk, e, he with
  | 0, _, 0, _, 0, _ => cases a <;> cases v <;> simp [List.count_cons] <;> omega
  | 0, _, 1, _, 0, _ => cases b <;> cases v <;> simp [List.count_cons] <;> omega
  | 0, _, 2, _, 0, _ => cases c <;> cases v <;> simp [List.count_cons] <;> omega
  | 0, _, 3, _, 0, _ => cases x <;> cases v <;> simp [List.count_cons] <;> omega
  | 1, _, 0, _, 0, _ => simp
  | 1, _, 1, _, 0, _ => simp
  | 1, _, 2, _, 0, _ => simp
  | 1, _, 3, _, 0, _ => simp
  | 0, _, 0, _, 1, _ => simp
  | 0, _, 1, _, 1, _ => simp
  | 0, _, 2, _, 1, _ => simp
  | 0, _, 3, _, 1, _ => simp
  | 1, _, 0, _, 1, _ => cases y <;> cases v <;> simp [List.count_cons] <;> omega
  | 1, _, 1, _, 1, _ => cases f <;> cases v <;> simp [List.count_cons] <;> omega
  | 1, _, 2, _, 1, _ => cases g <;> cases v <;> simp [List.count_cons] <;> omega
  | 1, _, 3, _, 1, _ => cases i <;> cases v <;> simp [List.count_cons] <;> omega

theorem Dirs.above {L : Ents} {B : List Bool} (h : Dirs L B) {d k : Nat} (hd : d < 2) : aboveM L (dn d, kn k) = 0 := by
  obtain ⟨i, hi⟩ := h.dir d hd
  simp [aboveM, kn_ne, dn_ne, hi]

theorem getD_set (B : List Bool) (i j : Nat) (v : Bool) (hi : i < B.length) : (B.set i v).getD j false = if j = i then v else B.getD j false := by
  simp only [List.getD_eq_getElem?_getD, List.getElem?_set]
  by_cases h : i = j
  · subst h; simp [hi]
  · simp [h, Ne.symm h]

theorem Dirs.make {L : Ents} {B : List Bool} (h : Dirs L B) {d k : Nat} (hd : d < 2) (hk : k < 4) (nx : Int) :
    (makeM L nx (pn d k) false).2.1 = (if B.getD (d * 4 + k) false then 65297 else if 8 ≤ 2 + B.count true then 65308 else 0) ∧
    Dirs (makeM L nx (pn d k) false).2.2.1 (B.set (d * 4 + k) (B.getD (d * 4 + k) false || decide ((makeM L nx (pn d k) false).2.1 = 0))) := by
  have ha := h.above (k := k) hd
  have hg := h.get d hd k hk
  have hj : d * 4 + k < B.length := by rw [h.len]; omega
  unfold makeM
  simp only [split_pn d hd k hk, ha, ne_eq, not_true_eq_false, if_false, hg]
  cases hB : B.getD (d * 4 + k) false with
  | true =>
    simp only [if_true, true_and, Bool.true_or]
    have : B.set (d * 4 + k) true = B := by
      apply List.ext_getElem?
      intro i
      rw [List.getElem?_set]
      split
      · rename_i e; subst e
        simp [hj]
        rw [List.getD_eq_getElem?_getD, List.getElem?_eq_getElem hj] at hB
        simpa using hB.symm
      · rfl
    rw [this]; exact h
  | false =>
    have hset : ∀ v, B.set (d * 4 + k) v = B.set (d * 4 + k) v := fun _ => rfl
    by_cases h8 : 8 ≤ L.length
    · have h8' : 8 ≤ 2 + B.count true := by rw [← h.size]; exact h8
      have : B.set (d * 4 + k) false = B := by
        apply List.ext_getElem?
        intro i
        rw [List.getElem?_set]
        split
        · rename_i e; subst e
          simp [hj]
          rw [List.getD_eq_getElem?_getD, List.getElem?_eq_getElem hj] at hB
          simpa using hB.symm
        · rfl
      simp [h8, h8', this, h]
    · have h8' : ¬ 8 ≤ 2 + B.count true := by rw [← h.size]; exact h8
      have hnone : get? L (dn d, kn k) = none := by rw [← Option.not_isSome_iff_eq_none, hg, hB]; simp
      simp only [Bool.false_eq_true, if_false, false_and, h8, h8', true_and, Bool.false_or, decide_true]
      have hcs := count_set B (d * 4 + k) hj true
      rw [hB] at hcs
      refine ⟨by simp [h.len], ?_, ?_, ?_, ?_, ?_, nodup_put h.nodup _ _⟩
      · intro d' hd' k' hk'
        rw [get_put, getD_set B _ _ _ hj]
        by_cases e : (dn d, kn k) = (dn d', kn k')
        · simp only [Prod.mk.injEq] at e
          have e1 := dn_inj d hd d' hd' e.1
          have e2 := kn_inj k hk k' hk' e.2
          subst e1 e2
          simp
        · have : ¬ (d' * 4 + k' = d * 4 + k) := by
            intro e'
            have : d' = d ∧ k' = k := by omega
            exact e (by rw [this.1, this.2])
          simp [e, this, h.get d' hd' k' hk']
      · intro d' hd' k' hk' x hx
        rw [get_put] at hx
        split at hx
        · cases hx; rfl
        · exact h.file d' hd' k' hk' x hx
      · intro d' hd'
        obtain ⟨i, hi⟩ := h.dir d' hd'
        refine ⟨i, ?_⟩
        rw [get_put, if_neg (by simp [dn_ne])]
        exact hi
      · rw [put_new _ _ _ hnone]
        simp [h.size]
        simp at hcs
        omega
      · intro d' hd'
        rw [put_new _ _ _ hnone]
        have hr := row_set B h.len d k d' hd hk hd' true
        rw [hB] at hr
        simp only [List.countP_append, h.row d' hd']
        simp only [Bool.false_eq_true, and_false, if_false, and_true, Nat.add_zero] at hr
        rw [hr]
        by_cases e : d' = d
        · subst e; simp
        · have : ¬ dn d = dn d' := fun e' => e (dn_inj d hd d' hd' e').symm
          simp [e, this]

theorem Dirs.drop {L : Ents} {B : List Bool} (h : Dirs L B) {d k : Nat} (hd : d < 2) (hk : k < 4) :
    ((dropM L (pn d k) false).1 = if B.getD (d * 4 + k) false then 0 else 65282) ∧ Dirs (dropM L (pn d k) false).2 (B.set (d * 4 + k) false) := by
  have ha := h.above (k := k) hd
  have hg := h.get d hd k hk
  have hj : d * 4 + k < B.length := by rw [h.len]; omega
  unfold dropM getM
  simp only [split_pn d hd k hk, ha, ne_eq, not_true_eq_false, if_false]
  cases hx : get? L (dn d, kn k) with
  | none =>
    rw [hx] at hg
    simp only [Option.isSome_none] at hg
    rw [← hg]
    have : B.set (d * 4 + k) false = B := by
      apply List.ext_getElem?
      intro i
      rw [List.getElem?_set]
      split
      · rename_i e; subst e
        simp [hj]
        rw [List.getD_eq_getElem?_getD, List.getElem?_eq_getElem hj] at hg
        simpa using hg
      · rfl
    simp [this, h]
  | some e =>
    have hf := h.file d hd k hk e hx
    rw [hx] at hg
    simp only [Option.isSome_some] at hg
    rw [← hg]
    obtain ⟨i, d0⟩ := e
    simp only at hf
    subst hf
    obtain ⟨P, R, e1, e2⟩ := del_split L _ _ hx
    have hcs := count_set B (d * 4 + k) hj false
    rw [← hg] at hcs
    simp only [not_true_eq_false, if_false, Bool.not_false, Bool.and_false, Bool.false_eq_true, Bool.false_and, if_true, true_and]
    refine ⟨by simp [h.len], ?_, ?_, ?_, ?_, ?_, nodup_del h.nodup _⟩
    · intro d' hd' k' hk'
      rw [get_del _ h.nodup, getD_set B _ _ _ hj]
      by_cases e : (dn d, kn k) = (dn d', kn k')
      · simp only [Prod.mk.injEq] at e
        have e1 := dn_inj d hd d' hd' e.1
        have e2 := kn_inj k hk k' hk' e.2
        subst e1 e2
        simp
      · have : ¬ (d' * 4 + k' = d * 4 + k) := by
          intro e'
          have : d' = d ∧ k' = k := by omega
          exact e (by rw [this.1, this.2])
        simp [e, this, h.get d' hd' k' hk']
    · intro d' hd' k' hk' x hx
      rw [get_del _ h.nodup] at hx
      split at hx
      · cases hx
      · exact h.file d' hd' k' hk' x hx
    · intro d' hd'
      obtain ⟨i, hi⟩ := h.dir d' hd'
      refine ⟨i, ?_⟩
      rw [get_del _ h.nodup, if_neg (by simp [dn_ne])]
      exact hi
    · have hs := h.size
      rw [e2]
      rw [e1] at hs
      simp at hs hcs ⊢
      omega
    · intro d' hd'
      have hr := row_set B h.len d k d' hd hk hd' false
      rw [← hg] at hr
      have hrow := h.row d' hd'
      rw [e2]
      rw [e1] at hrow
      simp only [List.countP_append, List.countP_cons] at hrow ⊢
      simp only [and_true, Bool.false_eq_true, and_false, if_false, Nat.add_zero] at hr
      by_cases e : d' = d
      · subst e; simp at hr hrow; omega
      · have : ¬ dn d = dn d' := fun e' => e (dn_inj d hd d' hd' e').symm
        simp [e] at hr
        simp [this] at hrow
        omega

theorem Dirs.many {L : Ents} {B : List Bool} (h : Dirs L B) {d : Nat} (hd : d < 2) : manyC L (dn d) = rowC B d ∧ (0 < rowC B d → dropM L (dn d) true = (65319, L)) := by
  obtain ⟨i, hi⟩ := h.dir d hd
  have hget : getM L (dn d) = ((i, true), 0) := by
    unfold getM
    simp [split_dn d hd, aboveM, dn_ne, hi]
  have hm : manyM L (dn d) = rowC B d := h.row d hd
  refine ⟨by simp [manyC, hget, hm], fun h0 => ?_⟩
  simp [dropM, hget, hm, h0]

def B0 : List Bool := List.replicate 8 false
def Lde : Ents := [((E0, dn 0), (0, true)), ((E0, dn 1), (1, true))]
theorem dirs_start : newM [⟨dn 0, true, 0⟩, ⟨dn 1, true, 0⟩] = some (Lde, 2) := by kernel_rfl
theorem dirs_zero : Dirs Lde B0 := by
  refine ⟨rfl, ?_, ?_, ?_, rfl, ?_, by unfold NodupK; decide⟩
  · intro d _ k _
    have : B0.getD (d * 4 + k) false = false := by rw [B0, List.getD_eq_getElem?_getD, List.getElem?_replicate]; split <;> rfl
    rw [this]
    have : get? Lde (dn d, kn k) = none := by simp [get?, Lde, (dn_ne d).symm]
    simp [this]
  · intro d _ k _ e he
    have : get? Lde (dn d, kn k) = none := by simp [get?, Lde, (dn_ne d).symm]
    rw [this] at he; cases he
  · intro d hd
    match d, hd with
    | 0, _ => exact ⟨0, by simp [Lde, get?]⟩
    | 1, _ => exact ⟨1, by kernel_rfl⟩
  · intro d hd
    match d, hd with
    | 0, _ => exact (by kernel_rfl : Lde.countP (fun p => p.1.1 = dn 0) = rowC B0 0)
    | 1, _ => exact (by kernel_rfl : Lde.countP (fun p => p.1.1 = dn 1) = rowC B0 1)
end Go.Proofs.Ytbcnfegmmhioeaa
