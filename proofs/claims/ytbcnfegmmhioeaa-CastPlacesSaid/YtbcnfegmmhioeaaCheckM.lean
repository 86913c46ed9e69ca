/- What the check of a program answers: heights, told by what is reached; the plain law. -/
import Derived.KernelRfl
namespace Go.Proofs.Ytbcnfegmmhioeaa

abbrev InstM := Int × Int
/-- takes, gives, how many As. -/
def kindL : List (Int × Int × Int) :=
  [(0, 0, 0), (0, 1, 65536), (1, 0, 1), (1, 2, 1), (2, 2, 1), (2, 1, 1), (2, 1, 1), (2, 1, 1), (2, 1, 1), (2, 1, 1), (2, 1, 1), (2, 1, 1), (2, 1, 1), (2, 1, 1), (2, 1, 1), (2, 1, 1), (2, 1, 1),
   (1, 1, 1), (0, 1, 8), (1, 0, 8), (1, 1, 1), (2, 0, 1), (0, 0, 96), (1, 0, 96), (1, 0, 1), (1, 0, 1), (1, 0, 1), (0, 1, 8), (1, 1, 1), (3, 1, 1), (3, 1, 1), (2, 1, 1), (1, 1, 1), (0, 1, 8), (0, 1, 64),
   (0, 1, 8), (0, 1, 8), (0, 1, 8), (2, 1, 1), (1, 1, 1), (0, 1, 1), (2, 1, 1)]
def kindM (op : Int) : Option (Int × Int × Int) := if 1 ≤ op ∧ op < 42 then kindL[op.toNat]? else none
def takesM (op : Int) : Int := match kindM op with | some k => k.1 | none => -1
def givesM (op : Int) : Int := match kindM op with | some k => k.2.1 | none => -1
def mayI (i : InstM) : Bool := match kindM i.1 with | some k => decide (0 ≤ i.2) && decide (i.2 < k.2.2) | none => false
def jumpsM (op : Int) : Bool := decide (op = 22) || decide (op = 23)
def endsM (op : Int) : Bool := decide (op = 22) || decide (op = 26)
def namesI (i : InstM) (n : Nat) : Bool :=
  if i.1 = 27 ∨ i.1 = 33 ∨ i.1 = 35 ∨ i.1 = 36 ∨ i.1 = 37 then decide (i.2 < n)
  else if i.1 = 34 then decide (i.2 / 8 < n) && decide (i.2 % 8 < n) else true
def oneM (i : InstM) (len n k : Nat) : Int :=
  if !mayI i then 5 else if !namesI i n then 10 else if jumpsM i.1 && decide ((len : Int) ≤ i.2) then 6 else if !endsM i.1 && decide (k + 1 = len) then 8 else 0

/-- The height behind an instruction; none: it takes, or leaves, too many. -/
def behindM (op : Int) (h : Nat) : Option Nat :=
  if 0 ≤ (h : Int) - takesM op ∧ (h : Int) - takesM op + givesM op ≤ 16 then some ((h : Int) - takesM op + givesM op).toNat else none
def nextM (i : InstM) (k : Nat) : List Nat := (if endsM i.1 then [] else [k + 1]) ++ (if jumpsM i.1 then [i.2.toNat] else [])

theorem kind_bound {op : Int} {k : Int × Int × Int} (h : kindM op = some k) : 0 ≤ k.1 ∧ k.1 ≤ 3 ∧ 0 ≤ k.2.1 ∧ k.2.1 ≤ 2 ∧ 0 ≤ k.2.2 ∧ k.2.2 ≤ 65536 := by
  unfold kindM at h
  split at h
  · have hm := List.mem_of_getElem? h
    have hall : ∀ x ∈ kindL, 0 ≤ x.1 ∧ x.1 ≤ 3 ∧ 0 ≤ x.2.1 ∧ x.2.1 ≤ 2 ∧ 0 ≤ x.2.2 ∧ x.2.2 ≤ 65536 := by decide
    exact hall _ hm
  · cases h

inductive Reach (L : List InstM) : Nat → Nat → Prop
  | start : Reach L 0 0
  | next {k h to m : Nat} {i : InstM} : Reach L k h → L[k]? = some i → behindM i.1 h = some m → to ∈ nextM i k → Reach L to m

/-- Every instruction may be. -/
def WellOnes (L : List InstM) (n : Nat) : Prop := ∀ k i, L[k]? = some i → oneM i L.length n k = 0

theorem WellOnes.next {L : List InstM} {n : Nat} (h : WellOnes L n) {k : Nat} {i : InstM} (hi : L[k]? = some i) {to : Nat} (ht : to ∈ nextM i k) : to < L.length := by
  have ho := h k i hi
  have hk := (List.getElem?_eq_some_iff.1 hi).1
  unfold oneM at ho
  split at ho
  · cases ho
  · rename_i hmay
    split at ho
    · cases ho
    · split at ho
      · cases ho
      · rename_i hj
        split at ho
        · cases ho
        · rename_i he
          simp only [Bool.and_eq_true, decide_eq_true_eq, not_and, Bool.not_eq_true', Int.not_le] at hj he
          unfold nextM at ht
          simp only [List.mem_append] at ht
          rcases ht with ht | ht
          · split at ht
            · cases ht
            · rename_i hen
              simp at ht hen
              have := he hen
              omega
          · split at ht
            · rename_i hju
              simp at ht
              have := hj hju
              have h0 : 0 ≤ i.2 := by
                simp only [Bool.not_eq_true', Bool.not_eq_false] at hmay
                unfold mayI at hmay
                split at hmay
                · simp at hmay; exact hmay.1
                · cases hmay
              omega
            · cases ht
theorem behind_le {L : List InstM} {n : Nat} (_ : WellOnes L n) {op : Int} {h m : Nat} (hb : behindM op h = some m) : m ≤ 16 := by
  unfold behindM at hb
  split at hb
  · cases hb; omega
  · cases hb

theorem Reach.lt {L : List InstM} {n : Nat} (hw : WellOnes L n) (h0 : 0 < L.length) {k h : Nat} (hr : Reach L k h) : k < L.length ∧ h ≤ 16 := by
  induction hr with
  | start => exact ⟨h0, by omega⟩
  | next _ hi hb ht _ => exact ⟨hw.next hi ht, behind_le hw hb⟩

/-- The heights that are told: what is reached and nothing else. -/
def IsReach (L : List InstM) (S : Nat → Nat → Bool) : Prop := ∀ k h, S k h = true ↔ Reach L k h

def SoundR (L : List InstM) (S : Nat → Nat → Bool) : Prop := ∀ k h, S k h = true → Reach L k h
def ClosedAt (L : List InstM) (S : Nat → Nat → Bool) (k h : Nat) : Prop := S k h = true → ∀ i m, L[k]? = some i → behindM i.1 h = some m → ∀ to ∈ nextM i k, S to m = true
theorem isReach_of {L : List InstM} {n : Nat} (hw : WellOnes L n) (h0 : 0 < L.length) {S : Nat → Nat → Bool} (hs : SoundR L S) (h00 : S 0 0 = true) (hc : ∀ k h, k < L.length → h < 17 → ClosedAt L S k h) : IsReach L S := by
  refine fun k h => ⟨hs k h, fun hr => ?_⟩
  induction hr with
  | start => exact h00
  | next hr hi hb ht ih =>
    have := hr.lt hw h0
    exact hc _ _ this.1 (by omega) ih _ _ hi hb _ ht

def setS (S : Nat → Nat → Bool) (k h : Nat) : Nat → Nat → Bool := fun k' h' => if k' = k ∧ h' = h then true else S k' h'
theorem SoundR.set {L : List InstM} {S : Nat → Nat → Bool} (hs : SoundR L S) {k h : Nat} (hr : Reach L k h) : SoundR L (setS S k h) := by
  intro k' h' hk
  unfold setS at hk
  split at hk
  · rename_i e; obtain ⟨rfl, rfl⟩ := e; exact hr
  · exact hs _ _ hk
theorem setS_same {S : Nat → Nat → Bool} {k h : Nat} (hk : S k h = true) : setS S k h = S := by
  funext k' h'
  unfold setS
  split
  · rename_i e; obtain ⟨rfl, rfl⟩ := e; exact hk.symm
  · rfl
theorem setS_at (S : Nat → Nat → Bool) (k h : Nat) : setS S k h k h = true := by simp [setS]
theorem setS_mono {S : Nat → Nat → Bool} {k h k' h' : Nat} (hk : S k' h' = true) : setS S k h k' h' = true := by
  unfold setS; split
  · rfl
  · exact hk

/-- How many are not told yet. -/
def leftS (S : Nat → Nat → Bool) : Nat := (List.range 1632).countP fun i => !S (i / 17) (i % 17)
theorem leftS_set {S : Nat → Nat → Bool} {k h : Nat} (hk : k < 96) (hh : h < 17) (hS : S k h = false) : leftS (setS S k h) < leftS S := by
  have gen : ∀ (l : List Nat), (∀ i ∈ l, setS S k h (i / 17) (i % 17) = true → True) → l.countP (fun i => !setS S k h (i / 17) (i % 17)) ≤ l.countP (fun i => !S (i / 17) (i % 17)) := by
    intro l _
    refine List.countP_mono_left fun i _ hi => ?_
    simp only [Bool.not_eq_true'] at hi ⊢
    unfold setS at hi
    split at hi
    · cases hi
    · exact hi
  have hmem : k * 17 + h ∈ List.range 1632 := by simp; omega
  obtain ⟨p, q, e⟩ := List.append_of_mem hmem
  unfold leftS
  rw [e]
  simp only [List.countP_append, List.countP_cons]
  have h1 := gen p (fun _ _ _ => trivial)
  have h2 := gen q (fun _ _ _ => trivial)
  have e1 : (k * 17 + h) / 17 = k := by omega
  have e2 : (k * 17 + h) % 17 = h := by omega
  rw [e1, e2, hS, setS_at]
  simp
  omega

/-! ### an instruction's one height -/
/-- Going through heights 0 .. j-1 of a row: the last told, and whether all is well. -/
def rowM (op : Int) (R : Nat → Bool) : Nat → Int × Bool
  | 0 => (-1, true)
  | j + 1 => if R j then ((j : Int), (rowM op R j).2 && (behindM op j).isSome && decide ((rowM op R j).1 = -1)) else rowM op R j
theorem rowM_lt (op : Int) (R : Nat → Bool) : ∀ j, -1 ≤ (rowM op R j).1 ∧ (rowM op R j).1 < j := by
  intro j
  induction j with
  | zero => simp [rowM]
  | succ j ih => unfold rowM; split <;> simp <;> omega

/-- The whole answer: where, why, the heights. -/
def stackM (L : List InstM) (S : Nat → Nat → Bool) : Option Nat := (List.range L.length).find? fun k => !(rowM ((L[k]?.getD (0, 0)).1) (S k) 17).2
def heightsM (L : List InstM) (S : Nat → Nat → Bool) : List Int := (List.range L.length).map fun k => (rowM ((L[k]?.getD (0, 0)).1) (S k) 17).1
/-- What stands ahead of the heights. -/
def firstM (L : List InstM) (n : Nat) : Option (Nat × Int) :=
  (List.range L.length).findSome? fun k => if oneM (L[k]?.getD (0, 0)) L.length n k = 0 then none else some (k, oneM (L[k]?.getD (0, 0)) L.length n k)
def runM (L : List InstM) (n : Nat) (well : Bool) (S : Nat → Nat → Bool) : Nat × Int :=
  if L.length = 0 ∨ 96 < L.length ∨ 8 < n then (0, 3) else if !well then (0, 10) else
  match firstM L n with
  | some x => x
  | none => match stackM L S with
    | some k => (k, 7)
    | none => (0, 0)
end Go.Proofs.Ytbcnfegmmhioeaa
