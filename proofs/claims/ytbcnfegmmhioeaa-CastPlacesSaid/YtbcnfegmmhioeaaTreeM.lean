/- Package tree, as plain functions on a list of entries. -/
import Derived.Test.YtbcnfegmmhioeaaNamesM
import Derived.Test.YtbcnfegmmhioeaaKeys
namespace Go.Proofs.Ytbcnfegmmhioeaa
open Go.RowKit

abbrev TKey := ByteArray × ByteArray
abbrev Ents := List (TKey × (Int × Bool))
def entV (e : Int × Bool) : Value := .agg #[.int .i64 e.1, .bool e.2]
/-- A tree as it lies in memory: a struct's block and a map's. -/
def IsTree (w : World) (g b : Nat) (L : Ents) (nx : Int) : Prop :=
  w.heap[g]? = some (.cells #[.map (some b), .int .i64 nx] 143 (0, 0)) ∧ IsMap treeKey entV w b L

def aboveM (L : Ents) (k : TKey) : Int :=
  if k.2 = E0 then 65282 else if k.1 = E0 then 0 else match get? L (E0, k.1) with
    | none => 65282
    | some e => if e.2 then 0 else 65300
/-- What stands at a path, or why nothing does. -/
def getM (L : Ents) (s : ByteArray) : (Int × Bool) × Int :=
  if aboveM L (splitS s) ≠ 0 then ((0, false), aboveM L (splitS s)) else match get? L (splitS s) with
    | none => ((0, false), 65282)
    | some e => (e, 0)
def findM (L : Ents) (s : ByteArray) : Int × Bool × Int :=
  if (getM L s).2 ≠ 0 then (-1, false, (getM L s).2) else ((getM L s).1.1, (getM L s).1.2, 0)
/-- Make: the number, the code, the tree behind it. -/
def makeM (L : Ents) (nx : Int) (s : ByteArray) (dir : Bool) : Int × Int × Ents × Int :=
  let k := splitS s
  if aboveM L k ≠ 0 then (-1, aboveM L k, L, nx)
  else if (get? L k).isSome then (-1, 65297, L, nx)
  else if dir ∧ k.1 ≠ E0 then (-1, 65302, L, nx)
  else if 8 ≤ L.length then (-1, 65308, L, nx)
  else (nx, 0, put L k (nx, dir), nx + 1)
def manyM (L : Ents) (s : ByteArray) : Nat := L.countP (fun p => p.1.1 = s)
def dropM (L : Ents) (s : ByteArray) (dir : Bool) : Int × Ents :=
  let x := getM L s
  if x.2 ≠ 0 then (x.2, L)
  else if !dir && x.1.2 then (65301, L)
  else if dir && !x.1.2 then (65300, L)
  else if dir && decide (0 < manyM L s) then (65319, L)
  else (0, del L (splitS s))
def manyC (L : Ents) (s : ByteArray) : Int :=
  let x := getM L s
  if x.2 ≠ 0 then x.2 else if !x.1.2 then 65300 else manyM L s

/-- An entry of a class. -/
structure EntM where
  path : ByteArray
  dir : Bool
  cap : Int
def entC (x : EntM) : List Value := [.string x.path, .bool x.dir, .int .i64 x.cap]
def newFold : Ents → Int → List EntM → Option (Ents × Int)
  | L, nx, [] => some (L, nx)
  | L, nx, x :: r => if nameB x.path then (if (makeM L nx x.path x.dir).2.1 = 0 then newFold (makeM L nx x.path x.dir).2.2.1 (makeM L nx x.path x.dir).2.2.2 r else none) else none
/-- tree.New. -/
def newM (l : List EntM) : Option (Ents × Int) := if 8 < l.length then none else newFold [] 0 l

theorem put_length {κ ν : Type} [DecidableEq κ] (L : List (κ × ν)) (k : κ) (v : ν) : (put L k v).length ≤ L.length + 1 := by
  induction L with
  | nil => simp [put]
  | cons p L ih =>
    obtain ⟨a, x⟩ := p
    unfold put
    split
    · simp
    · simp only [List.length_cons]; omega
theorem del_length {κ ν : Type} [DecidableEq κ] (L : List (κ × ν)) (k : κ) : (del L k).length ≤ L.length := by
  induction L with
  | nil => simp [del]
  | cons p L ih =>
    obtain ⟨a, x⟩ := p
    unfold del
    split
    · simp
    · simp only [List.length_cons]; omega
theorem make_nx (L : Ents) (nx : Int) (s : ByteArray) (dir : Bool) : nx ≤ (makeM L nx s dir).2.2.2 ∧ (makeM L nx s dir).2.2.2 ≤ nx + 1 := by
  unfold makeM
  simp only
  split
  · simp; omega
  · split
    · simp; omega
    · split
      · simp; omega
      · split
        · simp; omega
        · simp; omega
theorem make_length (L : Ents) (nx : Int) (s : ByteArray) (dir : Bool) (h : L.length ≤ 8) : (makeM L nx s dir).2.2.1.length ≤ 8 := by
  unfold makeM
  simp only
  split
  · exact h
  · split
    · exact h
    · split
      · exact h
      · split
        · exact h
        · have := put_length L (splitS s) (nx, dir)
          simp only
          omega
end Go.Proofs.Ytbcnfegmmhioeaa
