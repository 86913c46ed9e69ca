/- Classes of inputs, as this program and the document have them: plain functions. -/
import Derived.Test.YtbcnfegmmhioeaaTreeM
import Derived.Test.YtbcnfegmmhioeaaNamesM
namespace Go.Proofs.Ytbcnfegmmhioeaa
open Go.RowKit

/-- A class. -/
structure ClsM where
  tree : List EntM
  args : List Int
  calls : Int
  fails : Int
  fuel : Int
/-- An input. -/
structure InpM where
  files : List (List UInt8)
  args : List (List UInt8)
  fails : List Bool

def filesM (c : ClsM) : List Nat := (List.range c.tree.length).filter fun i => match c.tree[i]? with | some x => !x.dir | none => false
def fcapsM (c : ClsM) : List Int := (c.tree.filter (fun x => !x.dir)).map (·.cap)
def capsM (c : ClsM) : List Int := fcapsM c ++ c.args
def fitsM (n m : Int) : Bool := decide (0 ≤ n) && decide (n ≤ m)
def nfiles (c : ClsM) : Nat := (c.tree.filter (fun x => !x.dir)).length
def mayC (c : ClsM) : Bool :=
  (newM c.tree).isSome && decide (nfiles c ≤ 4) && decide (c.args.length ≤ 2) && c.tree.all (fun x => fitsM x.cap 3 && !(x.dir && x.cap != 0)) && c.args.all (fun n => fitsM n 3) && fitsM c.calls 6 && fitsM c.fails c.calls && fitsM c.fuel 400
def nfails (l : List Bool) : Nat := l.countP id
def fitTexts : List (List UInt8) → List Int → Bool
  | t :: ts, c :: cs => decide ((t.length : Int) ≤ c) && fitTexts ts cs
  | _, _ => true
def hasC (c : ClsM) (i : InpM) : Bool :=
  mayC c && decide (i.files.length = nfiles c) && decide (i.args.length = c.args.length) && decide ((i.fails.length : Int) = c.calls) && decide ((nfails i.fails : Int) ≤ c.fails) && fitTexts i.files (fcapsM c) && fitTexts i.args c.args
/-- So many variables. -/
def sumV (l : List Int) : Int := (l.map (1 + ·)).sum
def varsM (c : ClsM) : Int := if mayC c then c.calls + sumV (capsM c) else 0
def sizeM (c : ClsM) (i : Int) : Int := if mayC c = true ∧ 0 ≤ i ∧ i < (capsM c).length then sumV ((capsM c).take i.toNat) else -1
end Go.Proofs.Ytbcnfegmmhioeaa
