/- Names of files and directories, as this program has them: plain functions on texts. -/
import Derived.Test.YtbcnfegmmhioeaaLib
import Derived.Lib.IndexLaws
import Derived.Lib.Strings
namespace Go.Proofs.Ytbcnfegmmhioeaa
open Go.RowKit

def letterB (c : UInt8) : Bool := (decide (97 ≤ c) && decide (c ≤ 122)) || (decide (48 ≤ c) && decide (c ≤ 57)) || c == 46 || c == 95
/-- A part of a name. -/
def partB (s : ByteArray) : Bool := s.data.toList.all letterB && (!s.data.toList.isEmpty && !(s.data.toList == [46]) && !(s.data.toList == [46, 46]))
def slash (s : ByteArray) : Int := Lib.indexByte s.data.toList 47
/-- strings.Cut at a stroke. -/
def cutS (s : ByteArray) : ByteArray × ByteArray × Bool :=
  if 0 ≤ slash s then (s.extract 0 (slash s).toNat, s.extract ((slash s).toNat + 1) s.size, true) else (s, E0, false)
/-- A name. -/
def nameB (s : ByteArray) : Bool := decide (s.size ≤ 8) && (partB (cutS s).1 && (!(cutS s).2.2 || partB (cutS s).2.1))
/-- A name's directory, and its last part. -/
def splitS (s : ByteArray) : ByteArray × ByteArray :=
  if nameB s then (if (cutS s).2.2 then ((cutS s).1, (cutS s).2.1) else (E0, (cutS s).1)) else (E0, E0)

theorem slash_lt {s : ByteArray} (h : 0 ≤ slash s) : (slash s).toNat < s.size := by
  obtain ⟨n, hn⟩ := Int.eq_ofNat_of_zero_le h
  have h1 := (Lib.indexByte_some (l := s.data.toList) (c := 47) (o := n) hn).1
  have := (List.getElem?_eq_some_iff.1 h1).1
  rw [hn, Int.toNat_natCast]
  rw [Lib.size_eq]
  exact this
theorem slash_ge (s : ByteArray) : -1 ≤ slash s := Lib.indexByte_ge _ _
end Go.Proofs.Ytbcnfegmmhioeaa
