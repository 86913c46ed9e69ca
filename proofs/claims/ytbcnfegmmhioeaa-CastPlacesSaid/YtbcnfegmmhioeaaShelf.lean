/- The contract of the index of a text of one byte, out of the shelf. -/
import Derived.Shelf.Strings.Search1
import Derived.Shelf.Strings.Search2
import Derived.Test.YtbcnfegmmhioeaaProg
namespace Go.Proofs
open Go.Shelf
def Try.lays219_ren : Go.Shelf.Ren := ⟨fun | 219 => 201 | 217 => 206 | 225 => 207 | 224 => 208 | 267 => 209 | 266 => 210 | 314 => 211 | n => n, fun | 9 => 9 | 3 => 3 | 4 => 4 | 5 => 5 | 46 => 33 | 146 => 285 | 51 => 284 | n => n, fun | 1 => 0 | n => n⟩
theorem Try.lays219 : Go.Proofs.Lays.n219 Try.prog Try.lays219_ren := {
  mixed := by kernel_rfl
  f217 := Try.func206.trans (congrArg some (by kernel_rfl))
  f219 := Try.func201.trans (congrArg some (by kernel_rfl))
  f224 := Try.func208.trans (congrArg some (by kernel_rfl))
  f225 := Try.func207.trans (congrArg some (by kernel_rfl))
  f266 := Try.func210.trans (congrArg some (by kernel_rfl))
  f267 := Try.func209.trans (congrArg some (by kernel_rfl))
  f314 := Try.func211.trans (congrArg some (by kernel_rfl))
  t3 := Try.underlying3
  a3 := Try.isAgg3
  z3 := Try.sizeOf3
  v3 := Try.zeroValue3
  t4 := Try.underlying4
  a4 := Try.isAgg4
  z4 := Try.sizeOf4
  v4 := Try.zeroValue4
  t5 := Try.underlying5
  a5 := Try.isAgg5
  z5 := Try.sizeOf5
  v5 := Try.zeroValue5
  t9 := Try.underlying9
  a9 := Try.isAgg9
  z9 := Try.sizeOf9
  v9 := Try.zeroValue9
  t46 := Try.underlying33
  a46 := Try.isAgg33
  z46 := Try.sizeOf33
  v46 := Try.zeroValue33
  t51 := Try.underlying284
  a51 := Try.isAgg284
  z51 := Try.sizeOf284
  v51 := Try.zeroValue284
  t146 := Try.underlying285
  a146 := Try.isAgg285
  z146 := Try.sizeOf285
  v146 := Try.zeroValue285
  g1 := by kernel_rfl }
theorem Try.stringslite_Index_one (s : ByteArray) (c : UInt8) (w : World) :
    Calls Try.prog 201 #[.string s, .string ⟨#[c]⟩] w fun e w' => e = .returned (.int .i64 (Lib.indexByte s.data.toList c)) ∧ w' = w := Any.stringslite_Index_one Try.lays219 s c w
end Go.Proofs
