/- One byte as a text. -/
import Derived.Test.YtbcnfegmmhioeaaLib
import Derived.Test.YtbcnfegmmhioeaaChecked
import Derived.Laws.BytesArg
namespace Go.Proofs.Ytbcnfegmmhioeaa
open Go.RowKit

theorem byte1 (W : World) (a : Int) (n : Nat) : (convert 22 9 (.slice (some ⟨W.heap.size, 0, none⟩) 1 n)).run Try.prog (W.alloc (.cells #[.int .u8 a] 5)).drew =
    .ok (.string ⟨#[UInt8.ofNat a.toNat]⟩) (W.alloc (.cells #[.int .u8 a] 5)).drew := by
  have := run_convert_bytes_arg (P := Try.prog) (W.alloc (.cells #[.int .u8 a] 5)).drew 22 5 Try.underlying22 Try.underlying5 W.heap.size 0 1 n [a] rfl (by
    intro i hi
    rw [blk_cell (blk_drew (blk_new _ _))]
    match i, hi with
    | 0, _ => rfl) 9 Try.underlying9
  rw [this]; rfl
theorem byte1n (W : World) (a : Int) (n : Nat) : (convert 22 9 (.slice (some ⟨W.heap.size, 0, none⟩) 1 n)).run Try.prog (W.alloc (.cells #[.int .u8 a] 5)) =
    .ok (.string ⟨#[UInt8.ofNat a.toNat]⟩) (W.alloc (.cells #[.int .u8 a] 5)) := by
  have := run_convert_bytes_arg (P := Try.prog) (W.alloc (.cells #[.int .u8 a] 5)) 22 5 Try.underlying22 Try.underlying5 W.heap.size 0 1 n [a] rfl (by
    intro i hi
    rw [blk_cell (blk_new _ _)]
    match i, hi with
    | 0, _ => rfl) 9 Try.underlying9
  rw [this]; rfl

end Go.Proofs.Ytbcnfegmmhioeaa
