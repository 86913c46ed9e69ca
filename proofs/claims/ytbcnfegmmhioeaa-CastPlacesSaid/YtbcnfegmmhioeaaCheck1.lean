/- The kinds of instructions, walked. -/
import Derived.Test.YtbcnfegmmhioeaaCheckM
import Derived.Test.YtbcnfegmmhioeaaLib
import Derived.Test.YtbcnfegmmhioeaaChecked
namespace Go.Proofs.Ytbcnfegmmhioeaa
open Go.RowKit

theorem cell_new (w : World) (cs : Array Value) (t : TypeId) (i : Nat) : (w.alloc (.cells cs t)).cell? ⟨w.heap.size, i, none⟩ = cs[i]? := blk_cell (blk_new w (.cells cs t)) i

def kindV (op : Int) : Value := match kindM op with | some k => .agg #[.int .i64 k.1, .int .i64 k.2.1, .int .i64 k.2.2] | none => .agg #[.int .i64 0, .int .i64 0, .int .i64 0]

set_option maxRecDepth 100000 in
set_option maxHeartbeats 4000000 in
theorem table_any (op : Int) (w : World) :
    Calls Try.prog 193 #[.int .i64 op] w fun e w' => e = .returned (.tuple #[kindV op, .bool (kindM op).isSome]) ∧ Below w.heap.size w w' := by
  go_enter Try.func193, Try.ntmps193
  go_wp2
  all_goals (
    simp only [beq_iff_eq, beq_eq_false_iff_ne, ne_eq] at *
    first
      | (have hk : kindM op = none := by unfold kindM; exact if_neg (by omega)
         simp only [kindV, hk, Option.isSome_none]
         refine bodyPost_ret (v := .tuple #[.agg #[.int .i64 0, .int .i64 0, .int .i64 0], .bool false]) (by simp [results, Try.results193, go_sem]) rfl ⟨rfl, bel⟩)
      | (subst_vars
         refine bodyPost_ret (v := _) (by simp [results, Try.results193, go_sem]; exact ⟨by kernel_rfl, by kernel_rfl⟩) rfl ⟨rfl, bel⟩))
end Go.Proofs.Ytbcnfegmmhioeaa
