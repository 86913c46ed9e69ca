/- A slice's literal of many elements, as one step of a walk. -/
import Derived.Test.YtbcnfegmmhioeaaLib
import Derived.Deep.MidRow
namespace Go.Proofs.Ytbcnfegmmhioeaa
open Go.RowKit

theorem wpList_buildSlice {P : Program} {ops : Array Oper} {rest : List Oper} {op : Oper} {a : Act} {w w' : World} {Q : Exit → Act → World → Prop} (hgd : op.guard = none) (t : TypeId) (n : Nat) (ps : Array (Nat × Operand)) (ho : op.op = .buildSlice t n ps)
    (vals : Array (Nat × Value)) (hv : ps.toList.map (fun p => (p.1, a.eval p.2)) = vals.toList) {v : Value} (hr : (Instr.buildSlice t n vals).run P w = .ok v w')
    (h : wpList P ops Q rest (a.put op.dst v) w') : wpList P ops Q (op :: rest) a w :=
  wpList_plain hgd fun K hK => by
    unfold Oper.wp execOp
    have hv2 : ps.map (fun p => (p.1, a.eval p.2)) = vals := Array.toList_inj.1 (by rw [Array.toList_map, hv])
    subst hv2
    simp only [ho]
    have hr' : (Instr.buildSlice t n (ps.map fun x => match x with | (i, x) => (i, a.eval x))).run P w = .ok v w' := hr
    simp only [Sem.run_bind, Sem.run_pure, hr', Result.andThen_ok]
    exact hK _ _ h
end Go.Proofs.Ytbcnfegmmhioeaa
