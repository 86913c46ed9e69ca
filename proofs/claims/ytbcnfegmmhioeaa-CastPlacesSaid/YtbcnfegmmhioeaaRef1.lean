/- The document's own table of instructions, walked. -/
import Derived.Test.YtbcnfegmmhioeaaCheck4
import Derived.Test.YtbcnfegmmhioeaaBuild
import Derived.Deep.WholeRow
namespace Go.Proofs.Ytbcnfegmmhioeaa
open Go.RowKit

def refL : List (ByteArray × Int × Int × Int) :=
  [(⟨#[]⟩, 0, 0, 0),
   (⟨#[112, 117, 115, 104]⟩, 0, 1, 65535),
   (⟨#[112, 111, 112]⟩, 1, 0, 0),
   (⟨#[100, 117, 112]⟩, 1, 2, 0),
   (⟨#[115, 119, 97, 112]⟩, 2, 2, 0),
   (⟨#[97, 100, 100]⟩, 2, 1, 0),
   (⟨#[115, 117, 98]⟩, 2, 1, 0),
   (⟨#[109, 117, 108]⟩, 2, 1, 0),
   (⟨#[100, 105, 118]⟩, 2, 1, 0),
   (⟨#[109, 111, 100]⟩, 2, 1, 0),
   (⟨#[97, 110, 100]⟩, 2, 1, 0),
   (⟨#[111, 114]⟩, 2, 1, 0),
   (⟨#[120, 111, 114]⟩, 2, 1, 0),
   (⟨#[115, 104, 108]⟩, 2, 1, 0),
   (⟨#[115, 104, 114]⟩, 2, 1, 0),
   (⟨#[101, 113]⟩, 2, 1, 0),
   (⟨#[108, 116]⟩, 2, 1, 0),
   (⟨#[110, 111, 116]⟩, 1, 1, 0),
   (⟨#[103, 101, 116]⟩, 0, 1, 7),
   (⟨#[115, 101, 116]⟩, 1, 0, 7),
   (⟨#[108, 111, 97, 100]⟩, 1, 1, 0),
   (⟨#[115, 116, 111, 114, 101]⟩, 2, 0, 0),
   (⟨#[106, 117, 109, 112]⟩, 0, 0, 95),
   (⟨#[122, 101, 114, 111]⟩, 1, 0, 95),
   (⟨#[111, 117, 116]⟩, 1, 0, 0),
   (⟨#[97, 115, 115, 101, 114, 116]⟩, 1, 0, 0),
   (⟨#[101, 120, 105, 116]⟩, 1, 0, 0),
   (⟨#[111, 112, 101, 110]⟩, 0, 1, 7),
   (⟨#[99, 108, 111, 115, 101]⟩, 1, 1, 0),
   (⟨#[114, 101, 97, 100]⟩, 3, 1, 0),
   (⟨#[119, 114, 105, 116, 101]⟩, 3, 1, 0),
   (⟨#[115, 101, 101, 107]⟩, 2, 1, 0),
   (⟨#[115, 105, 122, 101]⟩, 1, 1, 0),
   (⟨#[117, 110, 108, 105, 110, 107]⟩, 0, 1, 7),
   (⟨#[114, 101, 110, 97, 109, 101]⟩, 0, 1, 63),
   (⟨#[109, 107, 100, 105, 114]⟩, 0, 1, 7),
   (⟨#[114, 109, 100, 105, 114]⟩, 0, 1, 7),
   (⟨#[108, 105, 115, 116]⟩, 0, 1, 7),
   (⟨#[116, 114, 117, 110, 99]⟩, 2, 1, 0),
   (⟨#[116, 119, 105, 110]⟩, 1, 1, 0),
   (⟨#[97, 114, 103, 99]⟩, 0, 1, 0),
   (⟨#[97, 114, 103]⟩, 2, 1, 0)]
def refC (x : ByteArray × Int × Int × Int) : List Value := [.string x.1, .int .i64 x.2.1, .int .i64 x.2.2.1, .int .i64 x.2.2.2]
def refA : Array Value := (refL.flatMap refC).toArray
def refM (op : Int) : ByteArray × Int × Int × Int := if 1 ≤ op ∧ op < 42 then refL[op.toNat]?.getD (E0, -1, -1, -1) else (E0, -1, -1, -1)
def okM (op : Int) : Bool := decide (1 ≤ op ∧ op < 42)

def refP : Array (Nat × Value) := (refL.zipIdx.map fun x => (x.2, Value.agg (refC x.1).toArray)).toArray
def rowZ : Array Value := #[.string E0, .int .i64 0, .int .i64 0, .int .i64 0]
theorem Try.zero_ref : (Try.prog.info? 251).map (fun i => (i.zero, i.size)) = some (some (.agg rowZ), 4) := by kernel_rfl
theorem ref_fill : Instr.fill (fun i => some (i * 4, 4)) ((Array.range (42 * 4)).map (rowZ[· % rowZ.size]!)) refP.toList = some refA := by kernel_rfl
theorem ref_build (W : World) : (Instr.buildSlice 248 42 refP).run Try.prog W = .ok (.slice (some ⟨W.heap.size, 0, none⟩) 42 42) (W.alloc (.cells refA 251)) := by
  obtain ⟨hz, hzs⟩ := zero_of_info Try.zero_ref
  cases hq : Try.prog.info? 251 with
  | none => rw [hq] at hzs; cases hzs
  | some i =>
    have hs : i.size = 4 := by rw [hq] at hzs; simpa using hzs
    have hc : (Value.agg rowZ).cells = rowZ := rfl
    have hsz : ∀ W, (sizeOf 251).run Try.prog W = .ok 4 W := fun W => by simp [sizeOf, typeInfo, hq, hs, go_sem]
    have hf := ref_fill
    unfold Instr.buildSlice
    have hgt : ¬ 42 * 4 > 2 ^ 24 := by decide
    have hne : ¬ 42 * 4 = 0 := by decide
    simp only [Sem.run_bind, run_underlying Try.underlying248, Result.andThen_ok, hsz, if_neg hgt, if_neg hne, hz, Sem.run_pure, hc]
    rw [hf]
    rfl

set_option maxRecDepth 100000 in
set_option maxHeartbeats 4000000 in
theorem rtable_any (w : World) : Calls Try.prog 170 #[] w fun e w' => e = .returned (.slice (some ⟨w.heap.size, 0, none⟩) 42 42) ∧ w' = w.alloc (.cells refA 251) := by
  go_enter Try.func170, Try.ntmps170
  go_wp2_with (refine wpList_buildSlice rfl 248 42 _ rfl refP rfl (ref_build _) ?_)
  go_ret
  exact ⟨rfl, rfl⟩
end Go.Proofs.Ytbcnfegmmhioeaa
