/- The law's bound on programs, walked: it answers, whatever. -/
import Derived.Test.YtbcnfegmmhioeaaCheck2
import Derived.RegionTactic
namespace Go.Proofs.Ytbcnfegmmhioeaa
open Go.RowKit

def PostBool (w : World) (e : Ending) (w' : World) : Prop := ∃ b, e = .returned (.bool b) ∧ Below w.heap.size w w'

set_option maxRecDepth 100000 in
theorem small_any {w : World} (A : Option Addr) (n c : Nat) (B : Option Addr) (d : Nat) (Ns : List ByteArray) (hB : IsSl 1 strC w B Ns) (hN : Ns.length ≤ 9223372036854775807) :
    Calls Try.prog 22 #[progV A n c B Ns.length d] w (PostBool w) := by
  have hlI : (Ns.length : Int) ≤ 9223372036854775807 := by omega
  have hp0 : (w.alloc (.cells #[.slice A n c, .slice B Ns.length d] 43)).heap[w.heap.size]? = some (.cells #[.slice A n c, .slice B Ns.length d] 43 (0, 0)) := blk_new _ _
  have HP0 := Lib.hid hp0
  clear hp0
  go_enter Try.func22, Try.ntmps22
  go_wp2_with fail
  go_loopw [3, 4] (fun z x wr => ∃ (y : Int) (k : Nat), z = .int .i64 y ∧ x = .int .i64 k ∧ k ≤ Ns.length ∧ wr = w.alloc (.cells #[.slice A n c, .slice B Ns.length d] 43)) (fun z x wr => Ns.length - (intOf x).toNat)
  case atStart => exact ⟨0, 0, rfl, rfl, Nat.zero_le _, rfl⟩
  case round =>
    obtain ⟨y, k, rfl, rfl, hk, rfl⟩ := hrel
    have p0 : (w.alloc (.cells #[.slice A n c, .slice B Ns.length d] 43)).cell? ⟨w.heap.size, 0, none⟩ = some (.slice A n c) := blk_cell HP0 0
    have p1 : (w.alloc (.cells #[.slice A n c, .slice B Ns.length d] 43)).cell? ⟨w.heap.size, 1, none⟩ = some (.slice B Ns.length d) := blk_cell HP0 1
    by_cases hlt : k < Ns.length
    · have hltI : (k : Int) < Ns.length := by omega
      obtain ⟨x, hx⟩ : ∃ x, Ns[k]? = some x := ⟨Ns[k], List.getElem?_eq_getElem hlt⟩
      obtain ⟨b1, o1, rfl, hs1, hc1⟩ := hB.at_ hx
      have d1 : ∀ W [SameB w W b1], W.cell? ⟨b1, o1 + k, none⟩ = some (.string x) := fun W _ => by simpa using hc1 W 0 _ rfl
      clear hc1 hx
      go_wp2_with fail
      go_roundw
      case rel => exact ⟨_, k + 1, rfl, by go_num, by omega, trivial⟩
      case measure => simp [intOf]; omega
    · have hltI : ¬ (k : Int) < Ns.length := by omega
      go_wp2_with fail
      all_goals
        go_ret
        exact ⟨_, rfl, bel⟩
end Go.Proofs.Ytbcnfegmmhioeaa
