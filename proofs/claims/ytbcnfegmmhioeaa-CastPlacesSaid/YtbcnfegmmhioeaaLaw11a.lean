/- Two rows of the same numbers are the same, walked. -/
import Derived.Test.YtbcnfegmmhioeaaLib
import Derived.Test.YtbcnfegmmhioeaaChecked
import Derived.RegionTactic
namespace Go.Proofs.Ytbcnfegmmhioeaa
open Go.RowKit

def intC (z : Int) : List Value := [.int .i64 z]
set_option maxRecDepth 100000 in
theorem same_any {w : World} (A B : Option Addr) (c d : Nat) (l : List Int) (hA : IsSl 1 intC w A l) (hB : IsSl 1 intC w B l) (hl : l.length ≤ 1000000) :
    Calls Try.prog 25 #[.slice A l.length c, .slice B l.length d] w fun e w' => e = .returned (.bool true) ∧ Below w.heap.size w w' := by
  have hlI : (l.length : Int) ≤ 1000000 := by omega
  go_enter Try.func25, Try.ntmps25
  go_wp2_with fail
  go_loopw [5] (fun x wr => ∃ k : Nat, x = .int .i64 k ∧ k ≤ l.length ∧ Below w.heap.size w wr) (fun x wr => l.length - (intOf x).toNat)
  case atStart => exact ⟨0, rfl, Nat.zero_le _, Below.refl _ _⟩
  case round =>
    obtain ⟨k, rfl, hk, hbw⟩ := hrel
    obtain ⟨w1, rfl⟩ : ∃ v, v = wr := ⟨wr, rfl⟩
    have s1l : Bel w w1 := ⟨hbw⟩
    by_cases hlt : k < l.length
    · have hltI : (k : Int) < l.length := by omega
      obtain ⟨x, hx⟩ : ∃ x, l[k]? = some x := ⟨l[k], List.getElem?_eq_getElem hlt⟩
      obtain ⟨b1, o1, rfl, hs1, hc1⟩ := (hA.below hbw).at_ hx
      obtain ⟨b2, o2, rfl, hs2, hc2⟩ := (hB.below hbw).at_ hx
      have d1 : ∀ W [SameB w1 W b1], W.cell? ⟨b1, o1 + k, none⟩ = some (.int .i64 x) := fun W _ => by simpa using hc1 W 0 _ rfl
      have d2 : ∀ W [SameB w1 W b2], W.cell? ⟨b2, o2 + k, none⟩ = some (.int .i64 x) := fun W _ => by simpa using hc2 W 0 _ rfl
      clear hc1 hc2 hx
      go_wp2_with fail
      go_region
      go_wp2_with fail
      go_roundw
      case rel => exact ⟨k + 1, by go_num, by omega, bel⟩
      case measure => simp [intOf]; omega
    · have hltI : ¬ (k : Int) < l.length := by omega
      go_wp2_with fail
      go_ret
      exact ⟨rfl, hbw⟩
end Go.Proofs.Ytbcnfegmmhioeaa
