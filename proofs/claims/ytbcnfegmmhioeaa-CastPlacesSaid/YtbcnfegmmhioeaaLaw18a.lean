/- Two rows of numbers of 16 bits: are they the same? Walked. -/
import Derived.Test.YtbcnfegmmhioeaaEnv
namespace Go.Proofs.Ytbcnfegmmhioeaa
open Go.RowKit

theorem ne_take {l m : List Int} {k : Nat} {x y : Int} (hx : l[k]? = some x) (hy : m[k]? = some y) (h : x ≠ y) : decide (l = m) = false := by
  rw [decide_eq_false_iff_not]
  rintro rfl
  rw [hx] at hy
  cases hy
  exact h rfl
theorem take_succ_eq {l m : List Int} {k : Nat} {x : Int} (hx : l[k]? = some x) (hy : m[k]? = some x) (h : l.take k = m.take k) : l.take (k + 1) = m.take (k + 1) := by
  rw [List.take_add_one, List.take_add_one, hx, hy, h]

def u16Row (z : Int) : List Value := [.int .u16 z]
set_option maxRecDepth 100000 in
theorem same18_any {w : World} (A B : Option Addr) (c d : Nat) (l m : List Int) (hA : IsSl 1 u16Row w A l) (hB : IsSl 1 u16Row w B m) (hl : l.length ≤ 1000000) (hm : m.length ≤ 1000000) :
    Calls Try.prog 38 #[.slice A l.length c, .slice B m.length d] w fun e w' => e = .returned (.bool (decide (l = m))) ∧ Below w.heap.size w w' := by
  have hlI : (l.length : Int) ≤ 1000000 := by omega
  have hmI : (m.length : Int) ≤ 1000000 := by omega
  by_cases hne : l.length = m.length
  · have hneI : ((l.length : Int) == m.length) = true := by simp [hne]
    have HA := Lib.hid hA
    have HB := Lib.hid hB
    have HNE := Lib.hid hne
    clear hA hB hne hm
    go_enter Try.func38, Try.ntmps38
    go_wp2_with fail
    go_loopw [5] (fun x wr => ∃ k : Nat, x = .int .i64 k ∧ k ≤ l.length ∧ Below w.heap.size w wr ∧ Hid (l.take k = m.take k)) (fun x wr => l.length - (intOf x).toNat)
    case atStart => exact ⟨0, rfl, Nat.zero_le _, Below.refl _ _, Lib.hid rfl⟩
    case round =>
      obtain ⟨k, rfl, hk, hbw, heq⟩ := hrel
      obtain ⟨w1, rfl⟩ : ∃ v, v = wr := ⟨wr, rfl⟩
      have s1l : Bel w w1 := ⟨hbw⟩
      by_cases hlt : k < l.length
      · have hltI : (k : Int) < l.length := by omega
        have hltm : k < m.length := by rw [← HNE.out]; exact hlt
        have hltmI : (k : Int) < m.length := by omega
        obtain ⟨x, hx⟩ : ∃ x, l[k]? = some x := ⟨l[k], List.getElem?_eq_getElem hlt⟩
        obtain ⟨y, hy⟩ : ∃ x, m[k]? = some x := ⟨m[k], List.getElem?_eq_getElem hltm⟩
        obtain ⟨b1, o1, rfl, hs1, hc1⟩ := (HA.out.below hbw).at_ hx
        obtain ⟨b2, o2, rfl, hs2, hc2⟩ := (HB.out.below hbw).at_ hy
        have d1 : ∀ W [SameB w1 W b1], W.cell? ⟨b1, o1 + k, none⟩ = some (.int .u16 x) := fun W _ => by simpa using hc1 W 0 _ rfl
        have d2 : ∀ W [SameB w1 W b2], W.cell? ⟨b2, o2 + k, none⟩ = some (.int .u16 y) := fun W _ => by simpa using hc2 W 0 _ rfl
        by_cases hxy : x = y
        · subst hxy
          have HT := Lib.hid (take_succ_eq hx hy heq.out)
          clear hc1 hc2 hx hy heq hltm
          go_wp2_with fail
          go_region
          go_wp2_with fail
          go_roundw
          case rel => exact ⟨k + 1, by go_num, by omega, bel, HT⟩
          case measure => simp [intOf]; omega
        · have hxyB : (x == y) = false := by simpa using hxy
          have HT := Lib.hid (ne_take hx hy hxy)
          clear hc1 hc2 hx hy heq hltm
          go_wp2_with fail
          go_region
          go_wp2_with fail
          go_ret
          exact ⟨by rw [HT.out]; rfl, bel⟩
      · have hltI : ¬ (k : Int) < l.length := by omega
        obtain rfl : k = l.length := by omega
        have e1 := heq.out
        have e2 := HNE.out
        rw [List.take_of_length_le (Nat.le_refl _), List.take_of_length_le (by omega)] at e1
        have HT := Lib.hid e1
        clear e1 e2 heq
        go_wp2_with fail
        go_ret
        exact ⟨by simp [HT.out], bel⟩
  · have hneB : ((l.length : Int) == m.length) = false := by simpa using fun e => hne (by omega)
    have hlm : decide (l = m) = false := by rw [decide_eq_false_iff_not]; rintro rfl; exact hne rfl
    rw [hlm]
    clear hA hB hne hl hm
    go_enter Try.func38, Try.ntmps38
    go_wp2_with fail
    go_ret
    exact ⟨rfl, bel⟩
end Go.Proofs.Ytbcnfegmmhioeaa
