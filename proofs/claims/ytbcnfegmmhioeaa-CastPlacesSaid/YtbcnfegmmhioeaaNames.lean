/- The walks of packages names and check as far as names go. -/
import Derived.Test.YtbcnfegmmhioeaaNamesM
import Derived.Test.YtbcnfegmmhioeaaShelf
import Derived.WalkLawsBesides
import Derived.Outline
import Derived.RegionTactic
import Derived.ChangeAlike
import Derived.BigQuiet
import Derived.Deep.QuietTactic
namespace Go.Proofs.Ytbcnfegmmhioeaa
open Go.RowKit

theorem lite_cut (s : ByteArray) (hs : s.size ≤ 1000000) (w : World) : Calls Try.prog 191 #[.string s, .string ⟨#[47]⟩] w fun e w' =>
    e = .returned (.tuple #[.string (cutS s).1, .string (cutS s).2.1, .bool (cutS s).2.2]) ∧ ∃ n, w.drewN n = w' := by
  have hge := slash_ge s
  by_cases h : 0 ≤ slash s
  · have hlt := slash_lt h
    have hr : cutS s = (s.extract 0 (slash s).toNat, s.extract ((slash s).toNat + 1) s.size, true) := by simp [cutS, h]
    rw [hr]
    obtain ⟨n, hn⟩ := Int.eq_ofNat_of_zero_le h
    have hn' : Lib.indexByte s.data.toList 47 = n := hn
    rw [hn] at hlt ⊢
    simp only [Int.toNat_natCast] at hlt ⊢
    have hc := fun w => Try.stringslite_Index_one s 47 w
    rw [hn'] at hc
    clear hn hn' hr h hge
    go_enter Try.func191, Try.ntmps191
    go_wp2_with ((go_at_call 201; refine (hc _).mono ?_; rintro e w' ⟨rfl, rfl⟩))
    go_region
    all_goals go_wp2_with fail
    go_ret3
    exact ⟨rfl, 1, rfl⟩
  · have h1 : slash s = -1 := by omega
    have hr : cutS s = (s, E0, false) := by simp [cutS, h]
    rw [hr]
    have hc := fun w => Try.stringslite_Index_one s 47 w
    rw [show Lib.indexByte s.data.toList 47 = -1 from h1] at hc
    clear h1 hr h hge
    go_enter Try.func191, Try.ntmps191
    go_wp2_with ((go_at_call 201; refine (hc _).mono ?_; rintro e w' ⟨rfl, rfl⟩))
    go_ret3
    exact ⟨rfl, 0, rfl⟩

theorem strings_cut (s : ByteArray) (hs : s.size ≤ 1000000) (w : World) : Calls Try.prog 162 #[.string s, .string ⟨#[47]⟩] w fun e w' =>
    e = .returned (.tuple #[.string (cutS s).1, .string (cutS s).2.1, .bool (cutS s).2.2]) ∧ ∃ n, w.drewN n = w' := by
  generalize hc : cutS s = c
  have H := fun w => lite_cut s hs w
  rw [hc] at H
  clear hc
  go_enter Try.func162, Try.ntmps162
  go_wp2_with ((go_at_call 191; refine (H _).mono ?_; rintro e w' ⟨rfl, n, rfl⟩))
  go_ret3
  exact ⟨rfl, n, rfl⟩

def letterI (c : Int) : Bool := (decide (97 ≤ c) && decide (c ≤ 122)) || (decide (48 ≤ c) && decide (c ≤ 57)) || c == 46 || c == 95
theorem letterB_eq (c : UInt8) : letterB c = letterI c.toNat := by
  unfold letterB letterI
  rw [Bool.eq_iff_iff]
  simp [UInt8.le_iff_toNat_le, ← UInt8.toNat_inj]
  omega

theorem letter_any (c : UInt8) (w : World) : Calls Try.prog 192 #[.int .u8 c.toNat] w fun e w' => e = .returned (.bool (letterB c)) ∧ w = w' := by
  rw [letterB_eq]
  generalize (c.toNat : Int) = c
  go_enter Try.func192, Try.ntmps192
  go_wp2
  all_goals
    go_ret
    refine ⟨ret_bool ?_, rfl⟩
    unfold letterI
    rw [Bool.eq_iff_iff]
    first
      | (simp only [Bool.or_eq_true, Bool.and_eq_true, decide_eq_true_eq, beq_iff_eq]; omega)
      | (simp; done)
      | (simp; omega)

theorem part_any (s : ByteArray) (hs : s.size ≤ 1000000) (w : World) : Calls Try.prog 163 #[.string s] w fun e w' => e = .returned (.bool (partB s)) ∧ w = w' := by
  go_enter Try.func163, Try.ntmps163
  go_wp2_with fail
  go_loop [6] (fun i => ∃ k : Nat, k ≤ s.size ∧ i = .int .i64 k ∧ ((s.data.toList.take k).all letterB = true)) (fun i => s.size - (intOf i).toNat)
  case atStart => exact ⟨0, Nat.zero_le _, rfl, by simp⟩
  case round =>
    obtain ⟨k, hk, rfl, hall⟩ := hrel
    have HA := Lib.hid hall
    clear hall
    by_cases hlt : k < s.size
    · cases hl : letterB s[k] with
      | true =>
        go_wp2_with ((go_at_call 192; refine (letter_any _ _).mono ?_; rintro e w' ⟨rfl, rfl⟩))
        go_round
        case rel => exact ⟨k + 1, by omega, by go_num, by rw [List.take_add_one, List.all_append, HA.out]; simp [hlt]; exact hl⟩
        case measure => simp [intOf]; omega
      | false =>
        have hf : partB s = false := by
          have : s.data.toList.all letterB = false := by
            rw [Bool.eq_false_iff]
            intro h
            rw [List.all_eq_true] at h
            have := h s[k] (by simp [ByteArray.getElem_eq_getElem_data])
            rw [hl] at this
            cases this
          simp [partB, this]
        have HF := Lib.hid hf
        clear hf
        go_wp2_with ((go_at_call 192; refine (letter_any _ _).mono ?_; rintro e w' ⟨rfl, rfl⟩))
        go_ret
        exact ⟨ret_bool HF.out.symm, rfl⟩
    · have hp : partB s = (!s.toList.isEmpty && !(s.toList == [46]) && !(s.toList == [46, 46])) := by
        have : s.data.toList.all letterB = true := by
          have := HA.out
          rwa [List.take_of_length_le (by simp; omega)] at this
        simp [partB, this, Lib.toList_data]
      have HP := Lib.hid hp
      clear hp
      go_wp2_with fail
      all_goals
        go_ret
        refine ⟨ret_bool ?_, rfl⟩
        first
          | (rw [HP.out]; done)
          | (rw [HP.out]; simp [*])

theorem name_any (s : ByteArray) (hs : s.size ≤ 1000000) (w : World) : Calls Try.prog 90 #[.string s] w fun e w' => e = .returned (.bool (nameB s)) ∧ Below w.heap.size w w' := by
  by_cases h8 : 8 < s.size
  · have hn : nameB s = false := by simp [nameB]; omega
    rw [hn]
    clear hn
    go_enter Try.func90, Try.ntmps90
    go_wp2_with fail
    go_ret
    exact ⟨rfl, bel⟩
  · have hn : nameB s = (partB (cutS s).1 && (!(cutS s).2.2 || partB (cutS s).2.1)) := by simp [nameB]; omega
    rw [hn]
    have hc := fun w => strings_cut s hs w
    have h1 : (cutS s).1.size ≤ 1000000 ∧ (cutS s).2.1.size ≤ 1000000 := by
      have h0 : E0.size = 0 := rfl
      unfold cutS; split <;> simp [ByteArray.size_extract, h0] <;> omega
    generalize cutS s = c at *
    obtain ⟨a, b, ok⟩ := c
    clear hn
    obtain ⟨ha, hb⟩ := h1
    simp only at ha hb hc ⊢
    have hpa := fun w => part_any a ha w
    have hpb := fun w => part_any b hb w
    generalize partB a = pa at *
    generalize partB b = pb at *
    have h8' : s.size ≤ 8 := by omega
    clear h8 ha hb
    cases pa <;> cases ok <;> cases pb
    all_goals
      go_enter Try.func90, Try.ntmps90
      go_wp2_with (first | (go_at_call 162; refine (hc _).mono ?_; rintro e w' ⟨rfl, n, rfl⟩) | (go_at_call 163; ((with_reducible refine (hpa _).mono ?_); rintro e w' ⟨rfl, rfl⟩)) | (go_at_call 163; ((with_reducible refine (hpb _).mono ?_); rintro e w' ⟨rfl, rfl⟩)))
      go_ret
      exact ⟨rfl, bel⟩

theorem names_may (s : ByteArray) (hs : s.size ≤ 1000000) (w : World) : Calls Try.prog 85 #[.string s] w fun e w' => e = .returned (.bool (nameB s)) ∧ Below w.heap.size w w' := by
  have hc := fun w => name_any s hs w
  generalize nameB s = b at *
  go_enter Try.func85, Try.ntmps85
  go_wp2_with (go_at_call 90; refine (hc _).mono ?_; rintro e w' ⟨rfl, hb⟩)
  go_ret
  exact ⟨rfl, hb⟩

theorem names_split (s : ByteArray) (hs : s.size ≤ 1000000) (w : World) : Calls Try.prog 161 #[.string s] w fun e w' =>
    e = .returned (.tuple #[.string (splitS s).1, .string (splitS s).2]) ∧ Below w.heap.size w w' := by
  have hm := fun w => names_may s hs w
  have hc := fun w => strings_cut s hs w
  unfold splitS
  generalize nameB s = b at *
  generalize cutS s = c at *
  obtain ⟨x, y, ok⟩ := c
  cases b <;> cases ok
  all_goals
    go_enter Try.func161, Try.ntmps161
    go_wp2_with (first | (go_at_call 85; refine (hm _).mono ?_; rintro e w1 ⟨rfl, hb⟩) | (go_at_call 162; refine (hc _).mono ?_; rintro e w' ⟨rfl, n, rfl⟩))
    have : Bel w _ := Bel.call hb
    go_ret2
    exact ⟨rfl, bel⟩
end Go.Proofs.Ytbcnfegmmhioeaa
