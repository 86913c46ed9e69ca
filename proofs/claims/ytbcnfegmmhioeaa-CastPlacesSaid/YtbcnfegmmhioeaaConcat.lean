/- slices.Concat of rows of texts, and slices.Grow of none, walked. -/
import Derived.Test.YtbcnfegmmhioeaaOpen
import Derived.Test.YtbcnfegmmhioeaaCls1
import Derived.Lib.AppendZeros
namespace Go.Proofs.Ytbcnfegmmhioeaa
open Go.RowKit

def u8C (z : UInt8) : List Value := [.int .u8 z.toNat]
def bsC (s : SlV UInt8) : List Value := [s.val]
def rowsC (s : SlV (SlV UInt8)) : List Value := [s.val]
theorem Try.info_bs : (Try.prog.info? 22).map (fun i => (i.zero, i.size, i.bytes)) = some (some (.slice none 0 0), 1, 24) := by kernel_rfl

theorem grow_owned (w : World) (n c : Nat) (hn : n ≤ c) (hc : c ≤ 9223372036854775807) : (w.drew.alloc (.cells (Builtin.zeroCells (Value.slice none 0 0).cells n ++ Builtin.zeroCells (Value.slice none 0 0).cells (c - n)) 22)).ownsRow w.heap.size 22 1 (.slice (some ⟨w.heap.size, 0, none⟩) 0 c) 0 [] := by
  refine ⟨rfl, Or.inr ⟨w.heap.size, c, _, rfl, Nat.le_refl _, heap_alloc_new w.drew _, Nat.zero_le _, by unfold maxLen; omega, ?_, by simp⟩⟩
  have h1 : (Value.slice none 0 0).cells.size = 1 := rfl
  simp only [Array.size_append, size_zeroCells, h1]
  omega

set_option maxRecDepth 100000 in
theorem grow_any (n : Nat) (hn : n ≤ 100000) (w : World) : Calls Try.prog 175 #[.slice none 0 0, .int .i64 n] w fun e w' => ∃ v, e = .returned v ∧ w'.ownsRow w.heap.size 22 1 v 0 [] ∧ Below w.heap.size w w' := by
  have hnI : (n : Int) ≤ 100000 := by omega
  rcases Nat.eq_zero_or_pos n with h0 | h0
  · subst h0
    have z0 : ((0 : Nat) : Int) = 0 := rfl
    rw [z0]
    clear z0 hn hnI
    go_enter Try.func175, Try.ntmps175
    go_wp2_with fail
    go_ret
    exact ⟨_, rfl, World.ownsRow_nil _ _ _ _, Below.refl _ _⟩
  · obtain ⟨i0, hi0, hz0, hz1, hz2⟩ := info_parts Try.info_bs
    have hge := grownCap_ge w n 0 22
    have hcm := grownCap_le_maxLen w n 0 22 (by unfold maxLen; omega)
    unfold maxLen at hcm
    have hown := grow_owned w n _ hge (by omega)
    have hrun := fun ty => Lib.run_append_nil_zeros (P := Try.prog) w 66 3 ty 22 i0 _ .i64 .i64 Try.underlying66 Try.underlying3 hi0 hz0 n h0 (by omega) (by omega) (by rw [hz2]; omega)
    have hnp : (0 : Int) < n := by omega
    generalize grownCap w n 0 22 = cp at *
    have hcI : (cp : Int) ≤ 9223372036854775807 := by omega
    have hcp : (0 : Int) ≤ cp := by omega
    have HO := Lib.hid hown
    have HR := Lib.hid hrun
    clear hown hrun hi0 hz0 hz1 hz2 hn
    go_enter Try.func175, Try.ntmps175
    go_wp2_with (at_builtin; refine Lib.wpList_append_run _ rfl (.tmp 20) (.tmp 21) 66 3 rfl _ _ rfl rfl _ _ (HR.out _) ?_)
    go_ret
    exact ⟨_, rfl, HO.out, (((Below.refl _ _).drew).alloc (Nat.le_refl _) _)⟩

def lenR (R : List (SlV (SlV UInt8))) : Nat := (R.map fun s => s.l.length).sum
theorem lenR_succ {R : List (SlV (SlV UInt8))} {k : Nat} {s : SlV (SlV UInt8)} (h : R[k]? = some s) : lenR (R.take (k + 1)) = lenR (R.take k) + s.l.length := by
  unfold lenR
  rw [List.take_add_one, h, List.map_append, List.sum_append]
  simp
theorem lenR_take (R : List (SlV (SlV UInt8))) (k : Nat) : lenR (R.take k) ≤ lenR R := by
  unfold lenR
  conv => rhs; rw [← List.take_append_drop k R, List.map_append, List.sum_append]
  omega
theorem lenR_flat (R : List (SlV (SlV UInt8))) : (R.flatMap (·.l)).length = lenR R := by
  unfold lenR
  induction R with
  | nil => rfl
  | cons s R ih => rw [List.flatMap_cons, List.length_append, ih]; simp

def PostBs (w : World) (l : List (SlV UInt8)) (e : Ending) (w' : World) : Prop := ∃ v, e = .returned v ∧ w'.ownsRow w.heap.size 22 1 v l.length (l.flatMap bsC) ∧ Below w.heap.size w w'

set_option maxRecDepth 100000 in
set_option maxHeartbeats 1000000 in
theorem concat_any {w : World} (A : Option Addr) (c : Nat) (R : List (SlV (SlV UInt8))) (hA : IsSl 1 rowsC w A R) (hR : ∀ s ∈ R, IsSl 1 bsC w s.A s.l) (hl : R.length ≤ 1000) (hs : lenR R ≤ 1000) :
    Calls Try.prog 107 #[.slice A R.length c] w (PostBs w (R.flatMap (·.l))) := by
  have hlI : (R.length : Int) ≤ 1000 := by omega
  have hg := fun W => grow_any (lenR R) (by omega) W
  have hcs := lenR_take R
  have HA := Lib.hid hA
  have HR := Lib.hid hR
  have HCS := Lib.hid hcs
  clear hA hR hcs
  go_enter Try.func107, Try.ntmps107
  go_wp2_with fail
  go_loopw [3, 11] (fun z x wr => ∃ k : Nat, z = .int .i64 (lenR (R.take k)) ∧ x = .int .i64 k ∧ k ≤ R.length ∧ wr = w) (fun z x wr => R.length - (intOf x).toNat)
  case atStart => exact ⟨0, rfl, rfl, Nat.zero_le _, rfl⟩
  case round =>
    obtain ⟨k, rfl, rfl, hk, rfl⟩ := hrel
    by_cases hlt : k < R.length
    · have hltI : (k : Int) < R.length := by omega
      obtain ⟨s, hsk⟩ : ∃ s, R[k]? = some s := ⟨R[k], List.getElem?_eq_getElem hlt⟩
      obtain ⟨b, off, rfl, hsb, hc⟩ := HA.out.at_ hsk
      have d0 : ∀ W [SameB wr W b], W.cell? ⟨b, off + k, none⟩ = some (.slice s.A s.l.length s.cap) := fun W _ => by have := hc W 0 _ rfl; simpa [SlV.val] using this
      have hsu := lenR_succ hsk
      have h1 := HCS.out k
      have h2 := HCS.out (k + 1)
      rw [hsu] at h2
      have hsI : ((lenR (R.take k) : Nat) : Int) + s.l.length ≤ 1000 := by omega
      generalize lenR (R.take k) = q at *
      have hq0 : (0 : Int) ≤ (q : Int) + s.l.length := by omega
      have HSU := Lib.hid hsu
      clear hc hsk hsu h1 h2
      go_wp2_with fail
      go_roundw
      case rel => exact ⟨k + 1, by rw [HSU.out]; go_num, by go_num, by omega, trivial⟩
      case measure => simp [intOf]; omega
    · have hltI : ¬ (k : Int) < R.length := by omega
      obtain rfl : k = R.length := by omega
      rw [List.take_of_length_le (Nat.le_refl _)]
      go_wp2_with ((go_at_call 175; ((with_reducible refine (hg _).mono ?_); rintro e w1 ⟨v, rfl, ho1, hb1⟩)))
      have HO1 := Lib.hid ho1
      have hz1 : wr.heap.size ≤ w1.heap.size := hb1.size
      clear ho1
      go_loopw [6, 27] (fun v x w2 => ∃ k : Nat, x = .int .i64 k ∧ k ≤ R.length ∧ w2.ownsRow wr.heap.size 22 1 v (lenR (R.take k)) (((R.take k).flatMap (·.l)).flatMap bsC) ∧ Below wr.heap.size wr w2) (fun v x w2 => R.length - (intOf x).toNat)
      case atStart => exact ⟨0, rfl, Nat.zero_le _, HO1.out, hb1⟩
      case round =>
        rename Value => v
        obtain ⟨k, rfl, hk, hown, hbw⟩ := hrel
        rename World => w2
        by_cases hlt2 : k < R.length
        · have hltI2 : (k : Int) < R.length := by omega
          obtain ⟨s, hsk⟩ : ∃ s, R[k]? = some s := ⟨R[k], List.getElem?_eq_getElem hlt2⟩
          obtain ⟨b, off, rfl, hsb, hc⟩ := (HA.out.below hbw).at_ hsk
          have d0 : ∀ W [SameB w2 W b], W.cell? ⟨b, off + k, none⟩ = some (.slice s.A s.l.length s.cap) := fun W _ => by have := hc W 0 _ rfl; simpa [SlV.val] using this
          have hsu := lenR_succ hsk
          have hfl : ((R.take (k + 1)).flatMap (·.l)).flatMap bsC = ((R.take k).flatMap (·.l)).flatMap bsC ++ s.l.flatMap bsC := by
            rw [List.take_add_one, hsk, List.flatMap_append, List.flatMap_append]; simp
          have h2 := HCS.out (k + 1)
          rw [hsu] at h2
          have hS := (HR.out s (List.mem_of_getElem? hsk)).below hbw
          have HS := Lib.hid hS
          have HSU := Lib.hid hsu
          have HFL := Lib.hid hfl
          have HO := Lib.hid hown
          have HBW := Lib.hid hbw
          have hz2 : wr.heap.size ≤ w2.heap.size := hbw.size
          clear hc hsk hsu hfl hS hown hbw
          go_wp2_with (at_builtin; refine wpList_appN (enc := bsC) _ rfl (.tmp 31) (.tmp 32) 66 rfl wr.heap.size 22 Try.underlying66 Try.info_bs rfl (by decide) _ (lenR (R.take k)) _ rfl HO.out s.A s.cap s.l rfl HS.out (fun _ => rfl) (fun x u hu => by simp [bsC] at hu; subst hu; rfl) (by omega) (by omega) hz2 HS.out.nil_of ?_; intro v5 w5 ho5 hb5)
          go_roundw
          case rel => exact ⟨k + 1, by go_num, by omega, by rw [HSU.out, HFL.out]; exact ho5, HBW.out.trans hb5⟩
          case measure => simp [intOf]; omega
        · have hltI2 : ¬ (k : Int) < R.length := by omega
          obtain rfl : k = R.length := by omega
          rw [List.take_of_length_le (Nat.le_refl _)] at hown
          have HO := Lib.hid hown
          clear hown
          go_wp2_with fail
          go_ret
          exact ⟨_, rfl, by rw [lenR_flat]; exact HO.out, hbw⟩
end Go.Proofs.Ytbcnfegmmhioeaa
