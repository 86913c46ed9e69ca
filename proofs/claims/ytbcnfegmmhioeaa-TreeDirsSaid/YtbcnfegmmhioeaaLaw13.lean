/- The law of the tree's directories, walked. -/
import Derived.Test.YtbcnfegmmhioeaaLaw13M
import Derived.Test.YtbcnfegmmhioeaaLaw13a
import Derived.Laws.BytesArg
import Derived.Deep.Cut
import Derived.Deep.CutRange
import Derived.Deep.LoopGhost
import Derived.Laws.BitsAllLaws
import Derived.Laws.BitsLemmas
namespace Go.Proofs.Ytbcnfegmmhioeaa
open Go.RowKit

def byteC (c : UInt8) : List Value := [.int .u8 c.toNat]

theorem conv3 (W : World) (a b c : Int) (n : Nat) : (convert 22 9 (.slice (some ⟨W.heap.size, 0, none⟩) 3 n)).run Try.prog (W.alloc (.cells #[.int .u8 a, .int .u8 b, .int .u8 c] 5)).drew =
    .ok (.string ⟨#[UInt8.ofNat a.toNat, UInt8.ofNat b.toNat, UInt8.ofNat c.toNat]⟩) (W.alloc (.cells #[.int .u8 a, .int .u8 b, .int .u8 c] 5)).drew := by
  have := run_convert_bytes_arg (P := Try.prog) (W.alloc (.cells #[.int .u8 a, .int .u8 b, .int .u8 c] 5)).drew 22 5 Try.underlying22 Try.underlying5 W.heap.size 0 3 n [a, b, c] rfl (by
    intro i hi
    rw [blk_cell (blk_drew (blk_new _ _))]
    match i, hi with
    | 0, _ => rfl
    | 1, _ => rfl
    | 2, _ => rfl) 9 Try.underlying9
  rw [this]; rfl
theorem conv1 (W : World) (a : Int) (n : Nat) : (convert 22 9 (.slice (some ⟨W.heap.size, 0, none⟩) 1 n)).run Try.prog (W.alloc (.cells #[.int .u8 a] 5)).drew =
    .ok (.string ⟨#[UInt8.ofNat a.toNat]⟩) (W.alloc (.cells #[.int .u8 a] 5)).drew := by
  have := run_convert_bytes_arg (P := Try.prog) (W.alloc (.cells #[.int .u8 a] 5)).drew 22 5 Try.underlying22 Try.underlying5 W.heap.size 0 1 n [a] rfl (by
    intro i hi
    rw [blk_cell (blk_drew (blk_new _ _))]
    match i, hi with
    | 0, _ => rfl) 9 Try.underlying9
  rw [this]; rfl
theorem conv1n (W : World) (a : Int) (n : Nat) : (convert 22 9 (.slice (some ⟨W.heap.size, 0, none⟩) 1 n)).run Try.prog (W.alloc (.cells #[.int .u8 a] 5)) =
    .ok (.string ⟨#[UInt8.ofNat a.toNat]⟩) (W.alloc (.cells #[.int .u8 a] 5)) := by
  have := run_convert_bytes_arg (P := Try.prog) (W.alloc (.cells #[.int .u8 a] 5)) 22 5 Try.underlying22 Try.underlying5 W.heap.size 0 1 n [a] rfl (by
    intro i hi
    rw [blk_cell (blk_new _ _)]
    match i, hi with
    | 0, _ => rfl) 9 Try.underlying9
  rw [this]; rfl
theorem i64_and_nat (a b : Nat) (ha : a < 9223372036854775808) (hb : b < 9223372036854775808) : bits .and .i64 (a : Int) (b : Int) = ((a &&& b : Nat) : Int) := by
  have hx : a &&& b < 2 ^ 63 := Nat.and_lt_two_pow _ (by omega)
  show IntKind.i64.wrap ((BitVec.ofInt 64 (a : Int) &&& BitVec.ofInt 64 (b : Int)).toNat : Int) = _
  rw [BitVec.toNat_and, BitVec.ofInt_natCast, BitVec.ofInt_natCast, BitVec.toNat_ofNat, BitVec.toNat_ofNat, Nat.mod_eq_of_lt (by omega), Nat.mod_eq_of_lt (by omega), IntKind.wrap_i64]
  omega

theorem u8_and3 (x : UInt8) : bits .and .u8 (x.toNat : Int) 3 = ((x.toNat % 4 : Nat) : Int) := by
  have hx := x.toNat_lt
  show IntKind.u8.wrap ((BitVec.ofInt 8 (x.toNat : Int) &&& BitVec.ofInt 8 ((3 : Nat) : Int)).toNat : Int) = _
  rw [BitVec.toNat_and, BitVec.ofInt_natCast, BitVec.ofInt_natCast, BitVec.toNat_ofNat, BitVec.toNat_ofNat, Nat.mod_eq_of_lt (by omega), Nat.mod_eq_of_lt (by omega), show (3 : Nat) = 2 ^ 2 - 1 from rfl, Nat.and_two_pow_sub_one_eq_mod, IntKind.wrap_u8]
  omega

theorem two_entries (w : World) : IsSl 3 entC (w.alloc (.cells #[.string ⟨#[100]⟩, .bool true, .int .i64 0, .string ⟨#[101]⟩, .bool true, .int .i64 0] 29)) (some ⟨w.heap.size, 0, none⟩) [⟨dn 0, true, 0⟩, ⟨dn 1, true, 0⟩] := by
  intro _
  refine ⟨w.heap.size, 0, rfl, by simp, ?_⟩
  intro i e hi j v hj
  rw [blk_cell (blk_new _ _)]
  match i, hi with
  | 0, hi =>
    simp at hi; subst hi
    match j, hj with
    | 0, hj => simp [entC] at hj; subst hj; rfl
    | 1, hj => simp [entC] at hj; subst hj; rfl
    | 2, hj => simp [entC] at hj; subst hj; rfl
  | 1, hi =>
    simp at hi; subst hi
    match j, hj with
    | 0, hj => simp [entC] at hj; subst hj; rfl
    | 1, hj => simp [entC] at hj; subst hj; rfl
    | 2, hj => simp [entC] at hj; subst hj; rfl

set_option maxRecDepth 1000000 in
set_option maxHeartbeats 4000000 in
theorem dirs_any {w : World} (A : Option Addr) (c : Nat) (bs : List UInt8) (hA : IsSl 1 byteC w A bs) :
    Calls Try.prog 3 #[.slice A bs.length c] w fun e w' => e = .returned (.bool true) ∧ Below w.heap.size w w' := by
  have haw := awake13 w
  by_cases h60 : 60 < bs.length
  · have h60i : (60 : Int) < bs.length := by omega
    clear h60
    go_enter Try.func3, Try.ntmps3
    go_wp2_with ((go_at_call 16; ((with_reducible refine (haw).mono ?_); rintro e w1 ⟨rfl, hb⟩)))
    go_ret
    exact ⟨rfl, hb⟩
  have hnew := fun (W : World) => new_ex _ 2 _ Lde 2 (two_entries W) (by simp) (by simp [dn, show (ByteArray.mk #[100]).size = 1 from rfl, show (ByteArray.mk #[101]).size = 1 from rfl]) dirs_start
  simp only [List.length_cons, List.length_nil, Nat.zero_add, Nat.reduceAdd] at hnew
  have h60i : (bs.length : Int) ≤ 60 := by omega
  clear h60
  go_enter Try.func3, Try.ntmps3
  go_wp2_with (first | ((go_at_call 16; ((with_reducible refine (haw).mono ?_); rintro e w1 ⟨rfl, hb⟩)); have s1l : Bel w w1 := ⟨hb⟩) | ((go_at_call 17; ((with_reducible refine (hnew _).mono ?_); rintro e w2 ⟨g, b, rfl, hg, hb', hT, hb2⟩)); have s2l : Bel w w2 := Bel.call hb2))
  have hga : w1.heap.size + 1 ≤ g := by simpa using hg
  have hba : w1.heap.size + 1 ≤ b := by simpa using hb'
  have hne : g ≠ b := hT.ne
  have hgl := hT.sg.lt
  have hbl := hT.sb.lt
  have hw1 : w.heap.size ≤ w1.heap.size := s1l.out.size
  go_loopg [6] bs.length (fun gk i wr => ∃ (k : Nat) (B : List Bool) (L : Ents) (nx : Int), gk = bs.length - k ∧ i = .int .i64 k ∧ k ≤ bs.length ∧ 0 ≤ nx ∧ nx ≤ 2 + k ∧ wr.heap[w2.heap.size]? = some (.cells (B.map Value.bool).toArray 32 (0, 0)) ∧ Dirs L B ∧
      IsTree wr g b L nx ∧ Below w.heap.size w wr)
  case atStart =>
    have sg := hT.sg
    have sb := hT.sb
    exact ⟨0, B0, Lde, 2, rfl, rfl, Nat.zero_le _, by omega, by omega, blk_new _ _, dirs_zero, hT.same, bel⟩
  case round =>
    obtain ⟨k, B, L, nx, hgk, rfl, hk, hn0, hn1, hB, hD, hT2, hbw⟩ := hrel
    obtain ⟨w3, rfl⟩ : ∃ v, v = wr := ⟨wr, rfl⟩
    have : Bel w w3 := ⟨hbw⟩
    by_cases hlt : k < bs.length
    · obtain ⟨x, hx⟩ : ∃ x, bs[k]? = some x := ⟨bs[k], List.getElem?_eq_getElem hlt⟩
      obtain ⟨ab, off, rfl, hsb, hc⟩ := (hA.below hbw).at_ hx
      have d0 : ∀ W [SameB w3 W ab], W.cell? ⟨ab, off + k, none⟩ = some (.int .u8 x.toNat) := fun W _ => by simpa using hc W 0 _ rfl
      clear hc hx
      have hltI : (k : Int) < bs.length := by omega
      have HD := Lib.hid hD
      have HB := Lib.hid hB
      have HT := Lib.hid hT2
      clear hD hB hT2 hT
      obtain ⟨dd, hdd⟩ : ∃ d : Nat, d = x.toNat / 4 % 2 := ⟨_, rfl⟩
      obtain ⟨kk, hkk⟩ : ∃ d : Nat, d = x.toNat / 8 % 4 := ⟨_, rfl⟩
      have hd2 : dd < 2 := by omega
      have hk4 : kk < 4 := by omega
      have hdI : bits .and .i64 ((x.toNat : Int) / 4) 1 = (dd : Int) := by
        have := i64_and_nat (x.toNat / 4) 1 (by have := x.toNat_lt; omega) (by omega)
        rw [Nat.and_one_is_mod] at this
        rw [hdd]; simpa using this
      have hkI : (x.toNat : Int) / 8 % 4 = (kk : Int) := by omega
      have hkT : ((x.toNat : Int) / 8).tmod 4 = (kk : Int) := by rw [Int.tmod_eq_emod_of_nonneg (by omega)]; exact hkI
      have hx1 : (0 : Int) ≤ x.toNat := by omega
      have hx2 : (x.toNat : Int) < 256 := by have := x.toNat_lt; omega
      have hdI2 : (dd : Int) < 2 := by omega
      have hkI2 : (kk : Int) < 4 := by omega
      have hpn : (⟨#[UInt8.ofNat (100 + (dd : Int)).toNat, UInt8.ofNat (47 : Int).toNat, UInt8.ofNat (97 + (kk : Int)).toNat]⟩ : ByteArray) = pn dd kk := by
        rw [show (100 + (dd : Int)).toNat = 100 + dd by omega, show (97 + (kk : Int)).toNat = 97 + kk by omega]; rfl
      have cv : ∀ (W : World) n, (convert 22 9 (.slice (some ⟨W.heap.size, 0, none⟩) 3 n)).run Try.prog (W.alloc (.cells #[.int .u8 (100 + (dd : Int)), .int .u8 47, .int .u8 (97 + (kk : Int))] 5)).drew =
        .ok (.string (pn dd kk)) (W.alloc (.cells #[.int .u8 (100 + (dd : Int)), .int .u8 47, .int .u8 (97 + (kk : Int))] 5)).drew := fun W n => by rw [conv3, hpn]
      have Hdd := Lib.hid hdd
      have Hkk := Lib.hid hkk
      clear hdd hkk hpn
      go_wp2_with fail
      go_region
      go_wp2_with fail
      have HB' : w3.heap[w2.heap.size]? = some (.cells (B.map Value.bool).toArray 32 (0, 0)) := HB
      have hlen8 : B.length = 8 := Dirs.len HD
      have hBl : SameB w3 w3 w2.heap.size := SameB.self (lt_of_block HB')
      have HB2 := Lib.hid HB'
      clear HB'
      go_loopw [10, 11] (fun a x wr => ∃ j : Nat, a = .int .i64 ((2 + (B.take j).count true : Nat)) ∧ x = .int .i64 j ∧ j ≤ 8 ∧ Below w3.heap.size w3 wr) (fun a x wr => 8 - (intOf x).toNat)
      case atStart => exact ⟨0, rfl, rfl, by omega, bel⟩
      case round =>
        obtain ⟨j, rfl, rfl, hj, hbj⟩ := hrel
        by_cases hj8 : j < 8
        · have hj8I : (j : Int) < 8 := by omega
          have : SameB w3 wr w2.heap.size := SameB.call hbj _
          have cB : wr.cell? ⟨w2.heap.size, j / 4 * 4 + j % 4, none⟩ = some (.bool (B.getD j false)) := by
            rw [show j / 4 * 4 + j % 4 = j by omega]
            refine SameB.cell (w := w3) ?_
            rw [blk_cell HB2]
            simp [List.getElem?_eq_getElem (show j < B.length by omega)]
          have hct : (B.take (j + 1)).count true = (B.take j).count true + (if B.getD j false then 1 else 0) := by
            rw [List.take_add_one, List.count_append, List.getD_eq_getElem?_getD, List.getElem?_eq_getElem (show j < B.length by omega)]
            cases B[j] <;> simp
          have hle : (B.take j).count true ≤ 8 := by have := List.count_le_length (a := true) (l := B.take j); simp at this; omega
          cases hb : B.getD j false with
          | true =>
            rw [hb] at cB hct
            go_wp2_with fail
            go_roundw
            case rel => exact ⟨j + 1, by rw [hct]; go_num, by go_num, by omega, hbj⟩
            case measure => simp [intOf]; omega
          | false =>
            rw [hb] at cB hct
            go_wp2_with fail
            go_roundw
            case rel => exact ⟨j + 1, by rw [hct]; go_num, by go_num, by omega, hbj⟩
            case measure => simp [intOf]; omega
        · have hj8I : ¬ (j : Int) < 8 := by omega
          obtain rfl : j = 8 := by omega
          rw [show B.take 8 = B from List.take_of_length_le (by omega)]
          have : SameB w3 wr w2.heap.size := SameB.call hbj _
          have : SameB w3 wr ab := SameB.call hbj _
          have hu3 := u8_and3 x
          have hu4 : ((x.toNat % 4 : Nat) : Int) < 256 := by omega
          go_upto_if 83 with fail
          have hbw3 : Below w3.heap.size w3 wr := hbj
          go_cut [12, 13, 14] from 37 to 193 (fun _ _ _ wx => ∃ (B' : List Bool) (L' : Ents) (nx' : Int), 0 ≤ nx' ∧ nx' ≤ 3 + k ∧ wx.heap[w2.heap.size]? = some (.cells (B'.map Value.bool).toArray 32 (0, 0)) ∧ Dirs L' B' ∧
            IsTree wx g b L' nx' ∧ Below w.heap.size w wx)
          case first =>
            have hT3 : IsTree wr g b L nx := by
              have h1 := IsTree.sg HT
              have h2 := IsTree.sb HT
              have : SameB w3 wr g := SameB.call hbj _
              have : SameB w3 wr b := SameB.call hbj _
              exact IsTree.same HT
            have swa : SameB wr wr w2.heap.size := SameB.self (by
              have h : SameB w3 wr w2.heap.size := inferInstance
              exact Nat.lt_of_lt_of_le h.lt h.le)
            have hdl : dd * 4 + kk < B.length := by omega
            have hbool : ∀ W [SameB wr W w2.heap.size], W.cell? ⟨w2.heap.size, dd * 4 + kk, none⟩ = some (.bool (B.getD (dd * 4 + kk) false)) ∧ W.frozen? ⟨w2.heap.size, dd * 4 + kk, none⟩ = false := by
              intro W hs
              have hblk : W.heap[w2.heap.size]? = some (.cells (B.map Value.bool).toArray 32 (0, 0)) := by
                rw [hs.blk]; exact (SameB.blk (w := w3) (W := wr)).trans HB2
              refine ⟨?_, frozen_of_row _ _ _ _ _ hblk⟩
              rw [blk_cell hblk]
              simp [List.getElem?_eq_getElem hdl]
            have hsn : (pn dd kk).size ≤ 1000000 := by show 3 ≤ 1000000; omega
            have hset : ∀ (W : World) (v : Bool), W.heap[w2.heap.size]? = some (.cells (B.map Value.bool).toArray 32 (0, 0)) →
                (W.setCell ⟨w2.heap.size, dd * 4 + kk, none⟩ (.bool v)).heap[w2.heap.size]? = some (.cells ((B.set (dd * 4 + kk) v).map Value.bool).toArray 32 (0, 0)) := by
              intro W v h
              rw [heap_setCell_same _ _ _ _ _ _ h]
              simp
            have hw2 : w.heap.size ≤ w2.heap.size := s2l.out.size
            have hbw4 : Below w.heap.size w wr := hbw.trans (hbj.mono hbw.size)
            have fin : ∀ (w5 : World) (v : Bool) (L5 : Ents) (nx5 : Int), SameB wr w5 w2.heap.size → IsTree w5 g b L5 nx5 → Only (fun i => i = g ∨ i = b) wr w5 →
                (w5.setCell ⟨w2.heap.size, dd * 4 + kk, none⟩ (.bool v)).drew.heap[w2.heap.size]? = some (.cells ((B.set (dd * 4 + kk) v).map Value.bool).toArray 32 (0, 0)) ∧
                IsTree (w5.setCell ⟨w2.heap.size, dd * 4 + kk, none⟩ (.bool v)).drew g b L5 nx5 ∧ Below w.heap.size w (w5.setCell ⟨w2.heap.size, dd * 4 + kk, none⟩ (.bool v)).drew := by
              intro w5 v L5 nx5 hs ht ho
              refine ⟨hset _ _ (hs.blk.trans ((SameB.blk (w := w3) (W := wr)).trans HB2)), ⟨(heap_setCell_other w5 _ _ _ (by show g ≠ w2.heap.size; omega)).trans ht.1, ht.2.of_block (heap_setCell_other w5 _ _ _ (by show b ≠ w2.heap.size; omega))⟩, ?_⟩
              have h1 := hbw4.trans (ho.toBelow (B := w.heap.size) hbw4.size (by rintro i (rfl | rfl) <;> omega))
              exact (h1.setCell (p := ⟨w2.heap.size, dd * 4 + kk, none⟩) hw2 _).drew
            have finN : ∀ (w5 : World) (v : Bool) (L5 : Ents) (nx5 : Int), SameB wr w5 w2.heap.size → IsTree w5 g b L5 nx5 → Only (fun i => i = g ∨ i = b) wr w5 →
                (w5.setCell ⟨w2.heap.size, dd * 4 + kk, none⟩ (.bool v)).heap[w2.heap.size]? = some (.cells ((B.set (dd * 4 + kk) v).map Value.bool).toArray 32 (0, 0)) ∧
                IsTree (w5.setCell ⟨w2.heap.size, dd * 4 + kk, none⟩ (.bool v)) g b L5 nx5 ∧ Below w.heap.size w (w5.setCell ⟨w2.heap.size, dd * 4 + kk, none⟩ (.bool v)) := by
              intro w5 v L5 nx5 hs ht ho
              obtain ⟨h1, h2, h3⟩ := fin w5 v L5 nx5 hs ht ho
              exact ⟨h1, h2, ⟨h3.os, h3.tape, h3.output, h3.size, h3.block⟩⟩
            by_cases hm : x.toNat % 4 < 2
            · have hmI : ((x.toNat % 4 : Nat) : Int) < 2 := by omega
              have hmI2 : (x.toNat : Int) % 4 < 2 := by omega
              have hmk := make_any hT3 ⟨hn0, by omega⟩ (pn dd kk) hsn false
              have hdm := Dirs.make HD hd2 hk4 nx
              have hnx := make_nx L nx (pn dd kk) false
              generalize makeM L nx (pn dd kk) false = r at *
              obtain ⟨r1, r2, r3, r4⟩ := r
              simp only at hdm hnx hmk
              obtain ⟨hr2, hD'⟩ := hdm
              have HD2 := Lib.hid hD'
              have hcB : ∀ W [SameB wr W w2.heap.size], W.cell? ⟨w2.heap.size, dd * 4 + kk, none⟩ = some (.bool (B.getD (dd * 4 + kk) false)) := fun W _ => (hbool W).1
              have hfB : ∀ W [SameB wr W w2.heap.size], W.frozen? ⟨w2.heap.size, dd * 4 + kk, none⟩ = false := fun W _ => (hbool W).2
              clear hD' hbool hT3 hbj hbw3 hbw
              cases ht : B.getD (dd * 4 + kk) false with
              | true =>
                rw [ht] at hr2 hcB HD2
                simp only [if_true] at hr2
                subst hr2
                go_wp2_with ((go_at_call 18; ((with_reducible refine (hmk).mono ?_); rintro e w5 ⟨rfl, hT5, ho5⟩)); have s5a : SameB wr w5 w2.heap.size := SameB.only ho5 _ (by omega))
                go_region
                go_wp2_with fail
                go_meet
                case rel => exact ⟨_, r3, r4, by omega, by omega, (fin w5 true _ _ s5a hT5 ho5).1, by have h : Dirs _ _ := HD2; simpa using h, (fin w5 true _ _ s5a hT5 ho5).2⟩
              | false =>
                rw [ht] at hr2 hcB HD2
                simp only [Bool.false_eq_true, if_false] at hr2
                by_cases h8 : 8 ≤ 2 + B.count true
                · rw [if_pos h8] at hr2
                  subst hr2
                  have h8I : (8 : Int) ≤ 2 + (B.count true : Nat) := by omega
                  go_wp2_with ((go_at_call 18; ((with_reducible refine (hmk).mono ?_); rintro e w5 ⟨rfl, hT5, ho5⟩)); have s5a : SameB wr w5 w2.heap.size := SameB.only ho5 _ (by omega))
                  go_region
                  go_wp2_with fail
                  go_meet
                  case rel => exact ⟨_, r3, r4, by omega, by omega, (fin w5 false _ _ s5a hT5 ho5).1, by have h : Dirs _ _ := HD2; simpa using h, (fin w5 false _ _ s5a hT5 ho5).2⟩
                · rw [if_neg h8] at hr2
                  subst hr2
                  have h8I : ¬ (8 : Int) ≤ 2 + (B.count true : Nat) := by omega
                  go_wp2_with ((go_at_call 18; ((with_reducible refine (hmk).mono ?_); rintro e w5 ⟨rfl, hT5, ho5⟩)); have s5a : SameB wr w5 w2.heap.size := SameB.only ho5 _ (by omega))
                  go_region
                  go_wp2_with fail
                  go_meet
                  case rel => exact ⟨_, r3, r4, by omega, by omega, (fin w5 true _ _ s5a hT5 ho5).1, by have h : Dirs _ _ := HD2; simpa using h, (fin w5 true _ _ s5a hT5 ho5).2⟩
            · have hmI : ¬ ((x.toNat % 4 : Nat) : Int) < 2 := by omega
              have hmI2 : ¬ (x.toNat : Int) % 4 < 2 := by omega
              have hdr := drop_any hT3 (by have := Dirs.size HD; have := List.count_le_length (a := true) (l := B); omega) (pn dd kk) hsn false
              obtain ⟨hr1, hD'⟩ := Dirs.drop HD hd2 hk4
              generalize dropM L (pn dd kk) false = r at *
              obtain ⟨r1, r2⟩ := r
              simp only at hr1 hD' hdr
              have HD2 := Lib.hid hD'
              have hcB : ∀ W [SameB wr W w2.heap.size], W.cell? ⟨w2.heap.size, dd * 4 + kk, none⟩ = some (.bool (B.getD (dd * 4 + kk) false)) := fun W _ => (hbool W).1
              have hfB : ∀ W [SameB wr W w2.heap.size], W.frozen? ⟨w2.heap.size, dd * 4 + kk, none⟩ = false := fun W _ => (hbool W).2
              clear hD' hbool hT3 hbj hbw3 hbw
              cases ht : B.getD (dd * 4 + kk) false with
              | true =>
                rw [ht] at hr1 hcB
                simp only [if_true] at hr1
                subst hr1
                go_wp2_with ((go_at_call 19; ((with_reducible refine (hdr).mono ?_); rintro e w5 ⟨rfl, hT5, ho5⟩)); have s5a : SameB wr w5 w2.heap.size := SameB.only ho5 _ (by omega))
                go_meet
                case rel => exact ⟨_, r2, nx, hn0, by omega, (finN w5 false _ _ s5a hT5 ho5).1, HD2, (finN w5 false _ _ s5a hT5 ho5).2⟩
              | false =>
                rw [ht] at hr1 hcB
                simp only [Bool.false_eq_true, if_false] at hr1
                subst hr1
                go_wp2_with ((go_at_call 19; ((with_reducible refine (hdr).mono ?_); rintro e w5 ⟨rfl, hT5, ho5⟩)); have s5a : SameB wr w5 w2.heap.size := SameB.only ho5 _ (by omega))
                go_meet
                case rel => exact ⟨_, r2, nx, hn0, by omega, (finN w5 false _ _ s5a hT5 ho5).1, HD2, (finN w5 false _ _ s5a hT5 ho5).2⟩
          case rest =>
            obtain ⟨B1, L1, nx1, hm0, hm1, hB1, hD1, hT1, hbc⟩ := hcut
            obtain ⟨w6, rfl⟩ : ∃ v, v = wc := ⟨wc, rfl⟩
            have hl1 := hD1.len
            have hL1 : L1.length ≤ 1000 := by have := hD1.size; have := List.count_le_length (a := true) (l := B1); omega
            have HD1 := Lib.hid hD1
            have HB1 := Lib.hid hB1
            have HT1 := Lib.hid hT1
            have HBC := Lib.hid hbc
            clear hD1 hB1 hT1 hbc hbj hbw3 hbw HD HB HB2 HT hu3 hu4 hdI hkI hkT cv
            go_wp2_with fail
            go_loopw [15, 16, 17, 18] (fun x n y p wr => ∃ d : Nat, x = .int .i64 d ∧ d ≤ 2 ∧ IsTree wr g b L1 nx1 ∧ wr.heap[w2.heap.size]? = some (.cells (B1.map Value.bool).toArray 32 (0, 0)) ∧ Below w.heap.size w wr) (fun x n y p wr => 2 - (intOf x).toNat)
            case atStart => exact ⟨0, rfl, by omega, HT1, HB1, HBC⟩
            case round =>
              obtain ⟨d, rfl, hd, hT7, hB7, hb7⟩ := hrel
              obtain ⟨w7, rfl⟩ : ∃ v, v = wr := ⟨wr, rfl⟩
              have s7a : SameB w7 w7 w2.heap.size := SameB.self (lt_of_block hB7)
              have s7g := hT7.sg
              have s7b := hT7.sb
              have HT7 := Lib.hid hT7
              have HB7 := Lib.hid hB7
              have HBB := Lib.hid hb7
              clear hT7 hB7 hb7
              by_cases hd2' : d < 2
              · have hdI' : (d : Int) < 2 := by omega
                go_wp2_with fail
                go_loopw [16, 17] (fun n y wr => ∃ j : Nat, n = .int .u16 (((B1.drop (4 * d)).take j).count true : Nat) ∧ y = .int .i64 j ∧ j ≤ 4 ∧ Below w7.heap.size w7 wr) (fun n y wr => 4 - (intOf y).toNat)
                case atStart => exact ⟨0, rfl, rfl, by omega, bel⟩
                case round =>
                  obtain ⟨j, rfl, rfl, hj, hbj⟩ := hrel
                  have s8a : SameB w7 wr w2.heap.size := SameB.call hbj _
                  by_cases hj4 : j < 4
                  · have hj4I : (j : Int) < 4 := by omega
                    have cB : wr.cell? ⟨w2.heap.size, d * 4 + j, none⟩ = some (.bool (B1.getD (d * 4 + j) false)) := by
                      refine SameB.cell (w := w7) ?_
                      rw [blk_cell HB7]
                      simp [List.getElem?_eq_getElem (show d * 4 + j < B1.length by omega)]
                    have hct : ((B1.drop (4 * d)).take (j + 1)).count true = ((B1.drop (4 * d)).take j).count true + (if B1.getD (d * 4 + j) false then 1 else 0) := by
                      rw [List.take_add_one, List.count_append, List.getD_eq_getElem?_getD, List.getElem?_eq_getElem (show d * 4 + j < B1.length by omega), List.getElem?_drop, show 4 * d + j = d * 4 + j by omega,
                        List.getElem?_eq_getElem (show d * 4 + j < B1.length by omega)]
                      cases B1[d * 4 + j] <;> simp
                    have hle : ((B1.drop (4 * d)).take j).count true ≤ 4 := by have := List.count_le_length (a := true) (l := (B1.drop (4 * d)).take j); simp at this; omega
                    cases hb : B1.getD (d * 4 + j) false with
                    | true =>
                      rw [hb] at cB hct
                      go_wp2_with fail
                      go_roundw
                      case rel => exact ⟨j + 1, by rw [hct]; go_num, by go_num, by omega, hbj⟩
                      case measure => simp [intOf]; omega
                    | false =>
                      rw [hb] at cB hct
                      go_wp2_with fail
                      go_roundw
                      case rel => exact ⟨j + 1, by rw [hct]; go_num, by go_num, by omega, hbj⟩
                      case measure => simp [intOf]; omega
                  · have hj4I : ¬ (j : Int) < 4 := by omega
                    obtain rfl : j = 4 := by omega
                    have hT8 : IsTree wr g b L1 nx1 := by
                      have h1 := IsTree.sg HT7
                      have h2 := IsTree.sb HT7
                      have : SameB w7 wr g := SameB.call hbj _
                      have : SameB w7 wr b := SameB.call hbj _
                      exact IsTree.same HT7
                    have hB8 : wr.heap[w2.heap.size]? = some (.cells (B1.map Value.bool).toArray 32 (0, 0)) := (SameB.blk (w := w7) (W := wr)).trans HB7
                    have hb8 : Below w.heap.size w wr := by
                      have h : Below w.heap.size w w7 := HBB
                      exact h.trans (hbj.mono h.size)
                    have s8g := hT8.sg
                    have s8b := hT8.sb
                    have s9a : SameB wr wr w2.heap.size := SameB.self (lt_of_block hB8)
                    have hsd : (dn d).size ≤ 1000000 := by show 1 ≤ 1000000; omega
                    have hmn := fun W h1 h2 => Many_any (@IsTree.same wr W g b L1 nx1 hT8 h1 h2) hL1 (dn d) hsd
                    have hdr := fun W h1 h2 => drop_any (@IsTree.same wr W g b L1 nx1 hT8 h1 h2) hL1 (dn d) hsd true
                    obtain ⟨hm1, hm2⟩ := Dirs.many HD1 hd2'
                    have hrow : ((B1.drop (4 * d)).take 4).count true = rowC B1 d := rfl
                    rw [hrow]
                    rw [hm1] at hmn
                    have hr4 : rowC B1 d ≤ 4 := by
                      have := List.count_le_length (a := true) (l := (B1.drop (4 * d)).take 4); rw [hrow] at this; simp at this; omega
                    have hdn : (⟨#[UInt8.ofNat (100 + (d : Int)).toNat]⟩ : ByteArray) = dn d := by
                      rw [show (100 + (d : Int)).toNat = 100 + d by omega]; rfl
                    have cv : ∀ (W : World) n, (convert 22 9 (.slice (some ⟨W.heap.size, 0, none⟩) 1 n)).run Try.prog (W.alloc (.cells #[.int .u8 (100 + (d : Int))] 5)) =
                      .ok (.string (dn d)) (W.alloc (.cells #[.int .u8 (100 + (d : Int))] 5)) := fun W n => by rw [conv1n, hdn]
                    have HT8 := Lib.hid hT8
                    have HB8 := Lib.hid hB8
                    have HB9 := Lib.hid hb8
                    have hw2 : w.heap.size ≤ w2.heap.size := s2l.out.size
                    have hw8 : w.heap.size ≤ wr.heap.size := hb8.size
                    clear hT8 hB8 hb8 hbj hrow hdn hm1
                    generalize rowC B1 d = R at *
                    by_cases hR : 0 < R
                    · have hR2 : (0 : Int) < R := by omega
                      have hm3 := hm2 hR
                      rw [hm3] at hdr
                      clear hm2 hm3
                      go_wp2_with (first | ((go_at_call 20; ((with_reducible refine (hmn _ inferInstance inferInstance).mono ?_); rintro e w8 ⟨rfl, hb10⟩)); have s10a : SameB wr w8 w2.heap.size := SameB.call hb10 _; have s10g : SameB wr w8 g := SameB.call hb10 _; have s10b : SameB wr w8 b := SameB.call hb10 _; have s10l : Bel wr w8 := Bel.call hb10) | ((go_at_call 19; ((with_reducible refine (hdr _ inferInstance inferInstance).mono ?_); rintro e w9 ⟨rfl, hT11, ho11⟩)); have s11a : SameB wr w9 w2.heap.size := SameB.only ho11 _ (by omega)))
                      go_roundw
                      case rel => exact ⟨d + 1, by go_num, by omega, hT11, s11a.blk.trans HB8, Below.trans HB9 (Below.trans (s10l.out.mono hw8) (ho11.toBelow (Nat.le_trans hw8 s10l.out.size) (by rintro i (rfl | rfl) <;> omega)))⟩
                      case measure => simp [intOf]; omega
                    · obtain rfl : R = 0 := by omega
                      clear hm2
                      go_wp2_with ((go_at_call 20; ((with_reducible refine (hmn _ inferInstance inferInstance).mono ?_); rintro e w8 ⟨rfl, hb10⟩)); have s10a : SameB wr w8 w2.heap.size := SameB.call hb10 _; have s10g : SameB wr w8 g := SameB.call hb10 _; have s10b : SameB wr w8 b := SameB.call hb10 _; have s10l : Bel wr w8 := Bel.call hb10)
                      go_roundw
                      case rel => exact ⟨d + 1, by go_num, by omega, IsTree.same HT8, s10a.blk.trans HB8, Below.trans HB9 (s10l.out.mono hw8)⟩
                      case measure => simp [intOf]; omega
              · have hdI' : ¬ (d : Int) < 2 := by omega
                go_wp2_with fail
                go_roundg (bs.length - (k + 1))
                case measure => omega
                case rel => exact ⟨k + 1, B1, L1, nx1, rfl, by go_num, by omega, hm0, by omega, HB7, HD1, HT7, HBB⟩
    · have hltI : ¬ (k : Int) < bs.length := by omega
      go_wp2_with fail
      go_ret
      exact ⟨rfl, hbw⟩
end Go.Proofs.Ytbcnfegmmhioeaa
