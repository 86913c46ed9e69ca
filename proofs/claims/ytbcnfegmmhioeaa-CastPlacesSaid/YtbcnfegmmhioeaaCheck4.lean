/- An instruction's one height, walked. -/
import Derived.Test.YtbcnfegmmhioeaaCheck3
import Derived.Deep.MidRow
namespace Go.Proofs.Ytbcnfegmmhioeaa
open Go.RowKit

def rowV (S : Nat → Nat → Bool) (k : Nat) : List Value := (List.range 17).map fun h => Value.bool (S k h)
def heightsC (S : Nat → Nat → Bool) : Array Value := ((List.range 1632).map fun i => Value.bool (S (i / 17) (i % 17))).toArray
def HeightsAt (w : World) (b : Nat) (S : Nat → Nat → Bool) : Prop := w.heap[b]? = some (.cells (heightsC S) 245 (0, 0))
theorem HeightsAt.sb {w : World} {b : Nat} {S : Nat → Nat → Bool} (h : HeightsAt w b S) : SameB w w b := SameB.self (lt_of_block h)
theorem HeightsAt.same {w W : World} {b : Nat} {S : Nat → Nat → Bool} (h : HeightsAt w b S) [hb : SameB w W b] : HeightsAt W b S := hb.blk.trans h
theorem HeightsAt.cell {w : World} {b : Nat} {S : Nat → Nat → Bool} (h : HeightsAt w b S) {k j : Nat} (hk : k < 96) (hj : j < 17) : w.cell? ⟨b, k * 17 + j, none⟩ = some (.bool (S k j)) := by
  rw [blk_cell h]
  have h1 : k * 17 + j < 1632 := by omega
  have h2 : (k * 17 + j) / 17 = k := by omega
  have h3 : (k * 17 + j) % 17 = j := by omega
  simp [heightsC, List.getElem?_range h1, h2, h3]
theorem HeightsAt.range {w : World} {b : Nat} {S : Nat → Nat → Bool} (h : HeightsAt w b S) {k : Nat} (hk : k < 96) : w.rangeAt b (k * 17) (rowV S k) := by
  intro j v hj
  have hj' : j < 17 := by have := (List.getElem?_eq_some_iff.1 hj).1; simpa [rowV] using this
  rw [h.cell hk hj']
  simp [rowV, List.getElem?_range hj'] at hj
  rw [← hj]
theorem set_range (N : Nat) (S : Nat → Nat → Bool) (k j : Nat) (hj : j < 17) :
    (((List.range N).map fun i => Value.bool (S (i / 17) (i % 17))).toArray).setIfInBounds (k * 17 + j) (.bool true) = ((List.range N).map fun i => Value.bool (setS S k j (i / 17) (i % 17))).toArray := by
  apply Array.ext_getElem?
  intro i
  simp only [Array.getElem?_setIfInBounds, List.getElem?_toArray, List.getElem?_map, List.size_toArray, List.length_map, List.length_range]
  by_cases hi : i < N
  · rw [List.getElem?_range hi]
    by_cases e : k * 17 + j = i
    · subst e
      have h2 : (k * 17 + j) / 17 = k := by omega
      have h3 : (k * 17 + j) % 17 = j := by omega
      simp [hi, h2, h3, setS_at]
    · have : ¬ (i / 17 = k ∧ i % 17 = j) := by omega
      simp [e, setS, this]
  · rw [List.getElem?_eq_none (by simp; omega)]
    simp
    omega
theorem HeightsAt.set {w : World} {b : Nat} {S : Nat → Nat → Bool} (h : HeightsAt w b S) {k j : Nat} (hj : j < 17) : HeightsAt (w.setCell ⟨b, k * 17 + j, none⟩ (.bool true)) b (setS S k j) :=
  (heap_setCell_same _ _ _ _ _ _ h).trans (by rw [heightsC, set_range 1632 S k j hj]; rfl)

theorem Try.info_row : (Try.prog.info? 243).map (·.size) = some 17 := by kernel_rfl

theorem run_index_row (S : Nat → Nat → Bool) (k j : Nat) (hj : j < 17) (W : World) : (Instr.index 243 (.agg (rowV S k).toArray) (.int .i64 j)).run Try.prog W = .ok (.bool (S k j)) W := by
  have hidx : (rowV S k)[j]? = some (.bool (S k j)) := by simp [rowV, List.getElem?_range hj]
  have hn : 0 ≤ (j : Int) ∧ (j : Int) < 17 := by omega
  simp [Instr.index, run_underlying Try.underlying243, asIntOf, hn, hidx, go_sem]
  intro h; omega

set_option maxRecDepth 100000 in
theorem height_any {w : World} (A : Option Addr) (c : Nat) (B : Option Addr) (m d : Nat) (L : List InstM) (hA : IsSl 2 instC w A L) (hL : L.length ≤ 96) (k : Nat) (i : InstM) (hi : L[k]? = some i) (b : Nat) (S : Nat → Nat → Bool) (hS : HeightsAt w b S) :
    Calls Try.prog 93 #[progV A L.length c B m d, .pointer (some ⟨b, 0, none⟩), .int .i64 k] w fun e w' =>
      e = .returned (.tuple #[.int .i64 (rowM i.1 (S k) 17).1, .bool (rowM i.1 (S k) 17).2]) ∧ Below w.heap.size w w' := by
  have hk := (List.getElem?_eq_some_iff.1 hi).1
  obtain ⟨ab, off, rfl, hsb, hc⟩ := hA.at_ hi
  obtain ⟨op, a⟩ := i
  have d0 : ∀ W [SameB w W ab], W.cell? ⟨ab, off + k * 2, none⟩ = some (.int .i64 op) := fun W _ => by simpa using hc W 0 _ rfl
  have d1 : ∀ W [SameB w W ab], W.cell? ⟨ab, off + k * 2 + 1, none⟩ = some (.int .i64 a) := fun W _ => hc W 1 _ rfl
  clear hc hi hA
  have hkI : (k : Int) < L.length := by omega
  have hLI : (L.length : Int) ≤ 96 := by omega
  have hkI2 : (k : Int) < 96 := by omega
  have hsB := hS.sb
  have hrow : (w.alloc (.cells #[.slice (some ⟨ab, off, none⟩) L.length c, .slice B m d] 43)).rangeAt b (k * 17) (rowV S k) := (HeightsAt.same hS).range (by omega)
  have hrow2 := Lib.hid hrow
  clear hrow
  have HS := Lib.hid hS
  clear hS
  go_enter Try.func93, Try.ntmps93
  go_wp2_with (refine wpList_load_mid rfl 243 (.tmp 17) rfl b (k * 17) rfl (rowV S k) _ hrow2 Try.underlying243 rfl Try.info_row ?_)
  have hrl : ∀ j, (rowM op (S k) j).1 = (rowM op (S k) j).1 := fun _ => rfl
  clear hrl hrow2 hsB
  have hproj : ((w.alloc (.cells #[.slice (some ⟨ab, off, none⟩) L.length c, .slice B m d] 43)).heap)[w.heap.size]? = some (.cells #[.slice (some ⟨ab, off, none⟩) L.length c, .slice B m d] 43 (0, 0)) := blk_new _ _
  have hlsz : (w.alloc (.cells #[.slice (some ⟨ab, off, none⟩) L.length c, .slice B m d] 43)).heap.size = w.heap.size + 1 := by simp
  have Hproj := Lib.hid hproj
  clear hproj
  go_loopw [8, 9, 19] (fun o l x wr => ∃ j : Nat, x = .int .i64 j ∧ j ≤ 17 ∧ (o = .int .i64 (rowM op (S k) j).1 ∧ l = .bool (rowM op (S k) j).2) ∧ Below (w.heap.size + 1) (w.alloc (.cells #[.slice (some ⟨ab, off, none⟩) L.length c, .slice B m d] 43)) wr) (fun o l x wr => 17 - (intOf x).toNat)
  case atStart => exact ⟨0, rfl, by omega, ⟨rfl, rfl⟩, Below.refl _ _⟩
  case round =>
    obtain ⟨j, rfl, hj, ⟨rfl, rfl⟩, hbw⟩ := hrel
    obtain ⟨w3, rfl⟩ : ∃ v, v = wr := ⟨wr, rfl⟩
    have s3l : Bel w w3 := ⟨(Below.alloc (Below.refl _ _) (Nat.le_refl _) _).trans (hbw.mono (by omega))⟩
    have s3a : SameB w w3 ab := SameB.below s3l.out (hsb.lt) (hsb.lt)
    have hz3 : w.heap.size + 1 ≤ w3.heap.size := by have := hbw.size; rw [hlsz] at this; exact this
    have hp : w3.heap[w.heap.size]? = some (.cells #[.slice (some ⟨ab, off, none⟩) L.length c, .slice B m d] 43 (0, 0)) := (hbw.block _ (by omega)).trans Hproj
    have p0 := blk_cell hp 0
    have p1 := blk_cell hp 1
    simp at p0 p1
    have HB3 := Lib.hid hbw
    clear hbw hp
    by_cases hj17 : j < 17
    · have hjI : (j : Int) < 17 := by omega
      have hbeh := fun W => behind_any (op, a) j (by omega) W
      unfold instV at hbeh
      simp only at hbeh
      have hidx := run_index_row S k j hj17
      cases hR : S k j with
      | true =>
        rw [hR] at hidx
        have HR := Lib.hid hR
        clear hR
        generalize hrm : rowM op (S k) j = rm at *
        obtain ⟨r1, r2⟩ := rm
        have hsu : rowM op (S k) (j + 1) = ((j : Int), r2 && (behindM op j).isSome && decide (r1 = -1)) := by
          rw [rowM, if_pos HR.out, hrm]
        have HSU := Lib.hid hsu
        clear hsu hrm
        generalize (behindM op j).isSome = g at *
        cases r2 with
        | false =>
          go_wp2_with ((go_at_call 168; ((with_reducible refine (hbeh _).mono ?_); rintro e w1 ⟨rfl, hb⟩)); have s1l : Bel w w1 := Bel.call hb; have s1x : Below (w.heap.size + 1) w3 w1 := hb.mono hz3)
          go_roundw
          case rel => exact ⟨j + 1, by go_num, by omega, by rw [HSU.out]; exact ⟨rfl, rfl⟩, Below.trans HB3 s1x⟩
          case measure => simp [intOf]; omega
        | true =>
          cases g with
          | false =>
            go_wp2_with ((go_at_call 168; ((with_reducible refine (hbeh _).mono ?_); rintro e w1 ⟨rfl, hb⟩)); have s1l : Bel w w1 := Bel.call hb; have s1x : Below (w.heap.size + 1) w3 w1 := hb.mono hz3)
            go_roundw
            case rel => exact ⟨j + 1, by go_num, by omega, by rw [HSU.out]; exact ⟨rfl, rfl⟩, Below.trans HB3 s1x⟩
            case measure => simp [intOf]; omega
          | true =>
            by_cases hr1 : r1 = -1
            · subst hr1
              go_wp2_with ((go_at_call 168; ((with_reducible refine (hbeh _).mono ?_); rintro e w1 ⟨rfl, hb⟩)); have s1l : Bel w w1 := Bel.call hb; have s1x : Below (w.heap.size + 1) w3 w1 := hb.mono hz3)
              go_roundw
              case rel => exact ⟨j + 1, by go_num, by omega, by rw [HSU.out]; exact ⟨rfl, rfl⟩, Below.trans HB3 s1x⟩
              case measure => simp [intOf]; omega
            · have hr1b : (r1 == -1) = false := by simpa using hr1
              have hs2 : rowM op (S k) (j + 1) = ((j : Int), false) := by rw [HSU.out]; simp [hr1]
              clear HSU
              have HSU := Lib.hid hs2
              clear hs2
              go_wp2_with ((go_at_call 168; ((with_reducible refine (hbeh _).mono ?_); rintro e w1 ⟨rfl, hb⟩)); have s1l : Bel w w1 := Bel.call hb; have s1x : Below (w.heap.size + 1) w3 w1 := hb.mono hz3)
              go_roundw
              case rel => exact ⟨j + 1, by go_num, by omega, by rw [HSU.out]; exact ⟨rfl, rfl⟩, Below.trans HB3 s1x⟩
              case measure => simp [intOf]; omega
      | false =>
        rw [hR] at hidx
        have hsu : rowM op (S k) (j + 1) = rowM op (S k) j := by rw [rowM, if_neg (by simp [hR])]
        have HSU := Lib.hid hsu
        clear hR hsu
        go_wp2_with fail
        go_roundw
        case rel => exact ⟨j + 1, by go_num, by omega, by rw [HSU.out]; exact ⟨rfl, rfl⟩, Below.trans HB3 (Below.refl _ _)⟩
        case measure => simp [intOf]; omega
    · have hjI : ¬ (j : Int) < 17 := by omega
      obtain rfl : j = 17 := by omega
      go_wp2_with fail
      go_ret2
      exact ⟨rfl, s3l.out⟩
end Go.Proofs.Ytbcnfegmmhioeaa
