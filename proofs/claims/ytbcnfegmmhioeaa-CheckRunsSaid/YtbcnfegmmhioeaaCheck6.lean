/- What is reached, and with which heights, walked. -/
import Derived.Test.YtbcnfegmmhioeaaCheck5
namespace Go.Proofs.Ytbcnfegmmhioeaa
open Go.RowKit

theorem behind_val {i : InstM} (hm : mayI i = true) {h m : Nat} (hb : behindM i.1 h = some m) : (h : Int) - takesM i.1 + givesM i.1 = m ∧ m < 17 := by
  have hg : 0 ≤ givesM i.1 := by
    unfold mayI at hm
    unfold givesM
    cases hk : kindM i.1 with
    | some k => have := kind_bound hk; simp only; omega
    | none => rw [hk] at hm; cases hm
  unfold behindM at hb
  split at hb
  · cases hb; omega
  · cases hb

/-- The list of what comes next, where it lies. -/
def ListAt (w W : World) (A : Option Addr) (T : List Nat) : Prop := 0 < T.length → ∃ g, A = some ⟨g, 0, none⟩ ∧ w.heap.size + 2 ≤ g ∧ g < W.heap.size ∧ ∀ j t, T[j]? = some t → W.cell? ⟨g, j, none⟩ = some (natV t)
theorem ListAt.set {w W : World} {A : Option Addr} {T : List Nat} (h : ListAt w W A T) (o : Nat) (v : Value) : ListAt w (W.setCell ⟨w.heap.size + 1, o, none⟩ v) A T := by
  intro h0
  obtain ⟨g, e, h1, h2, h3⟩ := h h0
  refine ⟨g, e, h1, by simpa [World.setCell] using h2, fun j t hj => ?_⟩
  exact (World.cell?_of_block (w := W) (heap_setCell_other W _ _ _ (by show g ≠ w.heap.size + 1; omega))).trans (h3 j t hj)

set_option maxRecDepth 100000 in
set_option maxHeartbeats 4000000 in
theorem reach_any {w : World} (A : Option Addr) (c : Nat) (B : Option Addr) (m d : Nat) (L : List InstM) (hA : IsSl 2 instC w A L) (hL0 : 0 < L.length) (hL : L.length ≤ 96) (hW : WellOnes L m) :
    Calls Try.prog 92 #[progV A L.length c B m d] w fun e w' =>
      ∃ b S, e = .returned (.pointer (some ⟨b, 0, none⟩)) ∧ w.heap.size ≤ b ∧ HeightsAt w' b S ∧ IsReach L S ∧ Below w.heap.size w w' := by
  obtain ⟨hz, hzs⟩ := zero_of_info Try.zero_heights
  have h00 : (falses 1632)[0]? = some (.bool false) := by simp [falses]
  have hst := St.start w (.cells #[.slice A L.length c, .slice B m d] 43)
  obtain ⟨pb, hpb⟩ : ∃ p, p = Obj.cells #[.slice A L.length c, .slice B m d] 43 := ⟨_, rfl⟩
  rw [← hpb] at hst
  have HST := Lib.hid hst
  have HPB := Lib.hid hpb
  clear hst hpb
  have hLI : (L.length : Int) ≤ 96 := by omega
  go_enter Try.func92, Try.ntmps92
  go_wp2_with fail
  clear hz hzs h00
  go_loopg [4] (leftS S00 + 1) (fun gk ag wr => ∃ (S : Nat → Nat → Bool) (a : Bool), ag = .bool a ∧ gk = (if a then leftS S + 1 else 0) ∧ St w wr pb S ∧ SoundR L S ∧ S 0 0 = true ∧ (a = false → ∀ k h, k < L.length → h < 17 → ClosedAt L S k h))
  case atStart =>
    refine ⟨S00, true, rfl, rfl, by rw [← HPB.out]; exact HST, ?_, rfl, fun h => by cases h⟩
    intro k h hk
    unfold S00 setS at hk
    split at hk
    · rename_i e; obtain ⟨rfl, rfl⟩ := e; exact Reach.start
    · cases hk
  case round =>
    obtain ⟨S0, a, rfl, hgk, hS0, hsnd, hz0, hcl⟩ := hrel
    cases a with
    | false =>
      have hir := isReach_of hW hL0 hsnd hz0 (hcl rfl)
      have HIR := Lib.hid hir
      clear hcl hsnd hz0 hir
      go_wp2_with fail
      go_ret
      exact ⟨w.heap.size + 1, S0, rfl, Nat.le_succ _, hS0.h, HIR, hS0.b⟩
    | true =>
      clear hcl
      simp only [if_true] at hgk
      obtain ⟨w1, rfl⟩ : ∃ v, v = wr := ⟨wr, rfl⟩
      have sP : SameB w1 w1 w.heap.size := SameB.self (lt_of_block hS0.p)
      have p0 : w1.cell? ⟨w.heap.size, 0, none⟩ = some (.slice A L.length c) := by
        have h := hS0.p; rw [HPB.out] at h; exact blk_cell h 0
      have hR0 : Round L S0 S0 false (∀ k', k' < 0 → ∀ h, h < 17 → ClosedAt L S0 k' h) := ⟨hsnd, hz0, Nat.le_refl _, (fun h => by cases h), fun _ => ⟨rfl, fun k' h => by omega⟩⟩
      have HS0 := Lib.hid hS0
      have HR0 := Lib.hid hR0
      clear hsnd hz0 hS0 hR0
      go_wp2_with fail
      clear p0
      go_loopw [4, 23] (fun ag x wr => ∃ (S : Nat → Nat → Bool) (a : Bool) (k : Nat), ag = .bool a ∧ x = .int .i64 k ∧ k ≤ L.length ∧ St w wr pb S ∧ Round L S0 S a (∀ k', k' < k → ∀ h, h < 17 → ClosedAt L S0 k' h)) (fun ag x wr => L.length - (intOf x).toNat)
      case atStart => exact ⟨S0, false, 0, rfl, rfl, Nat.zero_le _, HS0, HR0⟩
      case round =>
        obtain ⟨S1, a1, k, rfl, rfl, hk, hS1, hR1⟩ := hrel
        obtain ⟨w2, rfl⟩ : ∃ v, v = wr := ⟨wr, rfl⟩
        by_cases hlt : k < L.length
        · have hltI : (k : Int) < L.length := by omega
          obtain ⟨i, hi⟩ : ∃ i, L[k]? = some i := ⟨L[k], List.getElem?_eq_getElem hlt⟩
          have hmi := hW.may hi
          obtain ⟨ab, off, rfl, hsb, hc⟩ := (hA.below hS1.b).at_ hi
          obtain ⟨op, va⟩ := i
          have d0 : ∀ W [SameB w2 W ab], W.cell? ⟨ab, off + k * 2, none⟩ = some (.int .i64 op) := fun W _ => by simpa using hc W 0 _ rfl
          have d1 : ∀ W [SameB w2 W ab], W.cell? ⟨ab, off + k * 2 + 1, none⟩ = some (.int .i64 va) := fun W _ => hc W 1 _ rfl
          have hS1' : St w (w2.alloc (.cells #[.int .i64 op, .int .i64 va] 54)) pb S1 := hS1.call ((Below.refl _ _).alloc (Nat.le_refl _) _)
          have hrow : (w2.alloc (.cells #[.int .i64 op, .int .i64 va] 54)).rangeAt (w.heap.size + 1) (k * 17) (rowV S1 k) := hS1'.h.range (by omega)
          have hR2 : Round L S0 S1 a1 ((∀ k', k' < k → ∀ h, h < 17 → ClosedAt L S0 k' h) ∧ S1 = S0 ∧ ∀ h', h' < 0 → ClosedAt L S0 k h') := hR1.mono fun e h => ⟨h, e, fun h' hh => by omega⟩
          have HI := Lib.hid hi
          have HSI := Lib.hid hS1'
          have HRW := Lib.hid hrow
          have HR2 := Lib.hid hR2
          have hz2 := hS1.size
          have hnew : (w2.alloc (.cells #[.int .i64 op, .int .i64 va] 54)).heap[w2.heap.size]? = some (.cells #[.int .i64 op, .int .i64 va] 54 (0, 0)) := blk_new _ _
          have HNW := Lib.hid hnew
          have HSN : SoundR L S1 := hR1.snd
          clear hc hi hS1' hrow hR2 hS1 hR1 hnew
          go_wp2_with (refine wpList_load_mid rfl 243 (.tmp 31) rfl (w.heap.size + 1) (k * 17) rfl (rowV S1 k) _ HRW Try.underlying243 rfl Try.info_row ?_)
          clear d0 d1
          go_loopw [4, 33] (fun ag x wr => ∃ (S : Nat → Nat → Bool) (a : Bool) (h : Nat), ag = .bool a ∧ x = .int .i64 h ∧ h ≤ 17 ∧ St w wr pb S ∧ wr.heap[w2.heap.size]? = some (.cells #[.int .i64 op, .int .i64 va] 54 (0, 0)) ∧
              Round L S0 S a ((∀ k', k' < k → ∀ h, h < 17 → ClosedAt L S0 k' h) ∧ S1 = S0 ∧ ∀ h', h' < h → ClosedAt L S0 k h')) (fun ag x wr => 17 - (intOf x).toNat)
          case atStart => exact ⟨S1, a1, 0, rfl, rfl, by omega, HSI, HNW, HR2⟩
          case round =>
            obtain ⟨S2, a2, h, rfl, rfl, hh, hS2, hI2, hR2⟩ := hrel
            obtain ⟨w3, rfl⟩ : ∃ v, v = wr := ⟨wr, rfl⟩
            have s3i : SameB w3 w3 w2.heap.size := SameB.self (lt_of_block hI2)
            have i0 : ∀ W [SameB w3 W w2.heap.size], W.cell? ⟨w2.heap.size, 0, none⟩ = some (.int .i64 op) := fun W _ => SameB.cell (blk_cell hI2 0)
            have i1 : ∀ W [SameB w3 W w2.heap.size], W.cell? ⟨w2.heap.size, 1, none⟩ = some (.int .i64 va) := fun W _ => SameB.cell (blk_cell hI2 1)
            have s3p : SameB w3 w3 w.heap.size := SameB.self (lt_of_block hS2.p)
            have p0 : ∀ W [SameB w3 W w.heap.size], W.cell? ⟨w.heap.size, 0, none⟩ = some (.slice (some ⟨ab, off, none⟩) L.length c) := fun W _ => by
              have h := hS2.p; rw [HPB.out] at h; exact SameB.cell (blk_cell h 0)
            have p1 : ∀ W [SameB w3 W w.heap.size], W.cell? ⟨w.heap.size, 1, none⟩ = some (.slice B m d) := fun W _ => by
              have h := hS2.p; rw [HPB.out] at h; exact SameB.cell (blk_cell h 1)
            have hz3 := hS2.size
            by_cases h17 : h < 17
            · have hhI : (h : Int) < 17 := by omega
              have hidx := run_index_row S1 k h h17
              have hbeh := fun W => behind_any (op, va) h (by omega) W
              unfold instV at hbeh
              simp only at hbeh
              cases hg : S1 k h with
              | false =>
                rw [hg] at hidx
                have hR3 : Round L S0 S2 a2 ((∀ k', k' < k → ∀ h, h < 17 → ClosedAt L S0 k' h) ∧ S1 = S0 ∧ ∀ h', h' < h + 1 → ClosedAt L S0 k h') := hR2.mono fun _ ⟨e1, e2, e3⟩ => ⟨e1, e2, fun h' hlt => by
                  by_cases e : h' < h
                  · exact e3 h' e
                  · obtain rfl : h' = h := by omega
                    intro hS; rw [← e2, hg] at hS; cases hS⟩
                have HR3 := Lib.hid hR3
                have HS2 := Lib.hid hS2
                have HI2 := Lib.hid hI2
                clear hR2 hR3 hS2 hI2 hg
                go_wp2_with ((go_at_call 168; ((with_reducible refine (hbeh _).mono ?_); rintro e w4 ⟨rfl, hb4⟩)); have s4i : SameB w3 w4 w2.heap.size := SameB.call hb4 _)
                go_roundw
                case rel => exact ⟨S2, a2, h + 1, rfl, by go_num, by omega, St.call HS2 hb4, s4i.blk.trans HI2, HR3⟩
                case measure => simp [intOf]; omega
              | true =>
                rw [hg] at hidx
                cases hm : behindM op h with
                | none =>
                  rw [hm] at hbeh
                  simp only [Option.isSome_none] at hbeh
                  have hR3 : Round L S0 S2 a2 ((∀ k', k' < k → ∀ h, h < 17 → ClosedAt L S0 k' h) ∧ S1 = S0 ∧ ∀ h', h' < h + 1 → ClosedAt L S0 k h') := hR2.mono fun _ ⟨e1, e2, e3⟩ => ⟨e1, e2, fun h' hlt => by
                    by_cases e : h' < h
                    · exact e3 h' e
                    · obtain rfl : h' = h := by omega
                      intro hS i' m' hi' hb' to ht
                      rw [show L[k]? = some (op, va) from HI] at hi'
                      cases hi'
                      rw [hm] at hb'; cases hb'⟩
                  have HR3 := Lib.hid hR3
                  have HS2 := Lib.hid hS2
                  have HI2 := Lib.hid hI2
                  clear hR2 hR3 hS2 hI2 hg hm
                  go_wp2_with ((go_at_call 168; ((with_reducible refine (hbeh _).mono ?_); rintro e w4 ⟨rfl, hb4⟩)); have s4i : SameB w3 w4 w2.heap.size := SameB.call hb4 _)
                  go_roundw
                  case rel => exact ⟨S2, a2, h + 1, rfl, by go_num, by omega, St.call HS2 hb4, s4i.blk.trans HI2, HR3⟩
                  case measure => simp [intOf]; omega
                | some mm =>
                  obtain ⟨hv, hm17⟩ := behind_val hmi hm
                  rw [hm] at hbeh
                  simp only at hv
                  simp only [Option.isSome_some, hv] at hbeh
                  clear hv
                  have hreach : ∀ to ∈ nextM (op, va) k, Reach L to mm := fun to ht => Reach.next (HSN k h hg) HI hm ht
                  have hlt96 : ∀ to ∈ nextM (op, va) k, to < 96 := fun to ht => Nat.lt_of_lt_of_le (hW.next HI ht) hL
                  have hclose : ∀ S, S = S0 → ((∀ k', k' < k → ∀ h, h < 17 → ClosedAt L S0 k' h) ∧ S1 = S0 ∧ ∀ h', h' < h → ClosedAt L S0 k h') ∧ (∀ to ∈ nextM (op, va) k, S0 to mm = true) →
                      ((∀ k', k' < k → ∀ h, h < 17 → ClosedAt L S0 k' h) ∧ S1 = S0 ∧ ∀ h', h' < h + 1 → ClosedAt L S0 k h') := fun S _ ⟨⟨e1, e2, e3⟩, e4⟩ => ⟨e1, e2, fun h' hlt => by
                    by_cases e : h' < h
                    · exact e3 h' e
                    · obtain rfl : h' = h := by omega
                      intro hS i' m' hi' hb' to ht
                      rw [show L[k]? = some (op, va) from HI] at hi'
                      cases hi'
                      rw [hm] at hb'; cases hb'
                      exact e4 to ht⟩
                  have hnx := fun W (hb : Below w.heap.size w W) => next_any (w := W) (some ⟨ab, off, none⟩) c B m d L (hA.below hb) hL k (op, va) HI (mayI_nonneg hmi)
                  have hb2 := hS2.b
                  have hT2 : ((nextM (op, va) k).length : Int) ≤ 2 := by
                    unfold nextM
                    split <;> split <;> simp
                  generalize nextM (op, va) k = T at *
                  have HR2 := Lib.hid hR2
                  have HS2 := Lib.hid hS2
                  have HI2 := Lib.hid hI2
                  have HRE := Lib.hid hreach
                  have HLT := Lib.hid hlt96
                  have HCL := Lib.hid hclose
                  clear hR2 hS2 hI2 hg hm hreach hlt96 hclose
                  go_wp2_with (first | ((go_at_call 168; ((with_reducible refine (hbeh _).mono ?_); rintro e w4 ⟨rfl, hb4⟩)); have s4i : SameB w3 w4 w2.heap.size := SameB.call hb4 _; have s4p : SameB w3 w4 w.heap.size := SameB.call hb4 _; have hb4w : Below w.heap.size w w4 := hb2.trans (hb4.mono (by omega))) | ((go_at_call 169; ((with_reducible refine (hnx _ hb4w).mono ?_); rintro e w5 ⟨v, rfl, ho5, hb5⟩)); have s5i : SameB w3 w5 w2.heap.size := SameB.call hb5 _; obtain ⟨A5, cap5, rfl, hls⟩ := owns_nats ho5))
                  have hb35 : Below w3.heap.size w3 w5 := hb4.trans (hb5.mono hb4.size)
                  have HS5 := Lib.hid (St.call HS2 hb35)
                  have HI5 := Lib.hid (s5i.blk.trans HI2)
                  have hla : ListAt w w5 A5 T := fun h0 => by
                    obtain ⟨g, e1, e2, e3, e4⟩ := hls h0
                    exact ⟨g, e1, Nat.le_trans hz3 (Nat.le_trans hb4.size e2), e3, e4⟩
                  have HLA := Lib.hid hla
                  have hmmI : (mm : Int) < 17 := by omega
                  clear hls hla ho5 hb35 hbeh hnx hidx i0 i1 p0 p1
                  go_loopw [4, 53] (fun ag x wr => ∃ (S : Nat → Nat → Bool) (a : Bool) (j : Nat), ag = .bool a ∧ x = .int .i64 j ∧ j ≤ T.length ∧ St w wr pb S ∧ wr.heap[w2.heap.size]? = some (.cells #[.int .i64 op, .int .i64 va] 54 (0, 0)) ∧ ListAt w wr A5 T ∧
                      Round L S0 S a (((∀ k', k' < k → ∀ h, h < 17 → ClosedAt L S0 k' h) ∧ S1 = S0 ∧ ∀ h', h' < h → ClosedAt L S0 k h') ∧ ∀ to ∈ T.take j, S0 to mm = true)) (fun ag x wr => T.length - (intOf x).toNat)
                  case atStart => exact ⟨S2, a2, 0, rfl, rfl, Nat.zero_le _, HS5, HI5, HLA, Round.mono HR2 fun _ h => ⟨h, fun to ht => by simp at ht⟩⟩
                  case round =>
                    obtain ⟨S3, a3, j, rfl, rfl, hj, hS3, hI3, hL3, hR3⟩ := hrel
                    obtain ⟨w6, rfl⟩ : ∃ v, v = wr := ⟨wr, rfl⟩
                    by_cases hjT : j < T.length
                    · have hjI : (j : Int) < T.length := by omega
                      obtain ⟨t, htj⟩ : ∃ t, T[j]? = some t := ⟨T[j], List.getElem?_eq_getElem hjT⟩
                      obtain ⟨g, rfl, hg1, hg2, hg3⟩ := hL3 (by omega)
                      have hgc := hg3 j t htj
                      unfold natV at hgc
                      have htm := List.mem_of_getElem? htj
                      have ht96 := HLT.out t htm
                      have htI : (t : Int) < 96 := by omega
                      have hR4 := hR3.put (D' := ((∀ k', k' < k → ∀ h, h < 17 → ClosedAt L S0 k' h) ∧ S1 = S0 ∧ ∀ h', h' < h → ClosedAt L S0 k h') ∧ ∀ to ∈ T.take (j + 1), S0 to mm = true) (HRE.out t htm) ht96 hm17 (fun ⟨e1, e2⟩ e3 => ⟨e1, fun to hto => by
                        rw [List.take_add_one, htj] at hto
                        simp only [List.mem_append, Option.mem_toList] at hto
                        rcases hto with hto | hto
                        · exact e2 to hto
                        · cases hto; exact e3⟩)
                      have hS4 : St w (w6.setCell ⟨w.heap.size + 1, t * 17 + mm, none⟩ (.bool true)) pb (setS S3 t mm) := hS3.set hm17
                      have hcell := hS3.h.cell ht96 hm17
                      have hfree : w6.frozen? ⟨w.heap.size + 1, t * 17 + mm, none⟩ = false := frozen_of_row _ _ _ _ _ hS3.h
                      have hI4 : (w6.setCell ⟨w.heap.size + 1, t * 17 + mm, none⟩ (.bool true)).heap[w2.heap.size]? = some (.cells #[.int .i64 op, .int .i64 va] 54 (0, 0)) := (heap_setCell_other w6 _ _ _ (by show w2.heap.size ≠ w.heap.size + 1; omega)).trans hI3
                      have hL4 : ListAt w (w6.setCell ⟨w.heap.size + 1, t * 17 + mm, none⟩ (.bool true)) (some ⟨g, 0, none⟩) T := ListAt.set hL3 _ _
                      have HX := Lib.hid (And.intro hS4 (And.intro hI4 hL4))
                      have HR4 := Lib.hid hR4
                      clear hS4 hI4 hL4 hR4 hS3 hI3 hL3 hR3 hg3
                      cases a3 with
                      | true =>
                        go_wp2_with fail
                        go_roundw
                        case rel => exact ⟨setS S3 t mm, true, j + 1, rfl, by go_num, by omega, HX.1, HX.2.1, HX.2.2, HR4⟩
                        case measure => simp [intOf]; omega
                      | false =>
                        cases hst : S3 t mm with
                        | true =>
                          rw [hst] at hcell
                          have HR5 : Hid _ := HR4.out
                          rw [hst] at HR5
                          go_wp2_with fail
                          go_roundw
                          case rel => exact ⟨setS S3 t mm, false, j + 1, rfl, by go_num, by omega, HX.1, HX.2.1, HX.2.2, HR5⟩
                          case measure => simp [intOf]; omega
                        | false =>
                          rw [hst] at hcell
                          have HR5 : Hid _ := HR4.out
                          rw [hst] at HR5
                          go_wp2_with fail
                          go_roundw
                          case rel => exact ⟨setS S3 t mm, true, j + 1, rfl, by go_num, by omega, HX.1, HX.2.1, HX.2.2, HR5⟩
                          case measure => simp [intOf]; omega
                    · have hjI : ¬ (j : Int) < T.length := by omega
                      obtain rfl : j = T.length := by omega
                      rw [List.take_of_length_le (Nat.le_refl _)] at hR3
                      have HS3 := Lib.hid hS3
                      have HI3 := Lib.hid hI3
                      have HR3 := Lib.hid hR3
                      clear hS3 hI3 hL3 hR3
                      go_wp2_with fail
                      go_roundw
                      case rel => exact ⟨S3, a3, h + 1, rfl, by go_num, by omega, HS3, HI3, Round.mono HR3 fun e h => HCL.out S3 e h⟩
                      case measure => simp [intOf]; omega
            · have hhI : ¬ (h : Int) < 17 := by omega
              obtain rfl : h = 17 := by omega
              have HR2 := Lib.hid hR2
              have HS2 := Lib.hid hS2
              clear hR2 hS2 hI2 i0 i1 p0 p1
              go_wp2_with fail
              go_roundw
              case rel => exact ⟨S2, a2, k + 1, rfl, by go_num, by omega, HS2, Round.mono HR2 fun e ⟨e1, e2, e3⟩ => fun k' hk' h hh => by
                by_cases e' : k' < k
                · exact e1 k' e' h hh
                · obtain rfl : k' = k := by omega
                  exact e3 h hh⟩
              case measure => simp [intOf]; omega
        · have hltI : ¬ (k : Int) < L.length := by omega
          have HS1 := Lib.hid hS1
          have HR1 := Lib.hid hR1
          clear hS1 hR1
          go_wp2_with fail
          go_roundg (if a1 then leftS S1 + 1 else 0)
          case measure =>
            cases a1 with
            | true => have := HR1.out.lt rfl; simp; omega
            | false => simp
          case rel => exact ⟨S1, a1, rfl, rfl, HS1, HR1.out.snd, HR1.out.z, fun e k' h hk' hh => by
            have h1 := HR1.out.eq e
            rw [h1.1]
            exact h1.2 k' (by omega) h hh⟩
end Go.Proofs.Ytbcnfegmmhioeaa
