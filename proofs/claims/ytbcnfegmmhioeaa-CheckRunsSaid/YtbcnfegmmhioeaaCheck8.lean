/- The heights that are told, walked. -/
import Derived.Test.YtbcnfegmmhioeaaCheck7
namespace Go.Proofs.Ytbcnfegmmhioeaa
open Go.RowKit

theorem first_ne {L : List InstM} {n : Nat} {x : Nat × Int} (h : firstM L n = some x) : x.2 ≠ 0 := by
  unfold firstM at h
  obtain ⟨k, _, hk⟩ := List.exists_of_findSome?_eq_some h
  split at hk
  · cases hk
  · rename_i e; cases hk; exact e
theorem well_of_first {L : List InstM} {n : Nat} (h : firstM L n = none) : WellOnes L n := by
  intro k i hi
  unfold firstM at h
  rw [List.findSome?_eq_none_iff] at h
  have := h k (by simpa using (List.getElem?_eq_some_iff.1 hi).1)
  rw [hi] at this
  simp only [Option.getD_some] at this
  split at this
  · assumption
  · cases this
theorem run_ok {L : List InstM} {n : Nat} {well : Bool} {S : Nat → Nat → Bool} (h : (runM L n well S).2 = 0) : 0 < L.length ∧ L.length ≤ 96 ∧ WellOnes L n := by
  unfold runM at h
  split at h
  · cases h
  · rename_i hc
    split at h
    · cases h
    · cases hf : firstM L n with
      | some x => rw [hf] at h; exact absurd h (first_ne hf)
      | none => exact ⟨by omega, by omega, well_of_first hf⟩

noncomputable def hintsM (L : List InstM) (n : Nat) (well : Bool) : List Int := if (runM L n well (reachS L)).2 = 0 then heightsM L (reachS L) else []
noncomputable def rowsM (L : List InstM) (k : Nat) : List Int := (List.range k).map fun k => (rowM ((L[k]?.getD (0, 0)).1) (reachS L k) 17).1

theorem rowsM_succ {L : List InstM} {k : Nat} {i : InstM} (hi : L[k]? = some i) : rowsM L (k + 1) = rowsM L k ++ [(rowM i.1 (reachS L k) 17).1] := by
  unfold rowsM
  rw [List.range_succ, List.map_append]
  simp [hi]

set_option maxRecDepth 100000 in
set_option maxHeartbeats 4000000 in
theorem heights_any {w : World} (A : Option Addr) (c : Nat) (B : Option Addr) (d : Nat) (L : List InstM) (Ns : List ByteArray) (hA : IsSl 2 instC w A L) (hB : IsSl 1 strC w B Ns) :
    Calls Try.prog 26 #[progV A L.length c B Ns.length d] w fun e w' =>
      ∃ v, e = .returned v ∧ w'.ownsRow w.heap.size 3 1 v (hintsM L Ns.length (Ns.all nameB)).length ((hintsM L Ns.length (Ns.all nameB)).map (Value.int .i64)) ∧ Below w.heap.size w w' := by
  have hrun := fun W (hb : Below w.heap.size w W) => run_any (w := W) A c B d L Ns (hA.below hb) (hB.below hb)
  have hb0 : Below w.heap.size w (w.alloc (.cells #[.slice A L.length c, .slice B Ns.length d] 43)) := (Below.refl _ _).alloc (Nat.le_refl _) _
  unfold hintsM
  by_cases hok : (runM L Ns.length (Ns.all nameB) (reachS L)).2 = 0
  · obtain ⟨h1, h2, hW⟩ := run_ok hok
    rw [if_pos hok]
    rw [hok] at hrun
    generalize (runM L Ns.length (Ns.all nameB) (reachS L)).1 = r1 at *
    have hrch := fun W (hb : Below w.heap.size w W) => reach_any (w := W) A c B Ns.length d L (hA.below hb) h1 h2 hW
    obtain ⟨pb, hpb⟩ : ∃ p, p = Obj.cells #[.slice A L.length c, .slice B Ns.length d] 43 := ⟨_, rfl⟩
    have hp0 : (w.alloc (.cells #[.slice A L.length c, .slice B Ns.length d] 43)).heap[w.heap.size]? = some pb := by rw [hpb]; exact blk_new _ _
    have HP0 := Lib.hid hp0
    have HPB := Lib.hid hpb
    clear hok hp0 hpb
    have hz0 : w.heap.size < w.heap.size + 1 := by omega
    go_enter Try.func26, Try.ntmps26
    go_wp2_with (first | ((go_at_call 23; ((with_reducible refine (hrun _ hb0).mono ?_); rintro e w1 ⟨rfl, hb1⟩)); obtain ⟨hc1, hf1⟩ := bcell hb1; have s1l : Bel w w1 := Bel.call hb1; have hb01 : Below w.heap.size w w1 := s1l.out; have hz1 : w.heap.size < w1.heap.size := by (have := hb1.size; simp at this; omega)) | ((go_at_call 92; ((with_reducible refine (hrch _ hb01).mono ?_); rintro e w2 ⟨hb, S, rfl, hge, hS, hir, hb2⟩)); obtain ⟨hc2, hf2⟩ := bcell hb2; have s2l : Bel w w2 := Bel.call hb2))
    obtain rfl := reachS_eq hir
    have hp2 : w2.heap[w.heap.size]? = some pb := (hb2.block _ hz1).trans ((hb1.block _ (by simp)).trans HP0)
    have hbS : hb < w2.heap.size := lt_of_block hS
    have hz2 : w.heap.size < w2.heap.size := lt_of_block hp2
    have HP2 := Lib.hid hp2
    have HS := Lib.hid hS
    have HB2 := Lib.hid s2l.out
    clear hir hp2 hS hrun hrch hc1 hc2 hf1 hf2
    go_loopw [6, 22] (fun v x wr => ∃ k : Nat, x = .int .i64 k ∧ k ≤ L.length ∧ wr.ownsRow w2.heap.size 3 1 v k ((rowsM L k).map (Value.int .i64)) ∧ Below w2.heap.size w2 wr) (fun v x wr => L.length - (intOf x).toNat)
    case atStart => exact ⟨0, rfl, Nat.zero_le _, World.ownsRow_nil _ _ _ _, Below.refl _ _⟩
    case round =>
      rename Value => v
      obtain ⟨k, rfl, hk, hown, hbw⟩ := hrel
      obtain ⟨w3, rfl⟩ : ∃ v, v = wr := ⟨wr, rfl⟩
      have s3l : Bel w w3 := ⟨Below.trans HB2 (hbw.mono (by omega))⟩
      have hbx : Below w.heap.size w w3 := s3l.out
      have hz3 : w2.heap.size ≤ w3.heap.size := hbw.size
      have p0 : w3.cell? ⟨w.heap.size, 0, none⟩ = some (.slice A L.length c) := by
        have h := (hbw.block _ hz2).trans HP2; rw [HPB.out] at h; exact blk_cell h 0
      have p1 : w3.cell? ⟨w.heap.size, 1, none⟩ = some (.slice B Ns.length d) := by
        have h := (hbw.block _ hz2).trans HP2; rw [HPB.out] at h; exact blk_cell h 1
      by_cases hlt : k < L.length
      · have hltI : (k : Int) < L.length := by omega
        have hLI : (L.length : Int) ≤ 96 := by omega
        obtain ⟨i, hi⟩ : ∃ i, L[k]? = some i := ⟨L[k], List.getElem?_eq_getElem hlt⟩
        have hhe := height_any (w := w3) A c B Ns.length d L (hA.below hbx) h2 k i hi hb (reachS L) ((hbw.block _ hbS).trans HS)
        have hsu := rowsM_succ hi
        generalize rowM i.1 (reachS L k) 17 = q at *
        obtain ⟨q1, q2⟩ := q
        simp only at hsu
        have HSU := Lib.hid hsu
        have HBW := Lib.hid hbw
        clear hsu hi hbw
        go_wp2_with (first | ((go_at_call 93; ((with_reducible refine (hhe).mono ?_); rintro e w4 ⟨rfl, hb4⟩)); have s4l : Bel w w4 := Bel.call hb4; have ho4 := ownsRow_below hown hb4; have hz4 : w2.heap.size ≤ w4.heap.size := Nat.le_trans hz3 hb4.size) | (at_builtin; refine wpList_app1 rfl (.tmp 32) (.tmp 34) 47 rfl w2.heap.size 3 Try.underlying47 Try.info_int rfl (by decide) _ k _ rfl ho4 (by omega) (by omega) _ _ rfl rfl ?_; intro v5 w5 ho5 hb5 hnn5))
        go_roundw
        case rel => exact ⟨k + 1, by go_num, by omega, by rw [HSU.out, List.map_append]; exact ho5, Below.trans HBW ((hb4.mono hz3).trans hb5)⟩
        case measure => simp [intOf]; omega
      · have hltI : ¬ (k : Int) < L.length := by omega
        obtain rfl : k = L.length := by omega
        go_wp2_with fail
        go_ret
        exact ⟨_, rfl, by simpa [heightsM, rowsM] using ownsRow_mono hown (by omega), s3l.out⟩
  · have hne : ((runM L Ns.length (Ns.all nameB) (reachS L)).2 != 0) = true := by simpa using hok
    rw [if_neg hok]
    clear hok
    generalize runM L Ns.length (Ns.all nameB) (reachS L) = r at *
    obtain ⟨r1, r2⟩ := r
    simp only at hne
    go_enter Try.func26, Try.ntmps26
    go_wp2_with ((go_at_call 23; ((with_reducible refine (hrun _ hb0).mono ?_); rintro e w1 ⟨rfl, hb1⟩)); have s1l : Bel w w1 := Bel.call hb1)
    go_ret
    exact ⟨_, rfl, World.ownsRow_nil _ _ _ _, s1l.out⟩
end Go.Proofs.Ytbcnfegmmhioeaa
