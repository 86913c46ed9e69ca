/- The walks of package tree: what is asked of a tree. -/
import Derived.Test.YtbcnfegmmhioeaaTree
import Derived.Test.YtbcnfegmmhioeaaIter
namespace Go.Proofs.Ytbcnfegmmhioeaa
open Go.RowKit

set_option maxRecDepth 100000 in
theorem find_any {w : World} {g b : Nat} {L : Ents} {nx : Int} (hT : IsTree w g b L nx) (s : ByteArray) (hs : s.size ≤ 1000000) :
    Calls Try.prog 83 #[.pointer (some ⟨g, 0, none⟩), .string s] w fun e w' =>
      e = .returned (.tuple #[.int .i64 (findM L s).1, .bool (findM L s).2.1, .int .u16 (findM L s).2.2]) ∧ Below w.heap.size w w' := by
  have hg := get_any hT s hs
  clear hT
  unfold findM
  generalize getM L s = x at *
  obtain ⟨⟨i, d⟩, c⟩ := x
  simp only at hg ⊢
  by_cases ha : c = 0
  · subst ha
    simp only [ne_eq, not_true_eq_false, if_false]
    go_enter Try.func83, Try.ntmps83
    go_wp2_with ((go_at_call 88; ((with_reducible refine (hg).mono ?_); rintro e w1 ⟨rfl, hb⟩)); have s1l : Bel w w1 := Bel.call hb)
    go_region
    go_wp2_with fail
    go_ret3
    exact ⟨rfl, bel⟩
  · have b1 : (c == 0) = false := by simpa using ha
    have b2 : (c != 0) = true := by simpa using ha
    simp only [ne_eq, ha, not_false_eq_true, if_true]
    clear ha
    go_enter Try.func83, Try.ntmps83
    go_wp2_with ((go_at_call 88; ((with_reducible refine (hg).mono ?_); rintro e w1 ⟨rfl, hb⟩)); have s1l : Bel w w1 := Bel.call hb)
    go_ret3
    exact ⟨rfl, bel⟩

theorem len_any {w : World} {g b : Nat} {L : Ents} {nx : Int} (hT : IsTree w g b L nx) :
    Calls Try.prog 84 #[.pointer (some ⟨g, 0, none⟩)] w fun e w' => e = .returned (.int .i64 L.length) ∧ w = w' := by
  have c0 := cell_of_row w g 0 _ _ _ hT.1
  have e1 := fun ty => hT.2.len (P := Try.prog) Try.underlying141 ty
  clear hT
  go_enter Try.func84, Try.ntmps84
  go_wp2
  go_ret
  exact ⟨rfl, rfl⟩

def keyDir : Value → ByteArray
  | .agg cs => match cs.toList with
    | Value.string d :: _ => d
    | _ => E0
  | _ => E0

open Go.ChangeMaps (setBlock) in
set_option maxRecDepth 100000 in
set_option maxHeartbeats 400000 in
theorem many_any {w : World} {g b : Nat} {L : Ents} {nx : Int} (hT : IsTree w g b L nx) (hL : L.length ≤ 1000) (s : ByteArray) :
    Calls Try.prog 89 #[.pointer (some ⟨g, 0, none⟩), .string s] w fun e w' => e = .returned (.int .i64 (manyM L s)) ∧ Below w.heap.size w w' := by
  have c0 := cell_of_row w g 0 _ _ _ hT.1
  obtain ⟨es, clock, hb, hes, hpw, hcl⟩ := hT.2
  have hbl := hT.sb
  clear hT
  have hcount : es.toList.countP (fun e => decide (keyDir e.key = s)) = manyM L s := by
    have h1 : es.toList.countP (fun e => decide (keyDir e.key = s)) = (es.toList.map (fun e => (e.key, e.val))).countP (fun kv => decide (keyDir kv.1 = s)) := by
      rw [List.countP_map]; rfl
    rw [h1, hes, List.countP_map]
    rfl
  have hkeys : ∀ e ∈ es.toList, ∃ a c, e.key = .agg #[.string a, .string c] := by
    intro e he
    have : (e.key, e.val) ∈ es.toList.map (fun e => (e.key, e.val)) := List.mem_map.2 ⟨e, he, rfl⟩
    rw [hes] at this
    obtain ⟨q, _, hq⟩ := List.mem_map.1 this
    simp only [Prod.mk.injEq] at hq
    exact ⟨q.1.1, q.1.2, hq.1.symm⟩
  have hnd : (es.toList.map (·.born)).Nodup := by
    rw [List.nodup_iff_pairwise_ne]
    exact (List.pairwise_map.2 hpw).imp (fun h => by omega)
  have hle : manyM L s ≤ L.length := List.countP_le_length
  have hrange := run_range_map (P := Try.prog) w 141 146 150 b es clock Try.underlying141 hb
  have HC := Lib.hid hcount
  have HB := Lib.hid hb
  have HK := Lib.hid hkeys
  have HN := Lib.hid hnd
  have HL := Lib.hid hcl
  clear hcount hb hkeys hnd hes hpw hcl
  go_enter Try.func89, Try.ntmps89
  go_wp2_with fail
  go_loopw [5] (fun n wr => ∃ (k : Nat) (seen : Array Nat) (st : Nat), n = .int .i64 k ∧ k + (leftOf es seen).toList.countP (fun e => decide (keyDir e.key = s)) = manyM L s ∧
      wr.heap[w.heap.size]? = some (.mapIter (some b) clock seen st) ∧ clock ≤ st ∧ Below w.heap.size w wr) (fun _ wr => wr.rangeLeft b w.heap.size)
  case atStart =>
    refine ⟨0, #[], clock, rfl, ?_, heap_alloc_new _ _, Nat.le_refl _, bel⟩
    rw [left_zero, Nat.zero_add]; exact HC.out
  case round =>
    obtain ⟨k, seen, st, rfl, hk, hit, hst, hbw⟩ := hrel
    have hbm : wr.heap[b]? = some (.map es clock) := (hbw.block b hbl.lt).trans HB.out
    have hbd : (leftOf es seen).toList.countP (fun e => decide (keyDir e.key = s)) ≤ 1000 ∧ k ≤ 1000 := by omega
    rcases iter_step (P := Try.prog) hit hbm HL.out HN.out hst 0 with ⟨h0, hrun⟩ | ⟨e, W, he, hrun, hent, hit2, hoth, hsz, hgr⟩
    · have hk2 : k = manyM L s := by
        rw [h0] at hk
        simpa using hk
      have HK2 := Lib.hid hk2
      clear hk hit hbm hst h0 hk2
      go_wp2_with fail
      go_ret
      exact ⟨ret_int (by rw [HK2.out]), hbw⟩
    · have hmem := left_mem he
      obtain ⟨a, c, hkey⟩ := HK.out e hmem
      have hstep := left_step HN.out he (fun e => decide (keyDir e.key = s))
      rw [show decide (keyDir e.key = s) = decide (a = s) from by rw [hkey]; rfl] at hstep
      have hless := left_less HN.out he
      have hbW : Below w.heap.size w W := hbw.grown hgr hbw.size (fun j hj => by cases hj; exact Nat.le_refl _)
      have : Bel w W := ⟨hbW⟩
      have hwW : w.heap.size < W.heap.size := by rw [hsz]; exact lt_of_block hit
      have hl1 : wr.rangeLeft b w.heap.size = (leftOf es seen).size := by simp [World.rangeLeft, hbm, hit]
      have hl2 : ∀ o, (W.alloc o).rangeLeft b w.heap.size = (leftOf es (seen.push e.born)).size := fun o => by
        have e1 := blk_alloc hit2 o
        have e2 := blk_alloc ((hbW.block b hbl.lt).trans HB.out) o
        simp [World.rangeLeft, e1, e2]
      have hit3 := fun o => blk_alloc hit2 o
      have HX := Lib.hid (And.intro hl1 (And.intro hl2 (And.intro hless (And.intro hstep (And.intro hk hit3)))))
      rw [hkey] at hrun hent
      clear hl1 hl2 hless hstep hk hit3 hkey he hmem hit hit2 hoth hsz hgr hbm hbw hst
      by_cases has : a = s
      · have b1 : (a.toList == s.toList) = true := by simp [has]
        have HA := Lib.hid has
        clear has
        go_wp2_with fail
        go_roundw
        case rel =>
          obtain ⟨h1, h2, h3, h4, h5, h6⟩ := HX.out
          refine ⟨k + 1, seen.push e.born, clock, by go_num, ?_, h6 _, Nat.le_refl _, bel⟩
          simp only [HA.out, decide_true, if_true] at h4
          omega
        case measure =>
          obtain ⟨h1, h2, h3, h4, h5, h6⟩ := HX.out
          rw [h1, h2]
          omega
      · have b1 : (a.toList == s.toList) = false := by rw [beq_bytes]; simpa using has
        have HA := Lib.hid has
        clear has
        go_wp2_with fail
        go_roundw
        case rel =>
          obtain ⟨h1, h2, h3, h4, h5, h6⟩ := HX.out
          refine ⟨k, seen.push e.born, clock, by go_num, ?_, h6 _, Nat.le_refl _, bel⟩
          simp only [HA.out, decide_false, Bool.false_eq_true, if_false] at h4
          omega
        case measure =>
          obtain ⟨h1, h2, h3, h4, h5, h6⟩ := HX.out
          rw [h1, h2]
          omega

set_option maxRecDepth 100000 in
theorem Many_any {w : World} {g b : Nat} {L : Ents} {nx : Int} (hT : IsTree w g b L nx) (hL : L.length ≤ 1000) (s : ByteArray) (hs : s.size ≤ 1000000) :
    Calls Try.prog 20 #[.pointer (some ⟨g, 0, none⟩), .string s] w fun e w' =>
      e = .returned (.int .u16 (manyC L s)) ∧ Below w.heap.size w w' := by
  have hg := get_any hT s hs
  have hmm := fun W h1 h2 => many_any (@IsTree.same w W g b L nx hT h1 h2) hL s
  have hle : manyM L s ≤ L.length := List.countP_le_length
  have hn : (manyM L s : Int) ≤ 1000 := by omega
  have sg := hT.sg
  have sb := hT.sb
  clear hT hle hL
  unfold manyC
  generalize manyM L s = n at *
  generalize getM L s = x at *
  obtain ⟨⟨i, d⟩, c⟩ := x
  simp only at hg ⊢
  by_cases ha : c = 0
  · subst ha
    simp only [ne_eq, not_true_eq_false, if_false]
    cases d
    · go_enter Try.func20, Try.ntmps20
      go_wp2_with ((go_at_call 88; ((with_reducible refine (hg).mono ?_); rintro e w1 ⟨rfl, hb⟩)); have s1l : Bel w w1 := Bel.call hb; have s1g : SameB w w1 g := SameB.call hb _; have s1b : SameB w w1 b := SameB.call hb _)
      go_ret
      exact ⟨rfl, bel⟩
    · go_enter Try.func20, Try.ntmps20
      go_wp2_with (first | ((go_at_call 88; ((with_reducible refine (hg).mono ?_); rintro e w1 ⟨rfl, hb⟩)); have s1l : Bel w w1 := Bel.call hb; have s1g : SameB w w1 g := SameB.call hb _; have s1b : SameB w w1 b := SameB.call hb _) | ((go_at_call 89; ((with_reducible refine (hmm _ inferInstance inferInstance).mono ?_); rintro e w2 ⟨rfl, hb2⟩)); have s2l : Bel w w2 := Bel.call hb2))
      go_ret
      exact ⟨rfl, bel⟩
  · have b1 : (c == 0) = false := by simpa using ha
    have b2 : (c != 0) = true := by simpa using ha
    simp only [ne_eq, ha, not_false_eq_true, if_true]
    clear ha
    go_enter Try.func20, Try.ntmps20
    go_wp2_with ((go_at_call 88; ((with_reducible refine (hg).mono ?_); rintro e w1 ⟨rfl, hb⟩)); have s1l : Bel w w1 := Bel.call hb)
    go_ret
    exact ⟨rfl, bel⟩
end Go.Proofs.Ytbcnfegmmhioeaa
