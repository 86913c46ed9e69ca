/- A map that is ranged over: what is left to come, counted. -/
import Derived.Test.YtbcnfegmmhioeaaLib
import Derived.Maps.RangeRun
import Derived.Maps.RangeWalk
namespace Go.Proofs.Ytbcnfegmmhioeaa
open Go.RowKit
open Go.ChangeMaps (setBlock)

theorem leftOf_push (es : Array MapEntry) (seen : Array Nat) (b : Nat) : (leftOf es (seen.push b)).toList = (leftOf es seen).toList.filter (fun e => e.born != b) := by
  unfold leftOf
  simp only [Array.toList_filter, List.filter_filter]
  congr 1
  funext e
  by_cases h : e.born = b <;> simp [h, bne]

theorem count_one (p : MapEntry → Bool) (l : List MapEntry) (e : MapEntry) (he : e ∈ l) (hn : (l.map (·.born)).Nodup) :
    (l.filter (fun x => x.born != e.born)).countP p + (if p e then 1 else 0) = l.countP p := by
  induction l with
  | nil => simp at he
  | cons a l ih =>
    simp only [List.map_cons, List.nodup_cons] at hn
    rcases List.mem_cons.1 he with rfl | he
    · have : l.filter (fun x => x.born != e.born) = l := by
        rw [List.filter_eq_self]
        intro x hx
        simp only [bne_iff_ne, ne_eq]
        intro h
        exact hn.1 (List.mem_map.2 ⟨x, hx, h⟩)
      simp [this, List.countP_cons]
    · have hne : a.born ≠ e.born := fun h => hn.1 (List.mem_map.2 ⟨e, he, h.symm⟩)
      have := ih he hn.2
      simp only [List.filter_cons, List.countP_cons, bne_iff_ne, ne_eq, hne, not_false_eq_true, if_true]
      omega

theorem left_step {es : Array MapEntry} {seen : Array Nat} {e : MapEntry} (hn : (es.toList.map (·.born)).Nodup) (he : e ∈ (leftOf es seen).toList) (p : MapEntry → Bool) :
    (leftOf es (seen.push e.born)).toList.countP p + (if p e then 1 else 0) = (leftOf es seen).toList.countP p := by
  rw [leftOf_push]
  refine count_one p _ e he ?_
  unfold leftOf
  rw [Array.toList_filter]
  exact hn.sublist (List.filter_sublist.map _)

theorem left_mem {es : Array MapEntry} {seen : Array Nat} {e : MapEntry} (he : e ∈ (leftOf es seen).toList) : e ∈ es.toList := by
  unfold leftOf at he
  rw [Array.toList_filter] at he
  exact (List.mem_filter.1 he).1

theorem left_zero (es : Array MapEntry) : (leftOf es #[]).toList = es.toList := by
  unfold leftOf
  simp

theorem left_less {es : Array MapEntry} {seen : Array Nat} {e : MapEntry} (hn : (es.toList.map (·.born)).Nodup) (he : e ∈ (leftOf es seen).toList) :
    (leftOf es (seen.push e.born)).size + 1 = (leftOf es seen).size := by
  have := left_step hn he (fun _ => true)
  simpa using this

/-- One step of 'for k, v := range m', whichever entry comes. -/
theorem iter_step {P : Program} {w : World} {b r clock st : Nat} {seen : Array Nat} {es : Array MapEntry} (hit : w.heap[r]? = some (.mapIter (some b) clock seen st)) (hbm : w.heap[b]? = some (.map es clock))
    (hcl : ∀ e ∈ es.toList, e.born < clock) (hnd : (es.toList.map (·.born)).Nodup) (hst : clock ≤ st) (ty : TypeId) :
    ((leftOf es seen).toList = [] ∧ (Instr.next (.pointer (some ⟨r, 0, none⟩)) false ty).run P w = .ok (.tuple #[.bool false]) w) ∨
    ∃ e W, e ∈ (leftOf es seen).toList ∧ (Instr.next (.pointer (some ⟨r, 0, none⟩)) false ty).run P w = .ok (.tuple #[.bool true, e.key, e.val]) W ∧
      (Instr.entry (.pointer (some ⟨r, 0, none⟩))).run P W = .ok (.tuple #[e.key, e.val]) W ∧
      W.heap[r]? = some (.mapIter (some b) clock (seen.push e.born) clock) ∧ (∀ i, i ≠ r → W.heap[i]? = w.heap[i]?) ∧ W.heap.size = w.heap.size ∧ w.grownBy W (some r) := by
  have hbr : b ≠ r := by rintro rfl; rw [hit] at hbm; cases hbm
  rcases run_next_at (P := P) w ty r b clock st seen es clock hit hbm hcl hst with ⟨h0, hrun⟩ | ⟨e, he, w1, hw1, hrun⟩
  · exact .inl ⟨by simpa using h0, hrun⟩
  · have hr1 : r < w1.heap.size := by rcases hw1 with rfl | rfl <;> exact lt_of_block hit
    have h1 : ∀ i : Nat, w1.heap[i]? = w.heap[i]? := by rcases hw1 with rfl | rfl <;> exact fun _ => rfl
    have h2 : (setBlock w1 r (.mapIter (some b) clock (seen.push e.born) clock)).heap[r]? = some (.mapIter (some b) clock (seen.push e.born) clock) := by simp [setBlock, hr1]
    have h3 : ∀ i, i ≠ r → (setBlock w1 r (.mapIter (some b) clock (seen.push e.born) clock)).heap[i]? = w.heap[i]? := fun i hi => by
      rw [← h1 i]; simp [setBlock, Ne.symm hi]
    have h4 : (setBlock w1 r (.mapIter (some b) clock (seen.push e.born) clock)).heap.size = w.heap.size := by
      rcases hw1 with rfl | rfl <;> simp [setBlock]
    refine .inr ⟨e, _, he, hrun, run_entry_at _ r b clock seen es clock e h2 ((h3 b hbr).trans hbm) (left_mem he) hnd, h2, h3, h4, ⟨?_, ?_, ?_, Nat.le_of_eq h4.symm, fun i _ hi => h3 i (fun hr => hi (by rw [hr]))⟩⟩
    · rcases hw1 with rfl | rfl <;> rfl
    · rcases hw1 with rfl | rfl <;> rfl
    · rcases hw1 with rfl | rfl <;> rfl
end Go.Proofs.Ytbcnfegmmhioeaa
