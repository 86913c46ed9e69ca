/- What is reached, and with which heights: the state of the walk, and its steps outside the walk. -/
import Derived.Test.YtbcnfegmmhioeaaCheck4
import Derived.Deep.WholeRow
import Derived.Deep.LoopGhost
namespace Go.Proofs.Ytbcnfegmmhioeaa
open Go.RowKit

def falses (n : Nat) : Array Value := Array.replicate n (.bool false)
theorem Try.zero_heights : (Try.prog.info? 245).map (fun i => (i.zero, i.size)) = some (some (.agg (falses 1632)), 1632) := by kernel_rfl
def S00 : Nat → Nat → Bool := setS (fun _ _ => false) 0 0
theorem falses_set (n : Nat) : (falses n).setIfInBounds 0 (.bool true) = ((List.range n).map fun i => Value.bool (S00 (i / 17) (i % 17))).toArray := by
  have h : falses n = ((List.range n).map fun i => Value.bool ((fun _ _ => false : Nat → Nat → Bool) (i / 17) (i % 17))).toArray := by
    apply Array.ext_getElem?
    intro i
    by_cases hi : i < n
    · simp [falses, hi]
    · simp [falses, hi]
  rw [h]
  exact set_range n (fun _ _ => false) 0 0 (by omega)

structure St (w W : World) (pb : Obj) (S : Nat → Nat → Bool) : Prop where
  p : W.heap[w.heap.size]? = some pb
  h : HeightsAt W (w.heap.size + 1) S
  b : Below w.heap.size w W
section
variable {w W W' : World} {pb : Obj} {S : Nat → Nat → Bool}
theorem St.size (h : St w W pb S) : w.heap.size + 2 ≤ W.heap.size := by have := lt_of_block h.h; omega
theorem St.same (h : St w W pb S) (hb : Below (w.heap.size + 2) W W') : St w W' pb S :=
  ⟨(hb.block _ (by omega)).trans h.p, (hb.block _ (by omega)).trans h.h, h.b.trans (hb.mono (by omega))⟩
theorem St.call (h : St w W pb S) (hb : Below W.heap.size W W') : St w W' pb S := h.same (hb.mono h.size)
theorem St.set (h : St w W pb S) {k j : Nat} (hj : j < 17) : St w (W.setCell ⟨w.heap.size + 1, k * 17 + j, none⟩ (.bool true)) pb (setS S k j) :=
  ⟨(heap_setCell_other W _ _ _ (by show w.heap.size ≠ w.heap.size + 1; omega)).trans h.p, h.h.set hj, h.b.setCell (p := ⟨w.heap.size + 1, k * 17 + j, none⟩) (Nat.le_succ _) _⟩
theorem St.start (w : World) (pb : Obj) : St w ((w.alloc pb).alloc (.cells ((falses 1632).setIfInBounds 0 (.bool true)) 245)) pb S00 := by
  refine ⟨blk_alloc (blk_new _ _) _, ?_, ((Below.refl _ _).alloc (Nat.le_refl _) _).alloc (by simp) _⟩
  have := blk_new (w.alloc pb) (.cells ((falses 1632).setIfInBounds 0 (.bool true)) 245)
  rw [falses_set 1632] at this ⊢
  have hs : (w.alloc pb).heap.size = w.heap.size + 1 := by simp
  rw [hs] at this
  exact this
end

theorem leftS_set_le (S : Nat → Nat → Bool) (k h : Nat) : leftS (setS S k h) ≤ leftS S := by
  unfold leftS
  refine List.countP_mono_left fun i _ hi => ?_
  simp only [Bool.not_eq_true'] at hi ⊢
  unfold setS at hi
  split at hi
  · cases hi
  · exact hi

theorem mayI_nonneg {i : InstM} (h : mayI i = true) : 0 ≤ i.2 := by
  unfold mayI at h
  split at h
  · simp at h; exact h.1
  · cases h
theorem WellOnes.may {L : List InstM} {n : Nat} (h : WellOnes L n) {k : Nat} {i : InstM} (hi : L[k]? = some i) : mayI i = true := by
  have ho := h k i hi
  unfold oneM at ho
  cases hm : mayI i with
  | true => rfl
  | false => rw [hm] at ho; cases ho

/-- An owned row of numbers, opened. -/
theorem owns_nats {W : World} {base e : Nat} {v : Value} {l : List Nat} (h : W.ownsRow base e 1 v l.length (l.map natV)) :
    ∃ A cap, v = .slice A l.length cap ∧ (0 < l.length → ∃ g, A = some ⟨g, 0, none⟩ ∧ base ≤ g ∧ g < W.heap.size ∧ ∀ j t, l[j]? = some t → W.cell? ⟨g, j, none⟩ = some (natV t)) := by
  rcases h.2 with ⟨rfl, h0⟩ | ⟨g, cap, cur, rfl, hb, hg, hn, hc, hs, ht⟩
  · exact ⟨none, 0, by rw [h0], fun hp => by omega⟩
  · refine ⟨some ⟨g, 0, none⟩, cap, rfl, fun _ => ⟨g, rfl, hb, lt_of_block hg, fun j t hj => ?_⟩⟩
    rw [blk_cell hg]
    have h1 : (l.map natV)[j]? = some (natV t) := by simp [hj]
    rw [← ht] at h1
    have hlt := (List.getElem?_eq_some_iff.1 hj).1
    rw [List.getElem?_take_of_lt (by omega)] at h1
    simpa using h1

/-- The steps of the walk's state outside the walk. -/
structure Round (L : List InstM) (S0 S : Nat → Nat → Bool) (ag : Bool) (D : Prop) : Prop where
  snd : SoundR L S
  z : S 0 0 = true
  le : leftS S ≤ leftS S0
  lt : ag = true → leftS S < leftS S0
  eq : ag = false → S = S0 ∧ D
theorem Round.put {L : List InstM} {S0 S : Nat → Nat → Bool} {ag : Bool} {D D' : Prop} (h : Round L S0 S ag D) {to m : Nat} (hr : Reach L to m) (ht : to < 96) (hm : m < 17) (hD : D → S0 to m = true → D') :
    Round L S0 (setS S to m) (ag || !S to m) D' := by
  refine ⟨h.snd.set hr, setS_mono h.z, Nat.le_trans (leftS_set_le _ _ _) h.le, fun hag => ?_, fun hag => ?_⟩
  · cases ag with
    | true => exact Nat.lt_of_le_of_lt (leftS_set_le _ _ _) (h.lt rfl)
    | false =>
      have : S to m = false := by simpa using hag
      exact Nat.lt_of_lt_of_le (leftS_set ht hm this) h.le
  · cases ag with
    | true => cases hag
    | false =>
      have hs : S to m = true := by simpa using hag
      obtain ⟨rfl, hD1⟩ := h.eq rfl
      exact ⟨setS_same hs, hD hD1 hs⟩
theorem Round.mono {L : List InstM} {S0 S : Nat → Nat → Bool} {ag : Bool} {D D' : Prop} (h : Round L S0 S ag D) (hD : S = S0 → D → D') : Round L S0 S ag D' :=
  ⟨h.snd, h.z, h.le, h.lt, fun e => ⟨(h.eq e).1, hD (h.eq e).1 (h.eq e).2⟩⟩
end Go.Proofs.Ytbcnfegmmhioeaa
