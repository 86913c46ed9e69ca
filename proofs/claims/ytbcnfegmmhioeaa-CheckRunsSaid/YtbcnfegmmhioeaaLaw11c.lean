/- The example of the laws on checks, walked; what is reached by a program that is written out. -/
import Derived.Test.YtbcnfegmmhioeaaCheck8
import Derived.Test.YtbcnfegmmhioeaaLaw11a

namespace Go.Proofs.Ytbcnfegmmhioeaa
open Go.RowKit

/-! ### what is reached by a program that is written out -/
def stepL (L : List InstM) (x : Nat × Nat) : List (Nat × Nat) := match L[x.1]? with
  | some i => match behindM i.1 x.2 with
    | some m => (nextM i x.1).map fun to => (to, m)
    | none => []
  | none => []
def frontL (L : List InstM) : Nat → List (Nat × Nat)
  | 0 => [(0, 0)]
  | n + 1 => (frontL L n).flatMap (stepL L)
def allL (L : List InstM) (n : Nat) : List (Nat × Nat) := (List.range n).flatMap (frontL L)
def setL (l : List (Nat × Nat)) : Nat → Nat → Bool := fun k h => l.contains (k, h)
theorem step_reach {L : List InstM} {x y : Nat × Nat} (h : Reach L x.1 x.2) (hy : y ∈ stepL L x) : Reach L y.1 y.2 := by
  unfold stepL at hy
  split at hy
  · rename_i i hi
    split at hy
    · rename_i m hm
      obtain ⟨to, hto, rfl⟩ := List.mem_map.1 hy
      exact Reach.next h hi hm hto
    · cases hy
  · cases hy
theorem front_reach {L : List InstM} : ∀ n, ∀ x ∈ frontL L n, Reach L x.1 x.2
  | 0, x, h => by simp [frontL] at h; subst h; exact Reach.start
  | n + 1, x, h => by
    obtain ⟨y, hy, hx⟩ := List.mem_flatMap.1 h
    exact step_reach (front_reach n y hy) hx
theorem reach_lit {L : List InstM} {m : Nat} (n : Nat) (hf : firstM L m = none) (h0 : 0 < L.length) (h00 : setL (allL L n) 0 0 = true) (hc : (allL L n).all (fun x => (stepL L x).all fun y => setL (allL L n) y.1 y.2) = true) : reachS L = setL (allL L n) := by
  refine (reachS_eq (isReach_of (well_of_first hf) h0 ?_ h00 ?_)).symm
  · intro k h hk
    have hm : (k, h) ∈ allL L n := by simpa [setL] using hk
    obtain ⟨j, _, hj⟩ := List.mem_flatMap.1 hm
    exact front_reach j _ hj
  · intro k h _ _ hk i m hi hb to ht
    have hm : (k, h) ∈ allL L n := by simpa [setL] using hk
    rw [List.all_eq_true] at hc
    have h1 := hc _ hm
    rw [List.all_eq_true] at h1
    exact h1 (to, m) (by unfold stepL; simp only [hi, hb]; exact List.mem_map.2 ⟨to, ht, rfl⟩)

theorem flat_cell {α : Type} {sz : Nat} {enc : α → List Value} (hz : ∀ x, (enc x).length = sz) : ∀ (l : List α) (n j : Nat) (x : α), j < sz → l[n]? = some x → (l.flatMap enc)[n * sz + j]? = (enc x)[j]?
  | [], n, j, x, _, h => by simp at h
  | y :: l, 0, j, x, hj, h => by
    simp at h; subst h
    rw [List.flatMap_cons, List.getElem?_append_left (by rw [hz]; omega)]
    simp
  | y :: l, n + 1, j, x, hj, h => by
    rw [List.flatMap_cons, List.getElem?_append_right (by rw [hz, Nat.add_mul]; omega)]
    have := flat_cell hz l n j x hj (by simpa using h)
    rw [← this]
    congr 1
    rw [hz, Nat.add_mul]; omega
/-- A block that holds a list, element by element. -/
theorem isSl_flat {α : Type} {sz : Nat} {enc : α → List Value} (hz : ∀ x, (enc x).length = sz) {w : World} {b : Nat} {t : TypeId} {fr : Nat × Nat} (l : List α) (h : w.heap[b]? = some (.cells (l.flatMap enc).toArray t fr)) : IsSl sz enc w (some ⟨b, 0, none⟩) l := by
  intro _
  refine ⟨b, 0, rfl, lt_of_block h, fun i e hi j v hj => ?_⟩
  rw [blk_cell h, List.getElem?_toArray, Nat.zero_add, flat_cell hz l i j e (by rw [← hz e]; exact (List.getElem?_eq_some_iff.1 hj).1) hi]
  exact hj
theorem instC_length (x : InstM) : (instC x).length = 2 := rfl

theorem run_lit (L : List InstM) {res : Nat × Int} (h : runM L 0 true (reachS L) = res) {W : World} {b : Nat} (hb : W.heap[b]? = some (.cells (L.flatMap instC).toArray 54 (0, 0))) :
    Calls Try.prog 23 #[progV (some ⟨b, 0, none⟩) L.length L.length none 0 0] W fun e w' => e = .returned (.tuple #[.int .i64 res.1, .int .i64 res.2]) ∧ Below W.heap.size W w' := by
  have := run_any (w := W) (some ⟨b, 0, none⟩) L.length none 0 L [] (isSl_flat instC_length L hb) (IsSl.nil _ _)
  rw [← h]
  exact this
theorem heights_lit (L : List InstM) {hs : List Int} (h : hintsM L 0 true = hs) {W : World} {b : Nat} (hb : W.heap[b]? = some (.cells (L.flatMap instC).toArray 54 (0, 0))) :
    Calls Try.prog 26 #[progV (some ⟨b, 0, none⟩) L.length L.length none 0 0] W fun e w' => ∃ v, e = .returned v ∧ w'.ownsRow W.heap.size 3 1 v hs.length (hs.map (Value.int .i64)) ∧ Below W.heap.size W w' := by
  have := heights_any (w := W) (some ⟨b, 0, none⟩) L.length none 0 L [] (isSl_flat instC_length L hb) (IsSl.nil _ _)
  rw [← h]
  exact this
/-- An owned row of numbers, opened. -/
theorem owns_isSl {W : World} {base e : Nat} {v : Value} {l : List Int} (h : W.ownsRow base e 1 v l.length (l.map (Value.int .i64))) : ∃ A cap, v = .slice A l.length cap ∧ IsSl 1 intC W A l := by
  rcases h.2 with ⟨rfl, h0⟩ | ⟨g, cap, cur, rfl, hb, hg, hn, hc, hs, ht⟩
  · exact ⟨none, 0, by rw [h0], fun hp => by omega⟩
  · refine ⟨some ⟨g, 0, none⟩, cap, rfl, fun _ => ⟨g, 0, rfl, lt_of_block hg, fun j z hj i v hi => ?_⟩⟩
    match i, hi with
    | 0, hi =>
      simp [intC] at hi; subst hi
      rw [blk_cell hg]
      have h1 : (l.map (Value.int .i64))[j]? = some (.int .i64 z) := by simp [hj]
      rw [← ht] at h1
      have hlt := (List.getElem?_eq_some_iff.1 hj).1
      rw [List.getElem?_take_of_lt (by omega)] at h1
      simpa using h1
theorem hints_length (L : List InstM) (n : Nat) (well : Bool) : (hintsM L n well).length ≤ 96 := by
  unfold hintsM
  split
  · rename_i h
    have := (run_ok h).2.1
    simp [heightsM]; omega
  · simp

def L1 : List InstM := [(1, 0), (26, 0)]
def L2 : List InstM := [(1, 0), (1, 0)]
theorem L1_reach : reachS L1 = setL (allL L1 2) := reach_lit (m := 0) 2 (by decide +kernel) (by decide) (by decide +kernel) (by decide +kernel)
theorem L1_run : runM L1 0 true (reachS L1) = (0, 0) := by rw [L1_reach]; decide +kernel
theorem L2_run (S : Nat → Nat → Bool) : runM L2 0 true S = (1, 8) := by
  unfold runM
  rw [if_neg (by decide), if_neg (by decide), show firstM L2 0 = some (1, 8) by decide +kernel]
theorem L1_hints : hintsM L1 0 true = [0, 1] := by
  unfold hintsM
  rw [L1_run, if_pos rfl, L1_reach]
  decide +kernel

set_option maxRecDepth 100000 in
set_option maxHeartbeats 1000000 in
theorem awake11 (w : World) : Calls Try.prog 21 #[] w fun e w' => e = .returned (.bool true) ∧ Below w.heap.size w w' := by
  have h1 : ∀ W b, W.heap[b]? = some (.cells #[.int .i64 1, .int .i64 0, .int .i64 26, .int .i64 0] 54 (0, 0)) → Calls Try.prog 23 #[.agg #[.slice (some ⟨b, 0, none⟩) 2 2, .slice none 0 0]] W fun e w' => e = .returned (.tuple #[.int .i64 0, .int .i64 0]) ∧ Below W.heap.size W w' := fun W b hb => run_lit L1 L1_run hb
  have h2 : ∀ W b, W.heap[b]? = some (.cells #[.int .i64 1, .int .i64 0, .int .i64 1, .int .i64 0] 54 (0, 0)) → Calls Try.prog 23 #[.agg #[.slice (some ⟨b, 0, none⟩) 2 2, .slice none 0 0]] W fun e w' => e = .returned (.tuple #[.int .i64 1, .int .i64 8]) ∧ Below W.heap.size W w' := fun W b hb => run_lit L2 (L2_run _) hb
  have h3 : ∀ W b, W.heap[b]? = some (.cells #[.int .i64 1, .int .i64 0, .int .i64 26, .int .i64 0] 54 (0, 0)) → Calls Try.prog 26 #[.agg #[.slice (some ⟨b, 0, none⟩) 2 2, .slice none 0 0]] W fun e w' => ∃ A c, e = .returned (.slice A 2 c) ∧ IsSl 1 intC w' A [0, 1] ∧ Below W.heap.size W w' := fun W b hb => (heights_lit L1 L1_hints hb).mono fun e w' ⟨v, he, ho, hb⟩ => by
    obtain ⟨A, c, rfl, hs⟩ := owns_isSl ho
    exact ⟨A, c, he, hs, hb⟩
  have h4 : ∀ W A B c d, IsSl 1 intC W A [0, 1] → IsSl 1 intC W B [0, 1] → Calls Try.prog 25 #[.slice A 2 c, .slice B 2 d] W fun e w' => e = .returned (.bool true) ∧ Below W.heap.size W w' := fun W A B c d hA hB => same_any A B c d [0, 1] hA hB (by decide)
  have h5 : ∀ W : World, IsSl 1 intC (W.alloc (.cells #[.int .i64 0, .int .i64 1] 3)) (some ⟨W.heap.size, 0, none⟩) [0, 1] := fun W => isSl_flat (enc := intC) (sz := 1) (fun _ => rfl) [0, 1] (blk_new W _)
  go_enter Try.func21, Try.ntmps21
  go_wp2_with (first | ((go_at_call 23; ((with_reducible refine (h1 _ _ (blk_new _ _)).mono ?_); rintro e w1 ⟨rfl, hb1⟩)); have s1l : Bel w w1 := Bel.call hb1) | ((go_at_call 23; ((with_reducible refine (h2 _ _ (blk_new _ _)).mono ?_); rintro e w2 ⟨rfl, hb2⟩)); have s2l : Bel w w2 := Bel.call hb2) | ((go_at_call 26; ((with_reducible refine (h3 _ _ (blk_new _ _)).mono ?_); rintro e w3 ⟨A, c, rfl, hs, hb3⟩)); have s3l : Bel w w3 := Bel.call hb3; have hs4 := hs.below ((Below.refl _ _).alloc (Nat.le_refl _) (.cells #[.int .i64 0, .int .i64 1] 3))) | ((go_at_call 25; ((with_reducible refine (h4 _ _ _ _ _ hs4 (h5 _)).mono ?_); rintro e w4 ⟨rfl, hb4⟩)); have s4l : Bel w w4 := Bel.call hb4))
  go_ret
  exact ⟨rfl, bel⟩
end Go.Proofs.Ytbcnfegmmhioeaa
