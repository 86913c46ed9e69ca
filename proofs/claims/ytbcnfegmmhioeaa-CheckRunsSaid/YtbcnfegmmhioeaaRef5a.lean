/- The document's own check of programs: its rows of heights as they lie in memory, and the plain steps. -/
import Derived.Test.YtbcnfegmmhioeaaCheck8
import Derived.Test.YtbcnfegmmhioeaaRef4
import Derived.Test.YtbcnfegmmhioeaaRef3
namespace Go.Proofs.Ytbcnfegmmhioeaa
open Go.RowKit

/-! ### the names of an instruction -/
theorem namesI_all {i : InstM} (h0 : 0 ≤ i.2) (n : Nat) : namesI i n = (rnamesM i).all (fun x => decide (x < n)) := by
  obtain ⟨op, a⟩ := i
  simp only at h0
  obtain ⟨v, rfl⟩ : ∃ v : Nat, a = v := ⟨a.toNat, by omega⟩
  unfold namesI rnamesM
  simp only [Int.toNat_natCast]
  have e1 : ((v : Int) < n) ↔ v < n := by omega
  have e2 : ((v : Int) / 8 < n) ↔ v / 8 < n := by omega
  have e3 : ((v : Int) % 8 < n) ↔ v % 8 < n := by omega
  split
  · simp [e1]
  · split
    · simp [e2, e3]
    · simp

theorem rnamesM_len (i : InstM) : (rnamesM i).length ≤ 2 := by
  unfold rnamesM; split
  · simp
  · split <;> simp
theorem mayI_lt {i : InstM} (h : mayI i = true) : i.2 < 65536 := by
  unfold mayI at h
  split at h
  · rename_i k hk
    have := kind_bound hk
    simp at h
    omega
  · cases h

theorem rowM_bad {op : Int} {R : Nat → Bool} {j : Nat} (h : (rowM op R j).2 = false) : ∀ d, (rowM op R (j + d)).2 = false := by
  intro d
  induction d with
  | zero => exact h
  | succ d ih => rw [show j + (d + 1) = (j + d) + 1 from rfl, rowM]; split <;> simp [ih]

/-! ### blocks behind a world's last -/
/-- Block b is one of V's. -/
class OldB (b : Nat) (V : World) : Prop where
  lt : b < V.heap.size
/-- The i-th block behind V. -/
def rowB (V : World) (i : Nat) : Nat := V.heap.size + i
instance sameB_setRow (w W V : World) (i o : Nat) (s : Option Nat) (u : Value) (b : Nat) [h : SameB w W b] [k : OldB b V] : SameB w (W.setCell ⟨rowB V i, o, s⟩ u) b :=
  ⟨(Below.heap_setCell W _ u b (by have := k.lt; unfold rowB; simp; omega)).trans h.blk, h.lt, by simpa [World.setCell] using h.le⟩

instance sameB_setOld (w W V : World) (o : Nat) (s : Option Nat) (u : Value) (b : Nat) [h : SameB w W b] [k : OldB b V] : SameB w (W.setCell ⟨V.heap.size, o, s⟩ u) b :=
  ⟨(Below.heap_setCell W _ u b (by have := k.lt; simp; omega)).trans h.blk, h.lt, by simpa [World.setCell] using h.le⟩

def rowA (S : Nat → Nat → Bool) (i : Nat) : Array Value := ((List.range 17).map fun h => Value.bool (S i h)).toArray
def slR (V : World) (i : Nat) : Value := .slice (some ⟨rowB V i, 0, none⟩) 17 17
def topA (V : World) (n k : Nat) : Array Value := ((List.range n).map fun i => if i < k then slR V i else .slice none 0 0).toArray
/-- n rows of heights, k of them made: in block R the rows' places, in the blocks behind V the rows. -/
structure RowsAt (V W : World) (R n k : Nat) (S : Nat → Nat → Bool) : Prop where
  top : W.heap[R]? = some (.cells (topA V n k) 67 (0, 0))
  row : ∀ i, i < k → W.heap[rowB V i]? = some (.cells (rowA S i) 4 (0, 0))
  old : R < V.heap.size
section
variable {V W W' : World} {R n k : Nat} {S : Nat → Nat → Bool}
theorem RowsAt.tcell (h : RowsAt V W R n k S) {i : Nat} (hi : i < k) (hn : i < n) : W.cell? ⟨R, i, none⟩ = some (slR V i) := by
  rw [blk_cell h.top]
  simp [topA, List.getElem?_range hn, hi]
theorem RowsAt.rcell (h : RowsAt V W R n k S) {i j : Nat} (hi : i < k) (hj : j < 17) : W.cell? ⟨rowB V i, j, none⟩ = some (.bool (S i j)) := by
  rw [blk_cell (h.row i hi)]
  simp [rowA, List.getElem?_range hj]
theorem RowsAt.free (h : RowsAt V W R n k S) {i : Nat} (hi : i < k) (j : Nat) : W.frozen? ⟨rowB V i, j, none⟩ = false := blk_free (h.row i hi) j
theorem RowsAt.lt (h : RowsAt V W R n k S) {i : Nat} (hi : i < k) : rowB V i < W.heap.size := lt_of_block (h.row i hi)
theorem RowsAt.tlt (h : RowsAt V W R n k S) : R < W.heap.size := lt_of_block h.top
theorem RowsAt.same (h : RowsAt V W R n k S) (hb : Below W.heap.size W W') : RowsAt V W' R n k S :=
  ⟨(hb.block _ h.tlt).trans h.top, fun i hi => (hb.block _ (h.lt hi)).trans (h.row i hi), h.old⟩
theorem rowA_set (S : Nat → Nat → Bool) (i j : Nat) (hj : j < 17) : (rowA S i).setIfInBounds j (.bool true) = rowA (setS S i j) i := by
  apply Array.ext_getElem?
  intro m
  simp only [rowA, Array.getElem?_setIfInBounds, List.getElem?_toArray, List.getElem?_map, List.size_toArray, List.length_map, List.length_range]
  by_cases hm : m < 17
  · rw [List.getElem?_range hm]
    by_cases e : j = m
    · subst e; simp [hm, setS]
    · have : ¬ (m = j) := fun h => e h.symm
      simp [e, setS, this]
  · rw [List.getElem?_eq_none (by simp; omega)]
    simp
    omega
theorem rowA_other (S : Nat → Nat → Bool) {i i' : Nat} (j : Nat) (h : i' ≠ i) : rowA (setS S i j) i' = rowA S i' := by
  simp [rowA, setS, h]
theorem RowsAt.set (h : RowsAt V W R n k S) {i j : Nat} (hi : i < k) (hj : j < 17) : RowsAt V (W.setCell ⟨rowB V i, j, none⟩ (.bool true)) R n k (setS S i j) := by
  refine ⟨(Below.heap_setCell W _ _ _ (by have := h.old; unfold rowB; simp; omega)).trans h.top, fun i' hi' => ?_, h.old⟩
  by_cases e : i' = i
  · subst e
    rw [heap_setCell_same _ _ _ _ _ _ (h.row _ hi'), rowA_set S _ j hj]
  · rw [Below.heap_setCell W _ _ _ (by unfold rowB; simp; omega), h.row i' hi', rowA_other S j e]
theorem topA_set (V : World) (n k : Nat) : (topA V n k).setIfInBounds k (slR V k) = topA V n (k + 1) := by
  apply Array.ext_getElem?
  intro m
  simp only [topA, Array.getElem?_setIfInBounds, List.getElem?_toArray, List.getElem?_map, List.size_toArray, List.length_map, List.length_range]
  by_cases hm : m < n
  · rw [List.getElem?_range hm]
    by_cases e : k = m
    · subst e; simp [hm]
    · have : (m < k + 1) ↔ m < k := by omega
      simp [e, this]
  · rw [List.getElem?_eq_none (by simp; omega)]
    simp
    omega
/-- One row more. -/
theorem RowsAt.more (h : RowsAt V W R n k (fun _ _ => false)) (hz : W.heap.size = rowB V k) (hb : W'.heap[R]? = some (.cells ((topA V n k).setIfInBounds k (slR V k)) 67 (0, 0)))
    (hr : W'.heap[rowB V k]? = some (.cells (Array.replicate 17 (.bool false)) 4 (0, 0))) (ho : ∀ b, b ≠ R → b < W.heap.size → W'.heap[b]? = W.heap[b]?) : RowsAt V W' R n (k + 1) (fun _ _ => false) := by
  refine ⟨by rw [← topA_set]; exact hb, fun i hi => ?_, h.old⟩
  by_cases e : i < k
  · rw [ho _ (by have := h.old; unfold rowB; omega) (h.lt e)]
    exact h.row i e
  · obtain rfl : i = k := by omega
    rw [hr]
    rfl
theorem RowsAt.tnext (h : RowsAt V W R n k S) (hn : k < n) : W.cell? ⟨R, k, none⟩ = some (.slice none 0 0) := by
  rw [blk_cell h.top]
  simp [topA, List.getElem?_range hn]
theorem fill_step {w : World} {pb : Obj} (h : RowsAt V W R n k (fun _ _ => false)) (hz : W.heap.size = rowB V k) (hp : W.heap[w.heap.size]? = some pb) (hb : Below w.heap.size w W) (hR : w.heap.size < R) :
    RowsAt V ((W.alloc (.cells (Array.replicate 17 (.bool false)) 4)).setCell ⟨R, k, none⟩ (.slice (some ⟨W.heap.size, 0, none⟩) 17 17)) R n (k + 1) (fun _ _ => false) ∧
    ((W.alloc (.cells (Array.replicate 17 (.bool false)) 4)).setCell ⟨R, k, none⟩ (.slice (some ⟨W.heap.size, 0, none⟩) 17 17)).heap.size = rowB V (k + 1) ∧
    ((W.alloc (.cells (Array.replicate 17 (.bool false)) 4)).setCell ⟨R, k, none⟩ (.slice (some ⟨W.heap.size, 0, none⟩) 17 17)).heap[w.heap.size]? = some pb ∧
    Below w.heap.size w ((W.alloc (.cells (Array.replicate 17 (.bool false)) 4)).setCell ⟨R, k, none⟩ (.slice (some ⟨W.heap.size, 0, none⟩) 17 17)) := by
  have hwl := lt_of_block hp
  have htl := h.tlt
  have hsl : (Value.slice (some ⟨W.heap.size, 0, none⟩) 17 17) = slR V k := by unfold slR; rw [← hz]
  refine ⟨h.more hz ?_ ?_ ?_, ?_, ?_, ?_⟩
  · rw [heap_setCell_same _ _ _ _ _ _ (blk_alloc h.top _), hsl]
  · rw [← hz, Below.heap_setCell _ _ _ _ (by simp; omega)]
    exact blk_new _ _
  · intro b hne hlt
    rw [Below.heap_setCell _ _ _ _ (by simpa using hne), Below.heap_alloc _ _ _ hlt]
  · have : ((W.alloc (.cells (Array.replicate 17 (.bool false)) 4)).setCell ⟨R, k, none⟩ (.slice (some ⟨W.heap.size, 0, none⟩) 17 17)).heap.size = W.heap.size + 1 := by simp [World.setCell]
    rw [this, hz]; unfold rowB; omega
  · rw [Below.heap_setCell _ _ _ _ (by simp; omega)]; exact blk_alloc hp _
  · exact (hb.alloc hb.size _).setCell (p := ⟨R, k, none⟩) (Nat.le_of_lt hR) _
end

/-- The state of the rounds: the rows, the program's own copy, nothing old turned. -/
structure St5 (w V W : World) (R n : Nat) (pb : Obj) (S : Nat → Nat → Bool) : Prop where
  rows : RowsAt V W R n n S
  p : W.heap[w.heap.size]? = some pb
  b : Below w.heap.size w W
section
variable {w V W W' : World} {R n : Nat} {pb : Obj} {S : Nat → Nat → Bool}
theorem St5.call (h : St5 w V W R n pb S) (hb : Below W.heap.size W W') : St5 w V W' R n pb S :=
  ⟨h.rows.same hb, (hb.block _ (lt_of_block h.p)).trans h.p, h.b.trans (hb.mono h.b.size)⟩
theorem St5.set (h : St5 w V W R n pb S) {i j : Nat} (hi : i < n) (hj : j < 17) (hw : w.heap.size < V.heap.size) : St5 w V (W.setCell ⟨rowB V i, j, none⟩ (.bool true)) R n pb (setS S i j) :=
  ⟨h.rows.set hi hj, (Below.heap_setCell W _ _ _ (by unfold rowB; simp; omega)).trans h.p, h.b.setCell (p := ⟨rowB V i, j, none⟩) (by unfold rowB; simp; omega) _⟩
theorem St5.put (h : St5 w V W R n pb S) {H j : Nat} {u : Value} (hH : ∀ i, i < n → H ≠ rowB V i) (hR : H ≠ R) (hw : w.heap.size < H) : St5 w V (W.setCell ⟨H, j, none⟩ u) R n pb S :=
  ⟨⟨(Below.heap_setCell W _ _ _ (by simpa using hR.symm)).trans h.rows.top, fun i hi => (Below.heap_setCell W _ _ _ (by simpa using (hH i hi).symm)).trans (h.rows.row i hi), h.rows.old⟩,
   (Below.heap_setCell W _ _ _ (by simp; omega)).trans h.p, h.b.setCell (p := ⟨H, j, none⟩) (Nat.le_of_lt hw) _⟩
end

theorem Try.info_sb : (Try.prog.info? 67).map (fun i => (i.zero, i.size, i.bytes)) = some (some (.slice none 0 0), 1, 24) := by kernel_rfl
theorem Try.info_b : (Try.prog.info? 4).map (fun i => (i.zero, i.size, i.bytes)) = some (some (.bool false), 1, 1) := by kernel_rfl
theorem made_one (z : Value) (n : Nat) (hz : z.cells = #[z]) : madeCells z.cells (n * 1) = Array.replicate n z := by
  rw [hz, Nat.mul_one]
  apply Array.toList_inj.1
  rw [toList_madeCells_one]
  simp
/-- 'make([]T, n)' of elements of one cell. -/
theorem run_make1 {t e : TypeId} {z : Value} {bytes : Nat} (ht : Try.prog.underlying t = some (.slice e)) (hi : (Try.prog.info? e).map (fun i => (i.zero, i.size, i.bytes)) = some (some z, 1, bytes)) (hz : z.cells = #[z]) (hb : bytes ≤ 64) (n : Nat) (hn : n ≤ 1000000) (W : World) :
    (Instr.makeSlice t (.int .i64 n) (.int .i64 n)).run Try.prog W = .ok (.slice (some ⟨W.heap.size, 0, none⟩) n n) (W.alloc (.cells (Array.replicate n z) e)) := by
  obtain ⟨i, h1, h2, h3, h4⟩ := info_parts hi
  have hbn : (i.bytes : Int) * n ≤ 281474976710656 := by
    have : i.bytes * n ≤ 64 * 1000000 := Nat.mul_le_mul (by omega) hn
    have h : ((i.bytes * n : Nat) : Int) ≤ 281474976710656 := by omega
    rwa [Int.natCast_mul] at h
  have := run_make (P := Try.prog) W t e i z ht h1 h2 .i64 .i64 n n (by omega) (Int.le_refl _) hbn (by omega)
  rw [this, h3, Int.toNat_natCast, made_one z n hz]

theorem take_set_succ (xs : List Int) (k : Nat) (l : Int) (h : k < xs.length) : (xs.set k l).take (k + 1) = xs.take k ++ [l] := by
  apply List.ext_getElem?
  intro i
  simp only [List.getElem?_take, List.getElem?_set, List.getElem?_append, List.length_take, Nat.min_eq_left (Nat.le_of_lt h)]
  by_cases e : i < k
  · have e1 : i < k + 1 := by omega
    have e2 : ¬ k = i := by omega
    simp [e, e1, e2]
  · by_cases e' : i = k
    · subst e'; simp [h]
    · have e1 : ¬ i < k + 1 := by omega
      simp [e, e1]
      omega
/-- The heights that are told, so far: a row of numbers in block H. -/
structure HtsAt (w V W : World) (R : Nat) (L : List InstM) (pb : Obj) (H : Nat) (xs : List Int) : Prop where
  st : St5 w V W R L.length pb (reachS L)
  h : W.heap[H]? = some (.cells (xs.map (Value.int .i64)).toArray 3 (0, 0))
  len : xs.length = L.length
  old : w.heap.size < H
section
variable {w V W W' : World} {R H : Nat} {L : List InstM} {pb : Obj} {xs : List Int}
theorem HtsAt.start (h : St5 w V W R L.length pb (reachS L)) : HtsAt w V (W.alloc (.cells (Array.replicate L.length (.int .i64 0)) 3)) R L pb W.heap.size (List.replicate L.length 0) := by
  refine ⟨h.call ((Below.refl _ _).alloc (Nat.le_refl _) _), ?_, by simp, lt_of_block h.p⟩
  rw [blk_new]
  congr 2
  apply Array.toList_inj.1
  simp
theorem HtsAt.call (h : HtsAt w V W R L pb H xs) (hb : Below W.heap.size W W') : HtsAt w V W' R L pb H xs :=
  ⟨h.st.call hb, (hb.block _ (lt_of_block h.h)).trans h.h, h.len, h.old⟩
theorem HtsAt.cell (h : HtsAt w V W R L pb H xs) {k : Nat} (hk : k < L.length) : W.cell? ⟨H, k, none⟩ = some (.int .i64 (xs[k]'(by have := h.len; omega))) := by
  rw [blk_cell h.h]
  simp [h.len, hk]
theorem HtsAt.at_ {l : Int} {k : Nat} (h : HtsAt w V W R L pb H (xs.set k l)) (hk : k < L.length) (hl : xs.length = L.length) : W.cell? ⟨H, k, none⟩ = some (.int .i64 l) := by
  rw [blk_cell h.h]
  simp [hl, hk]
theorem HtsAt.put {U : World} (h : HtsAt w V W R L pb U.heap.size xs) (k : Nat) (u : Int) (oK : ∀ i, i < L.length → OldB (rowB V i) U) (oR : OldB R U) : HtsAt w V (W.setCell ⟨U.heap.size, k, none⟩ (.int .i64 u)) R L pb U.heap.size (xs.set k u) := by
  refine ⟨h.st.put (fun i hi => by have := (oK i hi).lt; omega) (by have := oR.lt; omega) h.old, ?_, by simp [h.len], h.old⟩
  rw [heap_setCell_same _ _ _ _ _ _ h.h]
  congr 2
  apply Array.toList_inj.1
  simp
theorem HtsAt.owns (h : HtsAt w V W R L pb H xs) {base : Nat} (hb : base ≤ H) (hL : L.length ≤ 1000000) : W.ownsRow base 3 1 (.slice (some ⟨H, 0, none⟩) L.length L.length) L.length (xs.map (Value.int .i64)) :=
  ⟨by simp [h.len], Or.inr ⟨H, L.length, _, rfl, hb, h.h, Nat.le_refl _, by unfold maxLen; omega, by simp [h.len], by simp; rw [List.take_of_length_le (by simp [h.len])]⟩⟩
end

/-! ### what is answered -/
def PostChk (w : World) (r : Nat × Int) (hs : List Int) (e : Ending) (w' : World) : Prop :=
  ∃ v, e = .returned (.tuple #[.int .i64 r.1, .int .i64 r.2, v]) ∧ w'.ownsRow w.heap.size 3 1 v hs.length (hs.map (Value.int .i64)) ∧ Below w.heap.size w w'
theorem PostChk.err {w W : World} {r : Nat × Int} {hs : List Int} (hn : r.2 ≠ 0 → hs = []) {k : Nat} {f : Int} (hr : (k, f) = r) (hf : f ≠ 0) (hb : Below w.heap.size w W) :
    PostChk w r hs (.returned (.tuple #[.int .i64 k, .int .i64 f, .slice none 0 0])) W := by
  subst hr
  rw [hn hf]
  exact ⟨_, rfl, World.ownsRow_nil _ _ _ _, hb⟩
end Go.Proofs.Ytbcnfegmmhioeaa
