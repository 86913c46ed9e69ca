/- Appending a slice that reads as a list to a row of the call's own: nil, empty or not; as a walk's step and as a region's. -/
import Derived.Test.YtbcnfegmmhioeaaApp
import Derived.Maps.AppendAt
import Derived.Deep.RegionLaw
import Derived.RegionTactic
namespace Go.Proofs.Ytbcnfegmmhioeaa
open Go.RowKit

theorem flat_of {α : Type} {sz : Nat} {enc : α → List Value} (hz : ∀ x, (enc x).length = sz) : ∀ (l : List α) (j : Nat) (u : Value), (l.flatMap enc)[j]? = some u → ∃ i r e, l[i]? = some e ∧ (enc e)[r]? = some u ∧ j = i * sz + r
  | [], j, u, h => by simp at h
  | x :: l, j, u, h => by
    rw [List.flatMap_cons] at h
    by_cases hj : j < sz
    · rw [List.getElem?_append_left (by rw [hz]; exact hj)] at h
      exact ⟨0, j, x, rfl, h, by simp⟩
    · rw [List.getElem?_append_right (by rw [hz]; omega), hz] at h
      obtain ⟨i, r, e, h1, h2, h3⟩ := flat_of hz l _ u h
      exact ⟨i + 1, r, e, by simpa using h1, h2, by rw [Nat.add_mul]; omega⟩
theorem flat_length {α : Type} {sz : Nat} {enc : α → List Value} (hz : ∀ x, (enc x).length = sz) (l : List α) : (l.flatMap enc).length = l.length * sz := by
  induction l with
  | nil => simp
  | cons x l ih => rw [List.flatMap_cons, List.length_append, hz, ih, List.length_cons, Nat.add_mul]; omega

section
variable {P : Program} {α : Type} {sz : Nat} {enc : α → List Value}
theorem run_appN (w : World) (base t ty e : TypeId) {z : Value} {bytes : Nat} (ht : P.underlying t = some (.slice e)) (hi : (P.info? e).map (fun i => (i.zero, i.size, i.bytes)) = some (some z, sz, bytes)) (hzs : z.cells.size = sz) (hsz : 0 < sz)
    (v : Value) (n : Nat) (xs : List Value) (hown : w.ownsRow base e sz v n xs) (A : Option Addr) (c : Nat) (l : List α) (hA : IsSl sz enc w A l) (hz : ∀ x, (enc x).length = sz) (h1 : ∀ x, ∀ u ∈ enc x, u.oneCell' = true)
    (hn : n + l.length ≤ 9223372036854775807) (hb : (n + l.length) * bytes ≤ 140737488355328) (hbase : base ≤ w.heap.size) (hnil : A = none → l = []) :
    ∃ v' w', (Builtin.append_ #[t, t] ty #[v, .slice A l.length c]).run P w = .ok v' w' ∧ w'.ownsRow base e sz v' (n + l.length) (xs ++ l.flatMap enc) ∧ Below base w w' := by
  obtain ⟨i, hi1, hi2, hi3, hi4⟩ := info_parts hi
  rcases A with _ | ad
  · obtain rfl := hnil rfl
    refine ⟨v, w, ?_, by simpa using hown, Below.refl _ _⟩
    rcases hown.2 with ⟨rfl, rfl⟩ | ⟨g, cap, cur, rfl, _, _, hnc, _⟩
    · simp [Builtin.append_, run_underlying ht, sizeOf, typeInfo, hi1, Builtin.lenOf, Builtin.firstCells]
    · simp [Builtin.append_, run_underlying ht, sizeOf, typeInfo, hi1, Builtin.lenOf, Builtin.firstCells, hnc, storeCells]
  · have hcells : ∀ j u, (l.flatMap enc)[j]? = some u → w.cell? (ad.add j) = some u := by
      intro j u hu
      obtain ⟨k, r, x, hk, hr, rfl⟩ := flat_of hz l j u hu
      have hpos : 0 < l.length := by have := (List.getElem?_eq_some_iff.1 hk).1; omega
      obtain ⟨b, off, e1, _, hc⟩ := hA hpos
      cases e1
      rw [WideShapes.add_plain, ← Nat.add_assoc]
      exact hc k x hk r u hr
    have hones : ∀ u ∈ l.flatMap enc, u.oneCell' = true := by
      intro u hu
      obtain ⟨x, _, hx⟩ := List.mem_flatMap.1 hu
      exact h1 x u hx
    obtain ⟨v', w', hrun, h2, h3, _, h5⟩ := run_append_own_at (P := P) w base t ty e i z sz bytes ht hi1 hi2 hi3 hi4 hzs hsz v n xs hown ad l.length c (l.flatMap enc) (flat_length hz l) hcells hones (by unfold maxLen; omega) hb hbase
    exact ⟨v', w', hrun, h2, grown_below h3 (fun b hb => ownBlock_le hown hb) hbase⟩

theorem wp_appN (w : World) {o : Oper} {a : Act} {K : Act → World → Prop} {Q : Exit → Act → World → Prop} (s x : Operand) (t : TypeId)
    (ho : o.op = .call { callee := .builtin .append, args := #[s, x], argTypes := #[t, t] })
    (base : Nat) (e : TypeId) {z : Value} {bytes : Nat} (ht : P.underlying t = some (.slice e)) (hi : (P.info? e).map (fun i => (i.zero, i.size, i.bytes)) = some (some z, sz, bytes)) (hzs : z.cells.size = sz) (hsz : 0 < sz)
    (v : Value) (n : Nat) (xs : List Value) (hs : a.eval s = v) (hown : w.ownsRow base e sz v n xs)
    (A : Option Addr) (c : Nat) (l : List α) (hx : a.eval x = .slice A l.length c) (hA : IsSl sz enc w A l) (hz : ∀ x, (enc x).length = sz) (h1 : ∀ x, ∀ u ∈ enc x, u.oneCell' = true)
    (hn : n + l.length ≤ 9223372036854775807) (hb : (n + l.length) * bytes ≤ 140737488355328) (hbase : base ≤ w.heap.size) (hnil : A = none → l = [])
    (h : ∀ v' w', w'.ownsRow base e sz v' (n + l.length) (xs ++ l.flatMap enc) → Below base w w' → K (a.put o.dst v') w') : o.wp P a w K Q := by
  obtain ⟨v', w', hrun, h2, h3⟩ := run_appN (P := P) w base t o.type e ht hi hzs hsz v n xs hown A c l hA hz h1 hn hb hbase hnil
  unfold Oper.wp execOp
  simp only [ho, resolve, invoke, builtin, Sem.run_bind, Sem.run_pure, Result.andThen_ok, List.map_toArray, List.map_cons, List.map_nil, hs, hx, hrun]
  exact h v' w' h2 h3

theorem wpList_appN (w : World) {ops : Array Oper} {rest : List Oper} {o : Oper} {a : Act} {Q : Exit → Act → World → Prop} (hgd : o.guard = none) (s x : Operand) (t : TypeId)
    (ho : o.op = .call { callee := .builtin .append, args := #[s, x], argTypes := #[t, t] })
    (base : Nat) (e : TypeId) {z : Value} {bytes : Nat} (ht : P.underlying t = some (.slice e)) (hi : (P.info? e).map (fun i => (i.zero, i.size, i.bytes)) = some (some z, sz, bytes)) (hzs : z.cells.size = sz) (hsz : 0 < sz)
    (v : Value) (n : Nat) (xs : List Value) (hs : a.eval s = v) (hown : w.ownsRow base e sz v n xs)
    (A : Option Addr) (c : Nat) (l : List α) (hx : a.eval x = .slice A l.length c) (hA : IsSl sz enc w A l) (hz : ∀ x, (enc x).length = sz) (h1 : ∀ x, ∀ u ∈ enc x, u.oneCell' = true)
    (hn : n + l.length ≤ 9223372036854775807) (hb : (n + l.length) * bytes ≤ 140737488355328) (hbase : base ≤ w.heap.size) (hnil : A = none → l = [])
    (h : ∀ v' w', w'.ownsRow base e sz v' (n + l.length) (xs ++ l.flatMap enc) → Below base w w' → wpList P ops Q rest (a.put o.dst v') w') : wpList P ops Q (o :: rest) a w :=
  wpList_plain hgd fun _ hK => wp_appN w s x t ho base e ht hi hzs hsz v n xs hs hown A c l hx hA hz h1 hn hb hbase hnil fun v' w' h2 h3 => hK _ _ (h v' w' h2 h3)

theorem step_appN (w : World) {ops : Array Oper} {o : Oper} {a : Act} {K : Act → World → Prop} {Q : Exit → Act → World → Prop} {E : Prop} (hgd : o.guard = none) (s x : Operand) (t : TypeId)
    (ho : o.op = .call { callee := .builtin .append, args := #[s, x], argTypes := #[t, t] })
    (base : Nat) (e : TypeId) {z : Value} {bytes : Nat} (ht : P.underlying t = some (.slice e)) (hi : (P.info? e).map (fun i => (i.zero, i.size, i.bytes)) = some (some z, sz, bytes)) (hzs : z.cells.size = sz) (hsz : 0 < sz)
    (v : Value) (n : Nat) (xs : List Value) (hs : a.eval s = v) (hown : w.ownsRow base e sz v n xs)
    (A : Option Addr) (c : Nat) (l : List α) (hx : a.eval x = .slice A l.length c) (hA : IsSl sz enc w A l) (hz : ∀ x, (enc x).length = sz) (h1 : ∀ x, ∀ u ∈ enc x, u.oneCell' = true)
    (hn : n + l.length ≤ 9223372036854775807) (hb : (n + l.length) * bytes ≤ 140737488355328) (hbase : base ≤ w.heap.size) (hnil : A = none → l = [])
    (h : ∀ v' w', w'.ownsRow base e sz v' (n + l.length) (xs ++ l.flatMap enc) → Below base w w' → K (a.put o.dst v') w') :
    if Region.wanted o (yielded ops a.tmps) = true then Oper.wp P o a w K Q else E := by
  have hw : Region.wanted o (yielded ops a.tmps) = true := by simp [Region.wanted, hgd]
  rw [if_pos hw]
  exact wp_appN w s x t ho base e ht hi hzs hsz v n xs hs hown A c l hx hA hz h1 hn hb hbase hnil h
end

theorem flat_cellN {α : Type} {sz : Nat} {enc : α → List Value} (hz : ∀ x, (enc x).length = sz) : ∀ (l : List α) (n j : Nat) (x : α), j < sz → l[n]? = some x → (l.flatMap enc)[n * sz + j]? = (enc x)[j]?
  | [], n, j, x, _, h => by simp at h
  | y :: l, 0, j, x, hj, h => by
    simp at h; subst h
    rw [List.flatMap_cons, List.getElem?_append_left (by rw [hz]; omega)]
    simp
  | y :: l, n + 1, j, x, hj, h => by
    rw [List.flatMap_cons, List.getElem?_append_right (by rw [hz, Nat.add_mul]; omega)]
    have := flat_cellN hz l n j x hj (by simpa using h)
    rw [← this]
    congr 1
    rw [hz, Nat.add_mul]; omega
/-- A block that holds a list, element by element. -/
theorem isSl_flatN {α : Type} {sz : Nat} {enc : α → List Value} (hz : ∀ x, (enc x).length = sz) {w : World} {b : Nat} {t : TypeId} {fr : Nat × Nat} (l : List α) (h : w.heap[b]? = some (.cells (l.flatMap enc).toArray t fr)) : IsSl sz enc w (some ⟨b, 0, none⟩) l := by
  intro _
  refine ⟨b, 0, rfl, lt_of_block h, fun i e hi j v hj => ?_⟩
  rw [blk_cell h, List.getElem?_toArray, Nat.zero_add, flat_cellN hz l i j e (by rw [← hz e]; exact (List.getElem?_eq_some_iff.1 hj).1) hi]
  exact hj
theorem owns_isSlN {α : Type} {sz : Nat} {enc : α → List Value} (hz : ∀ x, (enc x).length = sz) {W : World} {base e : Nat} {v : Value} {l : List α} (h : W.ownsRow base e sz v l.length (l.flatMap enc)) :
    ∃ A cap, v = .slice A l.length cap ∧ IsSl sz enc W A l := by
  rcases h.2 with ⟨rfl, h0⟩ | ⟨g, cap, cur, rfl, hb, hg, hn, hc, hs, ht⟩
  · exact ⟨none, 0, by rw [h0], fun hp => by omega⟩
  · refine ⟨some ⟨g, 0, none⟩, cap, rfl, fun _ => ⟨g, 0, rfl, lt_of_block hg, fun j x hj i v hi => ?_⟩⟩
    have hil := (List.getElem?_eq_some_iff.1 hi).1
    rw [hz] at hil
    have hjl := (List.getElem?_eq_some_iff.1 hj).1
    rw [blk_cell hg, Nat.zero_add]
    have h1 := flat_cellN hz l j i x hil hj
    rw [hi, ← ht] at h1
    have hb : j * sz + i < l.length * sz := by
      have : (j + 1) * sz ≤ l.length * sz := Nat.mul_le_mul_right _ hjl
      rw [Nat.add_mul] at this
      omega
    rw [List.getElem?_take_of_lt hb] at h1
    simpa using h1

/-- A store below its base leaves an owned row as it is. -/
theorem ownsRow_other {W : World} {B e size n : Nat} {v : Value} {xs : List Value} (h : W.ownsRow B e size v n xs) {p : Addr} (hp : p.block < B) (u : Value) : (W.setCell p u).ownsRow B e size v n xs := by
  obtain ⟨h1, h2⟩ := h
  refine ⟨h1, ?_⟩
  rcases h2 with h2 | ⟨g, cap, cur, e1, e2, e3, e4⟩
  · exact Or.inl h2
  · exact Or.inr ⟨g, cap, cur, e1, e2, (Below.heap_setCell W p u g (by omega)).trans e3, e4⟩

theorem owns_slice {W : World} {base e sz n : Nat} {v : Value} {xs : List Value} (h : W.ownsRow base e sz v n xs) : ∃ A c, v = .slice A n c := by
  rcases h.2 with ⟨rfl, h0⟩ | ⟨g, cap, cur, rfl, _⟩
  · exact ⟨none, 0, by rw [h0]⟩
  · exact ⟨_, _, rfl⟩

/-- One element of one cell, its own block wherever the walk says that it lies. -/
theorem wpList_app1b {P : Program} {W : World} {ops : Array Oper} {rest : List Oper} {o : Oper} {a : Act} {Q : Exit → Act → World → Prop} (hgd : o.guard = none) (s x : Operand) (t : TypeId)
    (ho : o.op = .call { callee := .builtin .append, args := #[s, x], argTypes := #[t, t] })
    (base : Nat) (e : TypeId) {z : Value} {bytes : Nat} (ht : P.underlying t = some (.slice e)) (hi : (P.info? e).map (fun i => (i.zero, i.size, i.bytes)) = some (some z, 1, bytes))
    (hzs : z.cells.size = 1) (hby : bytes ≤ 64)
    (v : Value) (n : Nat) (xs : List Value) (hs : a.eval s = v) (hown : W.ownsRow base e 1 v n xs) (hn : n ≤ 1000000) (hbase : base ≤ W.heap.size)
    (u : Value) (b c : Nat) (hx : a.eval x = .slice (some ⟨b, 0, none⟩) 1 c) (hb : b = W.heap.size) (hu : u.oneCell' = true)
    (h : ∀ v' w', w'.ownsRow base e 1 v' (n + 1) (xs ++ [u]) → Below base W w' → v' ≠ .slice none 0 0 → wpList P ops Q rest (a.put o.dst v') w') : wpList P ops Q (o :: rest) a (W.alloc (.cells #[u] e)) := by
  subst hb
  exact wpList_app1 hgd s x t ho base e ht hi hzs hby v n xs hs hown hn hbase u c hx hu fun v' w' h1 h2 h3 => h v' w' h1 h2 h3
end Go.Proofs.Ytbcnfegmmhioeaa
