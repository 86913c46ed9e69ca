/- Appending one element of one cell, as a walk's step. -/
import Derived.Test.YtbcnfegmmhioeaaLib
import Derived.Laws.AppendOwn
import Derived.OwnWalk
namespace Go.Proofs.Ytbcnfegmmhioeaa
open Go.RowKit

theorem ownsRow_mono {w : World} {B B' e size n : Nat} {v : Value} {xs : List Value} (h : w.ownsRow B e size v n xs) (hB : B' ≤ B) : w.ownsRow B' e size v n xs := by
  obtain ⟨h1, h2⟩ := h
  refine ⟨h1, ?_⟩
  rcases h2 with h2 | ⟨g, cap, cur, e1, e2, e3⟩
  · exact Or.inl h2
  · exact Or.inr ⟨g, cap, cur, e1, Nat.le_trans hB e2, e3⟩

theorem ownBlock_le {w : World} {B e size n : Nat} {v : Value} {xs : List Value} (h : w.ownsRow B e size v n xs) {b : Nat} (hb : v.ownBlock = some b) : B ≤ b := by
  rcases h.2 with ⟨rfl, _⟩ | ⟨g, cap, cur, rfl, e2, _⟩
  · cases hb
  · cases hb; exact e2

theorem grown_below {W w' : World} {B : Nat} {r : Option Nat} (h : W.grownBy w' r) (hr : ∀ b, r = some b → B ≤ b) (hB : B ≤ W.heap.size) : Below B W w' :=
  ⟨h.os, h.tape, h.output, h.size, fun i hi => h.block i (Nat.lt_of_lt_of_le hi hB) (fun e => by have := hr i e.symm; omega)⟩

/-- What is owned stays so where nothing from its base on has turned. -/
theorem ownsRow_below {W w' : World} {B e size n : Nat} {v : Value} {xs : List Value} (h : W.ownsRow B e size v n xs) (hb : Below W.heap.size W w') : w'.ownsRow B e size v n xs := by
  obtain ⟨h1, h2⟩ := h
  refine ⟨h1, ?_⟩
  rcases h2 with h2 | ⟨g, cap, cur, e1, e2, e3, e4⟩
  · exact Or.inl h2
  · exact Or.inr ⟨g, cap, cur, e1, e2, (hb.block g (lt_of_block e3)).trans e3, e4⟩

theorem wpList_app1 {P : Program} {W : World} {ops : Array Oper} {rest : List Oper} {o : Oper} {a : Act} {Q : Exit → Act → World → Prop} (hgd : o.guard = none) (s x : Operand) (t : TypeId)
    (ho : o.op = .call { callee := .builtin .append, args := #[s, x], argTypes := #[t, t] })
    (base : Nat) (e : TypeId) {z : Value} {bytes : Nat} (ht : P.underlying t = some (.slice e)) (hi : (P.info? e).map (fun i => (i.zero, i.size, i.bytes)) = some (some z, 1, bytes))
    (hzs : z.cells.size = 1) (hby : bytes ≤ 64)
    (v : Value) (n : Nat) (xs : List Value) (hs : a.eval s = v) (hown : W.ownsRow base e 1 v n xs) (hn : n ≤ 1000000) (hbase : base ≤ W.heap.size)
    (u : Value) (c : Nat) (hx : a.eval x = .slice (some ⟨W.heap.size, 0, none⟩) 1 c) (hu : u.oneCell' = true)
    (h : ∀ v' w', w'.ownsRow base e 1 v' (n + 1) (xs ++ [u]) → Below base W w' → v' ≠ .slice none 0 0 → wpList P ops Q rest (a.put o.dst v') w') : wpList P ops Q (o :: rest) a (W.alloc (.cells #[u] e)) := by
  cases hq : P.info? e with
  | none => rw [hq] at hi; cases hi
  | some i =>
    rw [hq] at hi
    simp only [Option.map_some, Option.some.injEq, Prod.mk.injEq] at hi
    obtain ⟨h1, h2, h3⟩ := hi
    have hown' : (W.alloc (.cells #[u] e)).ownsRow base e 1 v n xs := ownsRow_below hown (Below.alloc (Below.refl _ _) (Nat.le_refl _) _)
    refine wpList_append_own (P := P) (W.alloc (.cells #[u] e)) hgd s x t ho base e i z 1 bytes ht hq h1 h2 h3 hzs (by decide) v n xs hs hown' ⟨W.heap.size, 0, none⟩ 1 c [u] hx rfl ?_ ?_ ?_ ?_ ?_ ?_
    · intro j u' hj
      match j, hj with
      | 0, hj =>
        simp at hj; subst hj
        show (W.alloc (.cells #[u] e)).cell? ((⟨W.heap.size, 0, none⟩ : Addr).add 0) = _
        rw [show (⟨W.heap.size, 0, none⟩ : Addr).add 0 = ⟨W.heap.size, 0, none⟩ by unfold Addr.add; split <;> simp_all]
        exact blk_cell (blk_new W (.cells #[u] e)) 0
    · intro u' hu'; simp at hu'; subst hu'; exact hu
    · unfold maxLen; omega
    · have : (n + 1) * bytes ≤ (n + 1) * 64 := Nat.mul_le_mul_left _ hby
      omega
    · simp; omega
    · intro v' w' ho' hg hnil
      refine h v' w' ho' ?_ ?_
      · have hb := grown_below hg (fun b hb => ownBlock_le hown hb) (by simp; omega : base ≤ (W.alloc (.cells #[u] e)).heap.size)
        exact (Below.alloc (Below.refl base W) hbase _).trans hb
      · intro hv
        have := (hnil.1 hv).2
        cases this
end Go.Proofs.Ytbcnfegmmhioeaa
