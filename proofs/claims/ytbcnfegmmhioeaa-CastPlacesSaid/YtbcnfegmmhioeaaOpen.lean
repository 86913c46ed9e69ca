/- How arguments read, type by type: what cells a type has, wherever it reads. -/
import Derived.Test.YtbcnfegmmhioeaaRow
namespace Go.Proofs.Ytbcnfegmmhioeaa
open Go.ChangeShapes Go.WideShapes Go.ChangeAt Go.RowKit

/-- What the cells of a type are, wherever it reads in w. -/
def Opens {α : Type} (P : Program) (w : World) (t : TypeId) (enc : α → List Value) (R : α → Prop) : Prop :=
  ∀ (H : Type) (e : TypeId × Value → H) (fuel : Nat) (cs : List Value) (x : DataW H × List MemPlace), DataW.trod e P w 0 (fun _ => true) true fuel t cs = some x → ∃ a, cs = enc a ∧ R a

section
variable {P : Program} {w : World}
theorem opens_int {t : TypeId} {k : IntKind} (ht : P.underlying t = some (.int k)) : Opens P w t (fun z : Int => [Value.int k z]) (fun z => k.min ≤ z ∧ z ≤ k.max) := by
  intro H e fuel cs x h
  obtain ⟨n, rfl, _, hw⟩ := DataW.trod_int ht h
  refine ⟨n, rfl, ?_⟩
  simpa [Lit.wf] using hw
theorem opens_u8 {t : TypeId} (ht : P.underlying t = some (.int .u8)) : Opens P w t (fun z : UInt8 => [Value.int .u8 z.toNat]) (fun _ => True) := by
  intro H e fuel cs x h
  obtain ⟨n, rfl, h1⟩ := opens_int ht H e fuel cs x h
  have e1 : IntKind.u8.min = 0 := rfl
  have e2 : IntKind.u8.max = 255 := rfl
  rw [e1, e2] at h1
  refine ⟨UInt8.ofNat n.toNat, ?_, trivial⟩
  have : ((UInt8.ofNat n.toNat).toNat : Int) = n := by simp; omega
  simp only [this]
theorem opens_bool {t : TypeId} (ht : P.underlying t = some .bool) : Opens P w t (fun b : Bool => [Value.bool b]) (fun _ => True) := by
  intro H e fuel cs x h
  obtain ⟨b, rfl, _⟩ := DataW.trod_bool ht h
  exact ⟨b, rfl, trivial⟩
theorem opens_string {t : TypeId} (ht : P.underlying t = some .string) : Opens P w t (fun s : ByteArray => [Value.string s]) (fun s => s.size ≤ maxLen) := by
  intro H e fuel cs x h
  obtain ⟨s, rfl, _, hs⟩ := DataW.trod_string ht h
  exact ⟨s, rfl, hs⟩

/-- A slice: where it lies, its room, what it holds. -/
structure SlV (α : Type) where
  A : Option Addr
  cap : Nat
  l : List α
def SlV.val {α : Type} (s : SlV α) : Value := .slice s.A s.l.length s.cap
theorem list_of {α : Type} {Q : Nat → α → Prop} : ∀ (n : Nat), (∀ i, i < n → ∃ a, Q i a) → ∃ l : List α, l.length = n ∧ ∀ i a, l[i]? = some a → Q i a
  | 0, _ => ⟨[], rfl, fun i a h => by simp at h⟩
  | n + 1, h => by
    obtain ⟨l, hl, hq⟩ := list_of n (fun i hi => h i (by omega))
    obtain ⟨a, ha⟩ := h n (by omega)
    refine ⟨l ++ [a], by simp [hl], fun i b hb => ?_⟩
    by_cases hi : i < n
    · rw [List.getElem?_append_left (by omega)] at hb
      exact hq i b hb
    · rw [List.getElem?_append_right (by omega)] at hb
      have : i - l.length = 0 := by
        rcases Nat.eq_zero_or_pos (i - l.length) with h0 | h0
        · exact h0
        · rw [List.getElem?_eq_none (by simp; omega)] at hb; cases hb
      rw [this] at hb
      simp at hb; subst hb
      rw [show i = n by omega]
      exact ha
theorem opens_slice {α : Type} {t e : TypeId} {sz : Nat} {enc : α → List Value} {R : α → Prop} (ht : P.underlying t = some (.slice e)) (hc : P.cellsOf e = sz) (hsz : 0 < sz) (he : Opens P w e enc R) :
    Opens P w t (fun s : SlV α => [s.val]) (fun s => IsSl sz enc w s.A s.l ∧ (∀ x ∈ s.l, R x) ∧ s.l.length ≤ 9223372036854775807) := by
  intro H en fuel cs x h
  rcases DataW.trod_slice ht h with ⟨rfl, _⟩ | ⟨a, len, cap, elems, rest, n, _, rfl, _, _, hl, hm, hlen, hel, _, _⟩
  · exact ⟨⟨none, 0, []⟩, rfl, IsSl.nil _ _, by simp, by simp⟩
  · have key : ∀ i, i < len → ∃ y, R y ∧ (∀ j v, (enc y)[j]? = some v → w.cell? ((a.add (i * sz)).add j) = some v) ∧ (enc y).length = sz := fun i hi => by
      have h1 := hel i hi
      rw [hc, List.getElem?_eq_getElem (by omega)] at h1
      obtain ⟨cs', hcs, ht'⟩ := Option.bind_eq_some_iff.1 h1
      obtain ⟨_, hcl, hat⟩ := World.cells?_some hcs
      obtain ⟨y, rfl, hy⟩ := he H en n cs' _ ht'
      refine ⟨y, hy, fun j v hv => ?_, hcl⟩
      have hj := (List.getElem?_eq_some_iff.1 hv).1
      rw [hat j (by omega)]
      exact hv
    obtain ⟨l, hll, hq⟩ := list_of len key
    unfold maxLen at hm
    refine ⟨⟨some a, cap, l⟩, by simp [SlV.val, hll], fun hpos => ?_, fun x hx => ?_, by show l.length ≤ _; omega⟩
    · obtain ⟨y, hy⟩ : ∃ y, l[0]? = some y := ⟨l[0], List.getElem?_eq_getElem hpos⟩
      obtain ⟨_, h2, h3⟩ := hq 0 y hy
      have h4 := h2 0 _ (List.getElem?_eq_getElem (by omega))
      have hsp := World.cell?_spot h4
      obtain ⟨b, off, spot⟩ := a
      have hspot : spot = none := by
        simp only [Addr.add] at hsp
        split at hsp
        · split at hsp <;> simp_all
        · simp_all
      subst hspot
      refine ⟨b, off, rfl, by have := World.block_lt_of_cell? _ _ h4; simpa [add_plain] using this, fun i e hi j v hj => ?_⟩
      have := (hq i e hi).2.1 j v hj
      rwa [add_plain, add_plain] at this
    · obtain ⟨i, hi⟩ := List.getElem?_of_mem hx
      exact (hq i x hi).1

/-- Cells, cut where the fields begin. -/
def cutAt (cs : List Value) : Nat → List Nat → List Value
  | _, [] => []
  | o, s :: r => (cs.drop o).take s ++ cutAt cs (o + s) r
theorem cutAt_all (cs : List Value) : ∀ (ss : List Nat) (o : Nat), cs.length = o + ss.sum → cutAt cs o ss = cs.drop o
  | [], o, h => by
    rw [cutAt, List.drop_eq_nil_of_le]
    simp at h; omega
  | s :: r, o, h => by
    rw [cutAt, cutAt_all cs r (o + s) (by simp at h; omega), ← List.drop_drop]
    exact List.take_append_drop s (cs.drop o)

theorem opens_struct2 {α β : Type} {t : TypeId} {f0 f1 : Field} {c0 c1 : Nat} {ea : α → List Value} {eb : β → List Value} {Ra : α → Prop} {Rb : β → Prop}
    (ht : P.underlying t = some (.struct #[f0, f1])) (hs : P.cellsOf f0.type = c0 ∧ P.cellsOf f1.type = c1) (ho : f0.offset = 0 ∧ f1.offset = c0) (hz : P.cellsOf t = c0 + c1)
    (ha : Opens P w f0.type ea Ra) (hb : Opens P w f1.type eb Rb) : Opens P w t (fun x : α × β => ea x.1 ++ eb x.2) (fun x => Ra x.1 ∧ Rb x.2) := by
  intro H en fuel cs x h
  obtain ⟨xs, n, _, _, hl, hxl, hf⟩ := DataW.trod_struct ht h
  match xs, hxl with
  | [y0, y1], _ =>
    obtain ⟨o0, o1⟩ := ho
    obtain ⟨s0, s1⟩ := hs
    obtain ⟨a, e0, ra⟩ := ha H en n _ _ (hf 0 f0 rfl)
    obtain ⟨b, e1, rb⟩ := hb H en n _ _ (hf 1 f1 rfl)
    refine ⟨(a, b), ?_, ra, rb⟩
    have := cutAt_all cs [c0, c1] 0 (by simp; omega)
    simp only [cutAt, List.drop_zero, Nat.zero_add, List.append_nil] at this
    rw [o0, s0, List.drop_zero] at e0
    rw [o1, s1] at e1
    rw [← this, e0, e1]
theorem opens_struct3 {α β γ : Type} {t : TypeId} {f0 f1 f2 : Field} {c0 c1 c2 : Nat} {ea : α → List Value} {eb : β → List Value} {ec : γ → List Value} {Ra : α → Prop} {Rb : β → Prop} {Rc : γ → Prop}
    (ht : P.underlying t = some (.struct #[f0, f1, f2])) (hs : P.cellsOf f0.type = c0 ∧ P.cellsOf f1.type = c1 ∧ P.cellsOf f2.type = c2) (ho : f0.offset = 0 ∧ f1.offset = c0 ∧ f2.offset = c0 + c1) (hz : P.cellsOf t = c0 + c1 + c2)
    (ha : Opens P w f0.type ea Ra) (hb : Opens P w f1.type eb Rb) (hc : Opens P w f2.type ec Rc) : Opens P w t (fun x : α × β × γ => ea x.1 ++ (eb x.2.1 ++ ec x.2.2)) (fun x => Ra x.1 ∧ Rb x.2.1 ∧ Rc x.2.2) := by
  intro H en fuel cs x h
  obtain ⟨xs, n, _, _, hl, hxl, hf⟩ := DataW.trod_struct ht h
  match xs, hxl with
  | [y0, y1, y2], _ =>
    obtain ⟨o0, o1, o2⟩ := ho
    obtain ⟨s0, s1, s2⟩ := hs
    obtain ⟨a, e0, ra⟩ := ha H en n _ _ (hf 0 f0 rfl)
    obtain ⟨b, e1, rb⟩ := hb H en n _ _ (hf 1 f1 rfl)
    obtain ⟨c, e2, rc⟩ := hc H en n _ _ (hf 2 f2 rfl)
    refine ⟨(a, b, c), ?_, ra, rb, rc⟩
    have := cutAt_all cs [c0, c1, c2] 0 (by simp; omega)
    simp only [cutAt, List.drop_zero, Nat.zero_add, List.append_nil] at this
    rw [o0, s0, List.drop_zero] at e0
    rw [o1, s1] at e1
    rw [o2, s2] at e2
    rw [← this, e0, e1, e2]
theorem opens_struct5 {α β γ δ ε : Type} {t : TypeId} {f0 f1 f2 f3 f4 : Field} {c0 c1 c2 c3 c4 : Nat} {ea : α → List Value} {eb : β → List Value} {ec : γ → List Value} {ed : δ → List Value} {ee : ε → List Value}
    {Ra : α → Prop} {Rb : β → Prop} {Rc : γ → Prop} {Rd : δ → Prop} {Re : ε → Prop}
    (ht : P.underlying t = some (.struct #[f0, f1, f2, f3, f4])) (hs : P.cellsOf f0.type = c0 ∧ P.cellsOf f1.type = c1 ∧ P.cellsOf f2.type = c2 ∧ P.cellsOf f3.type = c3 ∧ P.cellsOf f4.type = c4)
    (ho : f0.offset = 0 ∧ f1.offset = c0 ∧ f2.offset = c0 + c1 ∧ f3.offset = c0 + c1 + c2 ∧ f4.offset = c0 + c1 + c2 + c3) (hz : P.cellsOf t = c0 + c1 + c2 + c3 + c4)
    (ha : Opens P w f0.type ea Ra) (hb : Opens P w f1.type eb Rb) (hc : Opens P w f2.type ec Rc) (hd : Opens P w f3.type ed Rd) (he : Opens P w f4.type ee Re) :
    Opens P w t (fun x : α × β × γ × δ × ε => ea x.1 ++ (eb x.2.1 ++ (ec x.2.2.1 ++ (ed x.2.2.2.1 ++ ee x.2.2.2.2)))) (fun x => Ra x.1 ∧ Rb x.2.1 ∧ Rc x.2.2.1 ∧ Rd x.2.2.2.1 ∧ Re x.2.2.2.2) := by
  intro H en fuel cs x h
  obtain ⟨xs, n, _, _, hl, hxl, hf⟩ := DataW.trod_struct ht h
  match xs, hxl with
  | [y0, y1, y2, y3, y4], _ =>
    obtain ⟨o0, o1, o2, o3, o4⟩ := ho
    obtain ⟨s0, s1, s2, s3, s4⟩ := hs
    obtain ⟨a, e0, ra⟩ := ha H en n _ _ (hf 0 f0 rfl)
    obtain ⟨b, e1, rb⟩ := hb H en n _ _ (hf 1 f1 rfl)
    obtain ⟨c, e2, rc⟩ := hc H en n _ _ (hf 2 f2 rfl)
    obtain ⟨d, e3, rd⟩ := hd H en n _ _ (hf 3 f3 rfl)
    obtain ⟨e, e4, re⟩ := he H en n _ _ (hf 4 f4 rfl)
    refine ⟨(a, b, c, d, e), ?_, ra, rb, rc, rd, re⟩
    have := cutAt_all cs [c0, c1, c2, c3, c4] 0 (by simp; omega)
    simp only [cutAt, List.drop_zero, Nat.zero_add, List.append_nil] at this
    rw [o0, s0, List.drop_zero] at e0
    rw [o1, s1] at e1
    rw [o2, s2] at e2
    rw [o3, s3] at e3
    rw [o4, s4] at e4
    rw [← this, e0, e1, e2, e3, e4]

/-- A parameter that is a struct: its value. -/
theorem open_struct {H : Type} {en : TypeId × Value → H} {α : Type} {t : TypeId} {fs : Array Field} {enc : α → List Value} {R : α → Prop} {r : Reach} {b0 : Nat} {v : Value} {d : DataW H} {p : List MemPlace}
    (ht : P.underlying t = some (.struct fs)) (ho : Opens P w t enc R) (hv : Value.okWide P w r b0 t v) (h : DataW.Trod en P w 0 (fun _ => true) true t v d p) : ∃ a, v = .agg (enc a).toArray ∧ R a := by
  obtain ⟨cs, rfl, _⟩ := okWide_struct ht hv
  obtain ⟨fuel, hf⟩ := h
  obtain ⟨a, ha, hr⟩ := ho H en fuel _ _ hf
  refine ⟨a, ?_, hr⟩
  have : cs.toList = enc a := by simpa [Value.cells] using ha
  rw [← this]
theorem open_slice {H : Type} {en : TypeId × Value → H} {α : Type} {t e : TypeId} {R : SlV α → Prop} {r : Reach} {b0 : Nat} {v : Value} {d : DataW H} {p : List MemPlace}
    (ht : P.underlying t = some (.slice e)) (ho : Opens P w t (fun s : SlV α => [s.val]) R) (hv : Value.okWide P w r b0 t v) (h : DataW.Trod en P w 0 (fun _ => true) true t v d p) : ∃ s : SlV α, v = s.val ∧ R s := by
  obtain ⟨a, len, cap, rfl⟩ := okWide_slice ht hv
  obtain ⟨fuel, hf⟩ := h
  obtain ⟨a, ha, hr⟩ := ho H en fuel _ _ hf
  refine ⟨a, ?_, hr⟩
  simpa [Value.cells] using ha
end
end Go.Proofs.Ytbcnfegmmhioeaa
