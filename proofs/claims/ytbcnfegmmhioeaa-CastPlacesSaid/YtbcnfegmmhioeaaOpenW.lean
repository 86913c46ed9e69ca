/- How arguments read where no string and no slice outgrows the platform's addresses. -/
import Derived.Test.YtbcnfegmmhioeaaOpen
namespace Go.Proofs.Ytbcnfegmmhioeaa
open Go.ChangeShapes Go.WideShapes Go.ChangeAt Go.RowKit

def OpensW {α : Type} (P : Program) (w : World) (t : TypeId) (enc : α → List Value) (R : α → Prop) : Prop :=
  ∀ (H : Type) (e : TypeId × Value → H) (fuel : Nat) (cs : List Value) (x : DataW H × List MemPlace), DataW.trod e P w 0 (fun _ => true) true fuel t cs = some x → (∀ n ∈ x.1.weights P t, n ≤ reachBytes) → ∃ a, cs = enc a ∧ R a
section
variable {P : Program} {w : World}
theorem Opens.toW {α : Type} {t : TypeId} {enc : α → List Value} {R : α → Prop} (h : Opens P w t enc R) : OpensW P w t enc R := fun H e fuel cs x hx _ => h H e fuel cs x hx
theorem weightsAll_mem {H : Type} {e : TypeId} {n : Nat} : ∀ {l : List (DataW H)} {y : DataW H}, y ∈ l → n ∈ y.weights P e → n ∈ DataW.weightsAll P e l
  | [], _, h, _ => by cases h
  | z :: l, y, h, hn => by
    rw [DataW.weightsAll]
    rcases List.mem_cons.1 h with rfl | h
    · exact List.mem_append_left _ hn
    · exact List.mem_append_right _ (weightsAll_mem h hn)
theorem opensW_string {t : TypeId} (ht : P.underlying t = some .string) : OpensW P w t (fun s : ByteArray => [Value.string s]) (fun s => s.size ≤ reachBytes) := by
  intro H e fuel cs x h hw
  obtain ⟨s, rfl, rfl, hs⟩ := DataW.trod_string ht h
  refine ⟨s, rfl, ?_⟩
  have := hw s.data.toList.length (by simp [DataW.weights])
  simpa using this
theorem opensW_slice {α : Type} {t e : TypeId} {sz : Nat} {enc : α → List Value} {R : α → Prop} (ht : P.underlying t = some (.slice e)) (hc : P.cellsOf e = sz) (hsz : 0 < sz) (he : OpensW P w e enc R) :
    OpensW P w t (fun s : SlV α => [s.val]) (fun s => IsSl sz enc w s.A s.l ∧ (∀ x ∈ s.l, R x) ∧ s.l.length ≤ 9223372036854775807 ∧ s.l.length * P.bytesOf e ≤ reachBytes) := by
  intro H en fuel cs x h hw
  rcases DataW.trod_slice ht h with ⟨rfl, _⟩ | ⟨a, len, cap, elems, rest, n, _, rfl, rfl, _, hl, hm, hlen, hel, _, _⟩
  · exact ⟨⟨none, 0, []⟩, rfl, IsSl.nil _ _, by simp, by simp, by simp⟩
  · simp only [DataW.weights, ht] at hw
    have hw0 := hw _ List.mem_cons_self
    simp only [List.length_map] at hw0
    have key : ∀ i, i < len → ∃ y, R y ∧ (∀ j v, (enc y)[j]? = some v → w.cell? ((a.add (i * sz)).add j) = some v) ∧ (enc y).length = sz := fun i hi => by
      have h1 := hel i hi
      have hie : i < elems.length := by omega
      rw [hc, List.getElem?_eq_getElem hie] at h1
      obtain ⟨cs', hcs, ht'⟩ := Option.bind_eq_some_iff.1 h1
      obtain ⟨_, hcl, hat⟩ := World.cells?_some hcs
      obtain ⟨y, rfl, hy⟩ := he H en n cs' _ ht' fun m hm => hw m (List.mem_cons_of_mem _ (List.mem_append_left _ (weightsAll_mem (List.mem_map_of_mem (List.getElem_mem hie)) hm)))
      refine ⟨y, hy, fun j v hv => ?_, hcl⟩
      have hj := (List.getElem?_eq_some_iff.1 hv).1
      rw [hat j (by omega)]
      exact hv
    obtain ⟨l, hll, hq⟩ := list_of len key
    unfold maxLen at hm
    refine ⟨⟨some a, cap, l⟩, by simp [SlV.val, hll], fun hpos => ?_, fun x hx => ?_, by show l.length ≤ _; omega, ?_⟩
    · obtain ⟨y, hy⟩ : ∃ y, l[0]? = some y := ⟨l[0], List.getElem?_eq_getElem hpos⟩
      obtain ⟨_, h2, h3⟩ := hq 0 y hy
      have h4 := h2 0 _ (List.getElem?_eq_getElem (by omega))
      have hsp := World.cell?_spot h4
      obtain ⟨b, off, spot⟩ := a
      have hspot : spot = none := by
        simp only [Addr.add] at hsp
        split at hsp
        · split at hsp <;> simp_all
        · simp_all
      subst hspot
      refine ⟨b, off, rfl, by have := World.block_lt_of_cell? _ _ h4; simpa [add_plain] using this, fun i e hi j v hj => ?_⟩
      have := (hq i e hi).2.1 j v hj
      rwa [add_plain, add_plain] at this
    · obtain ⟨i, hi⟩ := List.getElem?_of_mem hx
      exact (hq i x hi).1
    · show l.length * _ ≤ _
      rw [hll, ← hlen]
      exact Nat.le_trans (Nat.mul_le_mul_right _ (Nat.le_add_right _ _)) hw0
theorem opensW_struct3 {α β γ : Type} {t : TypeId} {f0 f1 f2 : Field} {c0 c1 c2 : Nat} {ea : α → List Value} {eb : β → List Value} {ec : γ → List Value} {Ra : α → Prop} {Rb : β → Prop} {Rc : γ → Prop}
    (ht : P.underlying t = some (.struct #[f0, f1, f2])) (hs : P.cellsOf f0.type = c0 ∧ P.cellsOf f1.type = c1 ∧ P.cellsOf f2.type = c2) (ho : f0.offset = 0 ∧ f1.offset = c0 ∧ f2.offset = c0 + c1) (hz : P.cellsOf t = c0 + c1 + c2)
    (ha : OpensW P w f0.type ea Ra) (hb : OpensW P w f1.type eb Rb) (hc : OpensW P w f2.type ec Rc) : OpensW P w t (fun x : α × β × γ => ea x.1 ++ (eb x.2.1 ++ ec x.2.2)) (fun x => Ra x.1 ∧ Rb x.2.1 ∧ Rc x.2.2) := by
  intro H en fuel cs x h hw
  obtain ⟨xs, n, _, rfl, hl, hxl, hf⟩ := DataW.trod_struct ht h
  match xs, hxl with
  | [y0, y1, y2], _ =>
    simp only [DataW.weights, ht, DataW.weightsEach, List.map_cons, List.map_nil, List.append_nil, List.mem_append] at hw
    obtain ⟨o0, o1, o2⟩ := ho
    obtain ⟨s0, s1, s2⟩ := hs
    obtain ⟨a, e0, ra⟩ := ha H en n _ _ (hf 0 f0 rfl) fun m hm => hw m (.inl hm)
    obtain ⟨b, e1, rb⟩ := hb H en n _ _ (hf 1 f1 rfl) fun m hm => hw m (.inr (.inl hm))
    obtain ⟨c, e2, rc⟩ := hc H en n _ _ (hf 2 f2 rfl) fun m hm => hw m (.inr (.inr hm))
    refine ⟨(a, b, c), ?_, ra, rb, rc⟩
    have := cutAt_all cs [c0, c1, c2] 0 (by simp; omega)
    simp only [cutAt, List.drop_zero, Nat.zero_add, List.append_nil] at this
    rw [o0, s0, List.drop_zero] at e0
    rw [o1, s1] at e1
    rw [o2, s2] at e2
    rw [← this, e0, e1, e2]
theorem opensW_struct5 {α β γ δ ε : Type} {t : TypeId} {f0 f1 f2 f3 f4 : Field} {c0 c1 c2 c3 c4 : Nat} {ea : α → List Value} {eb : β → List Value} {ec : γ → List Value} {ed : δ → List Value} {ee : ε → List Value}
    {Ra : α → Prop} {Rb : β → Prop} {Rc : γ → Prop} {Rd : δ → Prop} {Re : ε → Prop}
    (ht : P.underlying t = some (.struct #[f0, f1, f2, f3, f4])) (hs : P.cellsOf f0.type = c0 ∧ P.cellsOf f1.type = c1 ∧ P.cellsOf f2.type = c2 ∧ P.cellsOf f3.type = c3 ∧ P.cellsOf f4.type = c4)
    (ho : f0.offset = 0 ∧ f1.offset = c0 ∧ f2.offset = c0 + c1 ∧ f3.offset = c0 + c1 + c2 ∧ f4.offset = c0 + c1 + c2 + c3) (hz : P.cellsOf t = c0 + c1 + c2 + c3 + c4)
    (ha : OpensW P w f0.type ea Ra) (hb : OpensW P w f1.type eb Rb) (hc : OpensW P w f2.type ec Rc) (hd : OpensW P w f3.type ed Rd) (he : OpensW P w f4.type ee Re) :
    OpensW P w t (fun x : α × β × γ × δ × ε => ea x.1 ++ (eb x.2.1 ++ (ec x.2.2.1 ++ (ed x.2.2.2.1 ++ ee x.2.2.2.2)))) (fun x => Ra x.1 ∧ Rb x.2.1 ∧ Rc x.2.2.1 ∧ Rd x.2.2.2.1 ∧ Re x.2.2.2.2) := by
  intro H en fuel cs x h hw
  obtain ⟨xs, n, _, rfl, hl, hxl, hf⟩ := DataW.trod_struct ht h
  match xs, hxl with
  | [y0, y1, y2, y3, y4], _ =>
    simp only [DataW.weights, ht, DataW.weightsEach, List.map_cons, List.map_nil, List.append_nil, List.mem_append] at hw
    obtain ⟨o0, o1, o2, o3, o4⟩ := ho
    obtain ⟨s0, s1, s2, s3, s4⟩ := hs
    obtain ⟨a, e0, ra⟩ := ha H en n _ _ (hf 0 f0 rfl) fun m hm => hw m (.inl hm)
    obtain ⟨b, e1, rb⟩ := hb H en n _ _ (hf 1 f1 rfl) fun m hm => hw m (.inr (.inl hm))
    obtain ⟨c, e2, rc⟩ := hc H en n _ _ (hf 2 f2 rfl) fun m hm => hw m (.inr (.inr (.inl hm)))
    obtain ⟨d, e3, rd⟩ := hd H en n _ _ (hf 3 f3 rfl) fun m hm => hw m (.inr (.inr (.inr (.inl hm))))
    obtain ⟨e, e4, re⟩ := he H en n _ _ (hf 4 f4 rfl) fun m hm => hw m (.inr (.inr (.inr (.inr hm))))
    refine ⟨(a, b, c, d, e), ?_, ra, rb, rc, rd, re⟩
    have := cutAt_all cs [c0, c1, c2, c3, c4] 0 (by simp; omega)
    simp only [cutAt, List.drop_zero, Nat.zero_add, List.append_nil] at this
    rw [o0, s0, List.drop_zero] at e0
    rw [o1, s1] at e1
    rw [o2, s2] at e2
    rw [o3, s3] at e3
    rw [o4, s4] at e4
    rw [← this, e0, e1, e2, e3, e4]
theorem openW_struct {H : Type} {en : TypeId × Value → H} {α : Type} {t : TypeId} {fs : Array Field} {enc : α → List Value} {R : α → Prop} {r : Reach} {b0 : Nat} {v : Value} {d : DataW H} {p : List MemPlace}
    (ht : P.underlying t = some (.struct fs)) (ho : OpensW P w t enc R) (hv : Value.okWide P w r b0 t v) (h : DataW.Trod en P w 0 (fun _ => true) true t v d p) (hw : ∀ n ∈ d.weights P t, n ≤ reachBytes) : ∃ a, v = .agg (enc a).toArray ∧ R a := by
  obtain ⟨cs, rfl, _⟩ := okWide_struct ht hv
  obtain ⟨fuel, hf⟩ := h
  obtain ⟨a, ha, hr⟩ := ho H en fuel _ _ hf hw
  refine ⟨a, ?_, hr⟩
  have : cs.toList = enc a := by simpa [Value.cells] using ha
  rw [← this]
end
end Go.Proofs.Ytbcnfegmmhioeaa
