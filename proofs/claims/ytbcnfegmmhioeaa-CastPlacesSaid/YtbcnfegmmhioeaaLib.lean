/- Words of this claim for memory: a map's block that reads as a list of pairs, what stays, what a call leaves as it was. -/
import Derived.WalkKit
import Derived.Laws.StructEq
import Derived.WalkSpells
import Derived.Lib.Hide
import Derived.Deep.Draws
import Derived.Maps.Own
import Derived.Maps.OwnSet
import Derived.StillTailTactics
import Derived.KernelRfl
namespace Go.Proofs.Ytbcnfegmmhioeaa
open Go.RowKit

/-! ### what a walk asks of an old block -/
theorem past {b n : Nat} (h : b < n) : b < n ∧ b < n + 1 ∧ b < n + 2 ∧ b < n + 3 ∧ b < n + 4 ∧ b < n + 5 ∧ b < n + 6 ∧ ¬ b = n ∧ ¬ b = n + 1 ∧ ¬ b = n + 2 ∧ ¬ b = n + 3 ∧ ¬ b = n + 4 ∧ ¬ b = n + 5 := by omega
/-- Block b, one of w's, is in W as it is in w. A class: a walk's simp finds its instances by the world's own form. -/
class SameB (w W : World) (b : Nat) : Prop where
  blk : W.heap[b]? = w.heap[b]?
  lt : b < w.heap.size
  le : w.heap.size ≤ W.heap.size
theorem SameB.self {w : World} {b : Nat} (h : b < w.heap.size) : SameB w w b := ⟨rfl, h, Nat.le_refl _⟩
instance sameB_alloc (w W : World) (o : Obj) (b : Nat) [h : SameB w W b] : SameB w (W.alloc o) b :=
  ⟨(Below.heap_alloc W o b (Nat.lt_of_lt_of_le h.lt h.le)).trans h.blk, h.lt, Nat.le_trans h.le (by simp)⟩
instance sameB_drew (w W : World) (b : Nat) [h : SameB w W b] : SameB w W.drew b := ⟨h.blk, h.lt, h.le⟩
instance sameB_drewN (w W : World) (k b : Nat) [h : SameB w W b] : SameB w (W.drewN k) b := ⟨h.blk, h.lt, h.le⟩
instance sameB_setCellV (w V W : World) (o : Nat) (s : Option Nat) (u : Value) (b : Nat) [h : SameB w W b] [k : SameB w V b] : SameB w (W.setCell ⟨V.heap.size, o, s⟩ u) b :=
  ⟨(Below.heap_setCell W _ u b (by have := h.lt; have := k.le; simp; omega)).trans h.blk, h.lt, by simpa [World.setCell] using h.le⟩
instance sameB_setCellV1 (w V W : World) (i o : Nat) (s : Option Nat) (u : Value) (b : Nat) [h : SameB w W b] [k : SameB w V b] : SameB w (W.setCell ⟨V.heap.size + i, o, s⟩ u) b :=
  ⟨(Below.heap_setCell W _ u b (by have := h.lt; have := k.le; simp; omega)).trans h.blk, h.lt, by simpa [World.setCell] using h.le⟩
/-- Behind a call that leaves what was there as it was. -/
theorem SameB.call {w V W : World} (h : Below V.heap.size V W) (b : Nat) [k : SameB w V b] : SameB w W b :=
  ⟨(h.block b (Nat.lt_of_lt_of_le k.lt k.le)).trans k.blk, k.lt, Nat.le_trans k.le h.size⟩

/-- Nothing that was there has turned: as a class. -/
class Bel (w W : World) : Prop where
  out : Below w.heap.size w W
instance bel_refl (w : World) : Bel w w := ⟨Below.refl _ _⟩
instance bel_alloc (w W : World) (o : Obj) [h : Bel w W] : Bel w (W.alloc o) := ⟨h.out.alloc h.out.size o⟩
instance bel_drew (w W : World) [h : Bel w W] : Bel w W.drew := ⟨h.out.drew⟩
instance bel_drewN (w W : World) (k : Nat) [h : Bel w W] : Bel w (W.drewN k) := ⟨⟨h.out.os, h.out.tape, h.out.output, h.out.size, h.out.block⟩⟩
instance bel_setCellV (w V W : World) (o : Nat) (s : Option Nat) (u : Value) [h : Bel w W] [k : Bel w V] : Bel w (W.setCell ⟨V.heap.size, o, s⟩ u) :=
  ⟨h.out.setCell (p := ⟨V.heap.size, o, s⟩) k.out.size u⟩
instance bel_setCellV1 (w V W : World) (i o : Nat) (s : Option Nat) (u : Value) [h : Bel w W] [k : Bel w V] : Bel w (W.setCell ⟨V.heap.size + i, o, s⟩ u) :=
  ⟨h.out.setCell (p := ⟨V.heap.size + i, o, s⟩) (Nat.le_trans k.out.size (Nat.le_add_right _ _)) u⟩
theorem Bel.call {w V W : World} (h : Below V.heap.size V W) [k : Bel w V] : Bel w W := ⟨k.out.trans (h.mono k.out.size)⟩
theorem bel {w W : World} [h : Bel w W] : Below w.heap.size w W := h.out
theorem bcell {W w1 : World} (hb : Below W.heap.size W w1) : (∀ b o, b < W.heap.size → w1.cell? ⟨b, o, none⟩ = W.cell? ⟨b, o, none⟩) ∧ (∀ b o, b < W.heap.size → w1.frozen? ⟨b, o, none⟩ = W.frozen? ⟨b, o, none⟩) :=
  ⟨fun b o h => hb.cell (p := ⟨b, o, none⟩) h, fun b o h => hb.frozen (p := ⟨b, o, none⟩) h⟩
theorem SameB.below {w W : World} {B b : Nat} (h : Below B w W) (hb : b < B) (hB : b < w.heap.size) : SameB w W b := ⟨h.block b hb, hB, h.size⟩
theorem SameB.trans {w W V : World} {b : Nat} (h : SameB w W b) (k : SameB W V b) : SameB w V b := ⟨k.blk.trans h.blk, h.lt, Nat.le_trans h.le k.le⟩
theorem SameB.cell {w W : World} {g i : Nat} {v : Value} [h : SameB w W g] (hc : w.cell? ⟨g, i, none⟩ = some v) : W.cell? ⟨g, i, none⟩ = some v :=
  (World.cell?_of_block (w := w) (w' := W) h.blk).trans hc
theorem SameB.free {w W : World} {g i : Nat} [h : SameB w W g] {f : Bool} (hc : w.frozen? ⟨g, i, none⟩ = f) : W.frozen? ⟨g, i, none⟩ = f :=
  (World.frozen?_of_block (w := w) (w' := W) h.blk).trans hc

/-! ### blocks of the call's own -/
theorem blk_call {V W : World} {b : Nat} {o : Obj} (hb : Below V.heap.size V W) (h : V.heap[b]? = some o) : W.heap[b]? = some o := (hb.block b (lt_of_block h)).trans h
theorem blk_alloc {W : World} {b : Nat} {o : Obj} (h : W.heap[b]? = some o) (p : Obj) : (W.alloc p).heap[b]? = some o := (Below.heap_alloc W p b (lt_of_block h)).trans h
theorem blk_drew {W : World} {b : Nat} {o : Obj} (h : W.heap[b]? = some o) : W.drew.heap[b]? = some o := h
theorem blk_drewN {W : World} {b : Nat} {o : Obj} (h : W.heap[b]? = some o) (k : Nat) : (W.drewN k).heap[b]? = some o := h
theorem blk_new (W : World) (o : Obj) : (W.alloc o).heap[W.heap.size]? = some o := heap_alloc_new W o
theorem blk_cell {W : World} {b : Nat} {cs : Array Value} {t : TypeId} {fr : Nat × Nat} (h : W.heap[b]? = some (.cells cs t fr)) (i : Nat) : W.cell? ⟨b, i, none⟩ = cs[i]? := cell_of_row W b i cs t fr h
theorem blk_free {W : World} {b : Nat} {cs : Array Value} {t : TypeId} (h : W.heap[b]? = some (.cells cs t (0, 0))) (i : Nat) : W.frozen? ⟨b, i, none⟩ = false := frozen_of_row W b i cs t h

/-! ### a slice that reads as a list -/
/-- The slice at A holds l, sz cells an element. (Of an empty one nothing is asked.) -/
def IsSl {α : Type} (sz : Nat) (enc : α → List Value) (w : World) (A : Option Addr) (l : List α) : Prop :=
  0 < l.length → ∃ b off, A = some ⟨b, off, none⟩ ∧ b < w.heap.size ∧ ∀ i e, l[i]? = some e → ∀ j v, (enc e)[j]? = some v → w.cell? ⟨b, off + i * sz + j, none⟩ = some v
section
variable {α : Type} {sz : Nat} {enc : α → List Value} {w W : World} {A : Option Addr} {l : List α}
theorem IsSl.at_ (h : IsSl sz enc w A l) {i : Nat} {e : α} (hi : l[i]? = some e) :
    ∃ b off, A = some ⟨b, off, none⟩ ∧ SameB w w b ∧ ∀ W [SameB w W b], ∀ j v, (enc e)[j]? = some v → W.cell? ⟨b, off + i * sz + j, none⟩ = some v := by
  have hl : 0 < l.length := by have := (List.getElem?_eq_some_iff.1 hi).1; omega
  obtain ⟨b, off, hA, hb, hc⟩ := h hl
  exact ⟨b, off, hA, SameB.self hb, fun W _ j v hj => SameB.cell (hc i e hi j v hj)⟩
theorem IsSl.below (h : IsSl sz enc w A l) (hb : Below w.heap.size w W) : IsSl sz enc W A l := fun hl => by
  obtain ⟨b, off, hA, hlt, hc⟩ := h hl
  exact ⟨b, off, hA, Nat.lt_of_lt_of_le hlt hb.size, fun i e hi j v hj => (World.cell?_of_block (w := w) (hb.block b hlt)).trans (hc i e hi j v hj)⟩
theorem IsSl.nil (w : World) (A : Option Addr) : IsSl sz enc w A ([] : List α) := fun h => absurd h (by simp)
end

/-! ### all but some blocks -/
/-- Of w's blocks none but those of S has turned. -/
structure Only (S : Nat → Prop) (w w' : World) : Prop where
  os : w'.os = w.os
  tape : w'.tape = w.tape
  output : w'.output = w.output
  size : w.heap.size ≤ w'.heap.size
  block : ∀ i, i < w.heap.size → ¬ S i → w'.heap[i]? = w.heap[i]?
section
variable {S S' : Nat → Prop} {w w1 w2 : World}
theorem Only.of_below (h : Below w.heap.size w w1) : Only S w w1 := ⟨h.os, h.tape, h.output, h.size, fun i hi _ => h.block i hi⟩
theorem Only.of_bel [h : Bel w w1] : Only S w w1 := Only.of_below h.out
theorem Only.refl (w : World) : Only S w w := ⟨rfl, rfl, rfl, Nat.le_refl _, fun _ _ _ => rfl⟩
theorem Only.trans (h : Only S w w1) (k : Only S' w1 w2) (hS : ∀ i, i < w.heap.size → S' i → S i) : Only S w w2 :=
  ⟨k.os.trans h.os, k.tape.trans h.tape, k.output.trans h.output, Nat.le_trans h.size k.size, fun i hi hn =>
    (k.block i (Nat.lt_of_lt_of_le hi h.size) (fun hs => hn (hS i hi hs))).trans (h.block i hi hn)⟩
theorem Only.mono (h : Only S w w1) (hS : ∀ i, i < w.heap.size → S i → S' i) : Only S' w w1 :=
  ⟨h.os, h.tape, h.output, h.size, fun i hi hn => h.block i hi (fun hs => hn (hS i hi hs))⟩
theorem Only.below (h : Only S w w1) (k : Below w1.heap.size w1 w2) : Only S w w2 := h.trans (S' := fun _ => False) (Only.of_below k) (fun _ _ hf => hf.elim)
theorem Only.grown (h : Only S w w1) {r : Option Nat} (k : w1.grownBy w2 r) (hr : ∀ b, r = some b → b < w.heap.size → S b) : Only S w w2 :=
  h.trans (S' := fun i => r = some i) ⟨k.os, k.tape, k.output, k.size, fun i hi hn => k.block i hi (fun e => hn e.symm)⟩ (fun i hi e => hr i e hi)
theorem Only.setCell (h : Only S w w1) {p : Addr} (hp : p.block < w.heap.size → S p.block) (u : Value) : Only S w (w1.setCell p u) :=
  h.trans (S' := fun i => i = p.block) ⟨rfl, rfl, rfl, by simp [World.setCell], fun i _ hn => Below.heap_setCell w1 p u i hn⟩ (fun i hi e => by subst e; exact hp hi)
theorem Only.alloc (h : Only S w w1) (o : Obj) : Only S w (w1.alloc o) := h.below (Below.alloc (Below.refl _ _) (Nat.le_refl _) o)
theorem Only.drew (h : Only S w w1) : Only S w w1.drew := ⟨h.os, h.tape, h.output, h.size, h.block⟩
theorem Only.drewN (h : Only S w w1) (k : Nat) : Only S w (w1.drewN k) := ⟨h.os, h.tape, h.output, h.size, h.block⟩
theorem Only.same (h : Only S w w1) {b : Nat} (hb : b < w.heap.size) (hn : ¬ S b) : SameB w w1 b := ⟨h.block b hb hn, hb, h.size⟩
/-- Behind a call that turns some blocks. -/
theorem SameB.only {v w w1 : World} (h : Only S w w1) (b : Nat) (hn : ¬ S b) [k : SameB v w b] : SameB v w1 b :=
  ⟨(h.block b (Nat.lt_of_lt_of_le k.lt k.le) hn).trans k.blk, k.lt, Nat.le_trans k.le h.size⟩
theorem Only.toBelow (h : Only S w w1) {B : Nat} (hB : B ≤ w.heap.size) (hS : ∀ i, S i → B ≤ i) : Below B w w1 :=
  ⟨h.os, h.tape, h.output, h.size, fun i hi => h.block i (Nat.lt_of_lt_of_le hi hB) (fun hs => by have := hS i hs; omega)⟩
end

/-! ### what is returned -/
theorem ret_bool {a b : Bool} (h : a = b) : Ending.returned (.bool a) = .returned (.bool b) := by rw [h]
theorem ret_int {k : IntKind} {a b : Int} (h : a = b) : Ending.returned (.int k a) = .returned (.int k b) := by rw [h]
theorem ret_str {a b : ByteArray} (h : a = b) : Ending.returned (.string a) = .returned (.string b) := by rw [h]

/-! ### texts -/
abbrev E0 : ByteArray := ⟨#[]⟩
theorem emp_true {s : ByteArray} (h : s = E0) : s.toList.isEmpty = true := by subst h; rw [ByteArray.toList_eq]; rfl
theorem emp_false {s : ByteArray} (h : ¬ s = E0) : s.toList.isEmpty = false := by
  cases he : s.toList.isEmpty
  · rfl
  · exfalso; apply h
    rw [ByteArray.toList_eq] at he
    obtain ⟨⟨x⟩⟩ := s
    simp at he
    subst he; rfl

/-! ### lists of pairs -/
section
variable {κ ν : Type} [DecidableEq κ]
def get? : List (κ × ν) → κ → Option ν
  | [], _ => none
  | (a, x) :: r, k => if a = k then some x else get? r k
def put : List (κ × ν) → κ → ν → List (κ × ν)
  | [], k, v => [(k, v)]
  | (a, x) :: r, k, v => if a = k then (k, v) :: r else (a, x) :: put r k v
def del : List (κ × ν) → κ → List (κ × ν)
  | [], _ => []
  | (a, x) :: r, k => if a = k then r else (a, x) :: del r k
end

/-! ### a map's block -/
/-- Block b is a map whose entries are, in the order in which they came, those of L. -/
def IsMap {κ ν : Type} (ke : κ → Value) (ve : ν → Value) (w : World) (b : Nat) (L : List (κ × ν)) : Prop :=
  ∃ es clock, w.heap[b]? = some (.map es clock) ∧ es.toList.map (fun e => (e.key, e.val)) = L.map (fun p => (ke p.1, ve p.2)) ∧
    es.toList.Pairwise (fun e f => e.born < f.born) ∧ ∀ e ∈ es.toList, e.born < clock

/-- What the laws on maps need of a key's type. -/
structure KeyOK {κ : Type} [DecidableEq κ] (P : Program) (K : TypeId) (ke : κ → Value) : Prop where
  chk : ∀ (em : Bool) (k : κ) (W : World), (Instr.checkKey em 10000 K (ke k)).run P W = .ok () W
  find : ∀ (k : κ) (W : World) (es : List MapEntry) (ks : List κ), es.map (·.key) = ks.map ke →
    (Instr.findKey K (ke k) es).run P W = .ok ((ks.findIdx? (· = k)).bind fun j => (es[j]?).map fun e => (j, e.val)) W
  same : ∀ k, Instr.sameBits 10000 (ke k) (ke k) = true

/-- The block of a map, written anew. -/
def setMap (w : World) (b : Nat) (es : Array MapEntry) (clock : Nat) : World := { w with heap := w.heap.setIfInBounds b (.map es clock) }


theorem getObj_map {P : Program} {w : World} {r : Nat} {es : Array MapEntry} {clock : Nat} (hb : w.heap[r]? = some (.map es clock)) : (getObj r).run P w = .ok (.map es clock) w := by
  simp [getObj, Sem.run, hb]
theorem setObj_map {P : Program} {w : World} {r : Nat} {es es' : Array MapEntry} {clock clock' : Nat} (hb : w.heap[r]? = some (.map es clock)) :
    (setObj r (.map es' clock')).run P w = .ok () (setMap w r es' clock') := by
  simp [setObj, Sem.run, hb, setMap]
theorem setMap_same {w : World} {r : Nat} {o : Obj} {es' : Array MapEntry} {clock' : Nat} (hb : w.heap[r]? = some o) : (setMap w r es' clock').heap[r]? = some (.map es' clock') := by
  have hlt : r < w.heap.size := (Array.getElem?_eq_some_iff.1 hb).1
  simp [setMap, hlt]
theorem setMap_other {w : World} {r i : Nat} {es' : Array MapEntry} {clock' : Nat} (hne : i ≠ r) : (setMap w r es' clock').heap[i]? = w.heap[i]? := by
  simp [setMap, Ne.symm hne]
theorem setMap_size {w : World} {r : Nat} {es' : Array MapEntry} {clock' : Nat} : (setMap w r es' clock').heap.size = w.heap.size := by simp [setMap]
theorem setMap_grown {w : World} {r : Nat} {es' : Array MapEntry} {clock' : Nat} : w.grownBy (setMap w r es' clock') (some r) :=
  ⟨rfl, rfl, rfl, by simp [setMap], fun i _ hi => setMap_other (fun e => hi (by rw [e]))⟩

section
variable {κ ν : Type} {ke : κ → Value} {ve : ν → Value} {w : World} {b : Nat} {L : List (κ × ν)}
theorem IsMap.lt (h : IsMap ke ve w b L) : b < w.heap.size := by
  obtain ⟨es, clock, hb, _⟩ := h
  exact (Array.getElem?_eq_some_iff.1 hb).1
theorem IsMap.of_block {w' : World} (h : IsMap ke ve w b L) (hb : w'.heap[b]? = w.heap[b]?) : IsMap ke ve w' b L := by
  obtain ⟨es, clock, h1, h2⟩ := h
  exact ⟨es, clock, hb.trans h1, h2⟩
theorem keys_eq (es : List MapEntry) (L : List (κ × ν)) (h : es.map (fun e => (e.key, e.val)) = L.map (fun p => (ke p.1, ve p.2))) : es.map (·.key) = (L.map (·.1)).map ke := by
  have := congrArg (List.map Prod.fst) h
  simpa [List.map_map, Function.comp_def] using this
end

section
variable {κ ν : Type} [DecidableEq κ] {ke : κ → Value} {ve : ν → Value} {P : Program} {K E T : TypeId} {w : World} {b : Nat} {L : List (κ × ν)}

theorem findIdx_get (es : List MapEntry) (L : List (κ × ν)) (k : κ) (h : es.map (fun e => (e.key, e.val)) = L.map (fun p => (ke p.1, ve p.2))) :
    (((L.map (·.1)).findIdx? (· = k)).bind fun j => (es[j]?).map fun e => (j, e.val)).map (·.2) = (get? L k).map ve := by
  induction L generalizing es with
  | nil => simp [get?]
  | cons p L ih =>
    obtain ⟨a, x⟩ := p
    cases es with
    | nil => simp at h
    | cons e es =>
      simp only [List.map_cons, List.cons.injEq, Prod.mk.injEq] at h
      simp only [get?, List.map_cons, List.findIdx?_cons]
      by_cases hk : a = k
      · simp [hk, h.1.2]
      · have := ih es h.2
        simp only [hk, decide_false, Bool.false_eq_true, if_false]
        rw [← this]
        cases hf : List.findIdx? (fun x => decide (x = k)) (L.map (·.1)) <;> simp [Function.comp_def]

theorem IsMap.lookup (h : IsMap ke ve w b L) (hK : KeyOK P K ke) (ht : P.underlying T = some (.map K E)) {z : Value} (hz : ∀ W, (zeroValue E).run P W = .ok z W) (k : κ) (ok : Bool) :
    (Instr.lookup T (.map (some b)) (ke k) ok).run P w = .ok (if ok then .tuple #[((get? L k).map ve).getD z, .bool (get? L k).isSome] else ((get? L k).map ve).getD z) w := by
  obtain ⟨es, clock, hb, hes, _, _⟩ := h
  have hf := hK.find k w es.toList (L.map (·.1)) (keys_eq _ _ hes)
  have hg := findIdx_get es.toList L k hes
  simp only [Instr.lookup, Sem.run_bind, run_underlying ht, Result.andThen_ok, getObj_map hb, Sem.run_pure, hK.chk, hf]
  revert hg
  generalize (((L.map (·.1)).findIdx? (· = k)).bind fun j => (es.toList[j]?).map fun e => (j, e.val)) = r
  intro hg
  cases r with
  | none =>
    have : get? L k = none := by simpa using hg.symm
    cases ok <;> simp [this, hz]
  | some jv =>
    obtain ⟨j, v⟩ := jv
    cases hgk : get? L k with
    | none => rw [hgk] at hg; simp at hg
    | some x =>
      rw [hgk] at hg
      simp at hg
      cases ok <;> simp [hg]

theorem put_modify (L : List (κ × ν)) (k : κ) (v : ν) : put L k v = match (L.map (·.1)).findIdx? (· = k) with
    | some j => L.set j (k, v)
    | none => L ++ [(k, v)] := by
  induction L with
  | nil => simp [put]
  | cons p L ih =>
    obtain ⟨a, x⟩ := p
    simp only [put, List.map_cons, List.findIdx?_cons]
    by_cases hk : a = k
    · simp [hk]
    · simp only [hk, if_false, decide_false, Bool.false_eq_true]
      rw [ih]
      cases hf : List.findIdx? (fun x => decide (x = k)) (L.map (·.1)) <;> simp

theorem del_erase (L : List (κ × ν)) (k : κ) : del L k = match (L.map (·.1)).findIdx? (· = k) with
    | some j => L.eraseIdx j
    | none => L := by
  induction L with
  | nil => simp [del]
  | cons p L ih =>
    obtain ⟨a, x⟩ := p
    simp only [del, List.map_cons, List.findIdx?_cons]
    by_cases hk : a = k
    · simp [hk]
    · simp only [hk, if_false, decide_false, Bool.false_eq_true]
      rw [ih]
      cases hf : List.findIdx? (fun x => decide (x = k)) (L.map (·.1)) <;> simp

theorem findIdx_at (ks : List κ) (k : κ) (j : Nat) (h : ks.findIdx? (· = k) = some j) : ks[j]? = some k := by
  have := List.findIdx?_eq_some_iff_getElem.1 h
  obtain ⟨hj, hp, _⟩ := this
  rw [List.getElem?_eq_getElem hj]
  simpa using hp

/-- 'm[k] = v'. -/
theorem IsMap.update (h : IsMap ke ve w b L) (hK : KeyOK P K ke) (ht : P.underlying T = some (.map K E)) (k : κ) (v : ν) :
    ∃ w', (Instr.mapUpdate T (.map (some b)) (ke k) (ve v)).run P w = .ok () w' ∧ IsMap ke ve w' b (put L k v) ∧ w.grownBy w' (some b) ∧ w'.heap.size = w.heap.size := by
  obtain ⟨es, clock, hb, hes, hp, hc⟩ := h
  have hf := hK.find k w es.toList (L.map (·.1)) (keys_eq _ _ hes)
  have hlen : es.size = L.length := by simpa using congrArg List.length hes
  have hput := put_modify L k v
  cases hi : (L.map (·.1)).findIdx? (· = k) with
  | none =>
    rw [hi] at hf hput
    refine ⟨setMap w b (es.push { key := ke k, val := ve v, born := clock }) (clock + 1), ?_, ⟨_, _, setMap_same hb, ?_, ?_, ?_⟩, setMap_grown, setMap_size⟩
    · simp only [Instr.mapUpdate, Sem.run_bind, run_underlying ht, Result.andThen_ok, getObj_map hb, hK.chk, hf, Option.bind_none, setObj_map hb]
    · rw [hput]
      simp [hes]
    · rw [Array.toList_push, List.pairwise_append]
      exact ⟨hp, by simp, fun a ha c hc' => by simp at hc'; subst hc'; exact hc a ha⟩
    · intro e he
      rw [Array.toList_push, List.mem_append] at he
      rcases he with he | he
      · exact Nat.lt_succ_of_lt (hc e he)
      · simp at he; subst he; exact Nat.lt_succ_self _
  | some j =>
    rw [hi] at hf hput
    have hk := findIdx_at _ _ _ hi
    have hj : j < L.length := by
      have := (List.getElem?_eq_some_iff.1 hk).1
      simpa using this
    have hje : j < es.size := by omega
    have hkey : es[j].key = ke k := by
      have h1 := congrArg (fun l => l[j]?) (keys_eq _ _ hes)
      simp only [List.getElem?_map] at h1 hk
      rw [show es.toList[j]? = some es[j] from by simp [hje]] at h1
      cases hL : L[j]? with
      | none => rw [hL] at hk; simp at hk
      | some p =>
        rw [hL] at h1 hk
        simp at h1 hk
        rw [h1, hk]
    refine ⟨setMap w b (es.modify j fun e => { e with key := ke k, val := ve v }) clock, ?_, ⟨_, _, setMap_same hb, ?_, ?_, ?_⟩, setMap_grown, setMap_size⟩
    · simp only [Instr.mapUpdate, Sem.run_bind, run_underlying ht, Result.andThen_ok, getObj_map hb, hK.chk, hf, Option.bind_some,
        show es.toList[j]? = some es[j] from by simp [hje], Option.map_some, Sem.run_bind]
      simp only [Instr.keyThatStays, show es[j]? = some es[j] from by simp [hje], Option.map_some, Option.getD_some, hkey, hK.same, if_true, Sem.run_pure, Result.andThen_ok, setObj_map hb]
    · rw [hput]
      simp only [Array.toList_modify, List.map_set, ← hes]
      apply List.ext_getElem?
      intro i
      simp only [List.getElem?_map, List.getElem?_modify, List.getElem?_set]
      by_cases hij : j = i
      · subst hij
        simp [hje]
      · simp [hij]
    · rw [Array.toList_modify]
      have hb2 : (es.toList.modify j fun e => { e with key := ke k, val := ve v }).map (·.born) = es.toList.map (·.born) := by
        apply List.ext_getElem?
        intro i
        simp only [List.getElem?_map, List.getElem?_modify]
        cases es.toList[i]? <;> simp
        split <;> rfl
      have h2 : (es.toList.map (·.born)).Pairwise (· < ·) := List.pairwise_map.2 hp
      rw [← hb2] at h2
      exact List.pairwise_map.1 h2
    · intro e he
      rw [Array.toList_modify] at he
      obtain ⟨i, hi2⟩ := List.getElem?_of_mem he
      rw [List.getElem?_modify] at hi2
      cases hx : es.toList[i]? with
      | none => rw [hx] at hi2; simp at hi2
      | some x =>
        rw [hx] at hi2
        have hxm := hc x (List.mem_of_getElem? hx)
        simp at hi2
        subst hi2
        split <;> simpa using hxm

/-- 'delete(m, k)'. -/
theorem IsMap.delete (h : IsMap ke ve w b L) (hK : KeyOK P K ke) (ht : P.underlying T = some (.map K E)) (k : κ) (x ty : TypeId) :
    ∃ w', (Builtin.delete_ #[T, x] ty #[.map (some b), ke k]).run P w = .ok (.tuple #[]) w' ∧ IsMap ke ve w' b (del L k) ∧ w.grownBy w' (some b) ∧ w'.heap.size = w.heap.size := by
  obtain ⟨es, clock, hb, hes, hp, hc⟩ := h
  have hf := hK.find k w es.toList (L.map (·.1)) (keys_eq _ _ hes)
  have hlen : es.size = L.length := by simpa using congrArg List.length hes
  have hdel := del_erase L k
  cases hi : (L.map (·.1)).findIdx? (· = k) with
  | none =>
    rw [hi] at hf hdel
    refine ⟨setMap w b es clock, ?_, ⟨_, _, setMap_same hb, ?_, hp, hc⟩, setMap_grown, setMap_size⟩
    · simp [Builtin.delete_, Sem.run_bind, run_underlying ht, Result.andThen_ok, getObj_map hb, hK.chk, hf, setObj_map hb]
    · rw [hdel]; exact hes
  | some j =>
    rw [hi] at hf hdel
    have hk := findIdx_at _ _ _ hi
    have hj : j < L.length := by
      have := (List.getElem?_eq_some_iff.1 hk).1
      simpa using this
    have hje : j < es.size := by omega
    have hsub : (es.eraseIdxIfInBounds j).toList = es.toList.eraseIdx j := by simp [Array.eraseIdxIfInBounds, hje]
    refine ⟨setMap w b (es.eraseIdxIfInBounds j) clock, ?_, ⟨_, _, setMap_same hb, ?_, ?_, ?_⟩, setMap_grown, setMap_size⟩
    · simp [Builtin.delete_, Sem.run_bind, run_underlying ht, Result.andThen_ok, getObj_map hb, hK.chk, hf, setObj_map hb, hje]
    · rw [hdel, hsub]
      have hm : ∀ {α β : Type} (f : α → β) (l : List α) (j : Nat), (l.eraseIdx j).map f = (l.map f).eraseIdx j := by
        intro α β f l j
        apply List.ext_getElem?
        intro i
        simp only [List.getElem?_map, List.getElem?_eraseIdx]
        split <;> rfl
      rw [hm, hm, hes]
    · rw [hsub]
      exact hp.sublist (List.eraseIdx_sublist _ _)
    · intro e he
      rw [hsub] at he
      exact hc e ((List.eraseIdx_sublist _ _).subset he)

omit [DecidableEq κ] in
/-- 'len(m)'. -/
theorem IsMap.len (h : IsMap ke ve w b L) (ht : P.underlying T = some (.map K E)) (ty : TypeId) : (Builtin.len_ #[T] ty #[.map (some b)]).run P w = .ok (.int .i64 L.length) w := by
  obtain ⟨es, clock, hb, hes, _⟩ := h
  have hlen : es.size = L.length := by simpa using congrArg List.length hes
  simp [Builtin.len_, run_underlying ht, getObj_map hb, hlen, goInt]

open Classical in
/-- 'delete(m, k)' in whatever world holds this block as it is. -/
theorem IsMap.deletes (h : IsMap ke ve w b L) (hK : KeyOK P K ke) (ht : P.underlying T = some (.map K E)) (k : κ) (x : TypeId) :
    ∃ f : World → World, ∀ W [SameB w W b], (∀ ty, (Builtin.delete_ #[T, x] ty #[.map (some b), ke k]).run P W = .ok (.tuple #[]) (f W)) ∧ IsMap ke ve (f W) b (del L k) ∧ W.grownBy (f W) (some b) ∧ (f W).heap.size = W.heap.size := by
  refine ⟨fun W => if hW : W.heap[b]? = w.heap[b]? then ((h.of_block hW).delete hK ht k x 0).choose else W, fun W hs => ?_⟩
  have hW : W.heap[b]? = w.heap[b]? := hs.blk
  simp only [dif_pos hW]
  have hc := ((h.of_block hW).delete hK ht k x 0).choose_spec
  exact ⟨fun _ => hc.1, hc.2⟩
open Classical in
theorem IsMap.puts (h : IsMap ke ve w b L) (hK : KeyOK P K ke) (ht : P.underlying T = some (.map K E)) (k : κ) (v : ν) :
    ∃ f : World → World, ∀ W [SameB w W b], (Instr.mapUpdate T (.map (some b)) (ke k) (ve v)).run P W = .ok () (f W) ∧ IsMap ke ve (f W) b (put L k v) ∧ W.grownBy (f W) (some b) ∧ (f W).heap.size = W.heap.size := by
  refine ⟨fun W => if hW : W.heap[b]? = w.heap[b]? then ((h.of_block hW).update hK ht k v).choose else W, fun W hs => ?_⟩
  have hW : W.heap[b]? = w.heap[b]? := hs.blk
  simp only [dif_pos hW]
  exact ((h.of_block hW).update hK ht k v).choose_spec

omit [DecidableEq κ] in
theorem IsMap.new (w : World) : IsMap ke ve (w.alloc (.map #[] 0)) w.heap.size ([] : List (κ × ν)) :=
  ⟨#[], 0, (MapKept.heap_alloc w _).1, by simp, by simp, by simp⟩
end

/-- A region that draws: reads first, in whatever order, then a tail. (The library's, with the world spelt as the walk spells it.) -/
theorem wp_still_tail {P : Program} {id : Nat} {Q : Exit → Act → World → Prop} {a : Act} {w : World} {l : List Oper} (n : Nat) (hm : P.follows .mixedOrders = true) (hB : Region.lexTailB .any l.toArray n = true)
    (h : wpStill P l.toArray w.drew (fun a' => wpList P l.toArray Q (l.drop n) a' w.drew) (l.take n) a) : (Code.region id l.toArray true).wp P Q a w := wp_region_still_tail n hm hB h

/-! ### the laws at the operation -/
section
variable {κ ν : Type} [DecidableEq κ] {ke : κ → Value} {ve : ν → Value} {P : Program}
theorem wpList_put {ops : Array Oper} {rest : List Oper} {o : Oper} {a : Act} {Q : Exit → Act → World → Prop} (w : World) (hg : o.guard = none) (T : TypeId) (m x v : Operand) (hop : o.op = .mapUpdate T m x v)
    {K E : TypeId} (hK : KeyOK P K ke) (ht : P.underlying T = some (.map K E)) {b : Nat} {L : List (κ × ν)} (h : IsMap ke ve w b L) (k : κ) (y : ν)
    (hm : a.eval m = .map (some b)) (hx : a.eval x = ke k) (hv : a.eval v = ve y)
    (H : ∀ w', IsMap ke ve w' b (put L k y) → w.grownBy w' (some b) → w'.heap.size = w.heap.size → wpList P ops Q rest (a.put o.dst undef) w') : wpList P ops Q (o :: rest) a w := by
  refine wpList_plain hg fun K' hK' => ?_
  obtain ⟨w', hrun, r1, r2, r3⟩ := h.update hK ht k y
  unfold Oper.wp
  simp [execOp, hop, hm, hx, hv, hrun, Result.andThen]
  exact hK' _ _ (H w' r1 r2 r3)
theorem wpList_del {ops : Array Oper} {rest : List Oper} {o : Oper} {a : Act} {Q : Exit → Act → World → Prop} (w : World) (hg : o.guard = none) (T K : TypeId) (m x : Operand)
    (hop : o.op = .call { callee := .builtin .delete, args := #[m, x], argTypes := #[T, K] })
    {E : TypeId} (hK : KeyOK P K ke) (ht : P.underlying T = some (.map K E)) {b : Nat} {L : List (κ × ν)} (h : IsMap ke ve w b L) (k : κ)
    (hm : a.eval m = .map (some b)) (hx : a.eval x = ke k)
    (H : ∀ w', IsMap ke ve w' b (del L k) → w.grownBy w' (some b) → w'.heap.size = w.heap.size → wpList P ops Q rest (a.put o.dst (.tuple #[])) w') : wpList P ops Q (o :: rest) a w := by
  refine wpList_plain hg fun K' hK' => ?_
  obtain ⟨w', hrun, r1, r2, r3⟩ := h.delete hK ht k K o.type
  unfold Oper.wp
  simp [execOp, hop, resolve, invoke, builtin, hm, hx, hrun, Result.andThen]
  exact hK' _ _ (H w' r1 r2 r3)
end
end Go.Proofs.Ytbcnfegmmhioeaa
