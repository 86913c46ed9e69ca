/- The key types of this program's maps. -/
import Derived.Test.YtbcnfegmmhioeaaLib
import Derived.Test.YtbcnfegmmhioeaaProg
namespace Go.Proofs.Ytbcnfegmmhioeaa
open Go.RowKit

/-- What 'findKey' does at a struct's type: entry by entry, by '=='. -/
theorem find_struct {κ : Type} [DecidableEq κ] {P : Program} {K : TypeId} {fs : Array Field} {ke : κ → Value} (hu : P.underlying K = some (.struct fs))
    (heq : ∀ a b W, (Op.equal K (ke a) (ke b)).run P W = .ok (decide (a = b)) W) (k : κ) (W : World) (es : List MapEntry) (ks : List κ) (h : es.map (·.key) = ks.map ke) :
    (Instr.findKey K (ke k) es).run P W = .ok ((ks.findIdx? (· = k)).bind fun j => (es[j]?).map fun e => (j, e.val)) W := by
  have key : ∀ (es : List MapEntry) (ks : List κ) (i : Nat), es.map (·.key) = ks.map ke →
      (Instr.findAsking K (ke k) es i).run P W = .ok ((ks.findIdx? (· = k)).bind fun j => (es[j]?).map fun e => (i + j, e.val)) W := by
    intro es
    induction es with
    | nil => intro ks i h; cases ks with
      | nil => simp [Instr.findAsking]
      | cons a ks => simp at h
    | cons e es ih =>
      intro ks i h
      cases ks with
      | nil => simp at h
      | cons a ks =>
        simp only [List.map_cons, List.cons.injEq] at h
        simp only [Instr.findAsking, Sem.run_bind, h.1, heq, Result.andThen_ok, List.findIdx?_cons]
        by_cases hk : a = k
        · subst hk; simp
        · have hk' : ¬ k = a := fun e => hk e.symm
          simp only [hk, hk', decide_false, Bool.false_eq_true, if_false]
          rw [ih ks (i + 1) h.2]
          cases List.findIdx? (fun x => decide (x = k)) ks <;> simp [Nat.add_assoc, Nat.add_comm 1]
  have hn : Instr.findNow (.struct fs) (ke k) es 0 = if es = [] then some none else none := by
    cases es with
    | nil => simp [Instr.findNow]
    | cons e es => simp [Instr.findNow, Instr.sameNow]
  simp only [Instr.findKey, Sem.run_bind, run_underlying hu, Result.andThen_ok, hn]
  have hk := key es ks 0 h
  by_cases he : es = []
  · subst he
    cases ks with
    | nil => simp
    | cons a ks => simp at h
  · simp only [he, if_false]
    rw [hk]
    simp

def treeKey (p : ByteArray × ByteArray) : Value := .agg #[.string p.1, .string p.2]

theorem held_treeKey : Try.prog.stoodInHeld 146 = false := by kernel_rfl
theorem fields_treeKey : Try.prog.fieldsOf 146 = #[{ name := "dir", type := 9, offset := 0, embedded := false, tag := "", pkgPath := "crossroads/tree", byteOffset := 0 }, { name := "last", type := 9, offset := 1, embedded := false, tag := "", pkgPath := "crossroads/tree", byteOffset := 16 }] := by
  simp only [Program.fieldsOf, Try.underlying146]

theorem beq_bytes (a b : ByteArray) : (a.toList == b.toList) = decide (a = b) := by
  rw [← beq_toListBytes]
  by_cases h : a = b
  · subst h
    simp [beq_toListBytes]
  · simp only [h, decide_false]
    rw [Bool.eq_false_iff]
    intro hc
    rw [beq_toListBytes] at hc
    simp only [beq_iff_eq] at hc
    apply h
    rw [ByteArray.toList_eq, ByteArray.toList_eq] at hc
    obtain ⟨⟨x⟩⟩ := a
    obtain ⟨⟨y⟩⟩ := b
    simp at hc
    rw [hc]

theorem eql_treeKey (a b : ByteArray × ByteArray) (W : World) : (Op.equal 146 (treeKey a) (treeKey b)).run Try.prog W = .ok (decide (a = b)) W := by
  obtain ⟨a1, a2⟩ := a
  obtain ⟨b1, b2⟩ := b
  simp only [Op.equal, Op.maxDepth, treeKey]
  rw [show (10000 : Nat) = 9999 + 1 from rfl, run_equalIn_struct (w := W) 9999 _ _ _ (by rw [fields_treeKey]; exact Try.underlying146) held_treeKey, fields_treeKey]
  simp [Op.eqFields, part, isAgg, run_underlying Try.underlying9, run_equalIn_string _ 9998 9 _ _ Try.underlying9, beq_bytes]
  by_cases h1 : a1 = b1 <;> by_cases h2 : a2 = b2 <;> simp [h1, h2]

theorem keyOK_tree : KeyOK Try.prog 146 treeKey where
  chk em k W := by
    obtain ⟨a, c⟩ := k
    rw [show (10000 : Nat) = 9999 + 1 from rfl]
    have hs : ∀ n (s : ByteArray) W, (Instr.checkKey em (n + 1) 9 (.string s)).run Try.prog W = .ok () W := fun n s W =>
      MapKept.run_checkKey Try.underlying9 (by simp [MapKept.IsKey]) em n
    unfold Instr.checkKey
    simp only [treeKey, Sem.run_bind, run_underlying Try.underlying146, Result.andThen_ok]
    generalize hn : (9999 : Nat) = n
    obtain ⟨m, rfl⟩ : ∃ m, n = m + 1 := ⟨9998, hn.symm⟩
    clear hn
    simp [part, isAgg, run_underlying Try.underlying9, hs]
  find := find_struct Try.underlying146 eql_treeKey
  same k := by
    obtain ⟨a, c⟩ := k
    simp [treeKey, Instr.sameBits, beq_toListBytes]
end Go.Proofs.Ytbcnfegmmhioeaa
