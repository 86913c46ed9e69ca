/- The document's trees are made of the same entries as the program's: the plain law. -/
import Derived.Test.YtbcnfegmmhioeaaTreeM
import Derived.Test.YtbcnfegmmhioeaaRefNameM
namespace Go.Proofs.Ytbcnfegmmhioeaa
open Go.RowKit

/-! ### names and their parts -/
def joinL (k : TKey) : List UInt8 := if k.1 = E0 then k.2.data.toList else k.1.data.toList ++ 47 :: k.2.data.toList
theorem bytes_ext {a b : ByteArray} (h : a.data.toList = b.data.toList) : a = b := ByteArray.ext (Array.toList_inj.1 h)
theorem partB_ne {s : ByteArray} (h : partB s = true) : s ≠ E0 := by
  rintro rfl
  exact absurd h (by decide)
theorem slash_cut {s : ByteArray} {n : Nat} (hn : slash s = n) : cutS s = (s.extract 0 n, s.extract (n + 1) s.size, true) := by
  unfold cutS; rw [if_pos (by omega), hn]; rfl
theorem slash_list {s : ByteArray} {n : Nat} (hn : slash s = n) : s.data.toList = (s.extract 0 n).data.toList ++ 47 :: (s.extract (n + 1) s.size).data.toList := by
  have hsz : s.size = s.data.toList.length := Lib.size_eq s
  obtain ⟨h1, _⟩ := Lib.indexByte_some (l := s.data.toList) (c := 47) (o := n) hn
  have hlt := (List.getElem?_eq_some_iff.1 h1).1
  have e1 : (s.data.toList.drop 0).take (n - 0) = s.data.toList.take n := by simp
  have e2 : (s.data.toList.drop (n + 1)).take (s.size - (n + 1)) = s.data.toList.drop (n + 1) := List.take_of_length_le (by simp)
  rw [Lib.extract_data, Lib.extract_data, e1, e2]
  conv => lhs; rw [← List.take_append_drop n s.data.toList, List.drop_eq_getElem_cons hlt]
  rw [List.getElem?_eq_getElem hlt] at h1
  rw [Option.some.inj h1]
theorem name_parts {s : ByteArray} (h : nameB s = true) : s.size ≤ 8 ∧ partB (cutS s).1 = true ∧ ((cutS s).2.2 = true → partB (cutS s).2.1 = true) := by
  unfold nameB at h
  simp only [Bool.and_eq_true, decide_eq_true_eq, Bool.or_eq_true, Bool.not_eq_true'] at h
  refine ⟨h.1, h.2.1, fun hc => ?_⟩
  rcases h.2.2 with h3 | h3
  · rw [hc] at h3; cases h3
  · exact h3
theorem join_split {s : ByteArray} (h : nameB s = true) : joinL (splitS s) = s.data.toList := by
  obtain ⟨_, h1, _⟩ := name_parts h
  unfold splitS
  rw [if_pos h]
  by_cases hs : 0 ≤ slash s
  · obtain ⟨n, hn⟩ := Int.eq_ofNat_of_zero_le hs
    have hc := slash_cut hn
    rw [hc] at h1 ⊢
    simp only [if_true] at h1 ⊢
    unfold joinL
    rw [if_neg (partB_ne h1)]
    exact (slash_list hn).symm
  · have hc : cutS s = (s, E0, false) := by unfold cutS; rw [if_neg hs]
    rw [hc]
    simp [joinL]
theorem split_inj {s t : ByteArray} (hs : nameB s = true) (ht : nameB t = true) (h : splitS s = splitS t) : s = t :=
  bytes_ext (by rw [← join_split hs, h, join_split ht])
theorem split_snd {s : ByteArray} (h : nameB s = true) : (splitS s).2 ≠ E0 := by
  obtain ⟨_, h1, h2⟩ := name_parts h
  unfold splitS
  rw [if_pos h]
  cases hc : (cutS s).2.2 with
  | true => exact partB_ne (h2 hc)
  | false => exact partB_ne h1
theorem part_name {d : ByteArray} (h : partB d = true) (h8 : d.size ≤ 8) : nameB d = true ∧ splitS d = (E0, d) := by
  have hneg : ¬ 0 ≤ slash d := by
    intro hs
    obtain ⟨n, hn⟩ := Int.eq_ofNat_of_zero_le hs
    obtain ⟨h1, _⟩ := Lib.indexByte_some (l := d.data.toList) (c := 47) (o := n) hn
    have hm := List.mem_of_getElem? h1
    unfold partB at h
    simp only [Bool.and_eq_true, List.all_eq_true] at h
    exact absurd (h.1 47 hm) (by decide)
  have hc : cutS d = (d, E0, false) := by unfold cutS; rw [if_neg hneg]
  have hn : nameB d = true := by unfold nameB; rw [hc]; simp [h8, h]
  refine ⟨hn, ?_⟩
  unfold splitS
  rw [if_pos hn, hc]
  simp
theorem split_fst {s : ByteArray} (h : nameB s = true) (hd : (splitS s).1 ≠ E0) : nameB (splitS s).1 = true ∧ splitS (splitS s).1 = (E0, (splitS s).1) := by
  obtain ⟨h8, h1, _⟩ := name_parts h
  unfold splitS at hd ⊢
  rw [if_pos h] at hd ⊢
  by_cases hs : 0 ≤ slash s
  · obtain ⟨n, hn⟩ := Int.eq_ofNat_of_zero_le hs
    have hc := slash_cut hn
    rw [hc] at h1 ⊢
    simp only [if_true] at h1 ⊢
    have hl := congrArg List.length (slash_list hn)
    have hsz : s.size = s.data.toList.length := Lib.size_eq s
    have hsz2 : (s.extract 0 n).size = (s.extract 0 n).data.toList.length := Lib.size_eq _
    have h8' : (s.extract 0 n).size ≤ 8 := by simp only [List.length_append, List.length_cons] at hl; omega
    exact part_name h1 h8'
  · have hc : cutS s = (s, E0, false) := by unfold cutS; rw [if_neg hs]
    rw [hc] at hd
    simp at hd

/-! ### the document's entries -/
abbrev ItemM := ByteArray × Bool × Int
def lookR : List ItemM → ByteArray → Option (Bool × Int)
  | [], _ => none
  | it :: r, s => if it.1 = s then some it.2 else lookR r s
def okR (T : List ItemM) (x : EntM) : Bool :=
  nameB x.path && (lookR T x.path).isNone && (decide ((splitS x.path).1 = E0) || (!x.dir && match lookR T (splitS x.path).1 with | some e => e.1 | none => false))
def newRF : List ItemM → List EntM → Option (List ItemM)
  | T, [] => some T
  | T, x :: r => if okR T x then newRF (T ++ [(x.path, x.dir, (T.length : Int))]) r else none
def newR (l : List EntM) : Option (List ItemM) := if 8 < l.length then none else newRF [] l

def encI (it : ItemM) : TKey × (Int × Bool) := (splitS it.1, (it.2.2, it.2.1))
def NamesR (T : List ItemM) : Prop := ∀ it ∈ T, nameB it.1 = true
theorem get_enc {T : List ItemM} (hT : NamesR T) {s : ByteArray} (hs : nameB s = true) : get? (T.map encI) (splitS s) = (lookR T s).map fun e => (e.2, e.1) := by
  induction T with
  | nil => rfl
  | cons it T ih =>
    have hi := hT it (by simp)
    have ih := ih (fun x hx => hT x (by simp [hx]))
    simp only [List.map_cons, encI, get?, lookR]
    by_cases e : it.1 = s
    · rw [if_pos (by rw [e]), if_pos e]; rfl
    · rw [if_neg (fun h => e (split_inj hi hs h)), if_neg e]
      exact ih
theorem put_new {κ ν : Type} [DecidableEq κ] {L : List (κ × ν)} {k : κ} {v : ν} (h : get? L k = none) : put L k v = L ++ [(k, v)] := by
  induction L with
  | nil => rfl
  | cons p L ih =>
    obtain ⟨a, x⟩ := p
    unfold get? at h
    split at h
    · cases h
    · rename_i hne
      unfold put
      rw [if_neg hne, ih h]
      rfl

theorem make_ok {T : List ItemM} (hT : NamesR T) (h8 : T.length < 8) (x : EntM) (hx : nameB x.path = true) :
    ((makeM (T.map encI) T.length x.path x.dir).2.1 = 0 ↔ okR T x = true) ∧
    ((makeM (T.map encI) T.length x.path x.dir).2.1 = 0 → (makeM (T.map encI) T.length x.path x.dir).2.2.1 = (T ++ [(x.path, x.dir, (T.length : Int))]).map encI ∧ (makeM (T.map encI) T.length x.path x.dir).2.2.2 = T.length + 1) := by
  have hg := get_enc hT hx
  have hs2 := split_snd hx
  have hf : (splitS x.path).1 ≠ E0 → get? (T.map encI) (E0, (splitS x.path).1) = (lookR T (splitS x.path).1).map fun e => (e.2, e.1) := fun h => by
    obtain ⟨h1, h2⟩ := split_fst hx h
    rw [← get_enc hT h1, h2]
  unfold makeM okR
  simp only [hx, Bool.true_and]
  have hab : aboveM (T.map encI) (splitS x.path) = if (splitS x.path).1 = E0 then 0 else match lookR T (splitS x.path).1 with | none => 65282 | some e => if e.1 then 0 else 65300 := by
    unfold aboveM
    rw [if_neg hs2]
    split
    · rfl
    · rename_i h
      rw [hf h]
      cases lookR T (splitS x.path).1 <;> rfl
  have hlen : ¬ 8 ≤ (T.map encI).length := by simp; omega
  cases hl : lookR T x.path with
  | some e =>
    rw [hl] at hg
    by_cases ha : aboveM (T.map encI) (splitS x.path) = 0
    · simp [ha, hg]
    · simp [ha]
  | none =>
    rw [hl] at hg
    by_cases h1 : (splitS x.path).1 = E0
    · rw [if_pos h1] at hab
      have hput := put_new (v := ((T.length : Int), x.dir)) hg
      have hd : ¬ (x.dir = true ∧ (splitS x.path).1 ≠ E0) := fun h => h.2 h1
      rw [if_neg (by rw [hab]; decide), hg]
      simp only [Option.map_none, Option.isSome_none, Bool.false_eq_true, if_false]
      rw [if_neg hd, if_neg hlen, hput]
      simp [h1, encI]
    · rw [if_neg h1] at hab
      cases hd : lookR T (splitS x.path).1 with
      | none =>
        rw [hd] at hab
        simp only at hab
        simp [hab, h1]
      | some e =>
        rw [hd] at hab
        obtain ⟨ed, ei⟩ := e
        cases ed with
        | false =>
          simp only [Bool.false_eq_true, if_false] at hab
          simp [hab, h1]
        | true =>
          simp only [if_true] at hab
          have hput := put_new (v := ((T.length : Int), x.dir)) hg
          rw [if_neg (by rw [hab]; decide), hg]
          simp only [Option.map_none, Option.isSome_none, Bool.false_eq_true, if_false]
          cases hxd : x.dir with
          | true => simp [h1]
          | false =>
            rw [hxd] at hput
            simp only [Bool.false_eq_true, false_and, if_false]
            rw [if_neg hlen, hput]
            simp [h1, encI]

theorem newF_eq : ∀ (l : List EntM) (T : List ItemM), NamesR T → T.length + l.length ≤ 8 → newFold (T.map encI) T.length l = (newRF T l).map fun T' => (T'.map encI, (T'.length : Int))
  | [], T, _, _ => rfl
  | x :: r, T, hT, h8 => by
    simp only [List.length_cons] at h8
    unfold newFold newRF
    by_cases hx : nameB x.path = true
    · rw [if_pos hx]
      obtain ⟨m1, m2⟩ := make_ok hT (by omega) x hx
      by_cases hok : okR T x = true
      · have hz := m1.2 hok
        obtain ⟨e1, e2⟩ := m2 hz
        rw [if_pos hz, if_pos hok, e1, e2]
        have hT' : NamesR (T ++ [(x.path, x.dir, (T.length : Int))]) := by
          intro it hit
          rcases List.mem_append.1 hit with h | h
          · exact hT it h
          · simp at h; subst h; exact hx
        have := newF_eq r _ hT' (by simp; omega)
        simpa using this
      · have hz : ¬ (makeM (T.map encI) T.length x.path x.dir).2.1 = 0 := fun h => hok (m1.1 h)
        rw [if_neg hz, if_neg hok]; rfl
    · have hok : ¬ okR T x = true := by unfold okR; simp [hx]
      rw [if_neg hx, if_neg hok]; rfl
theorem newR_eq (l : List EntM) : newM l = (newR l).map fun T => (T.map encI, (T.length : Int)) := by
  unfold newM newR
  split
  · rfl
  · have := newF_eq l [] (fun _ h => by cases h) (by simp; omega)
    simpa using this
theorem newR_some (l : List EntM) : (newM l).isSome = (newR l).isSome := by rw [newR_eq]; cases newR l <;> rfl
end Go.Proofs.Ytbcnfegmmhioeaa
