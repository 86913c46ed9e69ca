/- The document's own splitting of names, and its own trees: where a path is; walked. -/
import Derived.Test.YtbcnfegmmhioeaaTreeEq
import Derived.Test.YtbcnfegmmhioeaaRef4
import Derived.Test.YtbcnfegmmhioeaaAppN
import Derived.BigQuiet
import Derived.Deep.QuietTactic
namespace Go.Proofs.Ytbcnfegmmhioeaa
open Go.RowKit

theorem slash_first {s : ByteArray} {k : Nat} (hk : k < s.size) (h : s[k] = 47) (hno : ∀ j, j < k → ∀ hj : j < s.size, s[j] ≠ 47) : slash s = k := by
  have hsz : s.size = s.data.toList.length := Lib.size_eq s
  have hkl : s.data.toList[k]? = some 47 := by rw [List.getElem?_eq_getElem (by omega)]; exact congrArg some h
  by_cases hs : 0 ≤ slash s
  · obtain ⟨n, hn⟩ := Int.eq_ofNat_of_zero_le hs
    obtain ⟨h1, h2⟩ := Lib.indexByte_some (l := s.data.toList) (c := 47) (o := n) hn
    have hlt := (List.getElem?_eq_some_iff.1 h1).1
    rw [hn]
    rcases Nat.lt_trichotomy n k with h3 | h3 | h3
    · exfalso
      rw [List.getElem?_eq_getElem hlt] at h1
      exact hno n h3 (by omega) (Option.some.inj h1)
    · rw [h3]
    · exact absurd hkl (h2 k h3)
  · have hm : slash s = -1 := by have := slash_ge s; omega
    have := Lib.indexByte_none (l := s.data.toList) (c := 47) hm k
    exact absurd hkl this
theorem slash_no {s : ByteArray} (hno : ∀ j, ∀ hj : j < s.size, s[j] ≠ 47) : ¬ 0 ≤ slash s := by
  intro hs
  have hsz : s.size = s.data.toList.length := Lib.size_eq s
  obtain ⟨n, hn⟩ := Int.eq_ofNat_of_zero_le hs
  obtain ⟨h1, _⟩ := Lib.indexByte_some (l := s.data.toList) (c := 47) (o := n) hn
  have hlt := (List.getElem?_eq_some_iff.1 h1).1
  rw [List.getElem?_eq_getElem hlt] at h1
  exact hno n (by omega) (Option.some.inj h1)

set_option maxRecDepth 100000 in
theorem rsplit_any (s : ByteArray) (w : World) : Calls Try.prog 172 #[.string s] w fun e w' => e = .returned (.tuple #[.string (splitS s).1, .string (splitS s).2]) ∧ Below w.heap.size w w' := by
  have hnm := fun W => rname_any s W
  cases hn : nameB s with
  | false =>
    have hr : splitS s = (E0, E0) := by simp [splitS, hn]
    rw [hr]
    rw [hn] at hnm
    clear hn hr
    go_enter Try.func172, Try.ntmps172
    go_wp2_with ((go_at_call 94; ((with_reducible refine (hnm _).mono ?_); rintro e w1 ⟨rfl, hb1⟩)); have s1l : Bel w w1 := Bel.call hb1)
    go_ret2
    exact ⟨rfl, s1l.out⟩
  | true =>
    rw [hn] at hnm
    have h8 := (name_parts hn).1
    have h8I : (s.size : Int) ≤ 8 := by omega
    have hcut : ∀ n : Nat, slash s = n → splitS s = (s.extract 0 n, s.extract (n + 1) s.size) := fun n h => by unfold splitS; rw [if_pos hn, slash_cut h]; rfl
    have hun : ¬ 0 ≤ slash s → splitS s = (E0, s) := fun h => by unfold splitS cutS; rw [if_pos hn, if_neg h]; rfl
    generalize splitS s = r at *
    obtain ⟨r1, r2⟩ := r
    have HCU := Lib.hid hcut
    have HUN := Lib.hid hun
    clear hn hcut hun
    go_enter Try.func172, Try.ntmps172
    go_wp2_with ((go_at_call 94; ((with_reducible refine (hnm _).mono ?_); rintro e w1 ⟨rfl, hb1⟩)); have s1l : Bel w w1 := Bel.call hb1)
    go_loopw [4] (fun x wr => ∃ k : Nat, x = .int .i64 k ∧ k ≤ s.size ∧ (∀ j, j < k → ∀ hj : j < s.size, s[j] ≠ 47) ∧ wr = w1) (fun x wr => s.size - (intOf x).toNat)
    case atStart => exact ⟨0, rfl, Nat.zero_le _, fun j h => by omega, rfl⟩
    case round =>
      obtain ⟨k, rfl, hk, hno, rfl⟩ := hrel
      have HNO := Lib.hid hno
      clear hno
      by_cases hlt : k < s.size
      · have hltI : (k : Int) < s.size := by omega
        by_cases h47 : s[k] = 47
        · have hr := HCU.out k (slash_first hlt h47 HNO.out)
          have hc5 : (((s[k]'hlt).toNat : Int) == 47) = true := by rw [h47]; rfl
          simp only [Prod.mk.injEq] at hr
          obtain ⟨rfl, rfl⟩ := hr
          clear h47
          go_wp2_with fail
          go_region
          all_goals
            go_wp2_with fail
            go_ret2
            exact ⟨rfl, bel⟩
        · have hc5 : (((s[k]'hlt).toNat : Int) == 47) = false := by
            rw [beq_eq_false_iff_ne]
            intro e
            exact h47 (UInt8.toNat_inj.1 (by show _ = 47; omega))
          have hno2 : ∀ j, j < k + 1 → ∀ hj : j < s.size, s[j] ≠ 47 := fun j hj hjs => by
            by_cases e : j < k
            · exact HNO.out j e hjs
            · obtain rfl : j = k := by omega
              exact h47
          have HN2 := Lib.hid hno2
          clear hno2 h47
          go_wp2_with fail
          go_roundw
          case rel => exact ⟨k + 1, by go_num, by omega, HN2.out, trivial⟩
          case measure => simp [intOf]; omega
      · have hltI : ¬ (k : Int) < s.size := by omega
        have hsn := slash_no (s := s) fun j hj => HNO.out j (by omega) hj
        have hr := HUN.out (by omega)
        simp only [Prod.mk.injEq] at hr
        obtain ⟨rfl, rfl⟩ := hr
        go_wp2_with fail
        go_ret2
        exact ⟨rfl, s1l.out⟩

/-! ### where a path is -/
def itemC (x : ItemM) : List Value := [.string x.1, .bool x.2.1, .int .i64 x.2.2]
def atI (T : List ItemM) (s : ByteArray) : Int := match T.findIdx? (fun it => decide (it.1 = s)) with | some i => (i : Int) | none => -1
/-- The document's tree as it lies in memory. -/
def IsRT (w : World) (base g : Nat) (T : List ItemM) (nx : Int) : Prop :=
  ∃ v, w.heap[g]? = some (.cells #[v, .int .i64 nx] 254 (0, 0)) ∧ w.ownsRow base 256 3 v T.length (T.flatMap itemC)
theorem atI_lt (T : List ItemM) (s : ByteArray) : atI T s < T.length := by
  unfold atI
  split
  · rename_i i hi
    have := (List.findIdx?_eq_some_iff_getElem.1 hi).1
    omega
  · omega
theorem atI_look (T : List ItemM) (s : ByteArray) : (lookR T s = none ↔ atI T s = -1) ∧ (∀ e, lookR T s = some e → ∃ i : Nat, atI T s = i ∧ ∃ p, T[i]? = some (p, e)) := by
  induction T with
  | nil => exact ⟨⟨fun _ => rfl, fun _ => rfl⟩, fun e h => by cases h⟩
  | cons it T ih =>
    unfold lookR atI
    rw [List.findIdx?_cons]
    by_cases h : it.1 = s
    · simp only [h, decide_true, if_true]
      exact ⟨by simp, fun e he => ⟨0, by simp, s, by cases he; rw [← h]; rfl⟩⟩
    · simp only [h, decide_false, if_false]
      unfold atI at ih
      cases hf : T.findIdx? (fun it => decide (it.1 = s)) with
      | none =>
        rw [hf] at ih
        refine ⟨by simpa using ih.1, fun e he => ?_⟩
        rw [ih.1.2 rfl] at he; cases he
      | some i =>
        rw [hf] at ih
        refine ⟨⟨fun h1 => ?_, fun h1 => ?_⟩, fun e he => ?_⟩
        · have := ih.1.1 h1; simp only at this; omega
        · simp at h1; omega
        · obtain ⟨j, hj, p, hp⟩ := ih.2 e he
          simp only at hj
          exact ⟨j + 1, by simp; omega, p, by simpa using hp⟩

set_option maxRecDepth 100000 in
theorem at_any {w : World} (g : Nat) (A : Option Addr) (c : Nat) (T : List ItemM) (nx : Int) (hg : w.heap[g]? = some (.cells #[.slice A T.length c, .int .i64 nx] 254 (0, 0))) (hT : IsSl 3 itemC w A T) (hl : T.length ≤ 1000) (s : ByteArray) :
    Calls Try.prog 171 #[.pointer (some ⟨g, 0, none⟩), .string s] w fun e w' => e = .returned (.int .i64 (atI T s)) ∧ w' = w := by
  have hlI : (T.length : Int) ≤ 1000 := by omega
  have c0 : w.cell? ⟨g, 0, none⟩ = some (.slice A T.length c) := blk_cell hg 0
  have HT := Lib.hid hT
  clear hg hT
  go_enter Try.func171, Try.ntmps171
  go_wp2_with fail
  go_loopw [5] (fun x wr => ∃ k : Nat, x = .int .i64 k ∧ k ≤ T.length ∧ (∀ j it, j < k → T[j]? = some it → it.1 ≠ s) ∧ wr = w) (fun x wr => T.length - (intOf x).toNat)
  case atStart => exact ⟨0, rfl, Nat.zero_le _, fun j it h => by omega, rfl⟩
  case round =>
    obtain ⟨k, rfl, hk, hno, rfl⟩ := hrel
    have HNO := Lib.hid hno
    clear hno
    by_cases hlt : k < T.length
    · have hltI : (k : Int) < T.length := by omega
      obtain ⟨it, hit⟩ : ∃ it, T[k]? = some it := ⟨T[k], List.getElem?_eq_getElem hlt⟩
      obtain ⟨b, off, rfl, hsb, hc⟩ := HT.out.at_ hit
      obtain ⟨path, dir, id⟩ := it
      have d0 : ∀ W [SameB wr W b], W.cell? ⟨b, off + k * 3, none⟩ = some (.string path) := fun W _ => by simpa using hc W 0 _ rfl
      have HIT := Lib.hid hit
      clear hc hit
      by_cases he : path = s
      · have hb : (path.toList == s.toList) = true := by rw [he]; simp
        have hr : atI T s = k := by
          have : T.findIdx? (fun it => decide (it.1 = s)) = some k := by
            rw [List.findIdx?_eq_some_iff_getElem]
            refine ⟨hlt, by have := HIT.out; rw [List.getElem?_eq_getElem hlt] at this; rw [Option.some.inj this]; simpa using he, fun j hj => ?_⟩
            simpa using HNO.out j _ hj (List.getElem?_eq_getElem (by omega))
          unfold atI; rw [this]
        have HR := Lib.hid hr
        clear he hr
        go_wp2_with fail
        go_ret
        exact ⟨ret_int HR.out.symm, rfl⟩
      · have hb : (path.toList == s.toList) = false := by rw [beq_bytes]; simpa using he
        have hno2 : ∀ j it, j < k + 1 → T[j]? = some it → it.1 ≠ s := fun j it hj hji => by
          by_cases e : j < k
          · exact HNO.out j it e hji
          · obtain rfl : j = k := by omega
            rw [HIT.out] at hji; cases hji; exact he
        have HN2 := Lib.hid hno2
        clear hno2 he
        go_wp2_with fail
        go_roundw
        case rel => exact ⟨k + 1, by go_num, by omega, HN2.out, trivial⟩
        case measure => simp [intOf]; omega
    · have hltI : ¬ (k : Int) < T.length := by omega
      have hr : atI T s = -1 := by
        have : T.findIdx? (fun it => decide (it.1 = s)) = none := by
          rw [List.findIdx?_eq_none_iff]
          intro x hx
          obtain ⟨j, hj⟩ := List.getElem?_of_mem hx
          simpa using HNO.out j x (by have := (List.getElem?_eq_some_iff.1 hj).1; omega) hj
        unfold atI; rw [this]
      have HR := Lib.hid hr
      clear hr
      go_wp2_with fail
      go_ret
      exact ⟨ret_int HR.out.symm, rfl⟩
end Go.Proofs.Ytbcnfegmmhioeaa
