/- The walks of package tree: a tree of entries. -/
import Derived.Test.YtbcnfegmmhioeaaTree3
namespace Go.Proofs.Ytbcnfegmmhioeaa
open Go.RowKit

theorem tree_zero (w : World) : IsTree ((w.alloc (.map #[] 0)).alloc (.cells #[.map (some w.heap.size), .int .i64 0] 143)) (w.heap.size + 1) w.heap.size [] 0 :=
  ⟨by have h := blk_new (w.alloc (.map #[] 0)) (.cells #[.map (some w.heap.size), .int .i64 0] 143); simpa using h, (IsMap.new w).of_block (by rw [Below.heap_alloc]; simp)⟩

def PostNew (w : World) (r : Option (Ents × Int)) (e : Ending) (w' : World) : Prop := match r with
  | none => e = .returned (.tuple #[.pointer none, .int .i64 11]) ∧ Below w.heap.size w w'
  | some (L, nx) => e = .returned (.tuple #[.pointer (some ⟨w.heap.size + 1, 0, none⟩), .int .i64 0]) ∧ IsTree w' (w.heap.size + 1) w.heap.size L nx ∧ Below w.heap.size w w'

set_option maxRecDepth 100000 in
set_option maxHeartbeats 1000000 in
theorem new_any {w : World} (A : Option Addr) (c : Nat) (l : List EntM) (hA : IsSl 3 entC w A l) (hl : l.length ≤ 1000000) (hs : ∀ x ∈ l, x.path.size ≤ 1000000) :
    Calls Try.prog 17 #[.slice A l.length c] w (PostNew w (newM l)) := by
  by_cases h8 : 8 < l.length
  · have hr : newM l = none := by simp [newM, h8]
    rw [hr]
    have h8i : (8 : Int) < l.length := by omega
    clear hr h8
    go_enter Try.func17, Try.ntmps17
    go_wp2_with fail
    go_ret2
    exact ⟨rfl, bel⟩
  · have hr : newM l = newFold [] 0 l := by simp [newM, h8]
    rw [hr]
    have hmm := @run_makeMap Try.prog
    have h8i : (l.length : Int) ≤ 8 := by omega
    clear hr h8
    go_enter Try.func17, Try.ntmps17
    go_wp2_with fail
    go_loopw [17] (fun i wr => ∃ (k : Nat) (L : Ents) (nx : Int), i = .int .i64 k ∧ k ≤ l.length ∧ L.length ≤ 8 ∧ 0 ≤ nx ∧ nx ≤ k ∧ newFold [] 0 l = newFold L nx (l.drop k) ∧
        IsTree wr (w.heap.size + 1) w.heap.size L nx ∧ Below w.heap.size w wr) (fun i wr => l.length - (intOf i).toNat)
    case atStart => exact ⟨0, [], 0, rfl, Nat.zero_le _, by simp, by omega, by omega, by simp, tree_zero w, bel⟩
    case round =>
      obtain ⟨k, L, nx, rfl, hk, hL, hn0, hn1, hfold, hT, hbw⟩ := hrel
      have : Bel w wr := ⟨hbw⟩
      have HF := Lib.hid hfold
      clear hfold
      by_cases hlt : k < l.length
      · obtain ⟨x, hx⟩ : ∃ x, l[k]? = some x := ⟨l[k], List.getElem?_eq_getElem hlt⟩
        obtain ⟨b, off, rfl, hsb, hc⟩ := (hA.below hbw).at_ hx
        have hsx := hs x (List.mem_of_getElem? hx)
        have hdrop : l.drop k = x :: l.drop (k + 1) := by
          rw [List.drop_eq_getElem_cons hlt]
          congr 1
          rw [List.getElem?_eq_getElem hlt] at hx
          exact Option.some.inj hx
        have HF2 : Hid (newFold [] 0 l = newFold L nx (x :: l.drop (k + 1))) := by rw [← hdrop]; exact HF.out
        clear HF hx hdrop
        obtain ⟨path, dir, cap⟩ := x
        simp only at hsx
        have d0 : ∀ W [SameB wr W b], W.cell? ⟨b, off + k * 3, none⟩ = some (.string path) := fun W _ => by simpa using hc W 0 _ rfl
        have d1 : ∀ W [SameB wr W b], W.cell? ⟨b, off + k * 3 + 1, none⟩ = some (.bool dir) := fun W _ => hc W 1 _ rfl
        have d2 : ∀ W [SameB wr W b], W.cell? ⟨b, off + k * 3 + 2, none⟩ = some (.int .i64 cap) := fun W _ => hc W 2 _ rfl
        clear hc
        have sg := hT.sg
        have sb := hT.sb
        have hnm := fun w => names_may path hsx w
        have hmk := fun W h1 h2 => make_any (@IsTree.same wr W _ _ L nx hT h1 h2) ⟨hn0, by omega⟩ path hsx dir
        have hmx := make_nx L nx path dir
        have hml := make_length L nx path dir hL
        have hltI : (k : Int) < l.length := by omega
        have HX := Lib.hid (And.intro hmx hml)
        clear hT hmx hml
        cases hnb : nameB path with
        | false =>
          have hr : newFold [] 0 l = none := by rw [HF2.out]; simp [newFold, hnb]
          rw [hnb] at hnm
          have HR := Lib.hid hr
          clear hnb hr HF2
          go_wp2_with ((go_at_call 85; ((with_reducible refine (hnm _).mono ?_); rintro e w1 ⟨rfl, hb⟩)); have s1l : Bel w w1 := Bel.call hb)
          go_ret2
          rw [HR.out]
          exact ⟨rfl, bel⟩
        | true =>
          rw [hnb] at hnm
          have hr : newFold [] 0 l = if (makeM L nx path dir).2.1 = 0 then newFold (makeM L nx path dir).2.2.1 (makeM L nx path dir).2.2.2 (l.drop (k + 1)) else none := by
            rw [HF2.out]; simp [newFold, hnb]
          clear hnb HF2
          generalize makeM L nx path dir = m at *
          obtain ⟨id, code, L2, nx2⟩ := m
          simp only at hmk HX hr
          have hbelow : ∀ W W2, Bel w W → Only (fun i => i = w.heap.size + 1 ∨ i = w.heap.size) W W2 → Bel w W2 := fun W W2 h1 h2 =>
            ⟨h1.out.trans (h2.toBelow h1.out.size (by rintro i (rfl | rfl) <;> omega))⟩
          by_cases hcode : code = 0
          · subst hcode
            simp only [if_true] at hr
            have HR := Lib.hid hr
            clear hr
            go_wp2_with (first | ((go_at_call 85; ((with_reducible refine (hnm _).mono ?_); rintro e w1 ⟨rfl, hb⟩)); obtain ⟨hc1, hf1⟩ := bcell hb; have s1l : Bel w w1 := Bel.call hb; have s1g : SameB wr w1 _ := SameB.call hb (w.heap.size + 1); have s1b : SameB wr w1 _ := SameB.call hb w.heap.size) | ((go_at_call 18; ((with_reducible refine (hmk _ inferInstance inferInstance).mono ?_); rintro e w2 ⟨rfl, hT2, hO2⟩)); have s2l : Bel w w2 := hbelow _ _ inferInstance hO2))
            go_roundw
            case rel => exact ⟨k + 1, L2, nx2, by go_num, by omega, HX.out.2, by have := HX.out.1; omega, by have := HX.out.1; omega, HR.out, hT2, bel⟩
            case measure => simp [intOf]; omega
          · have b1 : (code == 0) = false := by simpa using hcode
            have b2 : (code != 0) = true := by simpa using hcode
            simp only [if_neg hcode] at hr
            have HR := Lib.hid hr
            clear hr hcode
            go_wp2_with (first | ((go_at_call 85; ((with_reducible refine (hnm _).mono ?_); rintro e w1 ⟨rfl, hb⟩)); obtain ⟨hc1, hf1⟩ := bcell hb; have s1l : Bel w w1 := Bel.call hb; have s1g : SameB wr w1 _ := SameB.call hb (w.heap.size + 1); have s1b : SameB wr w1 _ := SameB.call hb w.heap.size) | ((go_at_call 18; ((with_reducible refine (hmk _ inferInstance inferInstance).mono ?_); rintro e w2 ⟨rfl, hT2, hO2⟩)); have s2l : Bel w w2 := hbelow _ _ inferInstance hO2))
            go_ret2
            rw [HR.out]
            exact ⟨rfl, bel⟩
      · have hk2 : k = l.length := by omega
        subst hk2
        have hr : newFold [] 0 l = some (L, nx) := by rw [HF.out]; simp [newFold]
        have HR := Lib.hid hr
        have HT := Lib.hid hT
        clear hT hr HF hlt
        go_wp2_with fail
        go_ret2
        rw [HR.out]
        exact ⟨rfl, HT.out, bel⟩

/-- The same, with the tree's places as letters. -/
theorem new_ex {w : World} (A : Option Addr) (c : Nat) (l : List EntM) (L : Ents) (nx : Int) (hA : IsSl 3 entC w A l) (hl : l.length ≤ 1000000) (hs : ∀ x ∈ l, x.path.size ≤ 1000000) (h : newM l = some (L, nx)) :
    Calls Try.prog 17 #[.slice A l.length c] w fun e w' => ∃ g b, e = .returned (.tuple #[.pointer (some ⟨g, 0, none⟩), .int .i64 0]) ∧ w.heap.size ≤ g ∧ w.heap.size ≤ b ∧ IsTree w' g b L nx ∧ Below w.heap.size w w' := by
  have := new_any A c l hA hl hs
  rw [h] at this
  exact this.mono fun e w' ⟨he, hT, hb⟩ => ⟨_, _, he, by omega, Nat.le_refl _, hT, hb⟩
theorem new_no {w : World} (A : Option Addr) (c : Nat) (l : List EntM) (hA : IsSl 3 entC w A l) (hl : l.length ≤ 1000000) (hs : ∀ x ∈ l, x.path.size ≤ 1000000) (h : newM l = none) :
    Calls Try.prog 17 #[.slice A l.length c] w fun e w' => e = .returned (.tuple #[.pointer none, .int .i64 11]) ∧ Below w.heap.size w w' := by
  have := new_any A c l hA hl hs
  rw [h] at this
  exact this
end Go.Proofs.Ytbcnfegmmhioeaa
