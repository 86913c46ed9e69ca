/- The walks of package tree: an entry taken out. -/
import Derived.Test.YtbcnfegmmhioeaaTree3
namespace Go.Proofs.Ytbcnfegmmhioeaa
open Go.RowKit

set_option maxHeartbeats 1000000 in
set_option maxRecDepth 100000 in
theorem drop_del {w : World} {g b : Nat} {L : Ents} {nx : Int} (hT : IsTree w g b L nx) (s : ByteArray) (dir d : Bool) (i : Int) (n : Nat) (hn : n = 0) (hd : d = dir) (k1 k2 : ByteArray)
    (hof : ∀ (w : World), Calls Try.prog 86 #[.string s] w fun e w' => e = .returned (.agg #[.string k1, .string k2]) ∧ Below w.heap.size w w')
    (hg : Calls Try.prog 88 #[.pointer (some ⟨g, 0, none⟩), .string s] w fun e w' => e = .returned (.tuple #[.agg #[.int .i64 i, .bool d], .int .u16 0]) ∧ Below w.heap.size w w')
    (hmm : d = true → ∀ (W : World), SameB w W g → SameB w W b → Calls Try.prog 89 #[.pointer (some ⟨g, 0, none⟩), .string s] W fun e w' => e = .returned (.int .i64 n) ∧ Below W.heap.size W w') :
    Calls Try.prog 19 #[.pointer (some ⟨g, 0, none⟩), .string s, .bool dir] w fun e w' =>
      e = .returned (.int .u16 0) ∧ IsTree w' g b (del L (k1, k2)) nx ∧ Only (fun i => i = g ∨ i = b) w w' := by
  subst hn hd
  have hne := hT.ne
  have sg := hT.sg
  have sb := hT.sb
  have c0 := hT.c0
  obtain ⟨f, hf⟩ := hT.2.deletes (P := Try.prog) keyOK_tree Try.underlying141 (k1, k2) 146
  have ed : ∀ W [SameB w W b] ty, (Builtin.delete_ #[141, 146] ty #[.map (some b), .agg #[.string k1, .string k2]]).run Try.prog W = .ok (.tuple #[]) (f W) := fun W _ ty => (hf W).1 ty
  have HF := Lib.hid (fun W h => (@hf W h).2)
  have HT := Lib.hid hT
  clear hT hf
  have fin : ∀ W, SameB w W b → SameB w W g → Bel w W → IsTree (f W) g b (del L (k1, k2)) nx ∧ Only (fun i => i = g ∨ i = b) w (f W) := by
    intro W h1 h2 h3
    obtain ⟨r1, r2, r3⟩ := HF.out W h1
    have O : Only (fun i => i = b) w (f W) := Only.of_bel.grown r2 (fun j hj _ => by cases hj; rfl)
    exact ⟨⟨(O.same sg.lt hne).blk.trans HT.out.1, r1⟩, O.mono (fun _ _ h => .inr h)⟩
  have FIN := Lib.hid fin
  clear fin
  cases d
  · go_enter Try.func19, Try.ntmps19
    go_wp2_with ((go_at_call 88; ((with_reducible refine (hg).mono ?_); rintro e w1 ⟨rfl, hb⟩)); have s1l : Bel w w1 := Bel.call hb; have s1g : SameB w w1 g := SameB.call hb _; have s1b : SameB w w1 b := SameB.call hb _)
    go_region_with ((go_at_call 86; ((with_reducible refine (hof _).mono ?_); rintro e w2 ⟨rfl, hb2⟩)); have s2l : Bel w w2 := Bel.call hb2; have s2g : SameB w w2 g := SameB.call hb2 _; have s2b : SameB w w2 b := SameB.call hb2 _)
    all_goals go_wp2_with fail
    all_goals
      go_ret
      exact ⟨rfl, FIN.out _ inferInstance inferInstance inferInstance⟩
  · have hm2 := hmm rfl
    clear hmm
    go_enter Try.func19, Try.ntmps19
    go_wp2_with (first | ((go_at_call 88; ((with_reducible refine (hg).mono ?_); rintro e w1 ⟨rfl, hb⟩)); have s1l : Bel w w1 := Bel.call hb; have s1g : SameB w w1 g := SameB.call hb _; have s1b : SameB w w1 b := SameB.call hb _) | ((go_at_call 89; ((with_reducible refine (hm2 _ inferInstance inferInstance).mono ?_); rintro e w3 ⟨rfl, hb3⟩)); have s3l : Bel w w3 := Bel.call hb3; have s3g : SameB w w3 g := SameB.call hb3 _; have s3b : SameB w w3 b := SameB.call hb3 _))
    go_region_with ((go_at_call 86; ((with_reducible refine (hof _).mono ?_); rintro e w2 ⟨rfl, hb2⟩)); have s2l : Bel w w2 := Bel.call hb2; have s2g : SameB w w2 g := SameB.call hb2 _; have s2b : SameB w w2 b := SameB.call hb2 _)
    all_goals go_wp2_with fail
    all_goals
      go_ret
      exact ⟨rfl, FIN.out _ inferInstance inferInstance inferInstance⟩

set_option maxRecDepth 100000 in
theorem drop_any {w : World} {g b : Nat} {L : Ents} {nx : Int} (hT : IsTree w g b L nx) (hL : L.length ≤ 1000) (s : ByteArray) (hs : s.size ≤ 1000000) (dir : Bool) :
    Calls Try.prog 19 #[.pointer (some ⟨g, 0, none⟩), .string s, .bool dir] w fun e w' =>
      e = .returned (.int .u16 (dropM L s dir).1) ∧ IsTree w' g b (dropM L s dir).2 nx ∧ Only (fun i => i = g ∨ i = b) w w' := by
  have hg := get_any hT s hs
  have hmm := fun W h1 h2 => many_any (@IsTree.same w W g b L nx hT h1 h2) hL s
  have hof := fun w => of_any s hs w
  have hne := hT.ne
  have sg := hT.sg
  have sb := hT.sb
  have c0 := hT.c0
  have HT := Lib.hid hT
  clear hT hL
  unfold dropM
  generalize manyM L s = n at *
  generalize getM L s = x at *
  generalize splitS s = k at *
  obtain ⟨k1, k2⟩ := k
  obtain ⟨⟨i, d⟩, c⟩ := x
  simp only at hg ⊢
  by_cases ha : c = 0
  · subst ha
    simp only [ne_eq, not_true_eq_false, if_false]
    cases d <;> cases dir
    · simp
      exact drop_del HT.out s false false i 0 rfl rfl k1 k2 hof hg (fun h => by cases h)
    · simp
      go_enter Try.func19, Try.ntmps19
      go_wp2_with ((go_at_call 88; ((with_reducible refine (hg).mono ?_); rintro e w1 ⟨rfl, hb⟩)); have s1l : Bel w w1 := Bel.call hb; have s1g : SameB w w1 g := SameB.call hb _; have s1b : SameB w w1 b := SameB.call hb _)
      go_ret
      exact ⟨rfl, HT.out.same, Only.of_bel⟩
    · simp
      go_enter Try.func19, Try.ntmps19
      go_wp2_with ((go_at_call 88; ((with_reducible refine (hg).mono ?_); rintro e w1 ⟨rfl, hb⟩)); have s1l : Bel w w1 := Bel.call hb; have s1g : SameB w w1 g := SameB.call hb _; have s1b : SameB w w1 b := SameB.call hb _)
      go_ret
      exact ⟨rfl, HT.out.same, Only.of_bel⟩
    · by_cases hn : n = 0
      · simp [hn]
        exact drop_del HT.out s true true i n hn rfl k1 k2 hof hg (fun _ => hmm)
      · have hn1 : 1 ≤ n := by omega
        have hn2 : (1 : Int) ≤ n := by omega
        have hn3 : decide (0 < n) = true := by simp; omega
        simp [hn3]
        clear hn hn3
        go_enter Try.func19, Try.ntmps19
        go_wp2_with (first | ((go_at_call 88; ((with_reducible refine (hg).mono ?_); rintro e w1 ⟨rfl, hb⟩)); have s1l : Bel w w1 := Bel.call hb; have s1g : SameB w w1 g := SameB.call hb _; have s1b : SameB w w1 b := SameB.call hb _) | ((go_at_call 89; ((with_reducible refine (hmm _ inferInstance inferInstance).mono ?_); rintro e w3 ⟨rfl, hb3⟩)); have s3l : Bel w w3 := Bel.call hb3; have s3g : SameB w w3 g := SameB.call hb3 _; have s3b : SameB w w3 b := SameB.call hb3 _))
        go_ret
        exact ⟨rfl, HT.out.same, Only.of_bel⟩
  · have b1 : (c == 0) = false := by simpa using ha
    have b2 : (c != 0) = true := by simpa using ha
    simp only [ne_eq, ha, not_false_eq_true, if_true]
    clear ha
    go_enter Try.func19, Try.ntmps19
    go_wp2_with ((go_at_call 88; ((with_reducible refine (hg).mono ?_); rintro e w1 ⟨rfl, hb⟩)); have s1l : Bel w w1 := Bel.call hb; have s1g : SameB w w1 g := SameB.call hb _; have s1b : SameB w w1 b := SameB.call hb _)
    go_ret
    exact ⟨rfl, HT.out.same, Only.of_bel⟩
end Go.Proofs.Ytbcnfegmmhioeaa
