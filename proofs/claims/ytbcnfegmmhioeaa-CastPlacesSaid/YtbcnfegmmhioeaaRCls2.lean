/- The document's own classes: which may be; walked. -/
import Derived.Test.YtbcnfegmmhioeaaRCls1
import Derived.Test.YtbcnfegmmhioeaaRTree2
import Derived.Test.YtbcnfegmmhioeaaCls2
namespace Go.Proofs.Ytbcnfegmmhioeaa
open Go.RowKit

def dirOk (x : EntM) : Bool := !(x.dir && x.cap != 0)
theorem caps_all (T : List EntM) (l : List Int) : (T.all treeOk && l.all (fun n => fitsM n 3)) = (T.all dirOk && ((T.filter (fun x => !x.dir)).map (·.cap) ++ l).all (fun n => fitsM n 3)) := by
  rw [List.all_append, ← Bool.and_assoc]
  congr 1
  induction T with
  | nil => rfl
  | cons x T ih =>
    simp only [List.all_cons, List.filter_cons]
    rw [ih]
    cases hd : x.dir with
    | true =>
      by_cases hc : x.cap = 0
      · simp [treeOk, dirOk, hd, hc, fitsM]
      · have hcb : (x.cap != 0) = true := by simpa using hc
        simp [treeOk, dirOk, hd, hcb]
    | false =>
      simp only [treeOk, dirOk, hd, Bool.false_and, Bool.not_false, Bool.and_true, Bool.true_and, if_true, List.map_cons, List.all_cons]
      cases fitsM x.cap 3 <;> simp
def numsOk (C : ClsM) : Bool := decide (0 ≤ C.calls) && decide (C.calls ≤ 6) && decide (0 ≤ C.fails) && decide (C.fails ≤ C.calls) && decide (0 ≤ C.fuel) && decide (C.fuel ≤ 400)
theorem mayC_ref (C : ClsM) : mayC C = ((newR C.tree).isSome && decide (nfiles C ≤ 4) && decide (C.args.length ≤ 2) && numsOk C && C.tree.all dirOk && (capsM C).all (fun n => fitsM n 3)) := by
  have h := caps_all C.tree C.args
  have e : (C.tree.filter (fun x => !x.dir)).map (·.cap) ++ C.args = capsM C := rfl
  rw [e] at h
  unfold mayC
  rw [newR_some]
  have e2 : (C.tree.all fun x => fitsM x.cap 3 && !(x.dir && x.cap != 0)) = C.tree.all treeOk := rfl
  rw [e2]
  generalize C.tree.all treeOk = a at *
  generalize (C.args.all fun n => fitsM n 3) = b at *
  generalize C.tree.all dirOk = a' at *
  generalize ((capsM C).all fun n => fitsM n 3) = b' at *
  generalize (newR C.tree).isSome = q at *
  unfold numsOk fitsM
  cases q <;> cases a <;> cases b <;> cases a' <;> cases b' <;> simp at h ⊢ <;> simp [Bool.and_assoc]

set_option maxRecDepth 100000 in
set_option maxHeartbeats 4000000 in
theorem rmayC_any {w : World} (A : Option Addr) (c : Nat) (B : Option Addr) (d : Nat) (C : ClsM) (h : IsCls w A B C) (ha : C.args.length * 8 ≤ 140737488351232) :
    Calls Try.prog 30 #[clsV A c B d C] w fun e w' => e = .returned (.bool (mayC C)) ∧ Below w.heap.size w w' := by
  rw [mayC_ref]
  have hb0 : Below w.heap.size w (w.alloc (clsO A c B d C)) := (Below.refl _ _).alloc (Nat.le_refl _) _
  have hbox : (w.alloc (clsO A c B d C)).heap[w.heap.size]? = some (clsO A c B d C) := blk_new _ _
  obtain ⟨sP, p0, p1, p2, p3, p4⟩ := cls_at hbox
  have hnw := fun W (hb : Below w.heap.size w W) => rnew_any (w := W) A c C.tree (h.tree.below hb)
  have HC := Lib.hid h
  have haI : (C.args.length : Int) ≤ 17592186043904 := by omega
  clear h hbox
  cases hnew : newR C.tree with
  | none =>
    have hnw : ∀ W, Below w.heap.size w W → Calls Try.prog 98 #[.slice A C.tree.length c] W fun e w' => e = .returned (.tuple #[.pointer none, .int .i64 11]) ∧ Below W.heap.size W w' := fun W hb => by have := hnw W hb; rw [hnew] at this; exact this
    simp only [Option.isSome_none, Bool.false_and]
    clear hnew
    go_enter Try.func30, Try.ntmps30
    go_wp2_with ((go_at_call 98; ((with_reducible refine (hnw _ hb0).mono ?_); rintro e w1 ⟨rfl, hb1⟩)); have s1l : Bel w w1 := Bel.call hb1)
    go_ret
    exact ⟨rfl, s1l.out⟩
  | some T =>
    have hnw : ∀ W, Below w.heap.size w W → Calls Try.prog 98 #[.slice A C.tree.length c] W fun e w' => ∃ g, e = .returned (.tuple #[.pointer (some ⟨g, 0, none⟩), .int .i64 0]) ∧ Below W.heap.size W w' := fun W hb => by
      have := hnw W hb; rw [hnew] at this; exact this.mono fun e w' ⟨h1, _, h3⟩ => ⟨_, h1, h3⟩
    have ht8 : C.tree.length ≤ 8 := by
      unfold newR at hnew
      split at hnew
      · cases hnew
      · omega
    have hf := fun W (hb : Below w.heap.size w W) => rfiles_any (w := W) A c B d C (HC.out.below hb) (by omega) (by omega)
    have hcp := fun W (hb : Below w.heap.size w W) => rcaps_any (w := W) A c B d C (HC.out.below hb) (by omega) (by omega)
    unfold PostInts at hcp
    simp only [Option.isSome_some, Bool.true_and]
    have htI : (C.tree.length : Int) ≤ 8 := by omega
    clear hnew
    by_cases h4 : 4 < nfiles C
    · have h4I : (4 : Int) < nfiles C := by omega
      rw [decide_eq_false (by omega)]
      simp only [Bool.false_and]
      clear h4
      go_enter Try.func30, Try.ntmps30
      go_wp2_with (first | ((go_at_call 98; ((with_reducible refine (hnw _ hb0).mono ?_); rintro e w1 ⟨g, rfl, hb1⟩)); have s1l : Bel w w1 := Bel.call hb1; have s1p : SameB (w.alloc (clsO A c B d C)) w1 w.heap.size := SameB.call hb1 _) | ((go_at_call 99; ((with_reducible refine (hf _ s1l.out).mono ?_); rintro e w2 ⟨rfl, hb2⟩)); have s2l : Bel w w2 := Bel.call hb2; have s2p : SameB (w.alloc (clsO A c B d C)) w2 w.heap.size := SameB.call hb2 _))
      go_ret
      exact ⟨rfl, s2l.out⟩
    have h4I : ¬ (4 : Int) < nfiles C := by omega
    rw [decide_eq_true (by omega : nfiles C ≤ 4), Bool.true_and]
    by_cases h2 : 2 < C.args.length
    · have h2I : (2 : Int) < C.args.length := by omega
      rw [decide_eq_false (by omega : ¬ C.args.length ≤ 2)]
      simp only [Bool.false_and]
      clear h4 h2
      go_enter Try.func30, Try.ntmps30
      go_wp2_with (first | ((go_at_call 98; ((with_reducible refine (hnw _ hb0).mono ?_); rintro e w1 ⟨g, rfl, hb1⟩)); have s1l : Bel w w1 := Bel.call hb1; have s1p : SameB (w.alloc (clsO A c B d C)) w1 w.heap.size := SameB.call hb1 _) | ((go_at_call 99; ((with_reducible refine (hf _ s1l.out).mono ?_); rintro e w2 ⟨rfl, hb2⟩)); have s2l : Bel w w2 := Bel.call hb2; have s2p : SameB (w.alloc (clsO A c B d C)) w2 w.heap.size := SameB.call hb2 _))
      go_ret
      exact ⟨rfl, s2l.out⟩
    have h2I : ¬ (2 : Int) < C.args.length := by omega
    rw [decide_eq_true (by omega : C.args.length ≤ 2), Bool.true_and]
    cases hnum : numsOk C with
    | false =>
      simp only [Bool.false_and]
      have hcase : (C.calls < 0) ∨ (0 ≤ C.calls ∧ 6 < C.calls) ∨ (0 ≤ C.calls ∧ C.calls ≤ 6 ∧ C.fails < 0) ∨ (0 ≤ C.calls ∧ C.calls ≤ 6 ∧ 0 ≤ C.fails ∧ C.calls < C.fails) ∨
          (0 ≤ C.calls ∧ C.calls ≤ 6 ∧ 0 ≤ C.fails ∧ C.fails ≤ C.calls ∧ C.fuel < 0) ∨ (0 ≤ C.calls ∧ C.calls ≤ 6 ∧ 0 ≤ C.fails ∧ C.fails ≤ C.calls ∧ 0 ≤ C.fuel ∧ 400 < C.fuel) := by
        have hn : ¬ (0 ≤ C.calls ∧ C.calls ≤ 6 ∧ 0 ≤ C.fails ∧ C.fails ≤ C.calls ∧ 0 ≤ C.fuel ∧ C.fuel ≤ 400) := fun ⟨a1, a2, a3, a4, a5, a6⟩ => by
          simp [numsOk, a1, a2, a3, a4, a5, a6] at hnum
        omega
      clear hnum h4 h2
      rcases hcase with a1 | ⟨a1, a2⟩ | ⟨a1, a2, a3⟩ | ⟨a1, a2, a3, a4⟩ | ⟨a1, a2, a3, a4, a5⟩ | ⟨a1, a2, a3, a4, a5, a6⟩
      all_goals
        go_enter Try.func30, Try.ntmps30
        go_wp2_with (first | ((go_at_call 98; ((with_reducible refine (hnw _ hb0).mono ?_); rintro e w1 ⟨g, rfl, hb1⟩)); have s1l : Bel w w1 := Bel.call hb1; have s1p : SameB (w.alloc (clsO A c B d C)) w1 w.heap.size := SameB.call hb1 _) | ((go_at_call 99; ((with_reducible refine (hf _ s1l.out).mono ?_); rintro e w2 ⟨rfl, hb2⟩)); have s2l : Bel w w2 := Bel.call hb2; have s2p : SameB (w.alloc (clsO A c B d C)) w2 w.heap.size := SameB.call hb2 _))
        go_ret
        exact ⟨rfl, s2l.out⟩
    | true =>
      simp only [Bool.true_and]
      obtain ⟨a1, a2, a3, a4, a5, a6⟩ : 0 ≤ C.calls ∧ C.calls ≤ 6 ∧ 0 ≤ C.fails ∧ C.fails ≤ C.calls ∧ 0 ≤ C.fuel ∧ C.fuel ≤ 400 := by
        simp only [numsOk, Bool.and_eq_true, decide_eq_true_eq] at hnum
        obtain ⟨⟨⟨⟨⟨b1, b2⟩, b3⟩, b4⟩, b5⟩, b6⟩ := hnum
        exact ⟨b1, b2, b3, b4, b5, b6⟩
      generalize hres : (C.tree.all dirOk && (capsM C).all fun n => fitsM n 3) = res
      have HR := Lib.hid hres
      clear hnum h4 h2 hres
      go_enter Try.func30, Try.ntmps30
      go_wp2_with (first | ((go_at_call 98; ((with_reducible refine (hnw _ hb0).mono ?_); rintro e w1 ⟨g, rfl, hb1⟩)); have s1l : Bel w w1 := Bel.call hb1; have s1p : SameB (w.alloc (clsO A c B d C)) w1 w.heap.size := SameB.call hb1 _) | ((go_at_call 99; ((with_reducible refine (hf _ s1l.out).mono ?_); rintro e w2 ⟨rfl, hb2⟩)); have s2l : Bel w w2 := Bel.call hb2; have s2p : SameB (w.alloc (clsO A c B d C)) w2 w.heap.size := SameB.call hb2 _))
      have hbx2 : w2.heap[w.heap.size]? = some (clsO A c B d C) := s2p.blk.trans (blk_new _ _)
      have HX2 := Lib.hid hbx2
      have HB2 := Lib.hid s2l.out
      obtain ⟨sP2, r0, r1, _, _, _⟩ := cls_at hbx2
      clear hbx2 hf hnw p0 p1 p2 p3 p4 a1 a2 a3 a4 a5 a6
      go_loopw [5] (fun x wr => ∃ k : Nat, x = .int .i64 k ∧ k ≤ C.tree.length ∧ (C.tree.take k).all dirOk = true ∧ wr = w2) (fun x wr => C.tree.length - (intOf x).toNat)
      case atStart => exact ⟨0, rfl, Nat.zero_le _, rfl, rfl⟩
      case round =>
        obtain ⟨k, rfl, hk, hall, rfl⟩ := hrel
        by_cases hlt : k < C.tree.length
        · have hltI : (k : Int) < C.tree.length := by omega
          obtain ⟨x, hx⟩ : ∃ x, C.tree[k]? = some x := ⟨C.tree[k], List.getElem?_eq_getElem hlt⟩
          obtain ⟨b, off, rfl, hsb, hc⟩ := (HC.out.tree.below HB2.out).at_ hx
          have hsu : (C.tree.take (k + 1)).all dirOk = dirOk x := by rw [List.take_add_one, List.all_append, hall, hx]; simp
          have hbad : dirOk x = false → res = false := fun hxx => by
            rw [← HR.out]
            have : C.tree.all dirOk = false := by
              rw [List.all_eq_false]
              exact ⟨x, List.mem_of_getElem? hx, by simp [hxx]⟩
            rw [this]; simp
          obtain ⟨path, dir, cap⟩ := x
          have d1 : ∀ W [SameB wr W b], W.cell? ⟨b, off + k * 3 + 1, none⟩ = some (.bool dir) := fun W _ => hc W 1 _ rfl
          have d2 : ∀ W [SameB wr W b], W.cell? ⟨b, off + k * 3 + 2, none⟩ = some (.int .i64 cap) := fun W _ => hc W 2 _ rfl
          have HSU := Lib.hid hsu
          have HBAD := Lib.hid hbad
          clear hc hx hsu hbad hall
          cases dir with
          | false =>
            have HOK := Lib.hid (HSU.out.trans rfl)
            go_wp2_with fail
            go_roundw
            case rel => exact ⟨k + 1, by go_num, by omega, HSU.out.trans rfl, trivial⟩
            case measure => simp [intOf]; omega
          | true =>
            by_cases hc0 : cap = 0
            · subst hc0
              go_wp2_with fail
              go_roundw
              case rel => exact ⟨k + 1, by go_num, by omega, HSU.out.trans rfl, trivial⟩
              case measure => simp [intOf]; omega
            · have hcb : (cap != 0) = true := by simpa using hc0
              obtain rfl := HBAD.out (by simp [dirOk, hc0])
              clear hc0
              go_wp2_with fail
              go_ret
              exact ⟨rfl, HB2.out⟩
        · have hltI : ¬ (k : Int) < C.tree.length := by omega
          rw [List.take_of_length_le (by omega)] at hall
          have hr := HR.out
          rw [hall, Bool.true_and] at hr
          have HR2 := Lib.hid hr
          clear hr hall HR
          go_wp2_with ((go_at_call 31; ((with_reducible refine (hcp _ HB2.out).mono ?_); rintro e w3 ⟨v, rfl, ho3, hb3⟩)); rw [← flat_ints] at ho3; obtain ⟨A5, c5, rfl, hs5⟩ := owns_isSlN (enc := intC) (sz := 1) (fun _ => rfl) ho3)
          have hb3w : Below w.heap.size w w3 := HB2.out.trans (hb3.mono HB2.out.size)
          have hcl : (capsM C).length ≤ 20 := by rw [capsM, List.length_append, fcaps_length]; have : nfiles C ≤ C.tree.length := List.length_filter_le _ _; omega
          generalize capsM C = cs at *
          have hclI : (cs.length : Int) ≤ 20 := by omega
          have HS5 := Lib.hid hs5
          clear hs5 ho3 hcp hcl
          go_loopw [7] (fun x wr => ∃ k : Nat, x = .int .i64 k ∧ k ≤ cs.length ∧ (cs.take k).all (fun n => fitsM n 3) = true ∧ wr = w3) (fun x wr => cs.length - (intOf x).toNat)
          case atStart => exact ⟨0, rfl, Nat.zero_le _, rfl, rfl⟩
          case round =>
            obtain ⟨k2, rfl, hk2, hall, rfl⟩ := hrel
            by_cases hlt2 : k2 < cs.length
            · have hltI2 : (k2 : Int) < cs.length := by omega
              obtain ⟨x, hx⟩ : ∃ x, cs[k2]? = some x := ⟨cs[k2], List.getElem?_eq_getElem hlt2⟩
              obtain ⟨b, off, rfl, hsb, hc⟩ := HS5.out.at_ hx
              have hsu : (cs.take (k2 + 1)).all (fun n => fitsM n 3) = fitsM x 3 := by rw [List.take_add_one, List.all_append, hall, hx]; simp
              have hbad : fitsM x 3 = false → res = false := fun hxx => by
                rw [← HR2.out, List.all_eq_false]
                exact ⟨x, List.mem_of_getElem? hx, by simp [hxx]⟩
              have d0 : ∀ W [SameB wr W b], W.cell? ⟨b, off + k2, none⟩ = some (.int .i64 x) := fun W _ => by simpa using hc W 0 _ rfl
              have HSU := Lib.hid hsu
              have HBAD := Lib.hid hbad
              clear hc hx hsu hbad hall
              by_cases x0 : x < 0
              · obtain rfl := HBAD.out (by unfold fitsM; rw [decide_eq_false (by omega)]; rfl)
                go_wp2_with fail
                go_ret
                exact ⟨rfl, hb3w⟩
              · by_cases x3 : 3 < x
                · obtain rfl := HBAD.out (by unfold fitsM; rw [decide_eq_false (by omega : ¬ x ≤ 3)]; simp)
                  go_wp2_with fail
                  go_ret
                  exact ⟨rfl, hb3w⟩
                · have hok : fitsM x 3 = true := by unfold fitsM; rw [decide_eq_true (by omega), decide_eq_true (by omega)]; rfl
                  have HOK := Lib.hid (HSU.out.trans hok)
                  clear hok
                  go_wp2_with fail
                  go_roundw
                  case rel => exact ⟨k2 + 1, by go_num, by omega, HOK.out, trivial⟩
                  case measure => simp [intOf]; omega
            · have hltI2 : ¬ (k2 : Int) < cs.length := by omega
              rw [List.take_of_length_le (by omega)] at hall
              have hr := HR2.out
              rw [hall] at hr
              have HR3 := Lib.hid hr
              clear hr hall
              go_wp2_with fail
              go_ret
              exact ⟨ret_bool HR3.out, hb3w⟩
end Go.Proofs.Ytbcnfegmmhioeaa
