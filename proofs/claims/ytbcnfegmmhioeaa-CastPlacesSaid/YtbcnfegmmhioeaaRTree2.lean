/- The document's own trees: made of entries; walked. -/
import Derived.Test.YtbcnfegmmhioeaaRTree1
import Derived.Deep.RegionHeld3
namespace Go.Proofs.Ytbcnfegmmhioeaa
open Go.RowKit

theorem Try.info_item : (Try.prog.info? 256).map (fun i => (i.zero, i.size, i.bytes)) = some (some (.agg #[.string ⟨#[]⟩, .bool false, .int .i64 0]), 3, 32) := by kernel_rfl
theorem itemC_length (x : ItemM) : (itemC x).length = 3 := rfl

/-- The state of the rounds: the tree's block and its row. -/
structure StN (w W : World) (v : Value) (T : List ItemM) : Prop where
  blk : W.heap[w.heap.size]? = some (.cells #[v, .int .i64 0] 254 (0, 0))
  own : W.ownsRow (w.heap.size + 1) 256 3 v T.length (T.flatMap itemC)
  b : Below w.heap.size w W
theorem StN.call {w W W' : World} {v : Value} {T : List ItemM} (h : StN w W v T) (hb : Below W.heap.size W W') : StN w W' v T :=
  ⟨(hb.block _ (lt_of_block h.blk)).trans h.blk, ownsRow_below h.own hb, h.b.trans (hb.mono h.b.size)⟩
theorem StN.drewN {w W : World} {v : Value} {T : List ItemM} (h : StN w W v T) (n : Nat) : StN w (W.drewN n) v T :=
  ⟨h.blk, h.own, ⟨h.b.os, h.b.tape, h.b.output, h.b.size, h.b.block⟩⟩

theorem StN.push {w W W6 : World} {v : Value} {T : List ItemM} {x : ItemM} {A : Option Addr} {c : Nat} (h : StN w W v T) (ho : W6.ownsRow (w.heap.size + 1) 256 3 (.slice A (T.length + 1) c) (T.length + [x].length) (T.flatMap itemC ++ [x].flatMap itemC))
    (hb : Below (w.heap.size + 1) W W6) : StN w (W6.setCell ⟨w.heap.size, 0, none⟩ (.slice A (T.length + 1) c)) (.slice A (T.length + 1) c) (T ++ [x]) := by
  have hB : W6.heap[w.heap.size]? = some (.cells #[v, .int .i64 0] 254 (0, 0)) := (hb.block _ (Nat.lt_succ_self _)).trans h.blk
  refine ⟨?_, ?_, (h.b.trans (hb.mono (Nat.le_succ _))).setCell (p := ⟨w.heap.size, 0, none⟩) (Nat.le_refl _) _⟩
  · rw [heap_setCell_same _ _ _ _ _ _ hB]; rfl
  · rw [List.length_append, List.flatMap_append]
    exact ownsRow_other ho (by show w.heap.size < w.heap.size + 1; omega) _

theorem below_drewN {B : Nat} {a w : World} (h : Below B a w) (n : Nat) : Below B a (w.drewN n) := ⟨h.os, h.tape, h.output, h.size, h.block⟩

def PostRT (w : World) (r : Option (List ItemM)) (n : Nat) (e : Ending) (w' : World) : Prop :=
  match r with
  | some T => e = .returned (.tuple #[.pointer (some ⟨w.heap.size, 0, none⟩), .int .i64 0]) ∧ IsRT w' (w.heap.size + 1) w.heap.size T n ∧ Below w.heap.size w w'
  | none => e = .returned (.tuple #[.pointer none, .int .i64 11]) ∧ Below w.heap.size w w'
theorem PostRT.no {w W : World} {r : Option (List ItemM)} {n : Nat} (h : r = none) (hb : Below w.heap.size w W) : PostRT w r n (.returned (.tuple #[.pointer none, .int .i64 11])) W := by subst h; exact ⟨rfl, hb⟩
theorem PostRT.yes {w W : World} {r : Option (List ItemM)} {n : Nat} {T : List ItemM} (h : r = some T) (hT : IsRT W (w.heap.size + 1) w.heap.size T n) (hb : Below w.heap.size w W) : PostRT w r n (.returned (.tuple #[.pointer (some ⟨w.heap.size, 0, none⟩), .int .i64 0])) W := by
  subst h; exact ⟨rfl, hT, hb⟩

set_option maxRecDepth 100000 in
set_option maxHeartbeats 4000000 in
theorem rnew_any {w : World} (A : Option Addr) (c : Nat) (l : List EntM) (hA : IsSl 3 entC w A l) :
    Calls Try.prog 98 #[.slice A l.length c] w (PostRT w (newR l) l.length) := by
  generalize hr : newR l = r
  unfold newR at hr
  have HA := Lib.hid hA
  clear hA
  by_cases h8 : 8 < l.length
  · rw [if_pos h8] at hr
    have HR := Lib.hid hr
    have h8I : (8 : Int) < l.length := by omega
    clear h8 hr
    go_enter Try.func98, Try.ntmps98
    go_wp2_with fail
    go_ret2
    exact PostRT.no HR.out.symm bel
  rw [if_neg h8] at hr
  have HR := Lib.hid hr
  have h8I : ¬ (8 : Int) < l.length := by omega
  have hst : StN w (w.alloc (.cells #[.slice none 0 0, .int .i64 0] 254)) (.slice none 0 0) [] := ⟨blk_new _ _, World.ownsRow_nil _ _ _ _, (Below.refl _ _).alloc (Nat.le_refl _) _⟩
  have HST := Lib.hid hst
  clear hr hst
  go_enter Try.func98, Try.ntmps98
  go_wp2_with fail
  go_loopw [5] (fun x wr => ∃ (T : List ItemM) (v : Value), x = .int .i64 T.length ∧ T.length ≤ l.length ∧ newRF [] l = newRF T (l.drop T.length) ∧ StN w wr v T) (fun x wr => l.length - (intOf x).toNat)
  case atStart => exact ⟨[], _, rfl, Nat.zero_le _, rfl, HST⟩
  case round =>
    obtain ⟨T, v, rfl, hk, hfold, hS⟩ := hrel
    obtain ⟨w1, rfl⟩ : ∃ v, v = wr := ⟨wr, rfl⟩
    by_cases hlt : T.length < l.length
    · have hltI : (T.length : Int) < l.length := by omega
      obtain ⟨x, hx⟩ : ∃ x, l[T.length]? = some x := ⟨l[T.length], List.getElem?_eq_getElem hlt⟩
      have hdrop : l.drop T.length = x :: l.drop (T.length + 1) := by
        rw [List.drop_eq_getElem_cons hlt]
        rw [List.getElem?_eq_getElem hlt] at hx
        rw [Option.some.inj hx]
      rw [hdrop, newRF] at hfold
      obtain ⟨b, off, rfl, hsb, hc⟩ := (HA.out.below hS.b).at_ hx
      obtain ⟨path, dir, cap⟩ := x
      have d0 : ∀ W [SameB w1 W b], W.cell? ⟨b, off + T.length * 3, none⟩ = some (.string path) := fun W _ => by simpa using hc W 0 _ rfl
      have d1 : ∀ W [SameB w1 W b], W.cell? ⟨b, off + T.length * 3 + 1, none⟩ = some (.bool dir) := fun W _ => hc W 1 _ rfl
      have hnm := fun W => rname_any path W
      have hsp := fun W => rsplit_any path W
      have HF := Lib.hid hfold
      have HS := Lib.hid hS
      have hbad : okR T ⟨path, dir, cap⟩ = false → r = none := fun h => by
        rw [← HR.out, HF.out, h]; rfl
      have HBAD := Lib.hid hbad
      clear hc hx hdrop hfold hS hbad
      cases hn : nameB path with
      | false =>
        rw [hn] at hnm
        have hr := HBAD.out (by simp [okR, hn])
        have HR2 := Lib.hid hr
        clear hr hn
        go_wp2_with ((go_at_call 94; ((with_reducible refine (hnm _).mono ?_); rintro e w2 ⟨rfl, hb2⟩)); have hS2 := HS.out.call hb2; have HS2 := Lib.hid hS2; clear hS2)
        go_ret2
        exact PostRT.no HR2.out HS2.out.b
      | true =>
        rw [hn] at hnm
        obtain ⟨A1, c1, rfl, hsl⟩ := owns_isSlN itemC_length HS.out.own
        have hat : ∀ W, Below w1.heap.size w1 W → ∀ s, Calls Try.prog 171 #[.pointer (some ⟨w.heap.size, 0, none⟩), .string s] W fun e w' => e = .returned (.int .i64 (atI T s)) ∧ w' = W := fun W h s =>
          at_any w.heap.size A1 c1 T 0 (HS.out.call h).blk (hsl.below h) (by omega) s
        have hlook := atI_look T path
        have hlook2 := atI_look T (splitS path).1
        have hok : okR T ⟨path, dir, cap⟩ = ((lookR T path).isNone && (decide ((splitS path).1 = E0) || (!dir && match lookR T (splitS path).1 with | some e => e.1 | none => false))) := by unfold okR; simp only [hn, Bool.true_and]; rfl
        have HOK := Lib.hid hok
        have hz1 : w.heap.size < w1.heap.size := lt_of_block HS.out.blk
        clear hok hn
        cases hl : lookR T path with
        | some e =>
          have hr := HBAD.out (by rw [HOK.out, hl]; rfl)
          have HR2 := Lib.hid hr
          obtain ⟨i, hi, _⟩ := hlook.2 e hl
          have hat1 := fun W h => hat W h path
          rw [hi] at hat1
          have hiI : (0 : Int) ≤ i := by omega
          clear hr hl hlook hlook2 hi hat
          go_wp2_with (first | ((go_at_call 94; ((with_reducible refine (hnm _).mono ?_); rintro e w2 ⟨rfl, hb2⟩)); have s2b : SameB w1 w2 b := SameB.call hb2 _) | ((go_at_call 171; ((with_reducible refine (hat1 _ hb2).mono ?_); rintro e w3 ⟨rfl, rfl⟩))))
          go_ret2
          exact PostRT.no HR2.out (HS.out.call hb2).b
        | none =>
          have hm1 := hlook.1.1 hl
          have hat1 := fun W h => hat W h path
          rw [hm1] at hat1
          have hok := HOK.out
          rw [hl] at hok
          simp only [Option.isNone_none, Bool.true_and] at hok
          have HOK2 := Lib.hid hok
          clear hok hl hlook hm1 HOK
          generalize splitS path = sp at *
          obtain ⟨d, lst⟩ := sp
          simp only at hsp hlook2 HOK2
          have hat2 := fun W h => hat W h d
          have hgcell : ∀ W, Below w1.heap.size w1 W → W.cell? ⟨w.heap.size, 0, none⟩ = some (.slice A1 T.length c1) := fun W h => blk_cell (HS.out.call h).blk 0
          have HGC := Lib.hid hgcell
          clear hat hgcell
          by_cases hd : d = E0
          · have b1 := emp_true hd
            have hok := HOK2.out
            rw [decide_eq_true hd, Bool.true_or] at hok
            have hf := HF.out
            rw [hok] at hf
            simp only [if_true] at hf
            have HF2 := Lib.hid hf
            clear hd hok hf
            go_wp2_with (first | ((go_at_call 94; ((with_reducible refine (hnm _).mono ?_); rintro e w2 ⟨rfl, hb2⟩)); have s2b : SameB w1 w2 b := SameB.call hb2 _) | ((go_at_call 171; ((with_reducible refine (hat1 _ hb2).mono ?_); rintro e w3 ⟨rfl, rfl⟩))) | ((go_at_call 172; ((with_reducible refine (hsp _).mono ?_); rintro e w4 ⟨rfl, hb4⟩)); have s4b : SameB w1 w4 b := SameB.call hb4 _))
            have hb14 : Below w1.heap.size w1 w4 := hb2.trans (hb4.mono hb2.size)
            go_quiet (fail)
            go_wp2_with fail
            have hb15 : Below w1.heap.size w1 (w4.drewN nq) := below_drewN hb14 nq
            generalize w4.drewN nq = w5 at *
            have s5b : SameB w1 w5 b := SameB.call hb15 _
            have hS5 := HS.out.call hb15
            have hlt5 : w.heap.size < w5.heap.size := lt_of_block hS5.blk
            have s5g : SameB w5 w5 w.heap.size := SameB.self hlt5
            have g0 : ∀ W [SameB w5 W w.heap.size], W.cell? ⟨w.heap.size, 0, none⟩ = some (.slice A1 T.length c1) := fun W _ => SameB.cell (blk_cell hS5.blk 0)
            have gf : ∀ W [SameB w5 W w.heap.size], W.frozen? ⟨w.heap.size, 0, none⟩ = false := fun W _ => SameB.free (blk_free hS5.blk 0)
            have HS5 := Lib.hid hS5
            clear hsp hnm hat1 hat2 hS5
            go_region_law (refine step_appN (enc := itemC) _ (by rfl) (.tmp 77) (.tmp 90) 252 (by rfl) (w.heap.size + 1) 256 Try.underlying252 Try.info_item rfl (by decide) (.slice A1 T.length c1) T.length (T.flatMap itemC) (by rfl) (ownsRow_below HS5.out.own (((Below.refl _ _).alloc (Nat.le_refl _) _).drew)) (some ⟨w5.heap.size, 0, none⟩) 1 [(path, dir, (T.length : Int))] (by rfl) (isSl_flatN itemC_length [(path, dir, (T.length : Int))] (blk_drew (blk_new w5 _))) itemC_length (fun x u hu => by simp [itemC] at hu; rcases hu with rfl | rfl | rfl <;> rfl) (by simp; omega) (by simp; omega) (by simp; omega) (by intro h; cases h) ?_; intro v6 w6 ho6 hb6; obtain ⟨A6, c6, rfl⟩ := owns_slice ho6; have s6g : SameB w5 w6 w.heap.size := ⟨(hb6.block _ (Nat.lt_succ_self _)).trans (Below.heap_alloc w5 _ _ hlt5), hlt5, Nat.le_trans (by simp) hb6.size⟩)
            all_goals go_wp2_with fail
            all_goals
              go_roundw
              case rel => exact ⟨T ++ [(path, dir, (T.length : Int))], _, by simp, by simp; omega, by rw [List.length_append]; exact HF2.out, HS5.out.push ho6 ((((Below.refl _ _).alloc (by omega) _).drew).trans hb6)⟩
              case measure => simp [intOf]; omega
          · have b1 := emp_false hd
            have hok := HOK2.out
            rw [decide_eq_false hd, Bool.false_or] at hok
            have HOK3 := Lib.hid hok
            clear hd hok HOK2
            have hg0 : ∀ W, Below w1.heap.size w1 W → ∀ V [SameB W V w.heap.size], V.cell? ⟨w.heap.size, 0, none⟩ = some (.slice A1 T.length c1) := fun W h V _ => SameB.cell (w := W) (blk_cell (HS.out.call h).blk 0)
            have HG0 := Lib.hid hg0
            clear hg0
            cases dir with
            | true =>
              have hr := HBAD.out (by rw [HOK3.out]; rfl)
              have HR2 := Lib.hid hr
              clear hr
              go_wp2_with (first | ((go_at_call 94; ((with_reducible refine (hnm _).mono ?_); rintro e w2 ⟨rfl, hb2⟩)); have s2b : SameB w1 w2 b := SameB.call hb2 _) | ((go_at_call 171; ((with_reducible refine (hat1 _ hb2).mono ?_); rintro e w3 ⟨rfl, rfl⟩))) | ((go_at_call 172; ((with_reducible refine (hsp _).mono ?_); rintro e w4 ⟨rfl, hb4⟩)); have s4b : SameB w1 w4 b := SameB.call hb4 _))
              have hb14 : Below w1.heap.size w1 w4 := hb2.trans (hb4.mono hb2.size)
              go_quiet (fail)
              go_wp2_with fail
              go_ret2
              exact PostRT.no HR2.out (HS.out.call (below_drewN hb14 _)).b
            | false =>
              cases hld : lookR T d with
              | none =>
                have hr := HBAD.out (by rw [HOK3.out, hld]; rfl)
                have HR2 := Lib.hid hr
                rw [hlook2.1.1 hld] at hat2
                clear hr hld hlook2
                go_wp2_with (first | ((go_at_call 94; ((with_reducible refine (hnm _).mono ?_); rintro e w2 ⟨rfl, hb2⟩)); have s2b : SameB w1 w2 b := SameB.call hb2 _) | ((go_at_call 171; ((with_reducible refine (hat1 _ hb2).mono ?_); rintro e w3 ⟨rfl, rfl⟩))) | ((go_at_call 172; ((with_reducible refine (hsp _).mono ?_); rintro e w4 ⟨rfl, hb4⟩)); have s4b : SameB w1 w4 b := SameB.call hb4 _))
                have hb14 : Below w1.heap.size w1 w4 := hb2.trans (hb4.mono hb2.size)
                go_quiet ((go_at_call 171; exact Calls.quiet_of_same (hat2 _ (below_drewN hb14 _))))
                go_wp2_with fail
                go_ret2
                exact PostRT.no HR2.out (HS.out.call (below_drewN hb14 _)).b
              | some e =>
                obtain ⟨ed, ei⟩ := e
                obtain ⟨i, hi, p, hp⟩ := hlook2.2 _ hld
                rw [hi] at hat2
                have hil := (List.getElem?_eq_some_iff.1 hp).1
                have hiI : (i : Int) < T.length := by omega
                have hi0 : (0 : Int) ≤ i := by omega
                obtain ⟨ab, ao, rfl, sab, hic⟩ := hsl.at_ hp
                have di : ∀ W [SameB w1 W ab], W.cell? ⟨ab, ao + i * 3 + 1, none⟩ = some (.bool ed) := fun W _ => hic W 1 _ rfl
                cases ed with
                | false =>
                  have hr := HBAD.out (by rw [HOK3.out, hld]; rfl)
                  have HR2 := Lib.hid hr
                  clear hr hld hlook2 hi hp hic
                  go_wp2_with (first | ((go_at_call 94; ((with_reducible refine (hnm _).mono ?_); rintro e w2 ⟨rfl, hb2⟩)); have s2b : SameB w1 w2 b := SameB.call hb2 _; have s2ab : SameB w1 w2 ab := SameB.call hb2 _) | ((go_at_call 171; ((with_reducible refine (hat1 _ hb2).mono ?_); rintro e w3 ⟨rfl, rfl⟩))) | ((go_at_call 172; ((with_reducible refine (hsp _).mono ?_); rintro e w4 ⟨rfl, hb4⟩)); have s4b : SameB w1 w4 b := SameB.call hb4 _; have s4ab : SameB w1 w4 ab := SameB.call hb4 _))
                  have hb14 : Below w1.heap.size w1 w4 := hb2.trans (hb4.mono hb2.size)
                  have g4 := HG0.out w4 hb14
                  have s4g : SameB w4 w4 w.heap.size := SameB.self (lt_of_block (HS.out.call hb14).blk)
                  go_quiet ((go_at_call 171; exact Calls.quiet_of_same (hat2 _ (below_drewN hb14 _))))
                  go_wp2_with fail
                  go_ret2
                  exact PostRT.no HR2.out (HS.out.call (below_drewN hb14 _)).b
                | true =>
                  have hf := HF.out
                  rw [HOK3.out, hld] at hf
                  simp only [Bool.not_false, Bool.true_and, if_true] at hf
                  have HF2 := Lib.hid hf
                  clear hf hld hlook2 hi hp hic
                  go_wp2_with (first | ((go_at_call 94; ((with_reducible refine (hnm _).mono ?_); rintro e w2 ⟨rfl, hb2⟩)); have s2b : SameB w1 w2 b := SameB.call hb2 _; have s2ab : SameB w1 w2 ab := SameB.call hb2 _) | ((go_at_call 171; ((with_reducible refine (hat1 _ hb2).mono ?_); rintro e w3 ⟨rfl, rfl⟩))) | ((go_at_call 172; ((with_reducible refine (hsp _).mono ?_); rintro e w4 ⟨rfl, hb4⟩)); have s4b : SameB w1 w4 b := SameB.call hb4 _; have s4ab : SameB w1 w4 ab := SameB.call hb4 _))
                  have hb14 : Below w1.heap.size w1 w4 := hb2.trans (hb4.mono hb2.size)
                  have g4 := HG0.out w4 hb14
                  have s4g : SameB w4 w4 w.heap.size := SameB.self (lt_of_block (HS.out.call hb14).blk)
                  go_quiet ((go_at_call 171; exact Calls.quiet_of_same (hat2 _ (below_drewN hb14 _))))
                  go_wp2_with fail
                  clear g4 s4g s4ab di sab
                  have hb15 : Below w1.heap.size w1 (w4.drewN nq) := below_drewN hb14 nq
                  generalize w4.drewN nq = w5 at *
                  have s5b : SameB w1 w5 b := SameB.call hb15 _
                  have hS5 := HS.out.call hb15
                  have hlt5 : w.heap.size < w5.heap.size := lt_of_block hS5.blk
                  have s5g : SameB w5 w5 w.heap.size := SameB.self hlt5
                  have g0 : ∀ W [SameB w5 W w.heap.size], W.cell? ⟨w.heap.size, 0, none⟩ = some (.slice (some ⟨ab, ao, none⟩) T.length c1) := fun W _ => SameB.cell (blk_cell hS5.blk 0)
                  have gf : ∀ W [SameB w5 W w.heap.size], W.frozen? ⟨w.heap.size, 0, none⟩ = false := fun W _ => SameB.free (blk_free hS5.blk 0)
                  have HS5 := Lib.hid hS5
                  clear hsp hnm hat1 hat2 hS5
                  go_region_law (refine step_appN (enc := itemC) _ (by rfl) (.tmp 77) (.tmp 90) 252 (by rfl) (w.heap.size + 1) 256 Try.underlying252 Try.info_item rfl (by decide) (.slice (some ⟨ab, ao, none⟩) T.length c1) T.length (T.flatMap itemC) (by rfl) (ownsRow_below HS5.out.own (((Below.refl _ _).alloc (Nat.le_refl _) _).drew)) (some ⟨w5.heap.size, 0, none⟩) 1 [(path, false, (T.length : Int))] (by rfl) (isSl_flatN itemC_length [(path, false, (T.length : Int))] (blk_drew (blk_new w5 _))) itemC_length (fun x u hu => by simp [itemC] at hu; rcases hu with rfl | rfl | rfl <;> rfl) (by simp; omega) (by simp; omega) (by simp; omega) (by intro h; cases h) ?_; intro v6 w6 ho6 hb6; obtain ⟨A6, c6, rfl⟩ := owns_slice ho6; have s6g : SameB w5 w6 w.heap.size := ⟨(hb6.block _ (Nat.lt_succ_self _)).trans (Below.heap_alloc w5 _ _ hlt5), hlt5, Nat.le_trans (by simp) hb6.size⟩)
                  all_goals go_wp2_with fail
                  all_goals
                    go_roundw
                    case rel => exact ⟨T ++ [(path, false, (T.length : Int))], _, by simp, by simp; omega, by rw [List.length_append]; exact HF2.out, HS5.out.push ho6 ((((Below.refl _ _).alloc (by omega) _).drew).trans hb6)⟩
                    case measure => simp [intOf]; omega
    · have hltI : ¬ (T.length : Int) < l.length := by omega
      have hle : T.length = l.length := by omega
      rw [hle, List.drop_eq_nil_of_le (Nat.le_refl _), newRF] at hfold
      have hr := HR.out
      rw [hfold] at hr
      have hc1 : ∀ W [SameB w1 W w.heap.size], W.cell? ⟨w.heap.size, 1, none⟩ = some (.int .i64 0) := fun W _ => SameB.cell (blk_cell hS.blk 1)
      have hf1 : ∀ W [SameB w1 W w.heap.size], W.frozen? ⟨w.heap.size, 1, none⟩ = false := fun W _ => SameB.free (blk_free hS.blk 1)
      have sG : SameB w1 w1 w.heap.size := SameB.self (lt_of_block hS.blk)
      have hfin : IsRT (w1.setCell ⟨w.heap.size, 1, none⟩ (.int .i64 l.length)) (w.heap.size + 1) w.heap.size T l.length ∧ Below w.heap.size w (w1.setCell ⟨w.heap.size, 1, none⟩ (.int .i64 l.length)) := by
        refine ⟨⟨v, ?_, ?_⟩, hS.b.setCell (p := ⟨w.heap.size, 1, none⟩) (Nat.le_refl _) _⟩
        · rw [heap_setCell_same _ _ _ _ _ _ hS.blk]; rfl
        · exact ownsRow_other hS.own (by show w.heap.size < w.heap.size + 1; omega) _
      have HFI := Lib.hid hfin
      have HR2 := Lib.hid hr
      clear hr hfold hS hfin
      go_wp2_with fail
      go_ret2
      exact PostRT.yes HR2.out.symm HFI.out.1 HFI.out.2
end Go.Proofs.Ytbcnfegmmhioeaa
