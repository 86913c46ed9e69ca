/- Package class: which classes may be, walked. -/
import Derived.Test.YtbcnfegmmhioeaaCls1
import Derived.Test.YtbcnfegmmhioeaaTree6
namespace Go.Proofs.Ytbcnfegmmhioeaa
open Go.RowKit

def treeOk (x : EntM) : Bool := fitsM x.cap 3 && !(x.dir && x.cap != 0)

set_option maxRecDepth 100000 in
set_option maxHeartbeats 2000000 in
theorem cmay_any {w : World} (A : Option Addr) (c : Nat) (B : Option Addr) (d : Nat) (C : ClsM) (h : IsCls w A B C) (hl : C.tree.length ≤ 1000) (ha : C.args.length ≤ 1000) (hp : ∀ x ∈ C.tree, x.path.size ≤ 1000000) :
    Calls Try.prog 101 #[clsV A c B d C] w fun e w' => e = .returned (.bool (mayC C)) ∧ Below w.heap.size w w' := by
  have hf := fun W (hb : Below w.heap.size w W) => files_any (w := W) A c B d C (h.below hb) hl
  have hb0 : Below w.heap.size w (w.alloc (clsO A c B d C)) := (Below.refl _ _).alloc (Nat.le_refl _) _
  have hbox : (w.alloc (clsO A c B d C)).heap[w.heap.size]? = some (clsO A c B d C) := blk_new _ _
  obtain ⟨sP, p0, p1, p2, p3, p4⟩ := cls_at hbox
  have hno := fun W (hb : Below w.heap.size w W) => new_no (w := W) A c C.tree (h.tree.below hb) (by omega) hp
  have hex := fun W L nx (hb : Below w.heap.size w W) => new_ex (w := W) A c C.tree L nx (h.tree.below hb) (by omega) hp
  have HC := Lib.hid h
  clear h hbox
  unfold PostNats at hf
  rw [filesM_length] at hf
  have hlI : (C.tree.length : Int) ≤ 1000 := by omega
  have haI : (C.args.length : Int) ≤ 1000 := by omega
  cases hnew : newM C.tree with
  | none =>
    have hr : mayC C = false := by simp [mayC, hnew]
    have hno := fun W hb => hno W hb hnew
    rw [hr]
    clear hex hnew hr hf
    go_enter Try.func101, Try.ntmps101
    go_wp2_with ((go_at_call 17; ((with_reducible refine (hno _ hb0).mono ?_); rintro e w1 ⟨rfl, hb1⟩)); have s1l : Bel w w1 := Bel.call hb1)
    go_ret
    exact ⟨rfl, s1l.out⟩
  | some Ln =>
    obtain ⟨L, nx⟩ := Ln
    have hex := fun W hb => hex W L nx hb hnew
    have HM := Lib.hid (show mayC C = (decide (nfiles C ≤ 4) && decide (C.args.length ≤ 2) && C.tree.all treeOk && C.args.all (fun n => fitsM n 3) && fitsM C.calls 6 && fitsM C.fails C.calls && fitsM C.fuel 400) by unfold mayC; rw [hnew]; rfl)
    clear hno hnew
    by_cases h4 : 4 < nfiles C
    · have hr : mayC C = false := by rw [HM.out, decide_eq_false (by omega)]; simp
      have h4I : (4 : Int) < nfiles C := by omega
      rw [hr]
      clear hr HM h4
      go_enter Try.func101, Try.ntmps101
      go_wp2_with (first | ((go_at_call 17; ((with_reducible refine (hex _ hb0).mono ?_); rintro e w1 ⟨g, b, rfl, hg, hbb, hT, hb1⟩)); have s1l : Bel w w1 := Bel.call hb1; have s1p : SameB (w.alloc (clsO A c B d C)) w1 w.heap.size := SameB.call hb1 _; clear hT) | ((go_at_call 108; ((with_reducible refine (hf _ s1l.out).mono ?_); rintro e w2 ⟨v, rfl, ho2, hb2⟩)); have s2l : Bel w w2 := Bel.call hb2; obtain ⟨A5, c5, rfl⟩ : ∃ A5 c5, v = .slice A5 (nfiles C) c5 := owns_slice ho2))
      go_ret
      exact ⟨rfl, s2l.out⟩
    have h4I : ¬ (4 : Int) < nfiles C := by omega
    by_cases h2 : 2 < C.args.length
    · have hr : mayC C = false := by rw [HM.out, decide_eq_false (by omega : ¬ C.args.length ≤ 2)]; simp
      have h2I : (2 : Int) < C.args.length := by omega
      rw [hr]
      clear hr HM h4 h2
      go_enter Try.func101, Try.ntmps101
      go_wp2_with (first | ((go_at_call 17; ((with_reducible refine (hex _ hb0).mono ?_); rintro e w1 ⟨g, b, rfl, hg, hbb, hT, hb1⟩)); have s1l : Bel w w1 := Bel.call hb1; have s1p : SameB (w.alloc (clsO A c B d C)) w1 w.heap.size := SameB.call hb1 _; clear hT) | ((go_at_call 108; ((with_reducible refine (hf _ s1l.out).mono ?_); rintro e w2 ⟨v, rfl, ho2, hb2⟩)); have s2l : Bel w w2 := Bel.call hb2; have s2p : SameB (w.alloc (clsO A c B d C)) w2 w.heap.size := SameB.call hb2 _; obtain ⟨A5, c5, rfl⟩ : ∃ A5 c5, v = .slice A5 (nfiles C) c5 := owns_slice ho2))
      go_ret
      exact ⟨rfl, s2l.out⟩
    have h2I : ¬ (2 : Int) < C.args.length := by omega
    have hm := HM.out
    rw [decide_eq_true (by omega : nfiles C ≤ 4), decide_eq_true (by omega : C.args.length ≤ 2), Bool.true_and, Bool.true_and] at hm
    have HM2 := Lib.hid hm
    clear hm HM h4 h2
    generalize hres : mayC C = res at *
    clear hres
    go_enter Try.func101, Try.ntmps101
    go_wp2_with (first | ((go_at_call 17; ((with_reducible refine (hex _ hb0).mono ?_); rintro e w1 ⟨g, b, rfl, hg, hbb, hT, hb1⟩)); have s1l : Bel w w1 := Bel.call hb1; have s1p : SameB (w.alloc (clsO A c B d C)) w1 w.heap.size := SameB.call hb1 _; clear hT) | ((go_at_call 108; ((with_reducible refine (hf _ s1l.out).mono ?_); rintro e w2 ⟨v, rfl, ho2, hb2⟩)); have s2l : Bel w w2 := Bel.call hb2; have s2p : SameB (w.alloc (clsO A c B d C)) w2 w.heap.size := SameB.call hb2 _; obtain ⟨A5, c5, rfl⟩ : ∃ A5 c5, v = .slice A5 (nfiles C) c5 := owns_slice ho2))
    have hbx2 : w2.heap[w.heap.size]? = some (clsO A c B d C) := s2p.blk.trans (blk_new _ _)
    have HX2 := Lib.hid hbx2
    have HB2 := Lib.hid s2l.out
    clear hbx2 hf hex p0 p1 p2 p3 p4 ho2
    go_loopw [32] (fun x wr => ∃ k : Nat, x = .int .i64 k ∧ k ≤ C.tree.length ∧ (C.tree.take k).all treeOk = true ∧ Below w2.heap.size w2 wr) (fun x wr => C.tree.length - (intOf x).toNat)
    case atStart => exact ⟨0, rfl, Nat.zero_le _, rfl, Below.refl _ _⟩
    case round =>
      obtain ⟨k, rfl, hk, hall, hbw⟩ := hrel
      obtain ⟨w3, rfl⟩ : ∃ v, v = wr := ⟨wr, rfl⟩
      have s3l : Bel w w3 := ⟨HB2.out.trans (hbw.mono HB2.out.size)⟩
      by_cases hlt : k < C.tree.length
      · have hltI : (k : Int) < C.tree.length := by omega
        obtain ⟨x, hx⟩ : ∃ x, C.tree[k]? = some x := ⟨C.tree[k], List.getElem?_eq_getElem hlt⟩
        obtain ⟨b, off, rfl, hsb, hc⟩ := (HC.out.tree.below s3l.out).at_ hx
        have hsu : (C.tree.take (k + 1)).all treeOk = treeOk x := by rw [List.take_add_one, List.all_append, hall, hx]; simp
        have hbad : treeOk x = false → res = false := fun hxx => by
          rw [HM2.out]
          have : C.tree.all treeOk = false := by
            rw [List.all_eq_false]
            exact ⟨x, List.mem_of_getElem? hx, by simp [hxx]⟩
          rw [this]; simp
        obtain ⟨path, dir, cap⟩ := x
        have d0 : ∀ W [SameB w3 W b], W.cell? ⟨b, off + k * 3, none⟩ = some (.string path) := fun W _ => by simpa using hc W 0 _ rfl
        have d1 : ∀ W [SameB w3 W b], W.cell? ⟨b, off + k * 3 + 1, none⟩ = some (.bool dir) := fun W _ => hc W 1 _ rfl
        have d2 : ∀ W [SameB w3 W b], W.cell? ⟨b, off + k * 3 + 2, none⟩ = some (.int .i64 cap) := fun W _ => hc W 2 _ rfl
        have hfi := fun W => fits_any cap 3 W
        have HSU := Lib.hid hsu
        have HBAD := Lib.hid hbad
        have HBW := Lib.hid hbw
        clear hc hx hsu hbad hall hbw
        cases hft : fitsM cap 3 with
        | false =>
          rw [hft] at hfi
          obtain rfl := HBAD.out (by simp [treeOk, hft])
          clear hft
          go_wp2_with ((go_at_call 173; ((with_reducible refine (hfi _).mono ?_); rintro e w4 ⟨rfl, rfl⟩)))
          go_ret
          exact ⟨rfl, bel⟩
        | true =>
          rw [hft] at hfi
          cases dir with
          | false =>
            have hok : treeOk ⟨path, false, cap⟩ = true := by simp [treeOk, hft]
            have HOK := Lib.hid (HSU.out.trans hok)
            clear hft hok
            go_wp2_with ((go_at_call 173; ((with_reducible refine (hfi _).mono ?_); rintro e w4 ⟨rfl, rfl⟩)))
            go_roundw
            case rel => exact ⟨k + 1, by go_num, by omega, HOK.out, HBW.out.trans ((Below.refl _ _).alloc HBW.out.size _)⟩
            case measure => simp [intOf]; omega
          | true =>
            by_cases hc0 : cap = 0
            · subst hc0
              have hok : treeOk ⟨path, true, 0⟩ = true := by simp [treeOk, hft]
              have HOK := Lib.hid (HSU.out.trans hok)
              clear hft hok
              go_wp2_with ((go_at_call 173; ((with_reducible refine (hfi _).mono ?_); rintro e w4 ⟨rfl, rfl⟩)))
              go_roundw
              case rel => exact ⟨k + 1, by go_num, by omega, HOK.out, HBW.out.trans ((Below.refl _ _).alloc HBW.out.size _)⟩
              case measure => simp [intOf]; omega
            · have hcb : (cap != 0) = true := by simpa using hc0
              obtain rfl := HBAD.out (by simp [treeOk, hc0])
              clear hft hc0
              go_wp2_with ((go_at_call 173; ((with_reducible refine (hfi _).mono ?_); rintro e w4 ⟨rfl, rfl⟩)))
              go_ret
              exact ⟨rfl, bel⟩
      · have hltI : ¬ (k : Int) < C.tree.length := by omega
        rw [List.take_of_length_le (by omega)] at hall
        have hm := HM2.out
        rw [hall, Bool.true_and] at hm
        have HM3 := Lib.hid hm
        have hbx3 : w3.heap[w.heap.size]? = some (clsO A c B d C) := (hbw.block _ (lt_of_block HX2.out)).trans HX2.out
        obtain ⟨sP3, p0, p1, p2, p3, p4⟩ := cls_at hbx3
        have HX3 := Lib.hid hbx3
        clear hm hall HM2 hbx3 p0 p2 p3 p4
        go_wp2_with fail
        go_loopw [53] (fun x wr => ∃ k : Nat, x = .int .i64 k ∧ k ≤ C.args.length ∧ (C.args.take k).all (fun n => fitsM n 3) = true ∧ wr = w3) (fun x wr => C.args.length - (intOf x).toNat)
        case atStart => exact ⟨0, rfl, Nat.zero_le _, rfl, rfl⟩
        case round =>
          obtain ⟨k2, rfl, hk2, hall, rfl⟩ := hrel
          by_cases hlt2 : k2 < C.args.length
          · have hltI2 : (k2 : Int) < C.args.length := by omega
            obtain ⟨x, hx⟩ : ∃ x, C.args[k2]? = some x := ⟨C.args[k2], List.getElem?_eq_getElem hlt2⟩
            obtain ⟨b, off, rfl, hsb, hc⟩ := (HC.out.args.below s3l.out).at_ hx
            have hsu : (C.args.take (k2 + 1)).all (fun n => fitsM n 3) = fitsM x 3 := by rw [List.take_add_one, List.all_append, hall, hx]; simp
            have hbad : fitsM x 3 = false → res = false := fun hxx => by
              rw [HM3.out]
              have : C.args.all (fun n => fitsM n 3) = false := by
                rw [List.all_eq_false]
                exact ⟨x, List.mem_of_getElem? hx, by simp [hxx]⟩
              rw [this]; simp
            have d0 : ∀ W [SameB wr W b], W.cell? ⟨b, off + k2, none⟩ = some (.int .i64 x) := fun W _ => by simpa using hc W 0 _ rfl
            have hfi := fun W => fits_any x 3 W
            have HSU := Lib.hid hsu
            have HBAD := Lib.hid hbad
            have HBW := Lib.hid hbw
            clear hc hx hsu hbad hall hbw
            cases hft : fitsM x 3 with
            | false =>
              rw [hft] at hfi
              obtain rfl := HBAD.out hft
              clear hft
              go_wp2_with ((go_at_call 173; ((with_reducible refine (hfi _).mono ?_); rintro e w4 ⟨rfl, rfl⟩)))
              go_ret
              exact ⟨rfl, s3l.out⟩
            | true =>
              rw [hft] at hfi
              have HOK := Lib.hid (HSU.out.trans hft)
              clear hft
              go_wp2_with ((go_at_call 173; ((with_reducible refine (hfi _).mono ?_); rintro e w4 ⟨rfl, rfl⟩)))
              go_roundw
              case rel => exact ⟨k2 + 1, by go_num, by omega, HOK.out, trivial⟩
              case measure => simp [intOf]; omega
          · have hltI2 : ¬ (k2 : Int) < C.args.length := by omega
            rw [List.take_of_length_le (by omega)] at hall
            have hm := HM3.out
            rw [hall, Bool.true_and] at hm
            have HM4 := Lib.hid hm
            clear hm hall HM3 p1
            obtain ⟨sP4, p0, p1, p2, p3, p4⟩ := cls_at HX3.out
            have f1 := fun W => fits_any C.calls 6 W
            have f2 := fun W => fits_any C.fails C.calls W
            have f3 := fun W => fits_any C.fuel 400 W
            have hm := HM4.out
            generalize fitsM C.calls 6 = b1 at *
            generalize fitsM C.fails C.calls = b2 at *
            generalize fitsM C.fuel 400 = b3 at *
            subst hm
            clear HM4 p0 p1
            cases b1
            · go_wp2_with ((go_at_call 173; ((with_reducible refine (f1 _).mono ?_); rintro e w4 ⟨rfl, rfl⟩)))
              go_ret
              exact ⟨rfl, s3l.out⟩
            · cases b2
              · go_wp2_with (first | ((go_at_call 173; ((with_reducible refine (f1 _).mono ?_); rintro e w4 ⟨rfl, rfl⟩))) | ((go_at_call 173; ((with_reducible refine (f2 _).mono ?_); rintro e w4 ⟨rfl, rfl⟩))))
                go_ret
                exact ⟨rfl, s3l.out⟩
              · go_wp2_with (first | ((go_at_call 173; ((with_reducible refine (f1 _).mono ?_); rintro e w4 ⟨rfl, rfl⟩))) | ((go_at_call 173; ((with_reducible refine (f2 _).mono ?_); rintro e w4 ⟨rfl, rfl⟩))) | ((go_at_call 173; ((with_reducible refine (f3 _).mono ?_); rintro e w4 ⟨rfl, rfl⟩))))
                go_ret
                exact ⟨by simp, s3l.out⟩
end Go.Proofs.Ytbcnfegmmhioeaa
