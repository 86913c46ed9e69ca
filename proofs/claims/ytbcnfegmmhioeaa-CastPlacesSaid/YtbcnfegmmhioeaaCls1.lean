/- Package class: the files of a class, the caps of its texts, walked. -/
import Derived.Test.YtbcnfegmmhioeaaClsM
import Derived.Test.YtbcnfegmmhioeaaAppN
import Derived.Test.YtbcnfegmmhioeaaCheck5
import Derived.Test.YtbcnfegmmhioeaaRef3
import Derived.Test.YtbcnfegmmhioeaaLaw11a
namespace Go.Proofs.Ytbcnfegmmhioeaa
open Go.RowKit

abbrev clsV (A : Option Addr) (c : Nat) (B : Option Addr) (d : Nat) (C : ClsM) : Value := .agg #[.slice A C.tree.length c, .slice B C.args.length d, .int .i64 C.calls, .int .i64 C.fails, .int .i64 C.fuel]
abbrev clsO (A : Option Addr) (c : Nat) (B : Option Addr) (d : Nat) (C : ClsM) : Obj := .cells #[.slice A C.tree.length c, .slice B C.args.length d, .int .i64 C.calls, .int .i64 C.fails, .int .i64 C.fuel] 58
structure IsCls (w : World) (A B : Option Addr) (C : ClsM) : Prop where
  tree : IsSl 3 entC w A C.tree
  args : IsSl 1 intC w B C.args
theorem IsCls.below {w W : World} {A B : Option Addr} {C : ClsM} (h : IsCls w A B C) (hb : Below w.heap.size w W) : IsCls W A B C := ⟨h.tree.below hb, h.args.below hb⟩
theorem IsSl.none_nil {α : Type} {sz : Nat} {enc : α → List Value} {w : World} {l : List α} (h : IsSl sz enc w none l) : l = [] := by
  rcases Nat.eq_zero_or_pos l.length with h0 | h0
  · exact List.eq_nil_of_length_eq_zero h0
  · obtain ⟨b, off, e, _⟩ := h h0; cases e
theorem IsSl.nil_of {α : Type} {sz : Nat} {enc : α → List Value} {w : World} {A : Option Addr} {l : List α} (h : IsSl sz enc w A l) : A = none → l = [] := fun e => by subst e; exact h.none_nil

/-- The places of files among the first k. -/
def filesK (T : List EntM) (k : Nat) : List Nat := (List.range k).filter fun i => match T[i]? with | some x => !x.dir | none => false
theorem filesK_succ {T : List EntM} {k : Nat} {x : EntM} (h : T[k]? = some x) : filesK T (k + 1) = filesK T k ++ (if x.dir then [] else [k]) := by
  unfold filesK
  rw [List.range_succ, List.filter_append]
  congr 1
  simp only [List.filter_cons, h, List.filter_nil]
  cases x.dir <;> simp
theorem filesK_length_le (T : List EntM) (k : Nat) : (filesK T k).length ≤ k := by
  unfold filesK
  exact Nat.le_trans (List.length_filter_le _ _) (by simp)
theorem filesK_eq (C : ClsM) : filesK C.tree C.tree.length = filesM C := rfl

set_option maxRecDepth 100000 in
theorem files_any {w : World} (A : Option Addr) (c : Nat) (B : Option Addr) (d : Nat) (C : ClsM) (h : IsCls w A B C) (hl : C.tree.length ≤ 1000) :
    Calls Try.prog 108 #[clsV A c B d C] w (PostNats w (filesM C)) := by
  rw [← filesK_eq]
  have hA := h.tree
  have hlI : (C.tree.length : Int) ≤ 1000 := by omega
  have HA := Lib.hid hA
  clear hA h
  go_enter Try.func108, Try.ntmps108
  go_wp2_with fail
  go_loopw [3, 9] (fun v x wr => ∃ k : Nat, x = .int .i64 k ∧ k ≤ C.tree.length ∧ wr.ownsRow w.heap.size 3 1 v (filesK C.tree k).length ((filesK C.tree k).map natV) ∧ Below w.heap.size w wr) (fun v x wr => C.tree.length - (intOf x).toNat)
  case atStart => exact ⟨0, rfl, Nat.zero_le _, World.ownsRow_nil _ _ _ _, bel⟩
  case round =>
    rename Value => v
    obtain ⟨k, rfl, hk, hown, hbw⟩ := hrel
    obtain ⟨w1, rfl⟩ : ∃ v, v = wr := ⟨wr, rfl⟩
    have s1l : Bel w w1 := ⟨hbw⟩
    by_cases hlt : k < C.tree.length
    · have hltI : (k : Int) < C.tree.length := by omega
      obtain ⟨x, hx⟩ : ∃ x, C.tree[k]? = some x := ⟨C.tree[k], List.getElem?_eq_getElem hlt⟩
      obtain ⟨b, off, rfl, hsb, hc⟩ := (HA.out.below hbw).at_ hx
      obtain ⟨path, dir, cap⟩ := x
      have d0 : ∀ W [SameB w1 W b], W.cell? ⟨b, off + k * 3, none⟩ = some (.string path) := fun W _ => by simpa using hc W 0 _ rfl
      have d1 : ∀ W [SameB w1 W b], W.cell? ⟨b, off + k * 3 + 1, none⟩ = some (.bool dir) := fun W _ => hc W 1 _ rfl
      have d2 : ∀ W [SameB w1 W b], W.cell? ⟨b, off + k * 3 + 2, none⟩ = some (.int .i64 cap) := fun W _ => hc W 2 _ rfl
      have hsu := filesK_succ hx
      have hfl := filesK_length_le C.tree k
      have HSU := Lib.hid hsu
      clear hc hx hsu
      simp only at HSU
      cases dir with
      | true =>
        have hsu := HSU.out
        simp only [if_true, List.append_nil] at hsu
        have HS2 := Lib.hid hsu
        have HO := Lib.hid hown
        clear hsu hown
        go_wp2_with fail
        go_roundw
        case rel => exact ⟨k + 1, by go_num, by omega, by rw [HS2.out]; exact ownsRow_below HO.out ((Below.refl _ _).alloc (Nat.le_refl _) _), bel⟩
        case measure => simp [intOf]; omega
      | false =>
        have hsu := HSU.out
        simp only [Bool.false_eq_true, if_false] at hsu
        have HS2 := Lib.hid hsu
        have HO := Lib.hid (ownsRow_below hown ((Below.refl _ _).alloc (Nat.le_refl _) (.cells #[.string path, .bool false, .int .i64 cap] 29)))
        have hz1 : w.heap.size ≤ w1.heap.size := hbw.size
        clear hsu hown
        go_wp2_with (at_builtin; refine wpList_app1b rfl (.tmp 17) (.tmp 19) 47 rfl w.heap.size 3 Try.underlying47 Try.info_int rfl (by decide) _ (filesK C.tree k).length _ rfl HO.out (by omega) (by simp; omega) _ _ _ rfl (by simp) rfl ?_; intro v5 w5 ho5 hb5 hnn5)
        go_roundw
        case rel => exact ⟨k + 1, by go_num, by omega, by rw [HS2.out, List.length_append, List.map_append]; exact ho5, Below.trans bel hb5⟩
        case measure => simp [intOf]; omega
    · have hltI : ¬ (k : Int) < C.tree.length := by omega
      obtain rfl : k = C.tree.length := by omega
      have HO := Lib.hid hown
      clear hown
      go_wp2_with fail
      go_ret
      exact ⟨_, rfl, HO.out, hbw⟩

/-- The cells of a class's own copy. -/
theorem cls_at {W : World} {b : Nat} {A B : Option Addr} {c d : Nat} {C : ClsM} (h : W.heap[b]? = some (clsO A c B d C)) : SameB W W b ∧ (∀ V [SameB W V b], V.cell? ⟨b, 0, none⟩ = some (.slice A C.tree.length c)) ∧
    (∀ V [SameB W V b], V.cell? ⟨b, 1, none⟩ = some (.slice B C.args.length d)) ∧ (∀ V [SameB W V b], V.cell? ⟨b, 2, none⟩ = some (.int .i64 C.calls)) ∧
    (∀ V [SameB W V b], V.cell? ⟨b, 3, none⟩ = some (.int .i64 C.fails)) ∧ (∀ V [SameB W V b], V.cell? ⟨b, 4, none⟩ = some (.int .i64 C.fuel)) :=
  ⟨SameB.self (lt_of_block h), fun _ _ => SameB.cell (blk_cell h 0), fun _ _ => SameB.cell (blk_cell h 1), fun _ _ => SameB.cell (blk_cell h 2), fun _ _ => SameB.cell (blk_cell h 3), fun _ _ => SameB.cell (blk_cell h 4)⟩

theorem fits_any (n m : Int) (w : World) : Calls Try.prog 173 #[.int .i64 n, .int .i64 m] w fun e w' => e = .returned (.bool (fitsM n m)) ∧ w = w' := by
  by_cases h : 0 ≤ n
  · go_enter Try.func173, Try.ntmps173
    go_wp2_with fail
    go_ret
    exact ⟨ret_bool (by simp [fitsM, h]), rfl⟩
  · go_enter Try.func173, Try.ntmps173
    go_wp2_with fail
    go_ret
    exact ⟨ret_bool (by unfold fitsM; rw [decide_eq_false (by omega)]; rfl), rfl⟩

def PostInts (w : World) (l : List Int) (e : Ending) (w' : World) : Prop := ∃ v, e = .returned v ∧ w'.ownsRow w.heap.size 3 1 v l.length (l.map (Value.int .i64)) ∧ Below w.heap.size w w'
def capAt (T : List EntM) (i : Nat) : Int := match T[i]? with | some x => x.cap | none => 0
theorem caps_files (T : List EntM) : ∀ k, k ≤ T.length → (filesK T k).map (capAt T) = ((T.take k).filter (fun x => !x.dir)).map (·.cap) := by
  intro k
  induction k with
  | zero => intro _; rfl
  | succ k ih =>
    intro hk
    have hx : T[k]? = some T[k] := List.getElem?_eq_getElem (by omega)
    rw [filesK_succ hx, List.map_append, ih (by omega), List.take_add_one, hx, List.filter_append, List.map_append]
    congr 1
    simp only [Option.toList_some, List.filter_cons, List.filter_nil]
    cases hd : T[k].dir <;> simp [capAt, hx]
theorem filesM_caps (C : ClsM) : (filesM C).map (capAt C.tree) = fcapsM C := by
  rw [← filesK_eq, caps_files _ _ (Nat.le_refl _), List.take_of_length_le (Nat.le_refl _)]; rfl
theorem filesM_length (C : ClsM) : (filesM C).length = nfiles C := by
  have h := congrArg List.length (filesM_caps C)
  simpa [fcapsM, nfiles] using h
theorem fcaps_length (C : ClsM) : (fcapsM C).length = nfiles C := by simp [fcapsM, nfiles]
theorem filesM_at {C : ClsM} {k i : Nat} (h : (filesM C)[k]? = some i) : ∃ x, C.tree[i]? = some x ∧ x.dir = false := by
  have hm := List.mem_of_getElem? h
  unfold filesM at hm
  rw [List.mem_filter] at hm
  obtain ⟨_, hm⟩ := hm
  cases hx : C.tree[i]? with
  | none => rw [hx] at hm; cases hm
  | some x => rw [hx] at hm; exact ⟨x, rfl, by simpa using hm⟩

set_option maxRecDepth 100000 in
set_option maxHeartbeats 1000000 in
theorem caps_any {w : World} (A : Option Addr) (c : Nat) (B : Option Addr) (d : Nat) (C : ClsM) (h : IsCls w A B C) (hl : C.tree.length ≤ 1000) (ha : C.args.length ≤ 1000) :
    Calls Try.prog 100 #[clsV A c B d C] w (PostInts w (capsM C)) := by
  have hf := fun W (hb : Below w.heap.size w W) => files_any (w := W) A c B d C (h.below hb) hl
  have hb0 : Below w.heap.size w (w.alloc (clsO A c B d C)) := (Below.refl _ _).alloc (Nat.le_refl _) _
  have hn := filesK_length_le C.tree C.tree.length
  rw [filesK_eq] at hn
  have hbox : (w.alloc (clsO A c B d C)).heap[w.heap.size]? = some (clsO A c B d C) := blk_new _ _
  have HBX := Lib.hid hbox
  have HC := Lib.hid h
  clear hbox h
  unfold PostNats at hf
  have hcf := filesM_caps C
  have hfa := fun k i => @filesM_at C k i
  generalize filesM C = F at *
  have HCF := Lib.hid hcf
  have HFA := Lib.hid hfa
  clear hcf hfa
  have hnI : (F.length : Int) ≤ 1000 := by omega
  go_enter Try.func100, Try.ntmps100
  go_wp2_with ((go_at_call 108; ((with_reducible refine (hf _ hb0).mono ?_); rintro e w1 ⟨v, rfl, ho1, hb1⟩)); obtain ⟨A5, c5, rfl, hls⟩ := owns_nats ho1)
  have hb1w : Below w.heap.size w w1 := hb0.trans (hb1.mono hb0.size)
  have hbx1 := blk_call hb1 HBX.out
  have HB1 := Lib.hid hbx1
  have HL := Lib.hid hls
  clear hls ho1 hbx1 hf
  go_loopw [3, 9] (fun v x wr => ∃ k : Nat, x = .int .i64 k ∧ k ≤ F.length ∧ wr.ownsRow w1.heap.size 3 1 v k ((F.take k).map fun i => Value.int .i64 (capAt C.tree i)) ∧ Below w1.heap.size w1 wr) (fun v x wr => F.length - (intOf x).toNat)
  case atStart => exact ⟨0, rfl, Nat.zero_le _, World.ownsRow_nil _ _ _ _, Below.refl _ _⟩
  case round =>
    rename Value => v
    obtain ⟨k, rfl, hk, hown, hbw⟩ := hrel
    obtain ⟨w2, rfl⟩ : ∃ v, v = wr := ⟨wr, rfl⟩
    have hb2w : Below w.heap.size w w2 := hb1w.trans (hbw.mono hb1w.size)
    obtain ⟨sP, p0, p1, p2, p3, p4⟩ := cls_at ((hbw.block _ (lt_of_block HB1.out)).trans HB1.out)
    clear p2 p3 p4
    by_cases hlt : k < F.length
    · have hltI : (k : Int) < F.length := by omega
      obtain ⟨i, hi⟩ : ∃ i, F[k]? = some i := ⟨F[k], List.getElem?_eq_getElem hlt⟩
      obtain ⟨x, hx, hxd⟩ := HFA.out k i hi
      have hil : i < C.tree.length := (List.getElem?_eq_some_iff.1 hx).1
      have hiI : (i : Int) < C.tree.length := by omega
      obtain ⟨b, off, rfl, hsb, hc⟩ := (HC.out.tree.below hb2w).at_ hx
      obtain ⟨path, dir, cap⟩ := x
      have d2 : ∀ W [SameB w2 W b], W.cell? ⟨b, off + i * 3 + 2, none⟩ = some (.int .i64 cap) := fun W _ => hc W 2 _ rfl
      obtain ⟨g, rfl, hg1, hg2, hg3⟩ := HL.out (by omega)
      have sG : SameB w2 w2 g := SameB.self (Nat.lt_of_lt_of_le hg2 hbw.size)
      have hgc : ∀ W [SameB w2 W g], W.cell? ⟨g, k, none⟩ = some (.int .i64 i) := fun W _ => SameB.cell (w := w2) ((World.cell?_of_block (w := w1) (w' := w2) (hbw.block _ hg2)).trans (hg3 k i hi))
      have hsu : (F.take (k + 1)).map (fun i => Value.int .i64 (capAt C.tree i)) = (F.take k).map (fun i => Value.int .i64 (capAt C.tree i)) ++ [Value.int .i64 cap] := by
        rw [List.take_add_one, hi, List.map_append]
        simp [capAt, hx]
      have HSU := Lib.hid hsu
      have HO := Lib.hid hown
      have HBW := Lib.hid hbw
      have hz2 := hbw.size
      clear hc hx hsu hown hg3 hi hbw
      go_wp2_with (at_builtin; refine wpList_app1 rfl (.tmp 13) (.tmp 20) 47 rfl w1.heap.size 3 Try.underlying47 Try.info_int rfl (by decide) _ k _ rfl HO.out (by omega) (by omega) _ _ rfl rfl ?_; intro v5 w5 ho5 hb5 hnn5)
      go_roundw
      case rel => exact ⟨k + 1, by go_num, by omega, by rw [HSU.out]; exact ho5, Below.trans HBW.out hb5⟩
      case measure => simp [intOf]; omega
    · have hltI : ¬ (k : Int) < F.length := by omega
      obtain rfl : k = F.length := by omega
      rw [List.take_of_length_le (Nat.le_refl _)] at hown
      have hB := HC.out.args.below hb2w
      have HO := Lib.hid hown
      have HB := Lib.hid hB
      have HBW := Lib.hid hbw
      have hz2 := hbw.size
      clear hown hB hbw
      go_wp2_with (at_builtin; refine wpList_appN (enc := intC) _ rfl (.tmp 23) (.tmp 25) 47 rfl w1.heap.size 3 Try.underlying47 Try.info_int rfl (by decide) _ F.length _ rfl HO.out _ _ C.args rfl HB.out (fun _ => rfl) (fun x u hu => by simp [intC] at hu; subst hu; rfl) (by omega) (by omega) (by omega) HB.out.nil_of ?_; intro v5 w5 ho5 hb5)
      go_ret
      refine ⟨_, rfl, ?_, hb1w.trans ((HBW.out.mono hb1w.size).trans (hb5.mono hb1w.size))⟩
      have e1 : (capsM C).length = F.length + C.args.length := by rw [capsM, ← HCF.out]; simp
      have e2 : (capsM C).map (Value.int .i64) = (F.map fun i => Value.int .i64 (capAt C.tree i)) ++ C.args.flatMap intC := by
        rw [capsM, ← HCF.out, List.map_append, List.map_map]
        congr 1
        induction C.args with
        | nil => rfl
        | cons x l ih => simp [intC, ih]
      rw [e1, e2]
      exact ownsRow_mono ho5 hb1w.size
end Go.Proofs.Ytbcnfegmmhioeaa
