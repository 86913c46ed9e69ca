/- The document's own classes: caps, files, which may be; walked. -/
import Derived.Test.YtbcnfegmmhioeaaCls1
import Derived.Test.YtbcnfegmmhioeaaRTree1
import Derived.Deep.RegionWith
namespace Go.Proofs.Ytbcnfegmmhioeaa
open Go.RowKit

def fcapsK (T : List EntM) (k : Nat) : List Int := ((T.take k).filter (fun x => !x.dir)).map (·.cap)
theorem fcapsK_succ {T : List EntM} {k : Nat} {x : EntM} (h : T[k]? = some x) : fcapsK T (k + 1) = fcapsK T k ++ (if x.dir then [] else [x.cap]) := by
  unfold fcapsK
  rw [List.take_add_one, h, List.filter_append, List.map_append]
  congr 1
  simp only [Option.toList_some, List.filter_cons, List.filter_nil]
  cases x.dir <;> simp
theorem fcapsK_le (T : List EntM) (k : Nat) : (fcapsK T k).length ≤ k := by
  unfold fcapsK
  rw [List.length_map]
  exact Nat.le_trans (List.length_filter_le _ _) (by simp; omega)
theorem flat_ints (l : List Int) : l.flatMap intC = l.map (Value.int .i64) := by
  induction l with
  | nil => rfl
  | cons x l ih => simp [intC, ih]

set_option maxRecDepth 100000 in
set_option maxHeartbeats 1000000 in
theorem rcaps_any {w : World} (A : Option Addr) (c : Nat) (B : Option Addr) (d : Nat) (C : ClsM) (h : IsCls w A B C) (hl : C.tree.length ≤ 1000) (ha : (C.tree.length + C.args.length) * 8 ≤ 140737488355328) :
    Calls Try.prog 31 #[clsV A c B d C] w (PostInts w (capsM C)) := by
  have hlI : (C.tree.length : Int) ≤ 1000 := by omega
  have hbox : (w.alloc (clsO A c B d C)).heap[w.heap.size]? = some (clsO A c B d C) := blk_new _ _
  have HBX := Lib.hid hbox
  have HC := Lib.hid h
  clear hbox h
  go_enter Try.func31, Try.ntmps31
  go_wp2_with fail
  go_loopw [3, 4] (fun v x wr => ∃ k : Nat, x = .int .i64 k ∧ k ≤ C.tree.length ∧ wr.ownsRow (w.heap.size + 1) 3 1 v (fcapsK C.tree k).length ((fcapsK C.tree k).map (Value.int .i64)) ∧ Below (w.heap.size + 1) (w.alloc (clsO A c B d C)) wr) (fun v x wr => C.tree.length - (intOf x).toNat)
  case atStart => exact ⟨0, rfl, Nat.zero_le _, World.ownsRow_nil _ _ _ _, Below.refl _ _⟩
  case round =>
    rename Value => v
    obtain ⟨k, rfl, hk, hown, hbw⟩ := hrel
    obtain ⟨w1, rfl⟩ : ∃ v, v = wr := ⟨wr, rfl⟩
    have hb1 : Below w.heap.size w w1 := ((Below.refl _ _).alloc (Nat.le_refl _) _).trans (hbw.mono (by omega))
    obtain ⟨sP, p0, p1, p2, p3, p4⟩ := cls_at ((hbw.block _ (by omega)).trans HBX.out)
    clear p2 p3 p4
    have hz1 : w.heap.size + 1 ≤ w1.heap.size := by have := hbw.size; simpa using this
    by_cases hlt : k < C.tree.length
    · have hltI : (k : Int) < C.tree.length := by omega
      obtain ⟨x, hx⟩ : ∃ x, C.tree[k]? = some x := ⟨C.tree[k], List.getElem?_eq_getElem hlt⟩
      obtain ⟨b, off, rfl, hsb, hc⟩ := (HC.out.tree.below hb1).at_ hx
      obtain ⟨path, dir, cap⟩ := x
      have d1 : ∀ W [SameB w1 W b], W.cell? ⟨b, off + k * 3 + 1, none⟩ = some (.bool dir) := fun W _ => hc W 1 _ rfl
      have d2 : ∀ W [SameB w1 W b], W.cell? ⟨b, off + k * 3 + 2, none⟩ = some (.int .i64 cap) := fun W _ => hc W 2 _ rfl
      have hsu := fcapsK_succ hx
      have hfl := fcapsK_le C.tree k
      have HSU := Lib.hid hsu
      have HO := Lib.hid hown
      have HBW := Lib.hid hbw
      clear hc hx hsu hown hbw
      simp only at HSU
      cases dir with
      | true =>
        have hsu := HSU.out
        simp only [if_true, List.append_nil] at hsu
        have HS2 := Lib.hid hsu
        clear hsu
        go_wp2_with fail
        go_roundw
        case rel => exact ⟨k + 1, by go_num, by omega, by rw [HS2.out]; exact HO.out, HBW.out⟩
        case measure => simp [intOf]; omega
      | false =>
        have hsu := HSU.out
        simp only [Bool.false_eq_true, if_false] at hsu
        have HS2 := Lib.hid hsu
        clear hsu
        go_wp2_with (at_builtin; refine wpList_app1 rfl (.tmp 19) (.tmp 26) 47 rfl (w.heap.size + 1) 3 Try.underlying47 Try.info_int rfl (by decide) _ (fcapsK C.tree k).length _ rfl HO.out (by omega) hz1 _ _ rfl rfl ?_; intro v5 w5 ho5 hb5 hnn5)
        go_roundw
        case rel => exact ⟨k + 1, by go_num, by omega, by rw [HS2.out, List.length_append, List.map_append]; exact ho5, HBW.out.trans hb5⟩
        case measure => simp [intOf]; omega
    · have hltI : ¬ (k : Int) < C.tree.length := by omega
      obtain rfl : k = C.tree.length := by omega
      have hB := HC.out.args.below hb1
      have hfl := fcapsK_le C.tree C.tree.length
      have hcl : (fcapsK C.tree C.tree.length).length + C.args.length ≤ C.tree.length + C.args.length := by omega
      have hcb : ((fcapsK C.tree C.tree.length).length + C.args.length) * 8 ≤ 140737488355328 := by omega
      have HO := Lib.hid hown
      have HB := Lib.hid hB
      have HBW := Lib.hid hbw
      clear hown hB hbw
      go_wp2_with (at_builtin; refine wpList_appN (enc := intC) _ rfl (.tmp 28) (.tmp 30) 47 rfl (w.heap.size + 1) 3 Try.underlying47 Try.info_int rfl (by decide) _ (fcapsK C.tree C.tree.length).length _ rfl HO.out _ _ C.args rfl HB.out (fun _ => rfl) (fun x u hu => by simp [intC] at hu; subst hu; rfl) (by omega) hcb hz1 HB.out.nil_of ?_; intro v5 w5 ho5 hb5)
      go_ret
      have e0 : fcapsK C.tree C.tree.length = fcapsM C := by unfold fcapsK fcapsM; rw [List.take_of_length_le (Nat.le_refl _)]
      rw [e0, flat_ints] at ho5
      refine ⟨_, rfl, ?_, hb1.trans (hb5.mono (by omega))⟩
      rw [capsM, List.length_append, List.map_append]
      exact ownsRow_mono ho5 (by omega)

set_option maxRecDepth 100000 in
set_option maxHeartbeats 1000000 in
theorem rfiles_any {w : World} (A : Option Addr) (c : Nat) (B : Option Addr) (d : Nat) (C : ClsM) (h : IsCls w A B C) (hl : C.tree.length ≤ 1000) (ha : (C.tree.length + C.args.length) * 8 ≤ 140737488355328) :
    Calls Try.prog 99 #[clsV A c B d C] w fun e w' => e = .returned (.int .i64 (nfiles C)) ∧ Below w.heap.size w w' := by
  have hb0 : Below w.heap.size w (w.alloc (clsO A c B d C)) := (Below.refl _ _).alloc (Nat.le_refl _) _
  have hc := fun W (hb : Below w.heap.size w W) => rcaps_any (w := W) A c B d C (h.below hb) hl ha
  have hlen : (capsM C).length = nfiles C + C.args.length := by rw [capsM, List.length_append, fcaps_length]
  have hnf : nfiles C ≤ C.tree.length := List.length_filter_le _ _
  have hbox : (w.alloc (clsO A c B d C)).heap[w.heap.size]? = some (clsO A c B d C) := blk_new _ _
  obtain ⟨sP, p0, p1, p2, p3, p4⟩ := cls_at hbox
  unfold PostInts at hc
  rw [hlen] at hc
  have hcI : ((nfiles C + C.args.length : Nat) : Int) - C.args.length = nfiles C := by omega
  have haI : (C.args.length : Int) ≤ 140737488355328 := by omega
  have hnI : (nfiles C : Int) ≤ 1000 := by omega
  clear hbox h hlen
  go_enter Try.func99, Try.ntmps99
  go_wp2_with fail
  go_region_with ((go_at_call 31; ((with_reducible refine (hc _ bel).mono ?_); rintro e w1 ⟨v, rfl, ho1, hb1⟩)); obtain ⟨A5, c5, rfl⟩ := owns_slice ho1; have s1l : Bel w w1 := Bel.call hb1; have s1p : SameB (w.alloc (clsO A c B d C)) w1 w.heap.size := SameB.call hb1 _)
  all_goals
    go_wp2_with fail
    go_ret
    exact ⟨ret_int (by simp only [IntKind.wrap_i64]; omega), s1l.out⟩
end Go.Proofs.Ytbcnfegmmhioeaa
