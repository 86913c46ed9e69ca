/- The document's own reading of names, walked. -/
import Derived.Test.YtbcnfegmmhioeaaRefNameM
import Derived.Test.YtbcnfegmmhioeaaApp
import Derived.Test.YtbcnfegmmhioeaaNames
import Derived.Test.YtbcnfegmmhioeaaConv
import Derived.Laws.OwnMore
import Derived.RegionTactic
import Derived.Deep.LoopGhost
namespace Go.Proofs.Ytbcnfegmmhioeaa
open Go.RowKit

theorem Try.info_str : (Try.prog.info? 9).map (fun i => (i.zero, i.size, i.bytes)) = some (some (.string ⟨#[]⟩), 1, 16) := by kernel_rfl
def partV (p : List UInt8) : Value := .string ⟨p.toArray⟩

theorem owns_pos {W : World} {base e n : Nat} {v : Value} {xs : List Value} (h : W.ownsRow base e 1 v (n + 1) xs) : ∃ g cap, v = .slice (some ⟨g, 0, none⟩) (n + 1) cap ∧ base ≤ g ∧ g < W.heap.size := by
  rcases h.2 with ⟨_, h0⟩ | ⟨g, cap, cur, rfl, hb, hg, _⟩
  · omega
  · exact ⟨g, cap, rfl, hb, lt_of_block hg⟩
theorem part_push (p : List UInt8) (c : UInt8) : (⟨p.toArray⟩ : ByteArray) ++ ⟨#[c]⟩ = ⟨(p ++ [c]).toArray⟩ := by
  apply ByteArray.ext
  simp [ByteArray.data_append]

set_option maxRecDepth 100000 in
set_option maxHeartbeats 4000000 in
theorem rname_any (s : ByteArray) (w : World) : Calls Try.prog 94 #[.string s] w fun e w' => e = .returned (.bool (nameB s)) ∧ Below w.heap.size w w' := by
  rw [← refName_eq]
  generalize hr : refName s = r
  unfold refName at hr
  by_cases h0 : s.size < 1
  · have : ¬ (1 ≤ s.size ∧ s.size ≤ 8) := by omega
    rw [decide_eq_false this] at hr
    subst hr
    have h0I : (s.size : Int) < 1 := by omega
    simp only [Bool.false_and]
    clear this h0
    go_enter Try.func94, Try.ntmps94
    go_wp2_with fail
    go_ret
    exact ⟨rfl, bel⟩
  by_cases h8 : 8 < s.size
  · have : ¬ (1 ≤ s.size ∧ s.size ≤ 8) := by omega
    rw [decide_eq_false this] at hr
    subst hr
    have h0I : ¬ (s.size : Int) < 1 := by omega
    have h8I : (8 : Int) < s.size := by omega
    simp only [Bool.false_and]
    clear this h0 h8
    go_enter Try.func94, Try.ntmps94
    go_wp2_with fail
    go_ret
    exact ⟨rfl, bel⟩
  rw [decide_eq_true (by omega : 1 ≤ s.size ∧ s.size ≤ 8), Bool.true_and] at hr
  have h0I : ¬ (s.size : Int) < 1 := by omega
  have h8I : ¬ (8 : Int) < s.size := by omega
  have HR := Lib.hid hr
  clear hr
  go_enter Try.func94, Try.ntmps94
  go_wp2_with fail
  have hst : (w.alloc (.cells #[.string ⟨#[]⟩] 9)).ownsRow w.heap.size 9 1 (.slice (some ⟨w.heap.size, 0, none⟩) 1 1) (([] : List (List UInt8)).length + 1) ((([] : List (List UInt8)) ++ [[]]).map partV) :=
    ⟨rfl, Or.inr ⟨w.heap.size, 1, _, rfl, Nat.le_refl _, blk_new _ _, Nat.le_refl _, by unfold maxLen; omega, rfl, rfl⟩⟩
  have HST := Lib.hid hst
  clear hst
  go_loopw [3, 4] (fun v x wr => ∃ (q : List (List UInt8)) (p : List UInt8) (k : Nat), x = .int .i64 k ∧ k ≤ s.size ∧ (q.length ≤ k ∧ p.length ≤ k) ∧ wr.ownsRow w.heap.size 9 1 v (q.length + 1) ((q ++ [p]).map partV) ∧
      foldN [[]] s.data.toList = foldN (q ++ [p]) (s.data.toList.drop k) ∧ Below w.heap.size w wr) (fun v x wr => s.size - (intOf x).toNat)
  case atStart => exact ⟨[], [], 0, rfl, Nat.zero_le _, ⟨Nat.le_refl _, Nat.le_refl _⟩, HST, rfl, bel⟩
  case round =>
    obtain ⟨q, p, k, rfl, hk, ⟨hqk, hpk⟩, hown, hfold, hbw⟩ := hrel
    obtain ⟨w1, rfl⟩ : ∃ v, v = wr := ⟨wr, rfl⟩
    obtain ⟨g, cap, rfl, hg1, hg2⟩ := owns_pos hown
    have s1l : Bel w w1 := ⟨hbw⟩
    by_cases hlt : k < s.size
    · have hsz : s.size = s.data.toList.length := Lib.size_eq s
      have hdrop : s.data.toList.drop k = s[k] :: s.data.toList.drop (k + 1) := by
        rw [List.drop_eq_getElem_cons (by omega)]
        rfl
      rw [hdrop, foldN] at hfold
      have HF := Lib.hid hfold
      have HO := Lib.hid hown
      clear hfold hdrop hown hsz
      have hkI : (k : Int) < s.size := by omega
      have hk8 : (s.size : Int) ≤ 8 := by omega
      have hqI : q.length ≤ 8 := by omega
      by_cases h47 : s[k] = 47
      · have hF2 := HF.out
        rw [if_pos h47] at hF2
        have HF2 := Lib.hid hF2
        clear hF2
        go_wp2_with (at_builtin; refine wpList_app1 rfl (.tmp 28) (.tmp 29) 41 rfl w.heap.size 9 Try.underlying41 Try.info_str rfl (by decide) _ (q.length + 1) _ rfl HO.out (by omega) s1l.out.size _ _ rfl rfl ?_; intro v5 w5 ho5 hb5 hnn5)
        go_roundw
        case rel => exact ⟨q ++ [p], [], k + 1, by go_num, by omega, ⟨by simp; omega, Nat.zero_le _⟩, by rw [List.map_append, List.length_append]; exact ho5, HF2, hbw.trans hb5⟩
        case measure => simp [intOf]; omega
      · cases hl : letterB s[k] with
        | false =>
          have hF2 := HF.out
          rw [if_neg h47, hl] at hF2
          have hr := HR.out
          rw [hF2] at hr
          simp only [Bool.false_eq_true, if_false] at hr
          have HR2 := Lib.hid hr
          rw [letterB_eq] at hl
          have hc1 : ¬ (97 ≤ ((s[k]'hlt).toNat : Int) ∧ ((s[k]'hlt).toNat : Int) ≤ 122) := by rintro ⟨a, b⟩; simp [letterI, a, b] at hl
          have hc2 : ¬ (48 ≤ ((s[k]'hlt).toNat : Int) ∧ ((s[k]'hlt).toNat : Int) ≤ 57) := by rintro ⟨a, b⟩; simp [letterI, a, b] at hl
          have hc3 : (((s[k]'hlt).toNat : Int) == 46) = false := by simp [letterI] at hl; simp; omega
          have hc4 : (((s[k]'hlt).toNat : Int) == 95) = false := by simp [letterI] at hl; simp; omega
          have hc5 : (((s[k]'hlt).toNat : Int) == 47) = false := by
            rw [beq_eq_false_iff_ne]
            intro e
            exact h47 (UInt8.toNat_inj.1 (by show _ = 47; omega))
          clear hF2 hr hl
          go_wp2_with fail
          all_goals
            go_ret
            rw [← HR2.out]
            exact ⟨rfl, hbw⟩
        | true =>
          have hF2 := HF.out
          rw [if_neg h47, if_pos hl, addLast_snoc] at hF2
          have HF2 := Lib.hid hF2
          have hcell : ∀ W [SameB w1 W g], W.cell? ⟨g, q.length, none⟩ = some (partV p) := fun W _ => by
            refine SameB.cell (w := w1) ?_
            rw [World.ownsRow.cellAt HO.out q.length (by omega)]
            simp
          have hfree : ∀ W [SameB w1 W g], W.frozen? ⟨g, q.length, none⟩ = false := fun W _ => SameB.free (w := w1) (World.ownsRow.frozenAt HO.out _)
          have sG : SameB w1 w1 g := SameB.self hg2
          unfold partV at hcell
          have hc5 : (((s[k]'hlt).toNat : Int) == 47) = false := by
            rw [beq_eq_false_iff_ne]
            intro e
            exact h47 (UInt8.toNat_inj.1 (by show _ = 47; omega))
          have cb1 := fun W n => byte1 W ((s[k]'hlt).toNat : Int) n
          have cb2 := fun W n => byte1n W ((s[k]'hlt).toNat : Int) n
          simp only [Int.toNat_natCast, UInt8.ofNat_toNat] at cb1 cb2
          have hadd : ∀ W, (Op.stringOp .add ⟨p.toArray⟩ ⟨#[s[k]'hlt]⟩).run Try.prog W = .ok (.string ⟨(p ++ [s[k]'hlt]).toArray⟩) W := fun W => by
            rw [run_string_add_sum W _ _ (by show p.toArray.size + 1 ≤ _; simp; omega), part_push]
          have hfi : ((w1.setCell ⟨g, q.length, none⟩ (.string ⟨(p ++ [s[k]'hlt]).toArray⟩)).alloc (.cells #[.int .u8 ((s[k]'hlt).toNat : Int)] 5)).drew.ownsRow w.heap.size 9 1 (.slice (some ⟨g, 0, none⟩) (q.length + 1) cap) (q.length + 1) ((q ++ [p ++ [s[k]'hlt]]).map partV) ∧
              Below w.heap.size w ((w1.setCell ⟨g, q.length, none⟩ (.string ⟨(p ++ [s[k]'hlt]).toArray⟩)).alloc (.cells #[.int .u8 ((s[k]'hlt).toNat : Int)] 5)).drew := by
            have h1 := (World.ownsRow.stored HO.out q.length (.string ⟨(p ++ [s[k]'hlt]).toArray⟩)).1
            have h2 : Below w.heap.size w (w1.setCell ⟨g, q.length, none⟩ (.string ⟨(p ++ [s[k]'hlt]).toArray⟩)) := hbw.setCell (p := ⟨g, q.length, none⟩) hg1 _
            refine ⟨ownsRow_below (by simpa [partV] using h1) (((Below.refl _ _).alloc (Nat.le_refl _) _).drew), (h2.alloc h2.size _).drew⟩
          have HFI := Lib.hid hfi
          rw [letterB_eq] at hl
          clear hF2 hfi
          by_cases ha : 97 ≤ ((s[k]'hlt).toNat : Int) ∧ ((s[k]'hlt).toNat : Int) ≤ 122
          · obtain ⟨a1, a2⟩ := ha
            clear hl
            go_wp2_with fail
            go_region
            go_wp2_with fail
            go_roundw
            case rel => exact ⟨q, p ++ [s[k]], k + 1, by go_num, by omega, ⟨by omega, by simp; omega⟩, HFI.1, HF2, HFI.2⟩
            case measure => simp [intOf]; omega
          · by_cases hb : 48 ≤ ((s[k]'hlt).toNat : Int) ∧ ((s[k]'hlt).toNat : Int) ≤ 57
            · obtain ⟨a1, a2⟩ := hb
              have a3 : ((s[k]'hlt).toNat : Int) < 97 := by omega
              clear hl ha
              go_wp2_with fail
              go_region
              go_wp2_with fail
              go_roundw
              case rel => exact ⟨q, p ++ [s[k]], k + 1, by go_num, by omega, ⟨by omega, by simp; omega⟩, HFI.1, HF2, HFI.2⟩
              case measure => simp [intOf]; omega
            · have hd : ((s[k]'hlt).toNat : Int) = 46 ∨ ((s[k]'hlt).toNat : Int) = 95 := by
                simp only [letterI, Bool.or_eq_true, Bool.and_eq_true, decide_eq_true_eq, beq_iff_eq] at hl
                rcases hl with ((hl | hl) | hl) | hl
                · exact absurd hl ha
                · exact absurd hl hb
                · exact Or.inl hl
                · exact Or.inr hl
              rcases hd with hd | hd
              · have e1 : (((s[k]'hlt).toNat : Int) == 46) = true := by simp [hd]
                have e2 : ((s[k]'hlt).toNat : Int) < 97 := by omega
                have e3 : ((s[k]'hlt).toNat : Int) < 48 := by omega
                clear hl ha hb hd
                go_wp2_with fail
                go_region
                go_wp2_with fail
                go_roundw
                case rel => exact ⟨q, p ++ [s[k]], k + 1, by go_num, by omega, ⟨by omega, by simp; omega⟩, HFI.1, HF2, HFI.2⟩
                case measure => simp [intOf]; omega
              · have e1 : (((s[k]'hlt).toNat : Int) == 95) = true := by simp [hd]
                have e0 : (((s[k]'hlt).toNat : Int) == 46) = false := by simp [hd]
                have e2 : ((s[k]'hlt).toNat : Int) < 97 := by omega
                have e3 : 48 ≤ ((s[k]'hlt).toNat : Int) := by omega
                have e4 : 57 < ((s[k]'hlt).toNat : Int) := by omega
                clear hl ha hb hd
                go_wp2_with fail
                go_region
                go_wp2_with fail
                go_roundw
                case rel => exact ⟨q, p ++ [s[k]], k + 1, by go_num, by omega, ⟨by omega, by simp; omega⟩, HFI.1, HF2, HFI.2⟩
                case measure => simp [intOf]; omega
    · have hkI : ¬ (k : Int) < s.size := by omega
      have hsz : s.size = s.data.toList.length := Lib.size_eq s
      rw [List.drop_eq_nil_of_le (by omega), foldN] at hfold
      have hr := HR.out
      rw [hfold] at hr
      simp only at hr
      have hq10 : (q ++ [p]).length = q.length + 1 := by simp
      have hq9 : q.length ≤ 8 := by omega
      generalize hps : q ++ [p] = ps at *
      have hqI : ((q.length : Int) + 1) = ps.length := by omega
      have HR2 := Lib.hid hr
      have HO := Lib.hid hown
      clear hfold hr hsz hps HR hown
      have sG : SameB w1 w1 g := SameB.self hg2
      have hlen : q.length + 1 = ps.length := hq10.symm
      have hps10 : (ps.length : Int) ≤ 10 := by omega
      rw [hlen] at HO
      clear hlen hq10
      go_wp2_with fail
      go_loopw [6] (fun x wr => ∃ j : Nat, x = .int .i64 j ∧ j ≤ ps.length ∧ (ps.take j).all goodN = true ∧ wr = w1) (fun x wr => ps.length - (intOf x).toNat)
      case atStart => exact ⟨0, rfl, Nat.zero_le _, rfl, rfl⟩
      case round =>
        obtain ⟨j, rfl, hj, hall, rfl⟩ := hrel
        by_cases hjl : j < ps.length
        · have hjI : (j : Int) < ps.length := by omega
          obtain ⟨x, hx⟩ : ∃ x, ps[j]? = some x := ⟨ps[j], List.getElem?_eq_getElem hjl⟩
          have hc : wr.cell? ⟨g, j, none⟩ = some (.string ⟨x.toArray⟩) := by
            rw [World.ownsRow.cellAt HO.out j (by omega)]
            simp [hx, partV]
          have hsu : (ps.take (j + 1)).all goodN = goodN x := by rw [List.take_add_one, List.all_append, hall, hx]; simp
          have hmem := List.mem_of_getElem? hx
          have hbad : goodN x = false → r = false := fun hg => by
            rw [← HR2.out, Bool.and_eq_false_iff]
            refine Or.inl ?_
            rw [Bool.eq_false_iff]
            intro h
            rw [List.all_eq_true] at h
            have := h x hmem
            rw [hg] at this; cases this
          have HBAD := Lib.hid hbad
          have HSU := Lib.hid hsu
          clear hbad hsu hx hmem hall
          go_wp2_with fail
          all_goals
            first
              | (go_ret
                 rw [HBAD.out (by simp [goodN]; simp_all)]
                 exact ⟨rfl, hbw⟩)
              | (go_roundw
                 case rel => exact ⟨j + 1, by go_num, by omega, by rw [HSU.out]; simp [goodN]; simp_all, trivial⟩
                 case measure => simp [intOf]; omega)
        · have hjI : ¬ (j : Int) < ps.length := by omega
          rw [List.take_of_length_le (by omega)] at hall
          have hr := HR2.out
          rw [hall, Bool.true_and] at hr
          have HR3 := Lib.hid hr
          clear hr hall
          go_wp2_with fail
          go_ret
          refine ⟨ret_bool ?_, hbw⟩
          rw [← HR3.out, Bool.eq_iff_iff]
          simp
          omega
end Go.Proofs.Ytbcnfegmmhioeaa
