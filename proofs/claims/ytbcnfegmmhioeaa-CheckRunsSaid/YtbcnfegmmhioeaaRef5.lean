/- The document's own check of programs, walked. -/
import Derived.Test.YtbcnfegmmhioeaaRef5a
namespace Go.Proofs.Ytbcnfegmmhioeaa
open Go.RowKit

set_option maxRecDepth 100000 in
set_option maxHeartbeats 8000000 in
theorem rcheck_any {w : World} (A : Option Addr) (c : Nat) (B : Option Addr) (d : Nat) (L : List InstM) (Ns : List ByteArray) (hA : IsSl 2 instC w A L) (hB : IsSl 1 strC w B Ns) (r : Nat × Int) (hr : runM L Ns.length (Ns.all nameB) (reachS L) = r)
    (hs : List Int) (hh : hintsM L Ns.length (Ns.all nameB) = hs) : Calls Try.prog 24 #[progV A L.length c B Ns.length d] w (PostChk w r hs) := by
  unfold hintsM at hh
  rw [hr] at hh
  have hn : r.2 ≠ 0 → hs = [] := fun h => by rw [← hh, if_neg h]
  have he : r.2 = 0 → hs = heightsM L (reachS L) := fun h => by rw [← hh, if_pos h]
  have HN := Lib.hid hn
  have HE := Lib.hid he
  clear hh hn he
  unfold runM at hr
  by_cases h0 : L.length = 0
  · rw [if_pos (Or.inl h0)] at hr
    have HR := Lib.hid hr
    have h0I : ((L.length : Int) == 0) = true := by rw [h0]; rfl
    clear hr
    go_enter Try.func24, Try.ntmps24
    go_wp2_with fail
    go_ret3
    exact PostChk.err HN.out HR.out (by decide) bel
  have h0I : ((L.length : Int) == 0) = false := by simp only [beq_eq_false_iff_ne, ne_eq]; omega
  by_cases h1 : 96 < L.length
  · rw [if_pos (Or.inr (Or.inl h1))] at hr
    have HR := Lib.hid hr
    have h1I : (96 : Int) < L.length := by omega
    clear h0 h1 hr
    go_enter Try.func24, Try.ntmps24
    go_wp2_with fail
    go_ret3
    exact PostChk.err HN.out HR.out (by decide) bel
  have h1I : ¬ (96 : Int) < L.length := by omega
  by_cases h2 : 8 < Ns.length
  · rw [if_pos (Or.inr (Or.inr h2))] at hr
    have HR := Lib.hid hr
    have h2I : (8 : Int) < Ns.length := by omega
    clear h0 h1 h2 hr
    go_enter Try.func24, Try.ntmps24
    go_wp2_with fail
    go_ret3
    exact PostChk.err HN.out HR.out (by decide) bel
  have h2I : ¬ (8 : Int) < Ns.length := by omega
  rw [if_neg (by omega)] at hr
  have hHR := Lib.hid hr
  clear hr
  go_enter Try.func24, Try.ntmps24
  go_wp2_with fail
  obtain ⟨pb, hpb⟩ : ∃ p, p = Obj.cells #[.slice A L.length c, .slice B Ns.length d] 43 := ⟨_, rfl⟩
  have hp0 : (w.alloc (.cells #[.slice A L.length c, .slice B Ns.length d] 43)).heap[w.heap.size]? = some pb := by rw [hpb]; exact blk_new _ _
  have hb0 : Below w.heap.size w (w.alloc (.cells #[.slice A L.length c, .slice B Ns.length d] 43)) := (Below.refl _ _).alloc (Nat.le_refl _) _
  have HP0 := Lib.hid hp0
  have HPB := Lib.hid hpb
  have HB0 := Lib.hid hb0
  clear hp0 hpb hb0 h0I h1I h2I
  go_loopw [6] (fun x wr => ∃ k : Nat, x = .int .i64 k ∧ k ≤ Ns.length ∧ (Ns.take k).all nameB = true ∧ wr.heap[w.heap.size]? = some pb ∧ Below w.heap.size w wr) (fun x wr => Ns.length - (intOf x).toNat)
  case atStart => exact ⟨0, rfl, Nat.zero_le _, rfl, HP0, HB0⟩
  case round =>
    obtain ⟨k, rfl, hk, hall, hpw, hbw⟩ := hrel
    obtain ⟨w1, rfl⟩ : ∃ v, v = wr := ⟨wr, rfl⟩
    have s1l : Bel w w1 := ⟨hbw⟩
    have hz1 : w.heap.size < w1.heap.size := lt_of_block hpw
    have s1p : SameB w1 w1 w.heap.size := SameB.self hz1
    have p0 : ∀ W [SameB w1 W w.heap.size], W.cell? ⟨w.heap.size, 0, none⟩ = some (.slice A L.length c) := fun W _ => by
      have h := hpw; rw [HPB.out] at h; exact SameB.cell (blk_cell h 0)
    have p1 : ∀ W [SameB w1 W w.heap.size], W.cell? ⟨w.heap.size, 1, none⟩ = some (.slice B Ns.length d) := fun W _ => by
      have h := hpw; rw [HPB.out] at h; exact SameB.cell (blk_cell h 1)
    by_cases hlt : k < Ns.length
    · have hltI : (k : Int) < Ns.length := by omega
      have hkI : (Ns.length : Int) ≤ 8 := by omega
      obtain ⟨s, hsk⟩ : ∃ s, Ns[k]? = some s := ⟨Ns[k], List.getElem?_eq_getElem hlt⟩
      obtain ⟨bb, off, rfl, hsb, hc⟩ := (hB.below hbw).at_ hsk
      have d0 : ∀ W [SameB w1 W bb], W.cell? ⟨bb, off + k, none⟩ = some (.string s) := fun W _ => by simpa using hc W 0 _ rfl
      have hnm := fun W => rname_any s W
      have hsucc : (Ns.take (k + 1)).all nameB = nameB s := by
        rw [List.take_add_one, List.all_append, hall, hsk]; simp
      have HSU := Lib.hid hsucc
      have HPW := Lib.hid hpw
      have hmem := List.mem_of_getElem? hsk
      clear hc hall hsucc hsk hpw
      cases hnb : nameB s with
      | true =>
        rw [hnb] at hnm
        as_aux_lemma =>
          go_wp2_with ((go_at_call 94; ((with_reducible refine (hnm _).mono ?_); rintro e w2 ⟨rfl, hb2⟩)); have s2l : Bel w w2 := Bel.call hb2)
          go_roundw
          case rel => exact ⟨k + 1, by go_num, by omega, by rw [HSU.out]; exact hnb, (hb2.block _ hz1).trans HPW, s2l.out⟩
          case measure => simp [intOf]; omega
      | false =>
        rw [hnb] at hnm
        have hwell : Ns.all nameB = false := by
          rw [Bool.eq_false_iff]
          intro h
          rw [List.all_eq_true] at h
          have := h s hmem
          rw [hnb] at this; cases this
        have hr := hHR.out
        rw [hwell] at hr
        simp only [Bool.not_false, if_true] at hr
        have HR := Lib.hid hr
        clear hr hwell hnb hmem
        go_wp2_with ((go_at_call 94; ((with_reducible refine (hnm _).mono ?_); rintro e w2 ⟨rfl, hb2⟩)); have s2l : Bel w w2 := Bel.call hb2)
        go_ret3
        exact PostChk.err HN.out HR.out (by decide) s2l.out
    · have hltI : ¬ (k : Int) < Ns.length := by omega
      have hLI : (L.length : Int) ≤ 96 := by omega
      have hNI : (Ns.length : Int) ≤ 8 := by omega
      rw [List.take_of_length_le (by omega)] at hall
      have hr := hHR.out
      rw [hall] at hr
      simp only [Bool.not_true, Bool.false_eq_true, if_false] at hr
      have HR := Lib.hid hr
      have HPW := Lib.hid hpw
      clear hr hall hHR hpw
      go_wp2_with fail
      clear p0 p1
      go_loopw [7] (fun x wr => ∃ k : Nat, x = .int .i64 k ∧ k ≤ L.length ∧ (∀ k' i', k' < k → L[k']? = some i' → oneM i' L.length Ns.length k' = 0) ∧ wr.heap[w.heap.size]? = some pb ∧ Below w.heap.size w wr) (fun x wr => L.length - (intOf x).toNat)
      case atStart => exact ⟨0, rfl, Nat.zero_le _, fun _ _ h => by omega, HPW, hbw⟩
      case round =>
        obtain ⟨k2, rfl, hk2, hall, hpw, hbw2⟩ := hrel
        obtain ⟨w2, rfl⟩ : ∃ v, v = wr := ⟨wr, rfl⟩
        have s2l : Bel w w2 := ⟨hbw2⟩
        have hz2 : w.heap.size < w2.heap.size := lt_of_block hpw
        have s2p : SameB w2 w2 w.heap.size := SameB.self hz2
        have p0 : ∀ W [SameB w2 W w.heap.size], W.cell? ⟨w.heap.size, 0, none⟩ = some (.slice A L.length c) := fun W _ => by
          have h := hpw; rw [HPB.out] at h; exact SameB.cell (blk_cell h 0)
        have p1 : ∀ W [SameB w2 W w.heap.size], W.cell? ⟨w.heap.size, 1, none⟩ = some (.slice B Ns.length d) := fun W _ => by
          have h := hpw; rw [HPB.out] at h; exact SameB.cell (blk_cell h 1)
        by_cases hlt2 : k2 < L.length
        · have hltI2 : (k2 : Int) < L.length := by omega
          obtain ⟨i, hi⟩ : ∃ i, L[k2]? = some i := ⟨L[k2], List.getElem?_eq_getElem hlt2⟩
          obtain ⟨ab, off, rfl, hsb, hc⟩ := (hA.below hbw2).at_ hi
          have hfst := fun h => first_some (n := Ns.length) hi hall h
          have hsuc : oneM i L.length Ns.length k2 = 0 → ∀ k' i', k' < k2 + 1 → L[k']? = some i' → oneM i' L.length Ns.length k' = 0 := fun h k' i' hk' hi' => by
            by_cases e : k' < k2
            · exact hall k' i' e hi'
            · obtain rfl : k' = k2 := by omega
              rw [hi] at hi'; cases hi'; exact h
          have hbad : oneM i L.length Ns.length k2 ≠ 0 → (k2, oneM i L.length Ns.length k2) = r := fun h => by
            have hr := HR.out
            rw [hfst h] at hr
            exact hr
          have hone : oneM i L.length Ns.length k2 = (if !mayI i then 5 else if !namesI i Ns.length then 10 else if jumpsM i.1 && decide ((L.length : Int) ≤ i.2) then 6 else if !endsM i.1 && decide (k2 + 1 = L.length) then 8 else 0) := rfl
          generalize oneM i L.length Ns.length k2 = q at *
          have HSUC := Lib.hid hsuc
          have HBAD := Lib.hid hbad
          have HONE := Lib.hid hone
          have HPW2 := Lib.hid hpw
          obtain ⟨op, va⟩ := i
          have d0 : ∀ W [SameB w2 W ab], W.cell? ⟨ab, off + k2 * 2, none⟩ = some (.int .i64 op) := fun W _ => by simpa using hc W 0 _ rfl
          have d1 : ∀ W [SameB w2 W ab], W.cell? ⟨ab, off + k2 * 2 + 1, none⟩ = some (.int .i64 va) := fun W _ => hc W 1 _ rfl
          have hmay := fun W => rmay_any (op, va) W
          unfold instV at hmay
          simp only at hmay
          clear hc hfst hsuc hbad hone hall hpw hi
          cases hm : mayI (op, va) with
          | false =>
            rw [hm] at hmay
            have hq : q = 5 := by rw [HONE.out, hm]; rfl
            subst hq
            clear hm
            go_wp2_with ((go_at_call 95; ((with_reducible refine (hmay _).mono ?_); rintro e w3 ⟨rfl, hb3⟩)); have s3l : Bel w w3 := Bel.call hb3)
            go_ret3
            exact PostChk.err HN.out (HBAD.out (by decide)) (by decide) s3l.out
          | true =>
            rw [hm] at hmay
            have h0v := mayI_nonneg hm
            have h1v := mayI_lt hm
            simp only at h0v h1v
            obtain ⟨v, rfl⟩ : ∃ v : Nat, va = v := ⟨va.toNat, by omega⟩
            have hnms := fun W => rnames_any (op, (v : Int)) h0v h1v W
            unfold instV at hnms
            simp only at hnms
            have hall := namesI_all (i := (op, (v : Int))) h0v Ns.length
            have hT2 := rnamesM_len (op, (v : Int))
            generalize rnamesM (op, (v : Int)) = T at *
            have hone := HONE.out
            rw [hm, hall] at hone
            simp only [Bool.not_true, Bool.false_eq_true, if_false] at hone
            have HONE2 := Lib.hid hone
            have hT2I : (T.length : Int) ≤ 2 := by omega
            clear hm hone hall h0v HONE hT2
            go_wp2_with (first | ((go_at_call 95; ((with_reducible refine (hmay _).mono ?_); rintro e w3 ⟨rfl, hb3⟩)); have s3l : Bel w w3 := Bel.call hb3; obtain ⟨hc3, hf3⟩ := bcell hb3; have s3p : SameB w2 w3 w.heap.size := SameB.call hb3 _; have hz3 : w2.heap.size < w3.heap.size := by have := hb3.size; simp at this; omega) | ((go_at_call 96; ((with_reducible refine (hnms _).mono ?_); rintro e w4 ⟨vv, rfl, ho4, hb4⟩)); have s4l : Bel w w4 := Bel.call hb4; have s4p : SameB w2 w4 w.heap.size := SameB.call hb4 _; obtain ⟨A5, cap5, rfl, hls⟩ := owns_nats ho4))
            have hB4 := blk_call hb4 (blk_call hb3 (blk_new w2 (.cells #[.int .i64 op, .int .i64 v] 54)))
            have sx : SameB w4 w4 w2.heap.size := SameB.self (lt_of_block hB4)
            have x0 : ∀ W [SameB w4 W w2.heap.size], W.cell? ⟨w2.heap.size, 0, none⟩ = some (.int .i64 op) := fun W _ => SameB.cell (blk_cell hB4 0)
            have x1 : ∀ W [SameB w4 W w2.heap.size], W.cell? ⟨w2.heap.size, 1, none⟩ = some (.int .i64 v) := fun W _ => SameB.cell (blk_cell hB4 1)
            have HPW4 := Lib.hid (s4p.blk.trans HPW2)
            have HLS := Lib.hid hls
            clear hmay hnms hls ho4 hc3 hf3 d0 d1 hB4
            go_loopw [10] (fun x wr => ∃ j : Nat, x = .int .i64 j ∧ j ≤ T.length ∧ (T.take j).all (fun x => decide (x < Ns.length)) = true ∧ Below w4.heap.size w4 wr) (fun x wr => T.length - (intOf x).toNat)
            case atStart => exact ⟨0, rfl, Nat.zero_le _, rfl, Below.refl _ _⟩
            case round =>
              obtain ⟨j, rfl, hj, hTj, hbw5⟩ := hrel
              obtain ⟨w5, rfl⟩ : ∃ v, v = wr := ⟨wr, rfl⟩
              have s5l : Bel w w5 := ⟨s4l.out.trans (hbw5.mono s4l.out.size)⟩
              have s5p : SameB w2 w5 w.heap.size := ⟨(hbw5.block _ (Nat.lt_of_lt_of_le s4p.lt s4p.le)).trans s4p.blk, s4p.lt, Nat.le_trans s4p.le hbw5.size⟩
              have s5x : SameB w4 w5 w2.heap.size := ⟨hbw5.block _ sx.lt, sx.lt, hbw5.size⟩
              by_cases hjT : j < T.length
              · have hjI : (j : Int) < T.length := by omega
                obtain ⟨t, htj⟩ : ∃ t, T[j]? = some t := ⟨T[j], List.getElem?_eq_getElem hjT⟩
                obtain ⟨g, rfl, hg1, hg2, hg3⟩ := HLS.out (by omega)
                have s5g : SameB w4 w5 g := ⟨hbw5.block _ hg2, hg2, hbw5.size⟩
                have hgc : ∀ W [SameB w4 W g], W.cell? ⟨g, j, none⟩ = some (.int .i64 t) := fun W _ => SameB.cell (hg3 j t htj)
                have hsu : (T.take (j + 1)).all (fun x => decide (x < Ns.length)) = decide (t < Ns.length) := by
                  rw [List.take_add_one, List.all_append, hTj, htj]; simp
                have HSU := Lib.hid hsu
                have hmem := List.mem_of_getElem? htj
                have HB5 := Lib.hid hbw5
                clear htj hg3 hsu hTj hbw5
                by_cases htn : t < Ns.length
                · have htI : ¬ (Ns.length : Int) ≤ t := by omega
                  have HTN := Lib.hid htn
                  have hdn : decide (Ns.length ≤ t) = false := by simpa using htn
                  clear hmem htn
                  go_wp2_with fail
                  go_region
                  as_aux_lemma =>
                    go_wp2_with fail
                    go_roundw
                    case rel => exact ⟨j + 1, by go_num, by omega, by rw [HSU.out]; simpa using HTN.out, HB5.out.drew⟩
                    case measure => simp [intOf]; omega
                · have htI : (Ns.length : Int) ≤ t := by omega
                  have hq : q = 10 := by
                    rw [HONE2.out, if_pos]
                    have : T.all (fun x => decide (x < Ns.length)) = false := by
                      rw [List.all_eq_false]
                      exact ⟨t, hmem, by simpa using htn⟩
                    rw [this]; rfl
                  subst hq
                  clear hmem
                  go_wp2_with fail
                  go_region
                  go_wp2_with fail
                  go_ret3
                  exact PostChk.err HN.out (HBAD.out (by decide)) (by decide) bel
              · have hjI : ¬ (j : Int) < T.length := by omega
                rw [List.take_of_length_le (by omega)] at hTj
                have hone := HONE2.out
                rw [hTj] at hone
                simp only [Bool.not_true, Bool.false_eq_true, if_false] at hone
                have HONE3 := Lib.hid hone
                have hfin : q = 0 → (∀ k' i', k' < k2 + 1 → L[k']? = some i' → oneM i' L.length Ns.length k' = 0) ∧ w5.heap[w.heap.size]? = some pb ∧ Below w.heap.size w w5 := fun h => ⟨HSUC.out h, s5p.blk.trans HPW2, s5l.out⟩
                have HFIN := Lib.hid hfin
                clear hone hTj HONE2 HLS hfin hbw5
                have hj6 : jumpsM op = true → L.length ≤ v → q = 6 := fun h1 h2 => by rw [HONE3.out, if_pos]; simp [h1]; omega
                have hj8 : (jumpsM op = false ∨ v < L.length) → endsM op = false → k2 + 1 = L.length → q = 8 := fun h1 h2 h3 => by
                  rw [HONE3.out, if_neg, if_pos]
                  · simp [h2]; omega
                  · rcases h1 with h1 | h1
                    · simp [h1]
                    · simp; omega
                have hj0 : (jumpsM op = false ∨ v < L.length) → (endsM op = true ∨ k2 + 1 ≠ L.length) → q = 0 := fun h1 h2 => by
                  rw [HONE3.out, if_neg, if_neg]
                  · rcases h2 with h2 | h2
                    · simp [h2]
                    · simp; omega
                  · rcases h1 with h1 | h1
                    · simp [h1]
                    · simp; omega
                have HJ6 := Lib.hid hj6
                have HJ8 := Lib.hid hj8
                have HJ0 := Lib.hid hj0
                clear hj6 hj8 hj0
                by_cases o22 : op = 22
                · subst o22
                  by_cases hv : L.length ≤ v
                  · have hvI : (L.length : Int) ≤ v := by omega
                    obtain rfl := HJ6.out rfl hv
                    clear hv
                    go_wp2_with fail
                    go_ret3
                    exact PostChk.err HN.out (HBAD.out (by decide)) (by decide) s5l.out
                  · have hvI : ¬ (L.length : Int) ≤ v := by omega
                    obtain rfl := HJ0.out (Or.inr (by omega)) (Or.inl rfl)
                    clear hv
                    as_aux_lemma =>
                      go_wp2_with fail
                      go_roundw
                      case rel => exact ⟨k2 + 1, by go_num, by omega, HFIN.out rfl⟩
                      case measure => simp [intOf]; omega
                have b22 : (op == 22) = false := by simpa using o22
                have c22 : (op != 22) = true := by simpa using o22
                by_cases o23 : op = 23
                · subst o23
                  by_cases hv : L.length ≤ v
                  · have hvI : (L.length : Int) ≤ v := by omega
                    obtain rfl := HJ6.out rfl hv
                    clear hv
                    go_wp2_with fail
                    go_ret3
                    exact PostChk.err HN.out (HBAD.out (by decide)) (by decide) s5l.out
                  · have hvI : ¬ (L.length : Int) ≤ v := by omega
                    by_cases hk1 : k2 + 1 = L.length
                    · have hkI : ((k2 : Int) == (L.length : Int) - 1) = true := by simp; omega
                      obtain rfl := HJ8.out (Or.inr (by omega)) rfl hk1
                      clear hv hk1
                      go_wp2_with fail
                      go_ret3
                      exact PostChk.err HN.out (HBAD.out (by decide)) (by decide) s5l.out
                    · have hkI : ((k2 : Int) == (L.length : Int) - 1) = false := by simp; omega
                      obtain rfl := HJ0.out (Or.inr (by omega)) (Or.inr hk1)
                      clear hv hk1
                      as_aux_lemma =>
                        go_wp2_with fail
                        go_roundw
                        case rel => exact ⟨k2 + 1, by go_num, by omega, HFIN.out rfl⟩
                        case measure => simp [intOf]; omega
                have b23 : (op == 23) = false := by simpa using o23
                have hju : jumpsM op = false := by simp [jumpsM, o22, o23]
                by_cases o26 : op = 26
                · subst o26
                  obtain rfl := HJ0.out (Or.inl rfl) (Or.inl rfl)
                  clear hju
                  as_aux_lemma =>
                    go_wp2_with fail
                    go_roundw
                    case rel => exact ⟨k2 + 1, by go_num, by omega, HFIN.out rfl⟩
                    case measure => simp [intOf]; omega
                have c26 : (op != 26) = true := by simpa using o26
                have hen : endsM op = false := by simp [endsM, o22, o26]
                by_cases hk1 : k2 + 1 = L.length
                · have hkI : ((k2 : Int) == (L.length : Int) - 1) = true := by simp; omega
                  obtain rfl := HJ8.out (Or.inl hju) hen hk1
                  clear hk1 hju hen o22 o23 o26
                  go_wp2_with fail
                  go_ret3
                  exact PostChk.err HN.out (HBAD.out (by decide)) (by decide) s5l.out
                · have hkI : ((k2 : Int) == (L.length : Int) - 1) = false := by simp; omega
                  obtain rfl := HJ0.out (Or.inl hju) (Or.inr hk1)
                  clear hk1 hju hen o22 o23 o26
                  as_aux_lemma =>
                    go_wp2_with fail
                    go_roundw
                    case rel => exact ⟨k2 + 1, by go_num, by omega, HFIN.out rfl⟩
                    case measure => simp [intOf]; omega
        · have hltI2 : ¬ (k2 : Int) < L.length := by omega
          have hW : WellOnes L Ns.length := fun k' i' hi' => hall k' i' (by have := (List.getElem?_eq_some_iff.1 hi').1; omega) hi'
          have hr := HR.out
          rw [first_none hW] at hr
          have HR2 := Lib.hid hr
          have HPW2 := Lib.hid hpw
          have hmk := fun W => run_make1 Try.underlying161 Try.info_sb rfl (by decide) L.length (by omega) W
          clear hr hall hpw HR p0 p1
          go_wp2_with fail
          clear hmk
          obtain ⟨V, hV⟩ : ∃ V, V = w2.alloc (.cells (Array.replicate L.length (.slice none 0 0)) 67) := ⟨_, rfl⟩
          have hVz : V.heap.size = w2.heap.size + 1 := by rw [hV]; simp
          have hst : RowsAt V V w2.heap.size L.length 0 (fun _ _ => false) ∧ V.heap.size = rowB V 0 ∧ V.heap[w.heap.size]? = some pb ∧ Below w.heap.size w V := by
            rw [hV]
            refine ⟨⟨?_, fun i hi => by omega, by simp⟩, rfl, blk_alloc HPW2.out _, s2l.out.alloc s2l.out.size _⟩
            rw [blk_new]
            have : (Array.replicate L.length (Value.slice none 0 0)) = topA (w2.alloc (.cells (Array.replicate L.length (.slice none 0 0)) 67)) L.length 0 := by
              apply Array.ext_getElem?
              intro m
              by_cases hm : m < L.length
              · simp [topA, hm]
              · simp [topA, hm]
            rw [← this]
          have HV := Lib.hid hV
          have HST := Lib.hid hst
          clear hV hst
          go_loopw [12] (fun x wr => ∃ k : Nat, x = .int .i64 k ∧ k ≤ L.length ∧ RowsAt V wr w2.heap.size L.length k (fun _ _ => false) ∧ wr.heap.size = rowB V k ∧ wr.heap[w.heap.size]? = some pb ∧ Below w.heap.size w wr) (fun x wr => L.length - (intOf x).toNat)
          case atStart => exact ⟨0, rfl, Nat.zero_le _, by rw [← HV.out]; exact HST.out⟩
          case round =>
            obtain ⟨k, rfl, hk, hrw, hsz, hpw, hbw⟩ := hrel
            obtain ⟨w3, rfl⟩ : ∃ v, v = wr := ⟨wr, rfl⟩
            by_cases hlt3 : k < L.length
            · have hltI3 : (k : Int) < L.length := by omega
              have sR : SameB w3 w3 w2.heap.size := SameB.self hrw.tlt
              have hfr : ∀ W [SameB w3 W w2.heap.size], W.frozen? ⟨w2.heap.size, k, none⟩ = false := fun W _ => SameB.free (blk_free hrw.top k)
              have hce : ∀ W [SameB w3 W w2.heap.size], W.cell? ⟨w2.heap.size, k, none⟩ = some (.slice none 0 0) := fun W _ => SameB.cell (hrw.tnext hlt3)
              have hmk : ∀ W, (Instr.makeSlice 67 (.int .i64 17) (.int .i64 17)).run Try.prog W = .ok (.slice (some ⟨W.heap.size, 0, none⟩) 17 17) (W.alloc (.cells (Array.replicate 17 (.bool false)) 4)) := fun W => run_make1 Try.underlying67 Try.info_b rfl (by decide) 17 (by decide) W
              have HRW := Lib.hid hrw
              have HSZ := Lib.hid hsz
              have HPW := Lib.hid hpw
              have HBW := Lib.hid hbw
              clear hrw hsz hpw hbw
              as_aux_lemma =>
                go_wp2_with fail
                go_roundw
                case rel => exact ⟨k + 1, by go_num, by omega, fill_step HRW.out HSZ.out HPW.out HBW.out (by have := s2p.lt; have := s2p.le; omega)⟩
                case measure => simp [intOf]; omega
            · have hltI3 : ¬ (k : Int) < L.length := by omega
              obtain rfl : k = L.length := by omega
              have hpos : 0 < L.length := by omega
              obtain ⟨ab, off, rfl, hab⟩ : ∃ ab off, A = some ⟨ab, off, none⟩ ∧ ab < w.heap.size := by
                obtain ⟨ab, off, e, h1, _⟩ := hA hpos
                exact ⟨ab, off, e, h1⟩
              have oR : OldB w2.heap.size V := ⟨by omega⟩
              have oP : OldB w.heap.size V := ⟨by have := s2p.lt; have := s2p.le; omega⟩
              have oA : OldB ab V := ⟨by have := oP.lt; omega⟩
              have hS5 : St5 w V (w3.setCell ⟨rowB V 0, 0, none⟩ (.bool true)) w2.heap.size L.length pb S00 := St5.set ⟨hrw, hpw, hbw⟩ hpos (by decide) oP.lt
              have HS5 := Lib.hid hS5
              have sR : SameB w3 w3 w2.heap.size := SameB.self hrw.tlt
              have tc : ∀ W [SameB w3 W w2.heap.size], W.cell? ⟨w2.heap.size, 0, none⟩ = some (.slice (some ⟨rowB V 0, 0, none⟩) 17 17) := fun W _ => SameB.cell (hrw.tcell hpos hpos)
              have rc : w3.cell? ⟨rowB V 0, 0, none⟩ = some (.bool false) := hrw.rcell hpos (by decide)
              have rf : w3.frozen? ⟨rowB V 0, 0, none⟩ = false := hrw.free hpos 0
              have hposI : (0 : Int) < L.length := by omega
              clear hS5 hrw hsz hpw hbw
              go_wp2_with fail
              clear tc rc rf
              go_loopg [13] (leftS S00 + 1) (fun gk ag wr => ∃ (S : Nat → Nat → Bool) (a : Bool), ag = .bool a ∧ gk = (if a then leftS S + 1 else 0) ∧ St5 w V wr w2.heap.size L.length pb S ∧ SoundR L S ∧ S 0 0 = true ∧ (a = false → ∀ k h, k < L.length → h < 17 → ClosedAt L S k h))
              case atStart =>
                refine ⟨S00, true, rfl, rfl, HS5, ?_, rfl, fun h => by cases h⟩
                intro k h hk
                unfold S00 setS at hk
                split at hk
                · rename_i e; obtain ⟨rfl, rfl⟩ := e; exact Reach.start
                · cases hk
              case round =>
                obtain ⟨S0, a, rfl, hgk, hS0, hsnd, hz0, hcl⟩ := hrel
                obtain ⟨w4, rfl⟩ : ∃ v, v = wr := ⟨wr, rfl⟩
                cases a with
                | false =>
                  have hir := isReach_of hW hpos hsnd hz0 (hcl rfl)
                  obtain rfl := reachS_eq hir
                  have HIR := Lib.hid hir
                  have HS := Lib.hid hS0
                  clear hcl hsnd hz0 hir hS0
                  have hmk := fun W => run_make1 Try.underlying47 Try.info_int rfl (by decide) L.length (by omega) W
                  clear hgk
                  go_wp2_with fail
                  clear hmk
                  obtain ⟨U, hU⟩ : ∃ U, U = w4 := ⟨_, rfl⟩
                  have oR : OldB w2.heap.size w4 := ⟨HS.out.rows.tlt⟩
                  have oP : OldB w.heap.size w4 := ⟨lt_of_block HS.out.p⟩
                  have oA : OldB ab w4 := ⟨Nat.lt_of_lt_of_le hab HS.out.b.size⟩
                  have oK : ∀ i, i < L.length → OldB (rowB V i) w4 := fun i hi => ⟨HS.out.rows.lt hi⟩
                  have hst := HtsAt.start HS.out
                  have HST := Lib.hid hst
                  clear hst hU
                  go_loopw [23] (fun x wr => ∃ (k : Nat) (xs : List Int), x = .int .i64 k ∧ k ≤ L.length ∧ xs.take k = rowsM L k ∧ (∀ k' i', k' < k → L[k']? = some i' → (rowM i'.1 (reachS L k') 17).2 = true) ∧ HtsAt w V wr w2.heap.size L pb w4.heap.size xs) (fun x wr => L.length - (intOf x).toNat)
                  case atStart => exact ⟨0, _, rfl, Nat.zero_le _, rfl, fun _ _ h => by omega, HST⟩
                  case round =>
                    obtain ⟨k, xs, rfl, hk, hxs, hall, hH⟩ := hrel
                    obtain ⟨w5, rfl⟩ : ∃ v, v = wr := ⟨wr, rfl⟩
                    by_cases hlt : k < L.length
                    · have hltI : (k : Int) < L.length := by omega
                      obtain ⟨i, hi⟩ : ∃ i, L[k]? = some i := ⟨L[k], List.getElem?_eq_getElem hlt⟩
                      obtain ⟨op, va⟩ := i
                      have hmi := hW.may hi
                      obtain ⟨kt, kg, ka, hkk⟩ : ∃ kt kg ka, kindM op = some (kt, kg, ka) := by
                        unfold mayI at hmi
                        split at hmi
                        · rename_i q hq; exact ⟨q.1, q.2.1, q.2.2, hq⟩
                        · cases hmi
                      have hkb := kind_bound hkk
                      simp only at hkb
                      obtain ⟨hkt0, hkt3, hkg0, hkg2, _, _⟩ := hkb
                      have htk : takesM op = kt := by simp [takesM, hkk]
                      have hgi : givesM op = kg := by simp [givesM, hkk]
                      have hrow := fun W => row_any op W
                      rw [hkk] at hrow
                      simp only at hrow
                      have hfst := fun h => stack_some (S := reachS L) hi hall h
                      have hsuc : (rowM op (reachS L k) 17).2 = true → ∀ k' i', k' < k + 1 → L[k']? = some i' → (rowM i'.1 (reachS L k') 17).2 = true := fun h k' i' hk' hi' => by
                        by_cases e : k' < k
                        · exact hall k' i' e hi'
                        · obtain rfl : k' = k := by omega
                          rw [hi] at hi'; cases hi'; exact h
                      have hrs := rowsM_succ hi
                      simp only at hfst hrs
                      have hbad : ∀ j, (rowM op (reachS L k) j).2 = false → j ≤ 17 → (k, (7 : Int)) = r := fun j hj hj17 => by
                        have h17 : (rowM op (reachS L k) 17).2 = false := by
                          have := rowM_bad hj (17 - j)
                          rwa [show j + (17 - j) = 17 by omega] at this
                        have hr := HR2.out
                        rw [hfst h17] at hr
                        exact hr
                      have hbeh : ∀ h : Nat, behindM op h = if 0 ≤ (h : Int) - kt ∧ (h : Int) - kt + kg ≤ 16 then some ((h : Int) - kt + kg).toNat else none := fun h => by unfold behindM; rw [htk, hgi]
                      have HBAD := Lib.hid hbad
                      have HSUC := Lib.hid hsuc
                      have HRS := Lib.hid hrs
                      have HXS := Lib.hid hxs
                      have HXL := Lib.hid hH.len
                      have HBE := Lib.hid hbeh
                      have sH : SameB w5 w5 w4.heap.size := SameB.self (lt_of_block hH.h)
                      have hce : ∀ W [SameB w5 W w4.heap.size], W.frozen? ⟨w4.heap.size, k, none⟩ = false := fun W _ => SameB.free (blk_free hH.h k)
                      have hcc : ∃ y, w5.cell? ⟨w4.heap.size, k, none⟩ = some y := ⟨_, hH.cell hlt⟩
                      obtain ⟨y0, hcc⟩ := hcc
                      have hH1 := hH.put k (-1) oK oR
                      have sP : SameB w5 w5 w.heap.size := SameB.self (lt_of_block hH.st.p)
                      have sA : SameB w5 w5 ab := SameB.self (Nat.lt_of_lt_of_le hab hH.st.b.size)
                      have p0 : ∀ W [SameB w5 W w.heap.size], W.cell? ⟨w.heap.size, 0, none⟩ = some (.slice (some ⟨ab, off, none⟩) L.length c) := fun W _ => by
                        have h := hH.st.p; rw [HPB.out] at h; exact SameB.cell (blk_cell h 0)
                      obtain ⟨ab', off', eA, hsb, hc⟩ := (hA.below hH.st.b).at_ hi
                      cases eA
                      have d0 : ∀ W [SameB w5 W ab], W.cell? ⟨ab, off + k * 2, none⟩ = some (.int .i64 op) := fun W _ => by simpa using hc W 0 _ rfl
                      have HH1 := Lib.hid hH1
                      clear hc hsb hxs hall hH hH1 hi hmi hkk htk hgi hfst hsuc hrs hbad hbeh
                      go_wp2_with ((go_at_call 97; ((with_reducible refine (hrow _).mono ?_); rintro e w6 ⟨s, rfl, hb6⟩)))
                      have hH2 := HH1.out.call hb6
                      have HH2 := Lib.hid hH2
                      clear hH2 d0 p0 hce hcc sH sP sA
                      go_loopw [29] (fun x wr => ∃ (j : Nat) (l : Int), x = .int .i64 j ∧ j ≤ 17 ∧ rowM op (reachS L k) j = (l, true) ∧ HtsAt w V wr w2.heap.size L pb w4.heap.size (xs.set k l)) (fun x wr => 17 - (intOf x).toNat)
                      case atStart => exact ⟨0, -1, rfl, by omega, rfl, HH2⟩
                      case round =>
                        obtain ⟨j, l, rfl, hj, hrm, hH⟩ := hrel
                        obtain ⟨w7, rfl⟩ : ∃ v, v = wr := ⟨wr, rfl⟩
                        have hll := rowM_lt op (reachS L k) j
                        rw [hrm] at hll
                        simp only at hll
                        obtain ⟨hl1, hl2⟩ := hll
                        by_cases h17 : j < 17
                        · have hjI : (j : Int) ≤ 16 := by omega
                          have sR : SameB w7 w7 w2.heap.size := SameB.self hH.st.rows.tlt
                          have sK : SameB w7 w7 (rowB V k) := SameB.self (hH.st.rows.lt hlt)
                          have tc : ∀ W [SameB w7 W w2.heap.size], W.cell? ⟨w2.heap.size, k, none⟩ = some (.slice (some ⟨rowB V k, 0, none⟩) 17 17) := fun W _ => SameB.cell (hH.st.rows.tcell hlt hlt)
                          have rc : ∀ W [SameB w7 W (rowB V k)], W.cell? ⟨rowB V k, j, none⟩ = some (.bool (reachS L k j)) := fun W _ => SameB.cell (hH.st.rows.rcell hlt h17)
                          have hsu : rowM op (reachS L k) (j + 1) = if reachS L k j then ((j : Int), true && (behindM op j).isSome && decide (l = -1)) else (l, true) := by rw [rowM, hrm]
                          cases hg : reachS L k j with
                          | false =>
                            rw [hg] at rc hsu
                            have HSU := Lib.hid hsu
                            have HH := Lib.hid hH
                            clear hsu hH hrm hg
                            as_aux_lemma =>
                              go_wp2_with fail
                              go_roundw
                              case rel => exact ⟨j + 1, l, by go_num, by omega, by rw [HSU.out]; rfl, HH⟩
                              case measure => simp [intOf]; omega
                          | true =>
                            rw [hg] at rc hsu
                            simp only [if_true, Bool.true_and] at hsu
                            have hcl : ∀ W [SameB w7 W w4.heap.size], W.cell? ⟨w4.heap.size, k, none⟩ = some (.int .i64 l) := fun W _ => SameB.cell (hH.at_ hlt HXL.out)
                            have sH : SameB w7 w7 w4.heap.size := SameB.self (lt_of_block hH.h)
                            have hce : ∀ W [SameB w7 W w4.heap.size], W.frozen? ⟨w4.heap.size, k, none⟩ = false := fun W _ => SameB.free (blk_free hH.h k)
                            have hput := hH.put k (j : Int) oK oR
                            rw [List.set_set] at hput
                            have hbw := hH.st.b
                            have HPT := Lib.hid hput
                            have HSU := Lib.hid hsu
                            clear hput hsu hH hrm hg
                            by_cases hl0 : 0 ≤ l
                            · have hb := HBAD.out (j + 1) (by rw [HSU.out]; simp; omega) (by omega)
                              have HB := Lib.hid hb
                              clear hb HBAD
                              as_aux_lemma =>
                                go_wp2_with fail
                                go_ret3
                                exact PostChk.err HN.out HB.out (by decide) hbw
                            have hl0I : l < 0 := by omega
                            by_cases ht : (j : Int) < kt
                            · have hb := HBAD.out (j + 1) (by rw [HSU.out, HBE.out, if_neg (by omega)]; rfl) (by omega)
                              have HB := Lib.hid hb
                              clear hb HBAD hl0
                              as_aux_lemma =>
                                go_wp2_with fail
                                go_ret3
                                exact PostChk.err HN.out HB.out (by decide) hbw
                            by_cases hg16 : (16 : Int) < (j : Int) - kt + kg
                            · have hb := HBAD.out (j + 1) (by rw [HSU.out, HBE.out, if_neg (by omega)]; rfl) (by omega)
                              have HB := Lib.hid hb
                              clear hb HBAD hl0
                              as_aux_lemma =>
                                go_wp2_with fail
                                go_ret3
                                exact PostChk.err HN.out HB.out (by decide) hbw
                            obtain rfl : l = -1 := by omega
                            have hs2 := HSU.out
                            rw [HBE.out, if_pos (by omega)] at hs2
                            have HS2 := Lib.hid hs2
                            clear hs2 HBAD hl0 HSU hl0I hl1 hl2
                            as_aux_lemma =>
                              go_wp2_with fail
                              go_roundw
                              case rel => exact ⟨j + 1, (j : Int), by go_num, by omega, by rw [HS2.out]; rfl, HPT⟩
                              case measure => simp [intOf]; omega
                        · have hjI : (16 : Int) < j := by omega
                          obtain rfl : j = 17 := by omega
                          have hsu := HSUC.out (by rw [hrm])
                          have hxs1 : (xs.set k l).take (k + 1) = rowsM L (k + 1) := by
                            rw [HRS.out, hrm, ← HXS.out]
                            exact take_set_succ xs k l (by have := HXL.out; omega)
                          have HX1 := Lib.hid hxs1
                          have HSU := Lib.hid hsu
                          have HH := Lib.hid hH
                          clear hxs1 hsu hH hrm
                          as_aux_lemma =>
                            go_wp2_with fail
                            go_roundw
                            case rel => exact ⟨k + 1, _, by go_num, by omega, HX1.out, HSU.out, HH⟩
                            case measure => simp [intOf]; omega
                    · have hltI : ¬ (k : Int) < L.length := by omega
                      obtain rfl : k = L.length := by omega
                      have hr := HR2.out
                      rw [stack_none (fun k' i' hi' => hall k' i' (by have := (List.getElem?_eq_some_iff.1 hi').1; omega) hi')] at hr
                      rw [List.take_of_length_le (by have := hH.len; omega)] at hxs
                      have hfin : PostChk w r hs (.returned (.tuple #[.int .i64 0, .int .i64 0, .slice (some ⟨w4.heap.size, 0, none⟩) L.length L.length])) w5 := by
                        rw [← hr, HE.out (by rw [← hr])]
                        refine ⟨_, rfl, ?_, hH.st.b⟩
                        have : heightsM L (reachS L) = xs := hxs.symm
                        rw [this, hH.len]
                        exact hH.owns (Nat.le_trans HS.out.b.size (Nat.le_refl _)) (by omega)
                      have HFI := Lib.hid hfin
                      clear hr hxs hall hH hfin
                      go_wp2_with fail
                      go_ret3
                      exact HFI.out
                | true =>
                  clear hcl
                  simp only [if_true] at hgk
                  have hR0 : Round L S0 S0 false (∀ k', k' < 0 → ∀ h, h < 17 → ClosedAt L S0 k' h) := ⟨hsnd, hz0, Nat.le_refl _, (fun h => by cases h), fun _ => ⟨rfl, fun k' h => by omega⟩⟩
                  have HS0 := Lib.hid hS0
                  have HR0 := Lib.hid hR0
                  clear hsnd hz0 hS0 hR0
                  go_wp2_with fail
                  go_loopw [13, 14] (fun ag x wr => ∃ (S : Nat → Nat → Bool) (a : Bool) (k : Nat), ag = .bool a ∧ x = .int .i64 k ∧ k ≤ L.length ∧ St5 w V wr w2.heap.size L.length pb S ∧ Round L S0 S a (∀ k', k' < k → ∀ h, h < 17 → ClosedAt L S0 k' h)) (fun ag x wr => L.length - (intOf x).toNat)
                  case atStart => exact ⟨S0, false, 0, rfl, rfl, Nat.zero_le _, HS0, HR0⟩
                  case round =>
                    obtain ⟨S1, a1, k, rfl, rfl, hk, hS1, hR1⟩ := hrel
                    obtain ⟨w5, rfl⟩ : ∃ v, v = wr := ⟨wr, rfl⟩
                    by_cases hlt : k < L.length
                    · have hltI : (k : Int) < L.length := by omega
                      obtain ⟨i, hi⟩ : ∃ i, L[k]? = some i := ⟨L[k], List.getElem?_eq_getElem hlt⟩
                      obtain ⟨op, va⟩ := i
                      have hmi := hW.may hi
                      have hn0 := mayI_nonneg hmi
                      simp only at hn0
                      obtain ⟨v, rfl⟩ : ∃ v : Nat, va = v := ⟨va.toNat, by omega⟩
                      obtain ⟨kt, kg, ka, hkk⟩ : ∃ kt kg ka, kindM op = some (kt, kg, ka) := by
                        unfold mayI at hmi
                        split at hmi
                        · rename_i q hq; exact ⟨q.1, q.2.1, q.2.2, hq⟩
                        · cases hmi
                      have hkb := kind_bound hkk
                      simp only at hkb
                      obtain ⟨hkt0, hkt3, hkg0, hkg2, _, _⟩ := hkb
                      have htk : takesM op = kt := by simp [takesM, hkk]
                      have hgi : givesM op = kg := by simp [givesM, hkk]
                      have hrow := fun W => row_any op W
                      rw [hkk] at hrow
                      simp only at hrow
                      have hR2 : Round L S0 S1 a1 ((∀ k', k' < k → ∀ h, h < 17 → ClosedAt L S0 k' h) ∧ ∀ h', h' < 0 → ClosedAt L S0 k h') := hR1.mono fun e h => ⟨h, fun h' hh => by omega⟩
                      have HS1 := Lib.hid hS1
                      have HR2 := Lib.hid hR2
                      have HI := Lib.hid hi
                      have HTK := Lib.hid htk
                      have HGI := Lib.hid hgi
                      clear hS1 hR1 hR2 hi hmi hn0 hkk htk hgi
                      go_wp2_with fail
                      go_loopw [13, 15] (fun ag x wr => ∃ (S : Nat → Nat → Bool) (a : Bool) (h : Nat), ag = .bool a ∧ x = .int .i64 h ∧ h ≤ 17 ∧ St5 w V wr w2.heap.size L.length pb S ∧ Round L S0 S a ((∀ k', k' < k → ∀ h, h < 17 → ClosedAt L S0 k' h) ∧ ∀ h', h' < h → ClosedAt L S0 k h')) (fun ag x wr => 17 - (intOf x).toNat)
                      case atStart => exact ⟨S1, a1, 0, rfl, rfl, by omega, HS1, HR2⟩
                      case round =>
                        obtain ⟨S2, a2, h, rfl, rfl, hh, hS2, hR2⟩ := hrel
                        obtain ⟨w6, rfl⟩ : ∃ v, v = wr := ⟨wr, rfl⟩
                        by_cases h17 : h < 17
                        · have hhI : (h : Int) ≤ 16 := by omega
                          have sR : SameB w6 w6 w2.heap.size := SameB.self hS2.rows.tlt
                          have sK : SameB w6 w6 (rowB V k) := SameB.self (hS2.rows.lt hlt)
                          have tc : ∀ W [SameB w6 W w2.heap.size], W.cell? ⟨w2.heap.size, k, none⟩ = some (.slice (some ⟨rowB V k, 0, none⟩) 17 17) := fun W _ => SameB.cell (hS2.rows.tcell hlt hlt)
                          have rc : ∀ W [SameB w6 W (rowB V k)], W.cell? ⟨rowB V k, h, none⟩ = some (.bool (S2 k h)) := fun W _ => SameB.cell (hS2.rows.rcell hlt h17)
                          cases hg : S2 k h with
                          | false =>
                            rw [hg] at rc
                            have hR3 : Round L S0 S2 a2 ((∀ k', k' < k → ∀ h, h < 17 → ClosedAt L S0 k' h) ∧ ∀ h', h' < h + 1 → ClosedAt L S0 k h') := hR2.mono fun e0 ⟨e1, e3⟩ => ⟨e1, fun h' hlt => by
                              by_cases e : h' < h
                              · exact e3 h' e
                              · obtain rfl : h' = h := by omega
                                intro hS; rw [← e0, hg] at hS; cases hS⟩
                            have HR3 := Lib.hid hR3
                            have HS2 := Lib.hid hS2
                            clear hR2 hR3 hS2 hg
                            as_aux_lemma =>
                              go_wp2_with fail
                              go_roundw
                              case rel => exact ⟨S2, a2, h + 1, rfl, by go_num, by omega, HS2, HR3⟩
                              case measure => simp [intOf]; omega
                          | true =>
                            have hS2b := hS2.b
                            have HIo := HI.out
                            have hmi := hW.may HIo
                            have HS2 := Lib.hid hS2
                            have HG := Lib.hid hg
                            have hreach : ∀ m, behindM op h = some m → ∀ to ∈ nextM (op, (v : Int)) k, Reach L to m := fun m hm to ht => Reach.next (hR2.snd k h hg) HIo hm ht
                            have hlt96 : ∀ to ∈ nextM (op, (v : Int)) k, to < L.length := fun to ht => hW.next HIo ht
                            have hclose : ∀ m, behindM op h = some m → ((∀ k', k' < k → ∀ h, h < 17 → ClosedAt L S0 k' h) ∧ ∀ h', h' < h → ClosedAt L S0 k h') → (∀ to ∈ nextM (op, (v : Int)) k, S0 to m = true) →
                                ((∀ k', k' < k → ∀ h, h < 17 → ClosedAt L S0 k' h) ∧ ∀ h', h' < h + 1 → ClosedAt L S0 k h') := fun m hm ⟨e1, e3⟩ e4 => ⟨e1, fun h' hlt => by
                              by_cases e : h' < h
                              · exact e3 h' e
                              · obtain rfl : h' = h := by omega
                                intro hS i' m' hi' hb' to ht
                                rw [show L[k]? = some (op, (v : Int)) from HIo] at hi'
                                cases hi'
                                rw [hm] at hb'; cases hb'
                                exact e4 to ht⟩
                            have hnone : behindM op h = none → Round L S0 S2 a2 ((∀ k', k' < k → ∀ h, h < 17 → ClosedAt L S0 k' h) ∧ ∀ h', h' < h + 1 → ClosedAt L S0 k h') := fun hm => hR2.mono fun _ ⟨e1, e3⟩ => ⟨e1, fun h' hlt => by
                              by_cases e : h' < h
                              · exact e3 h' e
                              · obtain rfl : h' = h := by omega
                                intro hS i' m' hi' hb' to ht
                                rw [show L[k]? = some (op, (v : Int)) from HIo] at hi'
                                cases hi'
                                rw [hm] at hb'; cases hb'⟩
                            have hbeh : behindM op h = if 0 ≤ (h : Int) - kt ∧ (h : Int) - kt + kg ≤ 16 then some ((h : Int) - kt + kg).toNat else none := by unfold behindM; rw [HTK.out, HGI.out]
                            have sP : SameB w6 w6 w.heap.size := SameB.self (lt_of_block hS2.p)
                            have sA : SameB w6 w6 ab := SameB.self (Nat.lt_of_lt_of_le hab hS2b.size)
                            have p0 : ∀ W [SameB w6 W w.heap.size], W.cell? ⟨w.heap.size, 0, none⟩ = some (.slice (some ⟨ab, off, none⟩) L.length c) := fun W _ => by
                              have h := hS2.p; rw [HPB.out] at h; exact SameB.cell (blk_cell h 0)
                            obtain ⟨ab', off', eA, hsb, hc⟩ := (hA.below hS2b).at_ HIo
                            cases eA
                            have d0 : ∀ W [SameB w6 W ab], W.cell? ⟨ab, off + k * 2, none⟩ = some (.int .i64 op) := fun W _ => by simpa using hc W 0 _ rfl
                            have d1 : ∀ W [SameB w6 W ab], W.cell? ⟨ab, off + k * 2 + 1, none⟩ = some (.int .i64 v) := fun W _ => hc W 1 _ rfl
                            rw [hg] at rc
                            have HR2 := Lib.hid hR2
                            have HRE := Lib.hid hreach
                            have HLT := Lib.hid hlt96
                            have HCL := Lib.hid hclose
                            have HNO := Lib.hid hnone
                            have HBE := Lib.hid hbeh
                            have HMI := Lib.hid hmi
                            have HIO := Lib.hid HIo
                            clear hR2 hS2 hreach hlt96 hclose hnone hbeh hmi hc hsb HIo hg hS2b
                            by_cases ht : (h : Int) < kt
                            · have hno := HNO.out (by rw [HBE.out, if_neg]; omega)
                              have HNO2 := Lib.hid hno
                              clear hno
                              as_aux_lemma =>
                                go_wp2_with ((go_at_call 97; ((with_reducible refine (hrow _).mono ?_); rintro e w7 ⟨s, rfl, hb7⟩)))
                                go_roundw
                                case rel => exact ⟨S2, a2, h + 1, rfl, by go_num, by omega, HS2.out.call hb7, HNO2⟩
                                case measure => simp [intOf]; omega
                            by_cases hg16 : (16 : Int) < (h : Int) - kt + kg
                            · have hno := HNO.out (by rw [HBE.out, if_neg]; omega)
                              have HNO2 := Lib.hid hno
                              clear hno
                              as_aux_lemma =>
                                go_wp2_with ((go_at_call 97; ((with_reducible refine (hrow _).mono ?_); rintro e w7 ⟨s, rfl, hb7⟩)))
                                go_roundw
                                case rel => exact ⟨S2, a2, h + 1, rfl, by go_num, by omega, HS2.out.call hb7, HNO2⟩
                                case measure => simp [intOf]; omega
                            obtain ⟨mm, hmm⟩ : ∃ mm : Nat, (h : Int) - kt + kg = mm := ⟨((h : Int) - kt + kg).toNat, by omega⟩
                            have hbm : behindM op h = some mm := by rw [HBE.out, if_pos (by omega), hmm, Int.toNat_natCast]
                            have hm17 : mm < 17 := by omega
                            have hmI : ¬ (16 : Int) < mm := by omega
                            have hmI2 : (mm : Int) < 17 := by omega
                            have hre := HRE.out mm hbm
                            have hcl := HCL.out mm hbm
                            have HRE2 := Lib.hid hre
                            have HCL2 := Lib.hid hcl
                            clear hre hcl HRE HCL HNO HBE hbm hg16
                            have sVi : ∀ i, i < L.length → ∀ W, St5 w V W w2.heap.size L.length pb S2 → SameB W W (rowB V i) := fun i hi W h => SameB.self (h.rows.lt hi)
                            have SVI := Lib.hid sVi
                            clear sVi
                            by_cases o22 : op = 22
                            · subst o22
                              have hvL := HLT.out v (by simp [nextM, jumpsM, endsM])
                              have hvI : (v : Int) < L.length := by omega
                              have hP := HR2.out.put (D' := ((∀ k', k' < k → ∀ h, h < 17 → ClosedAt L S0 k' h) ∧ ∀ h', h' < h + 1 → ClosedAt L S0 k h')) (HRE2.out v (by simp [nextM, jumpsM, endsM])) (Nat.lt_of_lt_of_le hvL (by omega)) hm17 (fun D e => HCL2.out D (by simp [nextM, jumpsM, endsM]; exact e))
                              cases hs1 : S2 v mm with
                              | true =>
                                rw [setS_same hs1, hs1, Bool.not_true, Bool.or_false] at hP
                                have HP := Lib.hid hP
                                have HS1 := Lib.hid hs1
                                clear hP hs1
                                as_aux_lemma =>
                                  go_wp2_with ((go_at_call 97; ((with_reducible refine (hrow _).mono ?_); rintro e w7 ⟨s, rfl, hb7⟩)); have s7P : SameB w6 w7 w.heap.size := SameB.call hb7 _; have s7A : SameB w6 w7 ab := SameB.call hb7 _; have s7R : SameB w6 w7 w2.heap.size := SameB.call hb7 _; have hS7 := HS2.out.call hb7; have fV : ∀ i, i < L.length → ∀ W [SameB w7 W (rowB V i)], W.cell? ⟨rowB V i, mm, none⟩ = some (.bool (S2 i mm)) := (fun i hi W _ => SameB.cell (hS7.rows.rcell hi hm17)); have fF : ∀ i, i < L.length → w7.frozen? ⟨rowB V i, mm, none⟩ = false := (fun i hi => hS7.rows.free hi mm); have fT : ∀ i, i < L.length → ∀ W [SameB w6 W w2.heap.size], W.cell? ⟨w2.heap.size, i, none⟩ = some (.slice (some ⟨rowB V i, 0, none⟩) 17 17) := (fun i hi W hb => (World.cell?_of_block (w := w7) (w' := W) (hb.blk.trans s7R.blk.symm)).trans (hS7.rows.tcell hi hi)); have HS7 := Lib.hid hS7; clear hS7; have fV1 := fV v hvL; have fT1 := fT v hvL; rw [HS1.out] at fV1; have sV1 := SVI.out v hvL w7 HS7.out; clear fV fF fT)
                                  go_roundw
                                  case rel => exact ⟨S2, a2, h + 1, rfl, by go_num, by omega, HS7.out, HP.out⟩
                                  case measure => simp [intOf]; omega
                              | false =>
                                rw [hs1, Bool.not_false, Bool.or_true] at hP
                                have HP := Lib.hid hP
                                have HS1 := Lib.hid hs1
                                clear hP hs1
                                as_aux_lemma =>
                                  go_wp2_with ((go_at_call 97; ((with_reducible refine (hrow _).mono ?_); rintro e w7 ⟨s, rfl, hb7⟩)); have s7P : SameB w6 w7 w.heap.size := SameB.call hb7 _; have s7A : SameB w6 w7 ab := SameB.call hb7 _; have s7R : SameB w6 w7 w2.heap.size := SameB.call hb7 _; have hS7 := HS2.out.call hb7; have fV : ∀ i, i < L.length → ∀ W [SameB w7 W (rowB V i)], W.cell? ⟨rowB V i, mm, none⟩ = some (.bool (S2 i mm)) := (fun i hi W _ => SameB.cell (hS7.rows.rcell hi hm17)); have fF : ∀ i, i < L.length → w7.frozen? ⟨rowB V i, mm, none⟩ = false := (fun i hi => hS7.rows.free hi mm); have fT : ∀ i, i < L.length → ∀ W [SameB w6 W w2.heap.size], W.cell? ⟨w2.heap.size, i, none⟩ = some (.slice (some ⟨rowB V i, 0, none⟩) 17 17) := (fun i hi W hb => (World.cell?_of_block (w := w7) (w' := W) (hb.blk.trans s7R.blk.symm)).trans (hS7.rows.tcell hi hi)); have HS7 := Lib.hid hS7; clear hS7; have fV1 := fV v hvL; have fT1 := fT v hvL; have fF1 := fF v hvL; rw [HS1.out] at fV1; have sV1 := SVI.out v hvL w7 HS7.out; clear fV fF fT)
                                  go_roundw
                                  case rel => exact ⟨_, true, h + 1, rfl, by go_num, by omega, HS7.out.set hvL hm17 oP.lt, HP.out⟩
                                  case measure => simp [intOf]; omega
                            have b22 : (op == 22) = false := by simpa using o22
                            have c22 : (op != 22) = true := by simpa using o22
                            by_cases o23 : op = 23
                            · subst o23
                              have hvL := HLT.out v (by simp [nextM, jumpsM, endsM])
                              have hkL := HLT.out (k + 1) (by simp [nextM, jumpsM, endsM])
                              have hvI : (v : Int) < L.length := by omega
                              have hkI1 : (k : Int) + 1 < L.length := by omega
                              have hP1 := HR2.out.put (D' := ((∀ k', k' < k → ∀ h, h < 17 → ClosedAt L S0 k' h) ∧ ∀ h', h' < h → ClosedAt L S0 k h') ∧ S0 v mm = true) (HRE2.out v (by simp [nextM, jumpsM, endsM])) (Nat.lt_of_lt_of_le hvL (by omega)) hm17 (fun D e => ⟨D, e⟩)
                              have hP := hP1.put (D' := ((∀ k', k' < k → ∀ h, h < 17 → ClosedAt L S0 k' h) ∧ ∀ h', h' < h + 1 → ClosedAt L S0 k h')) (HRE2.out (k + 1) (by simp [nextM, jumpsM, endsM])) (Nat.lt_of_lt_of_le hkL (by omega)) hm17 (fun D e => HCL2.out D.1 (by simp [nextM, jumpsM, endsM]; exact ⟨e, D.2⟩))
                              clear hP1
                              cases hs1 : S2 v mm with
                              | true =>
                                rw [setS_same hs1, hs1, Bool.not_true, Bool.or_false] at hP
                                have HS1 := Lib.hid hs1
                                clear hs1
                                cases hs2 : S2 (k + 1) mm with
                                | true =>
                                  rw [setS_same hs2, hs2, Bool.not_true, Bool.or_false] at hP
                                  have HP := Lib.hid hP
                                  have HS2' := Lib.hid hs2
                                  clear hP hs2
                                  as_aux_lemma =>
                                    go_wp2_with ((go_at_call 97; ((with_reducible refine (hrow _).mono ?_); rintro e w7 ⟨s, rfl, hb7⟩)); have s7P : SameB w6 w7 w.heap.size := SameB.call hb7 _; have s7A : SameB w6 w7 ab := SameB.call hb7 _; have s7R : SameB w6 w7 w2.heap.size := SameB.call hb7 _; have hS7 := HS2.out.call hb7; have fV : ∀ i, i < L.length → ∀ W [SameB w7 W (rowB V i)], W.cell? ⟨rowB V i, mm, none⟩ = some (.bool (S2 i mm)) := (fun i hi W _ => SameB.cell (hS7.rows.rcell hi hm17)); have fF : ∀ i, i < L.length → w7.frozen? ⟨rowB V i, mm, none⟩ = false := (fun i hi => hS7.rows.free hi mm); have fT : ∀ i, i < L.length → ∀ W [SameB w6 W w2.heap.size], W.cell? ⟨w2.heap.size, i, none⟩ = some (.slice (some ⟨rowB V i, 0, none⟩) 17 17) := (fun i hi W hb => (World.cell?_of_block (w := w7) (w' := W) (hb.blk.trans s7R.blk.symm)).trans (hS7.rows.tcell hi hi)); have HS7 := Lib.hid hS7; clear hS7; have fV1 := fV v hvL; have fT1 := fT v hvL; have fV2 := fV (k + 1) hkL; have fT2 := fT (k + 1) hkL; rw [HS1.out] at fV1; rw [HS2'.out] at fV2; have sV1 := SVI.out v hvL w7 HS7.out; have sV2 := SVI.out (k + 1) hkL w7 HS7.out; clear fV fF fT)
                                    go_roundw
                                    case rel => exact ⟨S2, a2, h + 1, rfl, by go_num, by omega, HS7.out, HP.out⟩
                                    case measure => simp [intOf]; omega
                                | false =>
                                  rw [hs2, Bool.not_false, Bool.or_true] at hP
                                  have HP := Lib.hid hP
                                  have HS2' := Lib.hid hs2
                                  clear hP hs2
                                  as_aux_lemma =>
                                    go_wp2_with ((go_at_call 97; ((with_reducible refine (hrow _).mono ?_); rintro e w7 ⟨s, rfl, hb7⟩)); have s7P : SameB w6 w7 w.heap.size := SameB.call hb7 _; have s7A : SameB w6 w7 ab := SameB.call hb7 _; have s7R : SameB w6 w7 w2.heap.size := SameB.call hb7 _; have hS7 := HS2.out.call hb7; have fV : ∀ i, i < L.length → ∀ W [SameB w7 W (rowB V i)], W.cell? ⟨rowB V i, mm, none⟩ = some (.bool (S2 i mm)) := (fun i hi W _ => SameB.cell (hS7.rows.rcell hi hm17)); have fF : ∀ i, i < L.length → w7.frozen? ⟨rowB V i, mm, none⟩ = false := (fun i hi => hS7.rows.free hi mm); have fT : ∀ i, i < L.length → ∀ W [SameB w6 W w2.heap.size], W.cell? ⟨w2.heap.size, i, none⟩ = some (.slice (some ⟨rowB V i, 0, none⟩) 17 17) := (fun i hi W hb => (World.cell?_of_block (w := w7) (w' := W) (hb.blk.trans s7R.blk.symm)).trans (hS7.rows.tcell hi hi)); have HS7 := Lib.hid hS7; clear hS7; have fV1 := fV v hvL; have fT1 := fT v hvL; have fV2 := fV (k + 1) hkL; have fT2 := fT (k + 1) hkL; have fF2 := fF (k + 1) hkL; rw [HS1.out] at fV1; rw [HS2'.out] at fV2; have sV1 := SVI.out v hvL w7 HS7.out; have sV2 := SVI.out (k + 1) hkL w7 HS7.out; clear fV fF fT)
                                    go_roundw
                                    case rel => exact ⟨_, true, h + 1, rfl, by go_num, by omega, HS7.out.set hkL hm17 oP.lt, HP.out⟩
                                    case measure => simp [intOf]; omega
                              | false =>
                                rw [hs1, Bool.not_false, Bool.or_true, Bool.true_or] at hP
                                have HS1 := Lib.hid hs1
                                have HP := Lib.hid hP
                                clear hs1 hP
                                cases hs2 : setS S2 v mm (k + 1) mm with
                                | true =>
                                  have hP := HP.out
                                  rw [setS_same hs2] at hP
                                  have HP2 := Lib.hid hP
                                  have HS2' := Lib.hid hs2
                                  clear hP hs2
                                  as_aux_lemma =>
                                    go_wp2_with ((go_at_call 97; ((with_reducible refine (hrow _).mono ?_); rintro e w7 ⟨s, rfl, hb7⟩)); have s7P : SameB w6 w7 w.heap.size := SameB.call hb7 _; have s7A : SameB w6 w7 ab := SameB.call hb7 _; have s7R : SameB w6 w7 w2.heap.size := SameB.call hb7 _; have hS7 := HS2.out.call hb7; have fV : ∀ i, i < L.length → ∀ W [SameB w7 W (rowB V i)], W.cell? ⟨rowB V i, mm, none⟩ = some (.bool (S2 i mm)) := (fun i hi W _ => SameB.cell (hS7.rows.rcell hi hm17)); have fF : ∀ i, i < L.length → w7.frozen? ⟨rowB V i, mm, none⟩ = false := (fun i hi => hS7.rows.free hi mm); have fT : ∀ i, i < L.length → ∀ W [SameB w6 W w2.heap.size], W.cell? ⟨w2.heap.size, i, none⟩ = some (.slice (some ⟨rowB V i, 0, none⟩) 17 17) := (fun i hi W hb => (World.cell?_of_block (w := w7) (w' := W) (hb.blk.trans s7R.blk.symm)).trans (hS7.rows.tcell hi hi)); have HS7 := Lib.hid hS7; clear hS7; have fV1 := fV v hvL; have fT1 := fT v hvL; have fF1 := fF v hvL; have fT2 := fT (k + 1) hkL; rw [HS1.out] at fV1; have sV1 := SVI.out v hvL w7 HS7.out; have fX := (HS7.out.set hvL hm17 oP.lt).rows.rcell hkL hm17; rw [HS2'.out] at fX; clear fV fF fT)
                                    go_roundw
                                    case rel => exact ⟨_, true, h + 1, rfl, by go_num, by omega, HS7.out.set hvL hm17 oP.lt, HP2.out⟩
                                    case measure => simp [intOf]; omega
                                | false =>
                                  have HS2' := Lib.hid hs2
                                  clear hs2
                                  as_aux_lemma =>
                                    go_wp2_with ((go_at_call 97; ((with_reducible refine (hrow _).mono ?_); rintro e w7 ⟨s, rfl, hb7⟩)); have s7P : SameB w6 w7 w.heap.size := SameB.call hb7 _; have s7A : SameB w6 w7 ab := SameB.call hb7 _; have s7R : SameB w6 w7 w2.heap.size := SameB.call hb7 _; have hS7 := HS2.out.call hb7; have fV : ∀ i, i < L.length → ∀ W [SameB w7 W (rowB V i)], W.cell? ⟨rowB V i, mm, none⟩ = some (.bool (S2 i mm)) := (fun i hi W _ => SameB.cell (hS7.rows.rcell hi hm17)); have fF : ∀ i, i < L.length → w7.frozen? ⟨rowB V i, mm, none⟩ = false := (fun i hi => hS7.rows.free hi mm); have fT : ∀ i, i < L.length → ∀ W [SameB w6 W w2.heap.size], W.cell? ⟨w2.heap.size, i, none⟩ = some (.slice (some ⟨rowB V i, 0, none⟩) 17 17) := (fun i hi W hb => (World.cell?_of_block (w := w7) (w' := W) (hb.blk.trans s7R.blk.symm)).trans (hS7.rows.tcell hi hi)); have HS7 := Lib.hid hS7; clear hS7; have fV1 := fV v hvL; have fT1 := fT v hvL; have fF1 := fF v hvL; have fT2 := fT (k + 1) hkL; rw [HS1.out] at fV1; have sV1 := SVI.out v hvL w7 HS7.out; have fX := (HS7.out.set hvL hm17 oP.lt).rows.rcell hkL hm17; rw [HS2'.out] at fX; have fY : (w7.setCell ⟨rowB V v, mm, none⟩ (.bool true)).frozen? ⟨rowB V (k + 1), mm, none⟩ = false := (HS7.out.set hvL hm17 oP.lt).rows.free hkL mm; clear fV fF fT)
                                    go_roundw
                                    case rel => exact ⟨_, true, h + 1, rfl, by go_num, by omega, (HS7.out.set hvL hm17 oP.lt).set hkL hm17 oP.lt, HP.out⟩
                                    case measure => simp [intOf]; omega
                            have b23 : (op == 23) = false := by simpa using o23
                            have hju : jumpsM op = false := by simp [jumpsM, o22, o23]
                            by_cases o26 : op = 26
                            · subst o26
                              have hP := HR2.out.mono (D' := ((∀ k', k' < k → ∀ h, h < 17 → ClosedAt L S0 k' h) ∧ ∀ h', h' < h + 1 → ClosedAt L S0 k h')) (fun _ D => HCL2.out D (by simp [nextM, jumpsM, endsM]))
                              have HP := Lib.hid hP
                              clear hP hju
                              as_aux_lemma =>
                                go_wp2_with ((go_at_call 97; ((with_reducible refine (hrow _).mono ?_); rintro e w7 ⟨s, rfl, hb7⟩)); have s7P : SameB w6 w7 w.heap.size := SameB.call hb7 _; have s7A : SameB w6 w7 ab := SameB.call hb7 _; have s7R : SameB w6 w7 w2.heap.size := SameB.call hb7 _; have hS7 := HS2.out.call hb7; have fV : ∀ i, i < L.length → ∀ W [SameB w7 W (rowB V i)], W.cell? ⟨rowB V i, mm, none⟩ = some (.bool (S2 i mm)) := (fun i hi W _ => SameB.cell (hS7.rows.rcell hi hm17)); have fF : ∀ i, i < L.length → w7.frozen? ⟨rowB V i, mm, none⟩ = false := (fun i hi => hS7.rows.free hi mm); have fT : ∀ i, i < L.length → ∀ W [SameB w6 W w2.heap.size], W.cell? ⟨w2.heap.size, i, none⟩ = some (.slice (some ⟨rowB V i, 0, none⟩) 17 17) := (fun i hi W hb => (World.cell?_of_block (w := w7) (w' := W) (hb.blk.trans s7R.blk.symm)).trans (hS7.rows.tcell hi hi)); have HS7 := Lib.hid hS7; clear hS7; clear fV fF fT)
                                go_roundw
                                case rel => exact ⟨S2, a2, h + 1, rfl, by go_num, by omega, HS7.out, HP.out⟩
                                case measure => simp [intOf]; omega
                            have c26 : (op != 26) = true := by simpa using o26
                            have hen : endsM op = false := by simp [endsM, o22, o26]
                            have hkL := HLT.out (k + 1) (by simp [nextM, hju, hen])
                            have hkI1 : (k : Int) + 1 < L.length := by omega
                            have hP := HR2.out.put (D' := ((∀ k', k' < k → ∀ h, h < 17 → ClosedAt L S0 k' h) ∧ ∀ h', h' < h + 1 → ClosedAt L S0 k h')) (HRE2.out (k + 1) (by simp [nextM, hju, hen])) (Nat.lt_of_lt_of_le hkL (by omega)) hm17 (fun D e => HCL2.out D (by simp [nextM, hju, hen]; exact e))
                            clear hju hen o22 o23 o26
                            cases hs1 : S2 (k + 1) mm with
                            | true =>
                              rw [setS_same hs1, hs1, Bool.not_true, Bool.or_false] at hP
                              have HP := Lib.hid hP
                              have HS1 := Lib.hid hs1
                              clear hP hs1
                              as_aux_lemma =>
                                go_wp2_with ((go_at_call 97; ((with_reducible refine (hrow _).mono ?_); rintro e w7 ⟨s, rfl, hb7⟩)); have s7P : SameB w6 w7 w.heap.size := SameB.call hb7 _; have s7A : SameB w6 w7 ab := SameB.call hb7 _; have s7R : SameB w6 w7 w2.heap.size := SameB.call hb7 _; have hS7 := HS2.out.call hb7; have fV : ∀ i, i < L.length → ∀ W [SameB w7 W (rowB V i)], W.cell? ⟨rowB V i, mm, none⟩ = some (.bool (S2 i mm)) := (fun i hi W _ => SameB.cell (hS7.rows.rcell hi hm17)); have fF : ∀ i, i < L.length → w7.frozen? ⟨rowB V i, mm, none⟩ = false := (fun i hi => hS7.rows.free hi mm); have fT : ∀ i, i < L.length → ∀ W [SameB w6 W w2.heap.size], W.cell? ⟨w2.heap.size, i, none⟩ = some (.slice (some ⟨rowB V i, 0, none⟩) 17 17) := (fun i hi W hb => (World.cell?_of_block (w := w7) (w' := W) (hb.blk.trans s7R.blk.symm)).trans (hS7.rows.tcell hi hi)); have HS7 := Lib.hid hS7; clear hS7; have fV1 := fV (k + 1) hkL; have fT1 := fT (k + 1) hkL; rw [HS1.out] at fV1; have sV1 := SVI.out (k + 1) hkL w7 HS7.out; clear fV fF fT)
                                go_roundw
                                case rel => exact ⟨S2, a2, h + 1, rfl, by go_num, by omega, HS7.out, HP.out⟩
                                case measure => simp [intOf]; omega
                            | false =>
                              rw [hs1, Bool.not_false, Bool.or_true] at hP
                              have HP := Lib.hid hP
                              have HS1 := Lib.hid hs1
                              clear hP hs1
                              as_aux_lemma =>
                                go_wp2_with ((go_at_call 97; ((with_reducible refine (hrow _).mono ?_); rintro e w7 ⟨s, rfl, hb7⟩)); have s7P : SameB w6 w7 w.heap.size := SameB.call hb7 _; have s7A : SameB w6 w7 ab := SameB.call hb7 _; have s7R : SameB w6 w7 w2.heap.size := SameB.call hb7 _; have hS7 := HS2.out.call hb7; have fV : ∀ i, i < L.length → ∀ W [SameB w7 W (rowB V i)], W.cell? ⟨rowB V i, mm, none⟩ = some (.bool (S2 i mm)) := (fun i hi W _ => SameB.cell (hS7.rows.rcell hi hm17)); have fF : ∀ i, i < L.length → w7.frozen? ⟨rowB V i, mm, none⟩ = false := (fun i hi => hS7.rows.free hi mm); have fT : ∀ i, i < L.length → ∀ W [SameB w6 W w2.heap.size], W.cell? ⟨w2.heap.size, i, none⟩ = some (.slice (some ⟨rowB V i, 0, none⟩) 17 17) := (fun i hi W hb => (World.cell?_of_block (w := w7) (w' := W) (hb.blk.trans s7R.blk.symm)).trans (hS7.rows.tcell hi hi)); have HS7 := Lib.hid hS7; clear hS7; have fV1 := fV (k + 1) hkL; have fT1 := fT (k + 1) hkL; have fF1 := fF (k + 1) hkL; rw [HS1.out] at fV1; have sV1 := SVI.out (k + 1) hkL w7 HS7.out; clear fV fF fT)
                                go_roundw
                                case rel => exact ⟨_, true, h + 1, rfl, by go_num, by omega, HS7.out.set hkL hm17 oP.lt, HP.out⟩
                                case measure => simp [intOf]; omega
                        · have hhI : (16 : Int) < h := by omega
                          obtain rfl : h = 17 := by omega
                          have HS2 := Lib.hid hS2
                          have HR2 := Lib.hid hR2
                          clear hS2 hR2
                          as_aux_lemma =>
                            go_wp2_with fail
                            go_roundw
                            case rel => exact ⟨S2, a2, k + 1, rfl, by go_num, by omega, HS2, Round.mono HR2 fun e ⟨e1, e3⟩ => fun k' hk' h hh => by
                              by_cases e' : k' < k
                              · exact e1 k' e' h hh
                              · obtain rfl : k' = k := by omega
                                exact e3 h hh⟩
                            case measure => simp [intOf]; omega
                    · have hltI : ¬ (k : Int) < L.length := by omega
                      obtain rfl : k = L.length := by omega
                      have HS1 := Lib.hid hS1
                      have HR1 := Lib.hid hR1
                      clear hS1 hR1
                      go_wp2_with fail
                      go_roundg (if a1 then leftS S1 + 1 else 0)
                      case measure =>
                        cases a1 with
                        | true => have := HR1.out.lt rfl; simp; omega
                        | false => simp
                      case rel => exact ⟨S1, a1, rfl, rfl, HS1, HR1.out.snd, HR1.out.z, fun e k' h hk' hh => by
                        have h1 := HR1.out.eq e
                        rw [h1.1]
                        exact h1.2 k' (by omega) h hh⟩
end Go.Proofs.Ytbcnfegmmhioeaa
