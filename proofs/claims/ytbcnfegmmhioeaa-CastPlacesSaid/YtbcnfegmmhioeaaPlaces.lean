/- CastPlaces, walked. -/
import Derived.Test.YtbcnfegmmhioeaaLaw18b
namespace Go.Proofs.Ytbcnfegmmhioeaa
open Go.RowKit

theorem byteM_at {C : ClsM} (h : mayC C = true) {i : Nat} {x : Int} (hx : (capsM C)[i]? = some x) {k : Int} (h0 : 0 ≤ k) (h1 : k < x) : byteM C i k = some (sumV ((capsM C).take i) + 1 + k) := by
  have hi := (List.getElem?_eq_some_iff.1 hx).1
  have hgd : (capsM C).getD i 0 = x := by rw [List.getD_eq_getElem?_getD, hx]; rfl
  unfold byteM sizeM
  rw [Int.toNat_natCast, hgd, if_pos ⟨h, by omega, by omega, h0, h1⟩, if_pos ⟨h, by omega, by omega⟩]
theorem byteM_end {C : ClsM} {i : Nat} {x : Int} (hx : (capsM C)[i]? = some x) : byteM C i x = none := by
  have hgd : (capsM C).getD i 0 = x := by rw [List.getD_eq_getElem?_getD, hx]; rfl
  unfold byteM
  rw [Int.toNat_natCast, hgd, if_neg (by omega)]
theorem byteM_far (C : ClsM) : byteM C ((capsM C).length : Int) 0 = none := by
  unfold byteM
  rw [if_neg (by omega)]
theorem sizeM_at {C : ClsM} (h : mayC C = true) {i : Nat} (hi : i < (capsM C).length) : sizeM C i = sumV ((capsM C).take i) := by
  unfold sizeM
  rw [Int.toNat_natCast, if_pos ⟨h, by omega, by omega⟩]
theorem sizeM_far (C : ClsM) : sizeM C ((capsM C).length : Int) = -1 := by
  unfold sizeM
  rw [if_neg (by omega)]
theorem sizeM_neg (C : ClsM) : sizeM C (-1) = -1 := by
  unfold sizeM
  rw [if_neg (by omega)]
theorem failM_at {C : ClsM} (h : mayC C = true) {k : Int} (h0 : 0 ≤ k) (h1 : k < C.calls) : failM C k = some (sumV (capsM C) + k) := by
  unfold failM varsM
  rw [if_pos ⟨h, h0, h1⟩, if_pos h]
  congr 1; omega
theorem failM_end (C : ClsM) : failM C C.calls = none := by
  unfold failM
  rw [if_neg (by omega)]

set_option maxRecDepth 100000 in
set_option maxHeartbeats 4000000 in
theorem castPlaces_any {w : World} (A : Option Addr) (c : Nat) (B : Option Addr) (d : Nat) (C : ClsM) (h : IsCls w A B C) (hl : C.tree.length ≤ 9223372036854775807) (hp : ∀ x ∈ C.tree, x.path.size ≤ 140737488351232) (ha : C.args.length * 8 ≤ 140737488351232) :
    Calls Try.prog 6 #[clsV A c B d C] w fun e w' => e = .returned (.bool true) ∧ Below w.heap.size w w' := by
  have hb0 : Below w.heap.size w (w.alloc (clsO A c B d C)) := (Below.refl _ _).alloc (Nat.le_refl _) _
  have hbox : (w.alloc (clsO A c B d C)).heap[w.heap.size]? = some (clsO A c B d C) := blk_new _ _
  obtain ⟨sP, p0, p1, p2, p3, p4⟩ := cls_at hbox
  have hsm := fun W (hb : Below w.heap.size w W) => small17_any (w := W) A c B d C (h.below hb) hl hp
  have hmy := fun W (hb : Below w.heap.size w W) => rmayC_any (w := W) A c B d C (h.below hb) ha
  cases hs : smallC C with
  | false =>
    rw [hs] at hsm
    clear hs hmy h
    go_enter Try.func6, Try.ntmps6
    go_wp2_with (first | ((go_at_call 28; ((with_reducible refine (awake18 _).mono ?_); rintro e w1 ⟨rfl, hb1⟩)); have s1l : Bel w w1 := Bel.call hb1; have s1p : SameB (w.alloc (clsO A c B d C)) w1 w.heap.size := SameB.call hb1 _) | ((go_at_call 29; ((with_reducible refine (hsm _ s1l.out).mono ?_); rintro e w2 ⟨rfl, hb2⟩)); have s2l : Bel w w2 := Bel.call hb2))
    go_ret
    exact ⟨rfl, s2l.out⟩
  | true =>
    rw [hs] at hsm
    have hok := smallC_ok h hs
    cases hm : mayC C with
    | false =>
      rw [hm] at hmy
      clear hs hm hok h
      go_enter Try.func6, Try.ntmps6
      go_wp2_with (first | ((go_at_call 28; ((with_reducible refine (awake18 _).mono ?_); rintro e w1 ⟨rfl, hb1⟩)); have s1l : Bel w w1 := Bel.call hb1; have s1p : SameB (w.alloc (clsO A c B d C)) w1 w.heap.size := SameB.call hb1 _) | ((go_at_call 29; ((with_reducible refine (hsm _ s1l.out).mono ?_); rintro e w2 ⟨rfl, hb2⟩)); have s2l : Bel w w2 := Bel.call hb2; have s2p : SameB (w.alloc (clsO A c B d C)) w2 w.heap.size := SameB.call hb2 _) | ((go_at_call 30; ((with_reducible refine (hmy _ s2l.out).mono ?_); rintro e w3 ⟨rfl, hb3⟩)); have s3l : Bel w w3 := Bel.call hb3))
      go_ret
      exact ⟨rfl, s3l.out⟩
    | true =>
      rw [hm] at hmy
      have hcp := fun W (hb : Below w.heap.size w W) => rcaps_any (w := W) A c B d C (h.below hb) hok.tl (by have := hok.tl; have := hok.al; omega)
      unfold PostInts at hcp
      have ht := mayT hm
      have hcap := ht.cap
      have hlen := ht.len
      have c0 := ht.c0
      have c6 := ht.c6
      have hlI : ((capsM C).length : Int) ≤ 6 := by omega
      have HSB := Lib.hid (sumV_bd _ hcap)
      have HOK := Lib.hid hok
      have HM := Lib.hid hm
      have HCA := Lib.hid hcap
      clear hs hm ht hcap hok h
      go_enter Try.func6, Try.ntmps6
      go_wp2_with (first
        | ((go_at_call 28; ((with_reducible refine (awake18 _).mono ?_); rintro e w1 ⟨rfl, hb1⟩)); have s1l : Bel w w1 := Bel.call hb1; have s1p : SameB (w.alloc (clsO A c B d C)) w1 w.heap.size := SameB.call hb1 _)
        | ((go_at_call 29; ((with_reducible refine (hsm _ s1l.out).mono ?_); rintro e w2 ⟨rfl, hb2⟩)); have s2l : Bel w w2 := Bel.call hb2; have s2p : SameB (w.alloc (clsO A c B d C)) w2 w.heap.size := SameB.call hb2 _)
        | ((go_at_call 30; ((with_reducible refine (hmy _ s2l.out).mono ?_); rintro e w3 ⟨rfl, hb3⟩)); have s3l : Bel w w3 := Bel.call hb3; have s3p : SameB (w.alloc (clsO A c B d C)) w3 w.heap.size := SameB.call hb3 _)
        | ((go_at_call 31; ((with_reducible refine (hcp _ s3l.out).mono ?_); rintro e w4 ⟨v, rfl, ho4, hb4⟩)); have s4l : Bel w w4 := Bel.call hb4; have s4p : SameB (w.alloc (clsO A c B d C)) w4 w.heap.size := SameB.call hb4 _; rw [← flat_ints] at ho4; obtain ⟨A5, c5, rfl, hs5⟩ := owns_isSlN (enc := intC) (sz := 1) (fun _ => rfl) ho4))
      have HS5 := Lib.hid hs5
      clear hs5 ho4 hcp hmy hsm
      go_loopw [3, 5] (fun n x wr => ∃ i : Nat, n = .int .i64 (sumV ((capsM C).take i)) ∧ x = .int .i64 i ∧ i ≤ (capsM C).length ∧ Below w4.heap.size w4 wr) (fun n x wr => (capsM C).length - (intOf x).toNat)
      case atStart => exact ⟨0, by simp [sumV], rfl, Nat.zero_le _, Below.refl _ _⟩
      case round =>
        obtain ⟨i, rfl, rfl, hi, hbw⟩ := hrel
        obtain ⟨w5, rfl⟩ : ∃ v, v = wr := ⟨wr, rfl⟩
        have s5p : SameB (w.alloc (clsO A c B d C)) w5 w.heap.size := SameB.call hbw _
        have s5l : Bel w w5 := Bel.call hbw
        by_cases hlt : i < (capsM C).length
        · have hltI : (i : Int) < (capsM C).length := by omega
          obtain ⟨x, hx⟩ : ∃ x, (capsM C)[i]? = some x := ⟨(capsM C)[i], List.getElem?_eq_getElem hlt⟩
          have hsz : ∀ W, Below w.heap.size w W → Calls Try.prog 32 #[clsV A c B d C, .int .i64 i] W fun e w' => e = .returned (.int .i64 (sumV ((capsM C).take i))) ∧ Below W.heap.size W w' := fun W hb => by
            have := size_any (w := W) A c B d C (HOK.out.below hb) i
            rw [sizeM_at HM.out hlt] at this
            exact this
          have hby : ∀ W (k : Nat), (k : Int) < x → Below w.heap.size w W → Calls Try.prog 33 #[clsV A c B d C, .int .i64 i, .int .i64 k] W fun e w' => e = .returned (.tuple #[.int .i64 (sumV ((capsM C).take i) + 1 + k), .bool true]) ∧ Below W.heap.size W w' := fun W k hk hb => by
            have := byte_any (w := W) A c B d C (HOK.out.below hb) i k
            rw [byteM_at HM.out hx (by omega) hk] at this
            exact this
          have hbe : ∀ W, Below w.heap.size w W → Calls Try.prog 33 #[clsV A c B d C, .int .i64 i, .int .i64 x] W fun e w' => e = .returned (.tuple #[.int .i64 0, .bool false]) ∧ Below W.heap.size W w' := fun W hb => by
            have := byte_any (w := W) A c B d C (HOK.out.below hb) i x
            rw [byteM_end hx] at this
            exact this
          obtain ⟨b, off, rfl, hsb, hc⟩ := (HS5.out.below hbw).at_ hx
          have d0 : ∀ W [SameB w5 W b], W.cell? ⟨b, off + i, none⟩ = some (.int .i64 x) := fun W _ => by simpa using hc W 0 _ rfl
          have HSU := Lib.hid (sumV_succ hx)
          obtain ⟨x0, x3⟩ := HCA.out x (List.mem_of_getElem? hx)
          obtain ⟨b0, b4⟩ := HSB.out i
          have HBW := Lib.hid hbw
          generalize hq : sumV ((capsM C).take i) = q at *
          have HQ := Lib.hid hq
          clear hc hx hq hbw
          go_wp2_with ((go_at_call 32; ((with_reducible refine (hsz _ s5l.out).mono ?_); rintro e w6 ⟨rfl, hb6⟩)); have s6l : Bel w w6 := Bel.call hb6; have s6p : SameB (w.alloc (clsO A c B d C)) w6 w.heap.size := SameB.call hb6 _; have s6b : SameB w5 w6 b := SameB.call hb6 _; have HB6 := Lib.hid hb6)
          go_loopw [3, 6] (fun n z wr => ∃ k : Nat, n = .int .i64 (q + 1 + k) ∧ z = .int .i64 k ∧ (k : Int) ≤ x ∧ Below w6.heap.size w6 wr) (fun n z wr => x.toNat - (intOf z).toNat)
          case atStart => exact ⟨0, by simp, rfl, by simpa using x0, Below.refl _ _⟩
          case round =>
            obtain ⟨k, rfl, rfl, hk, hbw7⟩ := hrel
            obtain ⟨w7, rfl⟩ : ∃ v, v = wr := ⟨wr, rfl⟩
            have s7p : SameB (w.alloc (clsO A c B d C)) w7 w.heap.size := SameB.call hbw7 _
            have s7l : Bel w w7 := Bel.call hbw7
            have s7b : SameB w5 w7 b := SameB.call hbw7 _
            have s7z : Bel w4 w7 := ⟨(HBW.out.trans (HB6.out.mono HBW.out.size)).trans (hbw7.mono (HBW.out.trans (HB6.out.mono HBW.out.size)).size)⟩
            by_cases hkx : (k : Int) < x
            · have hby' := hby w7 k hkx s7l.out
              go_wp2_with ((go_at_call 33; ((with_reducible refine (hby').mono ?_); rintro e w8 ⟨rfl, hb8⟩)))
              go_roundw
              case rel => exact ⟨k + 1, by go_num, by go_num, by omega, hbw7.trans (hb8.mono hbw7.size)⟩
              case measure => simp [intOf]; omega
            · obtain rfl : (k : Int) = x := by omega
              go_wp2_with fail
              go_region_with ((go_at_call 33; ((with_reducible refine (hbe _ bel).mono ?_); rintro e w8 ⟨rfl, hb8⟩)); have s8l : Bel w w8 := Bel.call hb8; have s8z : Bel w4 w8 := Bel.call hb8)
              all_goals
                go_wp2_with fail
                go_roundw
                case rel => exact ⟨i + 1, by rw [HSU.out]; congr 1; omega, by go_num, by omega, bel⟩
                case measure => simp [intOf]; omega
        · have hltI : ¬ (i : Int) < (capsM C).length := by omega
          have htk : (capsM C).take i = capsM C := List.take_of_length_le (by omega)
          have hiL : i = (capsM C).length := by omega
          obtain ⟨b0, b4⟩ := HSB.out i
          rw [htk] at b0 b4
          rw [htk]
          have hfl : ∀ W (k : Nat), (k : Int) < C.calls → Below w.heap.size w W → Calls Try.prog 34 #[clsV A c B d C, .int .i64 k] W fun e w' => e = .returned (.tuple #[.int .i64 (sumV (capsM C) + k), .bool true]) ∧ Below W.heap.size W w' := fun W k hk hb => by
            have := fail_any (w := W) A c B d C (HOK.out.below hb) k
            rw [failM_at HM.out (by omega) hk] at this
            exact this
          have hfe : ∀ W, Below w.heap.size w W → Calls Try.prog 34 #[clsV A c B d C, .int .i64 C.calls] W fun e w' => e = .returned (.tuple #[.int .i64 0, .bool false]) ∧ Below W.heap.size W w' := fun W hb => by
            have := fail_any (w := W) A c B d C (HOK.out.below hb) C.calls
            rw [failM_end] at this
            exact this
          have hbf : ∀ W, Below w.heap.size w W → Calls Try.prog 33 #[clsV A c B d C, .int .i64 (capsM C).length, .int .i64 0] W fun e w' => e = .returned (.tuple #[.int .i64 0, .bool false]) ∧ Below W.heap.size W w' := fun W hb => by
            have := byte_any (w := W) A c B d C (HOK.out.below hb) (capsM C).length 0
            rw [byteM_far] at this
            exact this
          have hvr : ∀ W, Below w.heap.size w W → Calls Try.prog 35 #[clsV A c B d C] W fun e w' => e = .returned (.int .i64 (C.calls + sumV (capsM C))) ∧ Below W.heap.size W w' := fun W hb => by
            have := vars_any (w := W) A c B d C (HOK.out.below hb)
            unfold varsM at this
            rw [if_pos HM.out] at this
            exact this
          have hsf : ∀ W, Below w.heap.size w W → Calls Try.prog 32 #[clsV A c B d C, .int .i64 (capsM C).length] W fun e w' => e = .returned (.int .i64 (-1)) ∧ Below W.heap.size W w' := fun W hb => by
            have := size_any (w := W) A c B d C (HOK.out.below hb) (capsM C).length
            rw [sizeM_far] at this
            exact this
          have hsn : ∀ W, Below w.heap.size w W → Calls Try.prog 32 #[clsV A c B d C, .int .i64 (-1)] W fun e w' => e = .returned (.int .i64 (-1)) ∧ Below W.heap.size W w' := fun W hb => by
            have := size_any (w := W) A c B d C (HOK.out.below hb) (-1)
            rw [sizeM_neg] at this
            exact this
          generalize sumV (capsM C) = q at *
          clear htk hbw
          go_wp2_with fail
          go_loopw [3, 11] (fun n z wr => ∃ k : Nat, n = .int .i64 (q + k) ∧ z = .int .i64 k ∧ (k : Int) ≤ C.calls ∧ Below w5.heap.size w5 wr) (fun n z wr => C.calls.toNat - (intOf z).toNat)
          case atStart => exact ⟨0, by simp, rfl, by simpa using c0, Below.refl _ _⟩
          case round =>
            obtain ⟨k, rfl, rfl, hk, hbw7⟩ := hrel
            obtain ⟨w7, rfl⟩ : ∃ v, v = wr := ⟨wr, rfl⟩
            have s7p : SameB (w.alloc (clsO A c B d C)) w7 w.heap.size := SameB.call hbw7 _
            have s7l : Bel w w7 := Bel.call hbw7
            by_cases hkx : (k : Int) < C.calls
            · have hfl' := hfl w7 k hkx s7l.out
              go_wp2_with ((go_at_call 34; ((with_reducible refine (hfl').mono ?_); rintro e w8 ⟨rfl, hb8⟩)))
              go_roundw
              case rel => exact ⟨k + 1, by go_num, by go_num, by omega, hbw7.trans (hb8.mono hbw7.size)⟩
              case measure => simp [intOf]; omega
            · have hkc : (k : Int) = C.calls := by omega
              have hqk : (q + (k : Int) == C.calls + q) = true := by simp; omega
              go_wp2_with (first
                | ((go_at_call 34; ((with_reducible refine (hfe _ s7l.out).mono ?_); rintro e w8 ⟨rfl, hb8⟩)); have s8l : Bel w w8 := Bel.call hb8; have s8p : SameB (w.alloc (clsO A c B d C)) w8 w.heap.size := SameB.call hb8 _)
                | ((go_at_call 33; ((with_reducible refine (hbf _ s8l.out).mono ?_); rintro e w9 ⟨rfl, hb9⟩)); have s9l : Bel w w9 := Bel.call hb9; have s9p : SameB (w.alloc (clsO A c B d C)) w9 w.heap.size := SameB.call hb9 _)
                | ((go_at_call 35; ((with_reducible refine (hvr _ s9l.out).mono ?_); rintro e wa ⟨rfl, hba⟩)); have sal : Bel w wa := Bel.call hba; have sap : SameB (w.alloc (clsO A c B d C)) wa w.heap.size := SameB.call hba _)
                | ((go_at_call 32; ((with_reducible refine (hsf _ sal.out).mono ?_); rintro e wb ⟨rfl, hbb⟩)); have sbl : Bel w wb := Bel.call hbb; have sbp : SameB (w.alloc (clsO A c B d C)) wb w.heap.size := SameB.call hbb _)
                | ((go_at_call 32; ((with_reducible refine (hsn _ sbl.out).mono ?_); rintro e wc ⟨rfl, hbc⟩)); have scl : Bel w wc := Bel.call hbc))
              go_ret
              exact ⟨rfl, scl.out⟩
end Go.Proofs.Ytbcnfegmmhioeaa
