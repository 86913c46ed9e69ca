/- The document's example of package cast, walked. -/
import Derived.Test.YtbcnfegmmhioeaaLaw18a
import Derived.Test.YtbcnfegmmhioeaaLaw17a
namespace Go.Proofs.Ytbcnfegmmhioeaa
open Go.RowKit

def C0 : ClsM := ⟨[⟨⟨#[97]⟩, false, 1⟩], [], 1, 1, 0⟩
theorem C0_may : mayC C0 = true := by decide +kernel
theorem C0_vars : varsM C0 = 3 := by decide +kernel
theorem C0_size : sizeM C0 0 = 0 := by decide +kernel
theorem C0_byte : byteM C0 0 0 = some 1 := by decide +kernel
theorem C0_fail : failM C0 0 = some 2 := by decide +kernel
theorem C0_env (A : Option Addr) (c : Nat) : envRes C0 [⟨A, c, [9]⟩] [] [true] = (0, [1, 9, 1]) := by
  unfold envRes hasI
  rw [if_pos C0_may, C0_may]
  rfl
abbrev Ent0 : Obj := .cells #[.string ⟨#[97]⟩, .bool false, .int .i64 1] 29 (0, 0)
abbrev clsE (b : Nat) : Value := .agg #[.slice (some ⟨b, 0, none⟩) 1 1, .slice none 0 0, .int .i64 1, .int .i64 1, .int .i64 0]
abbrev clsEO (b : Nat) : Obj := .cells #[.slice (some ⟨b, 0, none⟩) 1 1, .slice none 0 0, .int .i64 1, .int .i64 1, .int .i64 0] 58
def BelW (w W : World) : Prop := Below w.heap.size w W
abbrev W1 (w : World) : World := (w.alloc Ent0).alloc (clsEO w.heap.size)
theorem litC {W : World} {b : Nat} (h : W.heap[b]? = some Ent0) : ClsOK W (some ⟨b, 0, none⟩) none C0 :=
  ⟨⟨isSl_flatN (enc := entC) (sz := 3) (fun _ => rfl) C0.tree h, IsSl.nil _ _⟩, by decide, by decide, fun x hx => by
    rcases List.mem_cons.1 hx with rfl | hx
    · decide +kernel
    · cases hx⟩
theorem litI {W : World} {b1 b2 b3 : Nat} (h1 : W.heap[b1]? = some (.cells #[.int .u8 9] 5 (0, 0))) (h2 : W.heap[b2]? = some (.cells #[.slice (some ⟨b1, 0, none⟩) 1 1] 22 (0, 0))) (h3 : W.heap[b3]? = some (.cells #[.bool true] 4 (0, 0))) :
    IsInp W ⟨some ⟨b2, 0, none⟩, 1, [⟨some ⟨b1, 0, none⟩, 1, [9]⟩]⟩ ⟨none, 0, []⟩ ⟨some ⟨b3, 0, none⟩, 1, [true]⟩ :=
  ⟨isSl_flatN (enc := bsC) (sz := 1) (fun _ => rfl) [⟨some ⟨b1, 0, none⟩, 1, [9]⟩] h2, IsSl.nil _ _, isSl_flatN (enc := boolC) (sz := 1) (fun _ => rfl) [true] h3,
    (fun s hs => by
      rcases List.mem_cons.1 hs with rfl | hs
      · exact isSl_flatN (enc := u8C) (sz := 1) (fun _ => rfl) [9] h1
      · cases hs), (fun s hs => by cases hs), by simp, by simp, by simp⟩

set_option maxRecDepth 100000 in
set_option maxHeartbeats 1000000 in
theorem awake18 (w : World) : Calls Try.prog 28 #[] w fun e w' => e = .returned (.bool true) ∧ Below w.heap.size w w' := by
  have hC := litC (blk_new w Ent0)
  have hbox : ((w.alloc Ent0).alloc (clsEO w.heap.size)).heap[w.heap.size + 1]? = some (clsEO w.heap.size) := by
    have := blk_new (w.alloc Ent0) (clsEO w.heap.size)
    simpa using this
  obtain ⟨sP, p0, p1, p2, p3, p4⟩ := cls_at (A := some ⟨w.heap.size, 0, none⟩) (c := 1) (B := none) (d := 0) (C := C0) hbox
  have hb1 : Below (w.alloc Ent0).heap.size (w.alloc Ent0) ((w.alloc Ent0).alloc (clsEO w.heap.size)) := bel
  have hC1 := hC.below hb1
  have k1 := blk_new ((w.alloc Ent0).alloc (clsEO w.heap.size)) (.cells #[.int .u8 9] 5 (0, 0))
  generalize hw1 : (w.alloc Ent0).alloc (clsEO w.heap.size) = w1 at *
  have hs1 : w1.heap.size = w.heap.size + 1 + 1 := by rw [← hw1]; simp
  have hBel : Bel w w1 := by rw [← hw1]; infer_instance
  have k2 := blk_new (w1.alloc (.cells #[.int .u8 9] 5 (0, 0))) (.cells #[.slice (some ⟨w1.heap.size, 0, none⟩) 1 1] 22 (0, 0))
  have k3 := blk_new ((w1.alloc (.cells #[.int .u8 9] 5 (0, 0))).alloc (.cells #[.slice (some ⟨w1.heap.size, 0, none⟩) 1 1] 22 (0, 0))) (.cells #[.bool true] 4 (0, 0))
  have hI := litI (blk_alloc (blk_alloc k1 _) _) (blk_alloc k2 _) k3
  have hE := env_any (some ⟨w.heap.size, 0, none⟩) 1 none 0 C0 (hC1.below (W := ((w1.alloc (.cells #[.int .u8 9] 5 (0, 0))).alloc (.cells #[.slice (some ⟨w1.heap.size, 0, none⟩) 1 1] 22 (0, 0))).alloc (.cells #[.bool true] 4 (0, 0))) bel) _ _ _ hI
  rw [C0_env] at hE
  have hby : ∀ W (hb : Below w1.heap.size w1 W), Calls Try.prog 33 #[clsE w.heap.size, .int .i64 0, .int .i64 0] W fun e w' => e = .returned (.tuple #[.int .i64 1, .bool true]) ∧ Below W.heap.size W w' := fun W (hb : Below w1.heap.size w1 W) => by
    have := byte_any (w := W) (some ⟨w.heap.size, 0, none⟩) 1 none 0 C0 (hC1.below hb) 0 0
    rw [C0_byte] at this
    exact this
  have hfa : ∀ W (hb : Below w1.heap.size w1 W), Calls Try.prog 34 #[clsE w.heap.size, .int .i64 0] W fun e w' => e = .returned (.tuple #[.int .i64 2, .bool true]) ∧ Below W.heap.size W w' := fun W (hb : Below w1.heap.size w1 W) => by
    have := fail_any (w := W) (some ⟨w.heap.size, 0, none⟩) 1 none 0 C0 (hC1.below hb) 0
    rw [C0_fail] at this
    exact this
  have hva : ∀ W (hb : Below w1.heap.size w1 W), Calls Try.prog 35 #[clsE w.heap.size] W fun e w' => e = .returned (.int .i64 3) ∧ Below W.heap.size W w' := fun W (hb : Below w1.heap.size w1 W) => C0_vars ▸ vars_any (w := W) (some ⟨w.heap.size, 0, none⟩) 1 none 0 C0 (hC1.below hb)
  have hsz : ∀ W (hb : Below w1.heap.size w1 W), Calls Try.prog 32 #[clsE w.heap.size, .int .i64 0] W fun e w' => e = .returned (.int .i64 0) ∧ Below W.heap.size W w' := fun W (hb : Below w1.heap.size w1 W) => C0_size ▸ size_any (w := W) (some ⟨w.heap.size, 0, none⟩) 1 none 0 C0 (hC1.below hb) 0
  change ∀ V [SameB w1 V _], V.cell? _ = some (.slice (some ⟨w.heap.size, 0, none⟩) 1 1) at p0
  change ∀ V [SameB w1 V _], V.cell? _ = some (.slice none 0 0) at p1
  change ∀ V [SameB w1 V _], V.cell? _ = some (.int .i64 1) at p2
  change ∀ V [SameB w1 V _], V.cell? _ = some (.int .i64 1) at p3
  change ∀ V [SameB w1 V _], V.cell? _ = some (.int .i64 0) at p4
  have hE' : Calls Try.prog 37 #[.agg #[.slice (some ⟨w.heap.size, 0, none⟩) 1 1, .slice none 0 0, .int .i64 1, .int .i64 1, .int .i64 0], .agg #[.slice (some ⟨w1.heap.size + 1, 0, none⟩) 1 1, .slice none 0 0, .slice (some ⟨w1.heap.size + 1 + 1, 0, none⟩) 1 1]]
      (((w1.alloc (.cells #[.int .u8 9] 5 (0, 0))).alloc (.cells #[.slice (some ⟨w1.heap.size, 0, none⟩) 1 1] 22 (0, 0))).alloc (.cells #[.bool true] 4 (0, 0))) fun e w' => ∃ A c, e = .returned (.tuple #[.slice A 3 c, .int .i64 0]) ∧ IsSl 1 u16Row w' A [1, 9, 1] ∧ BelW w1 w' := by
    have := hE.mono (R' := fun e w' => ∃ A c, e = .returned (.tuple #[.slice A 3 c, .int .i64 0]) ∧ IsSl 1 u16Row w' A [1, 9, 1] ∧ BelW w1 w') fun e w' ⟨v, he, ho, hb⟩ => by
      obtain ⟨A, c, rfl, hs⟩ := owns_isSlN (enc := u16Row) (sz := 1) (fun _ => rfl) (l := [1, 9, 1]) ho
      exact ⟨A, c, he, hs, (Bel.call hb : Bel w1 w').out⟩
    simp at this
    simp
    exact this
  have h5 : ∀ W : World, IsSl 1 u16Row (W.alloc (.cells #[.int .u16 1, .int .u16 9, .int .u16 1] 34)) (some ⟨W.heap.size, 0, none⟩) [1, 9, 1] := fun W => isSl_flatN (enc := u16Row) (sz := 1) (fun _ => rfl) [1, 9, 1] (blk_new W _)
  have h4 : ∀ W A B c d, IsSl 1 u16Row W A [1, 9, 1] → IsSl 1 u16Row W B [1, 9, 1] → Calls Try.prog 38 #[.slice A 3 c, .slice B 3 d] W fun e w' => e = .returned (.bool true) ∧ Below W.heap.size W w' := fun W A B c d hA hB => same18_any A B c d [1, 9, 1] [1, 9, 1] hA hB (by decide) (by decide)
  simp only [hs1] at hE'
  clear hE hI k1 k2 k3 hC hC1 hb1
  subst hw1
  go_enter Try.func28, Try.ntmps28
  go_wp2_with (first
    | ((go_at_call 37; ((with_reducible refine (hE').mono ?_); rintro e w2 ⟨A, c, rfl, hs2, hb20⟩)); have hb2 : Below (W1 w).heap.size (W1 w) w2 := hb20; have s2p : SameB (W1 w) w2 (w.heap.size + 1) := SameB.call hb2 _)
    | ((go_at_call 33; ((with_reducible refine (hby _ hb2).mono ?_); rintro e w3 ⟨rfl, hb3⟩)); have s3p : SameB (W1 w) w3 (w.heap.size + 1) := SameB.call hb3 _; have z3 := hb2.trans (hb3.mono hb2.size))
    | ((go_at_call 34; ((with_reducible refine (hfa _ z3).mono ?_); rintro e w4 ⟨rfl, hb4⟩)); have s4p : SameB (W1 w) w4 (w.heap.size + 1) := SameB.call hb4 _; have z4 := z3.trans (hb4.mono z3.size); have hs4 := (hs2.below hb3).below hb4)
    | ((go_at_call 38; ((with_reducible refine (h4 _ _ _ _ _ (hs4.below bel) (h5 _)).mono ?_); rintro e w5 ⟨rfl, hb5⟩)); have s5p : SameB (W1 w) w5 (w.heap.size + 1) := SameB.call hb5 _; have z5 := z4.trans (((bel : Below w4.heap.size w4 (w4.alloc (.cells #[.int .u16 1, .int .u16 9, .int .u16 1] 34))).trans (hb5.mono (by simp))).mono z4.size))
    | ((go_at_call 35; ((with_reducible refine (hva _ z5).mono ?_); rintro e w6 ⟨rfl, hb6⟩)); have s6p : SameB (W1 w) w6 (w.heap.size + 1) := SameB.call hb6 _; have z6 := z5.trans (hb6.mono z5.size))
    | ((go_at_call 32; ((with_reducible refine (hsz _ z6).mono ?_); rintro e w7 ⟨rfl, hb7⟩)); have z7 := z6.trans (hb7.mono z6.size)))
  go_ret
  exact ⟨rfl, (Bel.call z7 : Bel w w7).out⟩
end Go.Proofs.Ytbcnfegmmhioeaa
