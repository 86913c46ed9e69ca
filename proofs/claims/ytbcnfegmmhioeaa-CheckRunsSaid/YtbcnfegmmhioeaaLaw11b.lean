/- CheckRuns, walked. -/
import Derived.Test.YtbcnfegmmhioeaaRef5
import Derived.Test.YtbcnfegmmhioeaaLaw11c
import Derived.Test.YtbcnfegmmhioeaaLaw10a
namespace Go.Proofs.Ytbcnfegmmhioeaa
open Go.RowKit

set_option maxRecDepth 100000 in
set_option maxHeartbeats 1000000 in
theorem checkRuns_any {w : World} (A : Option Addr) (c : Nat) (B : Option Addr) (d : Nat) (L : List InstM) (Ns : List ByteArray) (hA : IsSl 2 instC w A L) (hB : IsSl 1 strC w B Ns) (hN : Ns.length ≤ 9223372036854775807) :
    Calls Try.prog 4 #[progV A L.length c B Ns.length d] w fun e w' => e = .returned (.bool true) ∧ Below w.heap.size w w' := by
  have haw := fun W => awake11 W
  have hsm := fun W (hb : Below w.heap.size w W) => small_any (w := W) A L.length c B d Ns (hB.below hb) hN
  have hrun := fun W (hb : Below w.heap.size w W) => run_any (w := W) A c B d L Ns (hA.below hb) (hB.below hb)
  have href := fun W (hb : Below w.heap.size w W) => rcheck_any (w := W) A c B d L Ns (hA.below hb) (hB.below hb) _ rfl _ rfl
  have hhei := fun W (hb : Below w.heap.size w W) => heights_any (w := W) A c B d L Ns (hA.below hb) (hB.below hb)
  have hlen := hints_length L Ns.length (Ns.all nameB)
  generalize runM L Ns.length (Ns.all nameB) (reachS L) = r at *
  generalize hintsM L Ns.length (Ns.all nameB) = hs at *
  obtain ⟨r1, r2⟩ := r
  have hsame := fun W A B c d hA hB => same_any (w := W) A B c d hs hA hB (by omega)
  have hb0 : Below w.heap.size w (w.alloc (.cells #[.slice A L.length c, .slice B Ns.length d] 43)) := (Below.refl _ _).alloc (Nat.le_refl _) _
  have hz0 : (w.alloc (.cells #[.slice A L.length c, .slice B Ns.length d] 43)).heap[w.heap.size]? = some (.cells #[.slice A L.length c, .slice B Ns.length d] 43 (0, 0)) := blk_new _ _
  have HZ0 := Lib.hid hz0
  clear hz0 hlen
  unfold PostBool at hsm
  unfold PostChk at href
  go_enter Try.func4, Try.ntmps4
  go_wp2_with (first | ((go_at_call 21; ((with_reducible refine (haw _).mono ?_); rintro e w1 ⟨rfl, hb1⟩)); have hbw1 := hb0.trans (hb1.mono hb0.size); have hz1 := blk_call hb1 HZ0.out; have c10 := blk_cell hz1 0; have c11 := blk_cell hz1 1; simp at c10 c11) | ((go_at_call 22; ((with_reducible refine (hsm _ hbw1).mono ?_); rintro e w2 ⟨b, rfl, hb2⟩)); have hbw2 := hbw1.trans (hb2.mono hbw1.size); have hz2 := blk_call hb2 hz1; have c20 := blk_cell hz2 0; have c21 := blk_cell hz2 1; simp at c20 c21; clear c10 c11; cases b) | ((go_at_call 23; ((with_reducible refine (hrun _ hbw2).mono ?_); rintro e w3 ⟨rfl, hb3⟩)); have hbw3 := hbw2.trans (hb3.mono hbw2.size); have hz3 := blk_call hb3 hz2; have c30 := blk_cell hz3 0; have c31 := blk_cell hz3 1; simp at c30 c31) | ((go_at_call 24; ((with_reducible refine (href _ hbw3).mono ?_); rintro e w4 ⟨v, rfl, ho4, hb4⟩)); have hbw4 := hbw3.trans (hb4.mono hbw3.size); have hz4 := blk_call hb4 hz3; have c40 := blk_cell hz4 0; have c41 := blk_cell hz4 1; simp at c40 c41) | ((go_at_call 26; ((with_reducible refine (hhei _ hbw4).mono ?_); rintro e w5 ⟨v5, rfl, ho5, hb5⟩)); have ho45 := ownsRow_below ho4 hb5; have hbw5 := hbw4.trans (hb5.mono hbw4.size); obtain ⟨A5, k5, rfl, hs5⟩ := owns_isSl ho5; obtain ⟨A4, k4, rfl, hs4⟩ := owns_isSl ho45) | ((go_at_call 25; ((with_reducible refine (hsame _ _ _ _ _ hs5 hs4).mono ?_); rintro e w6 ⟨rfl, hb6⟩)); have hbw6 := hbw5.trans (hb6.mono hbw5.size)))
  · go_ret
    exact ⟨rfl, hbw2⟩
  · go_ret
    exact ⟨rfl, hbw6⟩
end Go.Proofs.Ytbcnfegmmhioeaa
