/- CheckRuns: whatever program comes, the program's check and the document's agree: whether it may run, or the first fault and where; the heights. No condition. -/
import Derived.Test.YtbcnfegmmhioeaaOpen
import Derived.Test.YtbcnfegmmhioeaaLaw11b
import Derived.Test.YtbcnfegmmhioeaaFx11
namespace Go.Proofs.Ytbcnfegmmhioeaa
open Go.ChangeShapes Go.WideShapes Go.ChangeAt Go.RowKit

theorem opens_prog (w : World) : Opens Try.prog w 43 (fun x : SlV InstM × SlV ByteArray => [x.1.val] ++ [x.2.val])
    (fun x => (IsSl 2 instC w x.1.A x.1.l ∧ (∀ i ∈ x.1.l, (IntKind.i64.min ≤ i.1 ∧ i.1 ≤ IntKind.i64.max) ∧ (IntKind.i64.min ≤ i.2 ∧ i.2 ≤ IntKind.i64.max)) ∧ x.1.l.length ≤ 9223372036854775807) ∧
      (IsSl 1 strC w x.2.A x.2.l ∧ (∀ s ∈ x.2.l, s.size ≤ maxLen) ∧ x.2.l.length ≤ 9223372036854775807)) := by
  have hi : Opens Try.prog w 3 (fun z : Int => [Value.int .i64 z]) (fun z => IntKind.i64.min ≤ z ∧ z ≤ IntKind.i64.max) := opens_int Try.underlying3
  have h1 : Opens Try.prog w 54 (fun x : Int × Int => [Value.int .i64 x.1] ++ [Value.int .i64 x.2]) _ := opens_struct2 Try.underlying54 (c0 := 1) (c1 := 1) ⟨by kernel_rfl, by kernel_rfl⟩ ⟨rfl, rfl⟩ (by kernel_rfl) hi hi
  have h2 : Opens Try.prog w 40 (fun s : SlV InstM => [s.val]) (fun s => IsSl 2 instC w s.A s.l ∧ _ ∧ _) := opens_slice Try.underlying40 (by kernel_rfl) (by decide) h1
  have h3 : Opens Try.prog w 41 (fun s : SlV ByteArray => [s.val]) (fun s => IsSl 1 strC w s.A s.l ∧ _ ∧ _) := opens_slice Try.underlying41 (by kernel_rfl) (by decide) (opens_string Try.underlying9)
  exact opens_struct2 Try.underlying43 (c0 := 1) (c1 := 1) ⟨by kernel_rfl, by kernel_rfl⟩ ⟨rfl, rfl⟩ (by kernel_rfl) h2 h3

set_option maxRecDepth 100000 in
theorem checkRuns_lifted (os : Os) (started : os.Started) (H : Type) (enc : TypeId × Value → H) :
    ReturnsInHanded {} Try.checked os 4 .any (Rows.checkRunsSpec.pre6 enc Try.prog Try.f4 Rows.checkRunsRow.domain false) (Rows.checkRunsSpec.post enc Try.prog Try.f4 false true false false) := by
  refine returnsInHanded_of_change (C := Try.checked) Try.own started (by kernel_rfl) Try.func4
    (ChangeSpec.witness6 (enc := enc) (C := Try.checked) false ⟨#[], #[.agg #[.slice none 0 0, .slice none 0 0]], []⟩ 8 (by kernel_rfl) (by kernel_rfl) (by kernel_rfl) (by kernel_rfl)) ?_
  intro W base args ds gs before hval0 hW hcnd _
  have hval : ∀ (j : Nat) t v, Try.f4.params[j]? = some t → args[j]? = some v → Value.okWide Try.prog W .any base t v := hval0
  have hW' := hW
  obtain ⟨p, q, hA0, hV, rfl, hfz, hnd⟩ := hW
  have hA : DataW.TrodAll enc Try.prog W 0 (fun _ => true) true Try.f4.params.toList args.toList ds p := hA0
  rw [Try.params4] at hA hval
  obtain ⟨v0, d0, rfl, rfl, h0⟩ := trodAll_one hA
  obtain ⟨x, rfl, ⟨hA1, _, _⟩, ⟨hB1, _, hBl⟩⟩ := open_struct Try.underlying43 (opens_prog W) (hval 0 43 v0 rfl rfl) h0
  refine (checkRuns_any x.1.A x.1.cap x.2.A x.2.cap x.1.l x.2.l hA1 hB1 hBl).mono fun e W' ⟨he, hw⟩ => ?_
  subst he
  exact ⟨_, rfl, law_post Try.laidOut (by rw [Try.params4]; intro t ht; simp at ht; subst ht; exact ⟨by kernel_rfl, of_decide_eq_true (by kernel_rfl)⟩) rfl hW' rfl Try.underlying4 (by rintro rfl; rfl) hw⟩

namespace FxCheckRuns
theorem and2 {a b : Bool} (ha : a = true) (hb : b = true) : (a && b) = true := by rw [ha, hb]; rfl
set_option maxRecDepth 100000 in
theorem all : joinedFacts Try.prog 4 Try.f4 Rows.checkRunsSpec Rows.checkRunsRow = true := by
  unfold joinedFacts
  exact and2 (and2 (and2 (and2 (and2 (and2 (and2 (and2 (and2 (and2 (and2 (and2 (and2 (and2 (and2 (and2 (and2 (and2 (and2 (and2 (and2 (and2 (and2 (and2 (and2 (and2 (and2 (and2 (and2 (and2 (and2 k0 k1) k2) k3) k4) k5) k6) k7) k8) k9) k10) k11) k12) k13) k14) k15) k16) k17) k18) k19) k20) k21) k22) k23) k24) k25) k26) k27) k28) k29) k30) k31
end FxCheckRuns

theorem checkRuns_holds : Rows.CheckRunsSaid :=
  OpenClaim.holds_of_wide 4 Try.f4 rfl rfl rfl rfl rfl rfl rfl ⟨rfl, rfl, rfl, rfl, rfl⟩ rfl rfl rfl rfl rfl (by kernel_rfl) Try.func4 FxCheckRuns.all
    (of_decide_eq_true (by kernel_rfl)) (by unfold Func.isWrapper; first | (rw [if_pos (by decide +kernel)]; kernel_rfl) | (rw [if_neg (by decide +kernel)]; exact ⟨rfl, rfl⟩))
    (fun os started H enc _ => checkRuns_lifted os started H enc)
end Go.Proofs.Ytbcnfegmmhioeaa
