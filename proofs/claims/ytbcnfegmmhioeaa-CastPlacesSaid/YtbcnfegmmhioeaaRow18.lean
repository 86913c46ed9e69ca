/- CastPlaces: each variable of a class is a size, a byte or a fate, in its place. No condition. -/
import Derived.Test.YtbcnfegmmhioeaaOpenW
import Derived.Test.YtbcnfegmmhioeaaPlaces
import Derived.Test.YtbcnfegmmhioeaaFx18
namespace Go.Proofs.Ytbcnfegmmhioeaa
open Go.ChangeShapes Go.WideShapes Go.ChangeAt Go.RowKit

theorem opens_class (w : World) : OpensW Try.prog w 58 (fun x : SlV EntM × SlV Int × Int × Int × Int => [x.1.val] ++ ([x.2.1.val] ++ ([Value.int .i64 x.2.2.1] ++ ([Value.int .i64 x.2.2.2.1] ++ [Value.int .i64 x.2.2.2.2]))))
    (fun x => (IsSl 3 entC w x.1.A x.1.l ∧ (∀ e ∈ x.1.l, e.path.size ≤ reachBytes) ∧ x.1.l.length ≤ 9223372036854775807 ∧ x.1.l.length * Try.prog.bytesOf 29 ≤ reachBytes) ∧
      (IsSl 1 intC w x.2.1.A x.2.1.l ∧ (∀ z ∈ x.2.1.l, IntKind.i64.min ≤ z ∧ z ≤ IntKind.i64.max) ∧ x.2.1.l.length ≤ 9223372036854775807 ∧ x.2.1.l.length * Try.prog.bytesOf 3 ≤ reachBytes) ∧
      (IntKind.i64.min ≤ x.2.2.1 ∧ x.2.2.1 ≤ IntKind.i64.max) ∧ (IntKind.i64.min ≤ x.2.2.2.1 ∧ x.2.2.2.1 ≤ IntKind.i64.max) ∧ (IntKind.i64.min ≤ x.2.2.2.2 ∧ x.2.2.2.2 ≤ IntKind.i64.max)) := by
  have hi : OpensW Try.prog w 3 (fun z : Int => [Value.int .i64 z]) (fun z => IntKind.i64.min ≤ z ∧ z ≤ IntKind.i64.max) := (opens_int Try.underlying3).toW
  have h1 : OpensW Try.prog w 29 (fun x : ByteArray × Bool × Int => [Value.string x.1] ++ ([Value.bool x.2.1] ++ [Value.int .i64 x.2.2])) _ := opensW_struct3 Try.underlying29 (c0 := 1) (c1 := 1) (c2 := 1) ⟨by kernel_rfl, by kernel_rfl, by kernel_rfl⟩ ⟨rfl, rfl, rfl⟩ (by kernel_rfl) (opensW_string Try.underlying9) (opens_bool Try.underlying4).toW hi
  have h1' : OpensW Try.prog w 29 entC (fun x => x.path.size ≤ reachBytes) := fun H e fuel cs x hx hw => by
    obtain ⟨⟨p, d, c⟩, rfl, hr⟩ := h1 H e fuel cs x hx hw
    exact ⟨⟨p, d, c⟩, rfl, hr.1⟩
  have h2 : OpensW Try.prog w 30 (fun s : SlV EntM => [s.val]) (fun s => IsSl 3 entC w s.A s.l ∧ _ ∧ _ ∧ _) := opensW_slice Try.underlying30 (by kernel_rfl) (by decide) h1'
  have h3 : OpensW Try.prog w 47 (fun s : SlV Int => [s.val]) (fun s => IsSl 1 intC w s.A s.l ∧ _ ∧ _ ∧ _) := opensW_slice Try.underlying47 (by kernel_rfl) (by decide) hi
  exact opensW_struct5 Try.underlying58 (c0 := 1) (c1 := 1) (c2 := 1) (c3 := 1) (c4 := 1) ⟨by kernel_rfl, by kernel_rfl, by kernel_rfl, by kernel_rfl, by kernel_rfl⟩ ⟨rfl, rfl, rfl, rfl, rfl⟩ (by kernel_rfl) h2 h3 hi hi hi

set_option maxRecDepth 100000 in
theorem castPlaces_lifted (os : Os) (started : os.Started) (H : Type) (enc : TypeId × Value → H) :
    ReturnsInHanded {} Try.checked os 6 .any (Rows.castPlacesSpec.pre6 enc Try.prog Try.f6 Rows.castPlacesRow.domain false) (Rows.castPlacesSpec.post enc Try.prog Try.f6 false true false false) := by
  refine returnsInHanded_of_change_sized (C := Try.checked) Try.own started (by kernel_rfl) Try.func6
    (ChangeSpec.witness6 (enc := enc) (C := Try.checked) false ⟨#[], #[.agg #[.slice none 0 0, .slice none 0 0, .int .i64 0, .int .i64 0, .int .i64 0]], []⟩ 8 (by kernel_rfl) (by kernel_rfl) (by kernel_rfl) (by kernel_rfl)) ?_
  intro W base args ds gs before hval0 hW hcnd hwt0 _
  have hval : ∀ (j : Nat) t v, Try.f6.params[j]? = some t → args[j]? = some v → Value.okWide Try.prog W .any base t v := hval0
  have hW' := hW
  obtain ⟨p, q, hA0, hV, rfl, hfz, hnd⟩ := hW
  have hA : DataW.TrodAll enc Try.prog W 0 (fun _ => true) true Try.f6.params.toList args.toList ds p := hA0
  have hwt : (DataW.weightsEach Try.prog (Try.f6.params.toList ++ _) (ds ++ gs)).all (· ≤ reachBytes) = true := hwt0
  rw [Try.params6] at hA hval hwt
  obtain ⟨v0, d0, rfl, rfl, h0⟩ := trodAll_one hA
  have hw0 : ∀ n ∈ d0.weights Try.prog 58, n ≤ reachBytes := fun n hn => by
    have := List.all_eq_true.1 hwt n (by
      show n ∈ DataW.weightsEach Try.prog (58 :: _) (d0 :: _)
      rw [DataW.weightsEach]
      exact List.mem_append_left _ hn)
    simpa using this
  obtain ⟨x, rfl, ⟨hA1, hAp, hAl, hAw⟩, ⟨hB1, _, hBl, hBw⟩, _⟩ := openW_struct Try.underlying58 (opens_class W) (hval 0 58 v0 rfl rfl) h0 hw0
  rw [show Try.prog.bytesOf 3 = 8 from by kernel_rfl] at hBw
  refine (castPlaces_any x.1.A x.1.cap x.2.1.A x.2.1.cap ⟨x.1.l, x.2.1.l, x.2.2.1, x.2.2.2.1, x.2.2.2.2⟩ ⟨hA1, hB1⟩ hAl hAp hBw).mono fun e W' ⟨he, hw⟩ => ?_
  subst he
  exact ⟨_, rfl, law_post Try.laidOut (by rw [Try.params6]; intro t ht; simp at ht; subst ht; exact ⟨by kernel_rfl, of_decide_eq_true (by kernel_rfl)⟩) rfl hW' rfl Try.underlying4 (by rintro rfl; rfl) hw⟩

namespace FxCastPlaces
theorem and2 {a b : Bool} (ha : a = true) (hb : b = true) : (a && b) = true := by rw [ha, hb]; rfl
set_option maxRecDepth 100000 in
theorem all : joinedFacts Try.prog 6 Try.f6 Rows.castPlacesSpec Rows.castPlacesRow = true := by
  unfold joinedFacts
  exact and2 (and2 (and2 (and2 (and2 (and2 (and2 (and2 (and2 (and2 (and2 (and2 (and2 (and2 (and2 (and2 (and2 (and2 (and2 (and2 (and2 (and2 (and2 (and2 (and2 (and2 (and2 (and2 (and2 (and2 (and2 k0 k1) k2) k3) k4) k5) k6) k7) k8) k9) k10) k11) k12) k13) k14) k15) k16) k17) k18) k19) k20) k21) k22) k23) k24) k25) k26) k27) k28) k29) k30) k31
end FxCastPlaces

theorem castPlaces_holds : Rows.CastPlacesSaid :=
  OpenClaim.holds_of_wide 6 Try.f6 rfl rfl rfl rfl rfl rfl rfl ⟨rfl, rfl, rfl, rfl, rfl⟩ rfl rfl rfl rfl rfl (by kernel_rfl) Try.func6 FxCastPlaces.all
    (of_decide_eq_true (by kernel_rfl)) (by unfold Func.isWrapper; first | (rw [if_pos (by decide +kernel)]; kernel_rfl) | (rw [if_neg (by decide +kernel)]; exact ⟨rfl, rfl⟩))
    (fun os started H enc _ => castPlaces_lifted os started H enc)
end Go.Proofs.Ytbcnfegmmhioeaa
