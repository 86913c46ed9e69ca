/- The closed facts of the row of CastPlaces, one by one. -/
import Derived.Test.YtbcnfegmmhioeaaRows
import Derived.JoinedOf
import Derived.KernelRfl
namespace Go.Proofs.Ytbcnfegmmhioeaa
namespace FxCastPlaces
theorem k0 : (Rows.castPlacesRow.wf (OpenSpec.ofChange Rows.castPlacesSpec)) = true := by kernel_rfl
theorem k1 : (laidOutB Try.prog) = true := by kernel_rfl
theorem k2 : (mapsRowed Try.prog) = true := by kernel_rfl
theorem k3 : (Try.f6.params.all (Try.prog.readableRec ·)) = true := by kernel_rfl
theorem k4 : (namedTie Try.prog Rows.castPlacesRow.named Rows.castPlacesSpec.vars) = true := by kernel_rfl
theorem k5 : ((Rows.castPlacesRow.stops == [])) = true := by kernel_rfl
theorem k6 : ((Try.prog.stops == [])) = true := by kernel_rfl
theorem k7 : ((Rows.castPlacesRow.knobs == [])) = true := by kernel_rfl
theorem k8 : ((Try.prog.stopKnobs == [])) = true := by kernel_rfl
theorem k9 : ((Rows.castPlacesRow.inPlace == Try.prog.inPlace 6)) = true := by kernel_rfl
theorem k10 : ((Rows.castPlacesRow.unfollowed == Try.prog.unfollowed 6)) = true := by kernel_rfl
theorem k11 : ((Rows.castPlacesRow.recurses == Try.prog.recurses 6)) = true := by kernel_rfl
theorem k12 : ((Rows.castPlacesRow.named == Try.prog.varsNamed 6)) = true := by kernel_rfl
theorem k13 : ((Rows.castPlacesRow.maps == (Try.f6.params.toList ++ Rows.castPlacesSpec.plain.varTypes Try.prog).any (Try.prog.mapsRec ·))) = true := by kernel_rfl
theorem k14 : ((Rows.castPlacesRow.ifaces == (Try.f6.params.toList ++ Rows.castPlacesSpec.plain.varTypes Try.prog).any (Try.prog.ifacesRec ·))) = true := by kernel_rfl
theorem k15 : ((Rows.castPlacesRow.mapsOut == Try.prog.mapsAmong Try.f6.resultTypes.toList)) = true := by kernel_rfl
theorem k16 : ((Rows.castPlacesRow.loops == (Try.f6.params.toList ++ Rows.castPlacesSpec.plain.varTypes Try.prog).any (Try.prog.loopsFrom ·))) = true := by kernel_rfl
theorem k17 : ((Rows.castPlacesRow.wideKeys == (Try.f6.params.toList ++ Rows.castPlacesSpec.plain.varTypes Try.prog ++ Try.f6.resultTypes.toList).any (Try.prog.wideKeysFrom ·))) = true := by kernel_rfl
theorem k18 : (Rows.castPlacesSpec.vars.all (Try.prog.varReadable ·)) = true := by kernel_rfl
theorem k19 : (Try.f6.resultTypes.all (fun t => Try.prog.readableRec t && decide (t < Try.prog.types.size))) = true := by kernel_rfl
theorem k20 : ((Rows.castPlacesRow.ifacesOut == Try.f6.resultTypes.toList.any (Try.prog.ifacesRec ·))) = true := by kernel_rfl
theorem k21 : ((Rows.castPlacesRow.loopsOut == Try.f6.resultTypes.toList.any (Try.prog.loopsFrom ·))) = true := by kernel_rfl
theorem k22 : ((Rows.castPlacesRow.plainKeys == Try.prog.plainKeys)) = true := by kernel_rfl
theorem k23 : (Rows.castPlacesRow.shortTexts.isNone) = true := by kernel_rfl
theorem k24 : (Try.prog.stopsHeard) = true := by kernel_rfl
theorem k25 : (Try.prog.mayEnter) = true := by kernel_rfl
theorem k26 : ((Rows.castPlacesRow.lifted == Try.prog.liftsFinal)) = true := by kernel_rfl
theorem k27 : ((Try.prog.make == some Rows.castPlacesRow.make)) = true := by kernel_rfl
theorem k28 : ((Rows.castPlacesRow.kinds == (if Rows.castPlacesRow.domain.isEmpty then [] else Try.f6.params.toList.map fun t => match Try.prog.underlying t with | some (.int k) => some k | _ => none))) = true := by kernel_rfl
theorem k29 : ((Rows.castPlacesRow.pinned == Rows.castPlacesRow.pinnedBy)) = true := by kernel_rfl
theorem k30 : ((Rows.castPlacesRow.veiled == (Try.f6.params.toList ++ Rows.castPlacesSpec.plain.varTypes Try.prog ++ Try.f6.resultTypes.toList).any (Try.prog.veiledRec ·))) = true := by kernel_rfl
theorem k31 : (Rows.castPlacesRow.veiledFits Try.prog Try.f6.params.toList (Try.f6.params.toList ++ Rows.castPlacesSpec.plain.varTypes Try.prog ++ Try.f6.resultTypes.toList)) = true := by kernel_rfl
end FxCastPlaces
end Go.Proofs.Ytbcnfegmmhioeaa
