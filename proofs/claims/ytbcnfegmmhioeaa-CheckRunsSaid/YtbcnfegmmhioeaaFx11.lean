/- The closed facts of the row of CheckRuns, one by one. -/
import Derived.Test.YtbcnfegmmhioeaaRows
import Derived.JoinedOf
import Derived.KernelRfl
namespace Go.Proofs.Ytbcnfegmmhioeaa
namespace FxCheckRuns
theorem k0 : (Rows.checkRunsRow.wf (OpenSpec.ofChange Rows.checkRunsSpec)) = true := by kernel_rfl
theorem k1 : (laidOutB Try.prog) = true := by kernel_rfl
theorem k2 : (mapsRowed Try.prog) = true := by kernel_rfl
theorem k3 : (Try.f4.params.all (Try.prog.readableRec ·)) = true := by kernel_rfl
theorem k4 : (namedTie Try.prog Rows.checkRunsRow.named Rows.checkRunsSpec.vars) = true := by kernel_rfl
theorem k5 : ((Rows.checkRunsRow.stops == [])) = true := by kernel_rfl
theorem k6 : ((Try.prog.stops == [])) = true := by kernel_rfl
theorem k7 : ((Rows.checkRunsRow.knobs == [])) = true := by kernel_rfl
theorem k8 : ((Try.prog.stopKnobs == [])) = true := by kernel_rfl
theorem k9 : ((Rows.checkRunsRow.inPlace == Try.prog.inPlace 4)) = true := by kernel_rfl
theorem k10 : ((Rows.checkRunsRow.unfollowed == Try.prog.unfollowed 4)) = true := by kernel_rfl
theorem k11 : ((Rows.checkRunsRow.recurses == Try.prog.recurses 4)) = true := by kernel_rfl
theorem k12 : ((Rows.checkRunsRow.named == Try.prog.varsNamed 4)) = true := by kernel_rfl
theorem k13 : ((Rows.checkRunsRow.maps == (Try.f4.params.toList ++ Rows.checkRunsSpec.plain.varTypes Try.prog).any (Try.prog.mapsRec ·))) = true := by kernel_rfl
theorem k14 : ((Rows.checkRunsRow.ifaces == (Try.f4.params.toList ++ Rows.checkRunsSpec.plain.varTypes Try.prog).any (Try.prog.ifacesRec ·))) = true := by kernel_rfl
theorem k15 : ((Rows.checkRunsRow.mapsOut == Try.prog.mapsAmong Try.f4.resultTypes.toList)) = true := by kernel_rfl
theorem k16 : ((Rows.checkRunsRow.loops == (Try.f4.params.toList ++ Rows.checkRunsSpec.plain.varTypes Try.prog).any (Try.prog.loopsFrom ·))) = true := by kernel_rfl
theorem k17 : ((Rows.checkRunsRow.wideKeys == (Try.f4.params.toList ++ Rows.checkRunsSpec.plain.varTypes Try.prog ++ Try.f4.resultTypes.toList).any (Try.prog.wideKeysFrom ·))) = true := by kernel_rfl
theorem k18 : (Rows.checkRunsSpec.vars.all (Try.prog.varReadable ·)) = true := by kernel_rfl
theorem k19 : (Try.f4.resultTypes.all (fun t => Try.prog.readableRec t && decide (t < Try.prog.types.size))) = true := by kernel_rfl
theorem k20 : ((Rows.checkRunsRow.ifacesOut == Try.f4.resultTypes.toList.any (Try.prog.ifacesRec ·))) = true := by kernel_rfl
theorem k21 : ((Rows.checkRunsRow.loopsOut == Try.f4.resultTypes.toList.any (Try.prog.loopsFrom ·))) = true := by kernel_rfl
theorem k22 : ((Rows.checkRunsRow.plainKeys == Try.prog.plainKeys)) = true := by kernel_rfl
theorem k23 : (Rows.checkRunsRow.shortTexts.isNone) = true := by kernel_rfl
theorem k24 : (Try.prog.stopsHeard) = true := by kernel_rfl
theorem k25 : (Try.prog.mayEnter) = true := by kernel_rfl
theorem k26 : ((Rows.checkRunsRow.lifted == Try.prog.liftsFinal)) = true := by kernel_rfl
theorem k27 : ((Try.prog.make == some Rows.checkRunsRow.make)) = true := by kernel_rfl
theorem k28 : ((Rows.checkRunsRow.kinds == (if Rows.checkRunsRow.domain.isEmpty then [] else Try.f4.params.toList.map fun t => match Try.prog.underlying t with | some (.int k) => some k | _ => none))) = true := by kernel_rfl
theorem k29 : ((Rows.checkRunsRow.pinned == Rows.checkRunsRow.pinnedBy)) = true := by kernel_rfl
theorem k30 : ((Rows.checkRunsRow.veiled == (Try.f4.params.toList ++ Rows.checkRunsSpec.plain.varTypes Try.prog ++ Try.f4.resultTypes.toList).any (Try.prog.veiledRec ·))) = true := by kernel_rfl
theorem k31 : (Rows.checkRunsRow.veiledFits Try.prog Try.f4.params.toList (Try.f4.params.toList ++ Rows.checkRunsSpec.plain.varTypes Try.prog ++ Try.f4.resultTypes.toList)) = true := by kernel_rfl
end FxCheckRuns
end Go.Proofs.Ytbcnfegmmhioeaa
