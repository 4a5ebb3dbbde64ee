/- The closed facts of Sd, part f. -/
import Derived.Test.YtjacmplknlploaaGreatDoorRows
import Derived.JoinedOf
import Derived.KernelRfl
set_option linter.all false
namespace Go.Proofs.YtjacmplknlploaaGreatDoor
open Go
theorem Sd_fact0 : (Rows.shellDecodesRow.wf (OpenSpec.ofChange Rows.shellDecodesSpec)) = true := by kernel_rfl
theorem Sd_fact2 : (mapsRowed Tryz.prog) = true := by kernel_rfl
theorem Sd_fact3 : (Tryz.f4.params.all (Tryz.prog.readableRec ·)) = true := by kernel_rfl
theorem Sd_fact4 : (namedTie Tryz.prog Rows.shellDecodesRow.named Rows.shellDecodesSpec.vars) = true := by kernel_rfl
theorem Sd_fact5 : ((Rows.shellDecodesRow.stops == [])) = true := by kernel_rfl
theorem Sd_fact6 : ((Tryz.prog.stops == [])) = true := by kernel_rfl
theorem Sd_fact7 : ((Rows.shellDecodesRow.knobs == [])) = true := by kernel_rfl
theorem Sd_fact8 : ((Tryz.prog.stopKnobs == [])) = true := by kernel_rfl
theorem Sd_fact13 : ((Rows.shellDecodesRow.maps == (Tryz.f4.params.toList ++ Rows.shellDecodesSpec.plain.varTypes Tryz.prog).any (Tryz.prog.mapsRec ·))) = true := by kernel_rfl
theorem Sd_fact14 : ((Rows.shellDecodesRow.ifaces == (Tryz.f4.params.toList ++ Rows.shellDecodesSpec.plain.varTypes Tryz.prog).any (Tryz.prog.ifacesRec ·))) = true := by kernel_rfl
theorem Sd_fact15 : ((Rows.shellDecodesRow.mapsOut == Tryz.prog.mapsAmong Tryz.f4.resultTypes.toList)) = true := by kernel_rfl
theorem Sd_fact16 : ((Rows.shellDecodesRow.loops == (Tryz.f4.params.toList ++ Rows.shellDecodesSpec.plain.varTypes Tryz.prog).any (Tryz.prog.loopsFrom ·))) = true := by kernel_rfl
theorem Sd_fact17 : ((Rows.shellDecodesRow.wideKeys == (Tryz.f4.params.toList ++ Rows.shellDecodesSpec.plain.varTypes Tryz.prog ++ Tryz.f4.resultTypes.toList).any (Tryz.prog.wideKeysFrom ·))) = true := by kernel_rfl
theorem Sd_fact18 : (Rows.shellDecodesSpec.vars.all (Tryz.prog.varReadable ·)) = true := by kernel_rfl
theorem Sd_fact19 : (Tryz.f4.resultTypes.all (fun t => Tryz.prog.readableRec t && decide (t < Tryz.prog.types.size))) = true := by kernel_rfl
theorem Sd_fact20 : ((Rows.shellDecodesRow.ifacesOut == Tryz.f4.resultTypes.toList.any (Tryz.prog.ifacesRec ·))) = true := by kernel_rfl
theorem Sd_fact21 : ((Rows.shellDecodesRow.loopsOut == Tryz.f4.resultTypes.toList.any (Tryz.prog.loopsFrom ·))) = true := by kernel_rfl
theorem Sd_fact22 : ((Rows.shellDecodesRow.plainKeys == Tryz.prog.plainKeys)) = true := by kernel_rfl
theorem Sd_fact23 : (Rows.shellDecodesRow.shortTexts.isNone) = true := by kernel_rfl
theorem Sd_fact24 : (Tryz.prog.stopsHeard) = true := by kernel_rfl
theorem Sd_fact25 : (Tryz.prog.mayEnter) = true := by kernel_rfl
theorem Sd_fact26 : ((Rows.shellDecodesRow.lifted == Tryz.prog.liftsFinal)) = true := by kernel_rfl
theorem Sd_fact27 : ((Tryz.prog.make == some Rows.shellDecodesRow.make)) = true := by kernel_rfl
theorem Sd_fact28 : ((Rows.shellDecodesRow.kinds == (if Rows.shellDecodesRow.domain.isEmpty then [] else Tryz.f4.params.toList.map fun t => match Tryz.prog.underlying t with | some (.int k) => some k | _ => none))) = true := by kernel_rfl
theorem Sd_fact29 : ((Rows.shellDecodesRow.pinned == Rows.shellDecodesRow.pinnedBy)) = true := by kernel_rfl
theorem Sd_fact30 : ((Rows.shellDecodesRow.veiled == (Tryz.f4.params.toList ++ Rows.shellDecodesSpec.plain.varTypes Tryz.prog ++ Tryz.f4.resultTypes.toList).any (Tryz.prog.veiledRec ·))) = true := by kernel_rfl
theorem Sd_fact31 : (Rows.shellDecodesRow.veiledFits Tryz.prog Tryz.f4.params.toList (Tryz.f4.params.toList ++ Rows.shellDecodesSpec.plain.varTypes Tryz.prog ++ Tryz.f4.resultTypes.toList)) = true := by kernel_rfl
end Go.Proofs.YtjacmplknlploaaGreatDoor
