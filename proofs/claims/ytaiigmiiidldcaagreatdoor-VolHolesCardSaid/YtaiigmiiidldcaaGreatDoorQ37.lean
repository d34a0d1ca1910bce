/- Closed facts of the program, each for itself (the kernel gives its memory back behind each); VolHoles: closed facts of its row, each for itself. -/
import Derived.Test.YtaiigmiiidldcaaGreatDoorRows
import Derived.JoinedOf
import Derived.SevenTiedAt
set_option linter.unusedSimpArgs false
set_option linter.unusedVariables false
namespace Go.Proofs.YtaiigmiiidldcaaGreatDoor
open Go
theorem pLaidOut : (laidOutB Tryz.prog) = true := by kernel_rfl
theorem pMaps : (mapsRowed Tryz.prog) = true := by kernel_rfl
theorem pStops : ((Tryz.prog.stops == [])) = true := by kernel_rfl
theorem pKnobs : ((Tryz.prog.stopKnobs == [])) = true := by kernel_rfl
theorem pHeard : (Tryz.prog.stopsHeard) = true := by kernel_rfl
theorem pEnter : (Tryz.prog.mayEnter) = true := by kernel_rfl
theorem pMain : Tryz.prog.mainIs = some (true, "45f718f38200bd1fa906a08fe9e27d6509129dd0d46a615f27b1a7d5adea8389".toList) := by kernel_rfl
theorem pLooks : true = Tryz.prog.looks [] := by kernel_rfl
theorem pOwn : ownKnob Tryz.prog.godebug = none := by kernel_rfl
theorem pInt : ([3].all fun u => !Tryz.prog.wantsStandIn u) = true := by kernel_rfl
theorem and2 {a b : Bool} (ha : a = true) (hb : b = true) : (a && b) = true := by rw [ha, hb]; rfl
end Go.Proofs.YtaiigmiiidldcaaGreatDoor

namespace Go.Proofs.YtaiigmiiidldcaaGreatDoor
open Go
theorem volHoles_f0 : (Rows.volHolesRow.wf (OpenSpec.ofChange Rows.volHolesSpec)) = true := by kernel_rfl
theorem volHoles_f3 : (Tryz.f3.params.all (Tryz.prog.readableRec ·)) = true := by kernel_rfl
theorem volHoles_f4 : (namedTie Tryz.prog Rows.volHolesRow.named Rows.volHolesSpec.vars) = true := by kernel_rfl
theorem volHoles_f5 : ((Rows.volHolesRow.stops == [])) = true := by kernel_rfl
theorem volHoles_f7 : ((Rows.volHolesRow.knobs == [])) = true := by kernel_rfl
theorem volHoles_f9 : ((Rows.volHolesRow.inPlace == Tryz.prog.inPlace 3)) = true := by kernel_rfl
theorem volHoles_f10 : ((Rows.volHolesRow.unfollowed == Tryz.prog.unfollowed 3)) = true := by kernel_rfl
theorem volHoles_f11 : ((Rows.volHolesRow.recurses == Tryz.prog.recurses 3)) = true := by kernel_rfl
theorem volHoles_f12 : ((Rows.volHolesRow.named == Tryz.prog.varsNamed 3)) = true := by kernel_rfl
theorem volHoles_f13 : ((Rows.volHolesRow.maps == (Tryz.f3.params.toList ++ Rows.volHolesSpec.plain.varTypes Tryz.prog).any (Tryz.prog.mapsRec ·))) = true := by kernel_rfl
theorem volHoles_f14 : ((Rows.volHolesRow.ifaces == (Tryz.f3.params.toList ++ Rows.volHolesSpec.plain.varTypes Tryz.prog).any (Tryz.prog.ifacesRec ·))) = true := by kernel_rfl
theorem volHoles_f15 : ((Rows.volHolesRow.mapsOut == Tryz.prog.mapsAmong Tryz.f3.resultTypes.toList)) = true := by kernel_rfl
theorem volHoles_f16 : ((Rows.volHolesRow.loops == (Tryz.f3.params.toList ++ Rows.volHolesSpec.plain.varTypes Tryz.prog).any (Tryz.prog.loopsFrom ·))) = true := by kernel_rfl
theorem volHoles_f17 : ((Rows.volHolesRow.wideKeys == (Tryz.f3.params.toList ++ Rows.volHolesSpec.plain.varTypes Tryz.prog ++ Tryz.f3.resultTypes.toList).any (Tryz.prog.wideKeysFrom ·))) = true := by kernel_rfl
theorem volHoles_f18 : (Rows.volHolesSpec.vars.all (Tryz.prog.varReadable ·)) = true := by kernel_rfl
theorem volHoles_f19 : (Tryz.f3.resultTypes.all (fun t => Tryz.prog.readableRec t && decide (t < Tryz.prog.types.size))) = true := by kernel_rfl
theorem volHoles_f20 : ((Rows.volHolesRow.ifacesOut == Tryz.f3.resultTypes.toList.any (Tryz.prog.ifacesRec ·))) = true := by kernel_rfl
theorem volHoles_f21 : ((Rows.volHolesRow.loopsOut == Tryz.f3.resultTypes.toList.any (Tryz.prog.loopsFrom ·))) = true := by kernel_rfl
theorem volHoles_f22 : ((Rows.volHolesRow.plainKeys == Tryz.prog.plainKeys)) = true := by kernel_rfl
theorem volHoles_f23 : (Rows.volHolesRow.shortTexts.isNone) = true := by kernel_rfl
theorem volHoles_f26 : ((Rows.volHolesRow.lifted == Tryz.prog.liftsFinal)) = true := by kernel_rfl
theorem volHoles_f27 : ((Tryz.prog.make == some Rows.volHolesRow.make)) = true := by kernel_rfl
theorem volHoles_f29 : ((Rows.volHolesRow.pinned == Rows.volHolesRow.pinnedBy)) = true := by kernel_rfl
theorem volHoles_f30 : ((Rows.volHolesRow.veiled == (Tryz.f3.params.toList ++ Rows.volHolesSpec.plain.varTypes Tryz.prog ++ Tryz.f3.resultTypes.toList).any (Tryz.prog.veiledRec ·))) = true := by kernel_rfl
theorem volHoles_f31 : (Rows.volHolesRow.veiledFits Tryz.prog Tryz.f3.params.toList (Tryz.f3.params.toList ++ Rows.volHolesSpec.plain.varTypes Tryz.prog ++ Tryz.f3.resultTypes.toList)) = true := by kernel_rfl
theorem volHoles_closed : joinedFacts Tryz.prog 3 Tryz.f3 Rows.volHolesSpec Rows.volHolesRow = true := by
  unfold joinedFacts
  exact and2 (and2 (and2 (and2 (and2 (and2 (and2 (and2 (and2 (and2 (and2 (and2 (and2 (and2 (and2 (and2 (and2 (and2 (and2 (and2 (and2 (and2 (and2 (and2 (and2 (and2 (and2 (and2 (and2 (and2 (and2 (volHoles_f0) pLaidOut) pMaps) volHoles_f3) volHoles_f4) volHoles_f5) pStops) volHoles_f7) pKnobs) volHoles_f9) volHoles_f10) volHoles_f11) volHoles_f12) volHoles_f13) volHoles_f14) volHoles_f15) volHoles_f16) volHoles_f17) volHoles_f18) volHoles_f19) volHoles_f20) volHoles_f21) volHoles_f22) volHoles_f23) pHeard) pEnter) volHoles_f26) volHoles_f27) (by kernel_rfl)) volHoles_f29) volHoles_f30) volHoles_f31
theorem volHoles_inst : Tryz.f3.isInstance Tryz.prog Rows.volHolesRow.origin Rows.volHolesRow.targs := of_decide_eq_true (by kernel_rfl)
theorem volHoles_wrap : Tryz.f3.isWrapper Tryz.prog Rows.volHolesRow.wrapper Rows.volHolesRow.mainSum := by unfold Func.isWrapper; first | (rw [if_pos (by decide +kernel)]; kernel_rfl) | (rw [if_neg (by decide +kernel)]; exact ⟨rfl, rfl⟩)
theorem volHoles_num : Tryz.prog.funcNamed "breviary/breviarylaw21.VolHoles" = some 3 := by kernel_rfl
theorem volHoles_text : Rows.volHolesRow.wfByText (OpenSpec.ofChange Rows.volHolesSpec) = true := by kernel_rfl
theorem volHoles_goes : false = Rows.volHolesRow.goesBy Tryz.prog := by kernel_rfl
end Go.Proofs.YtaiigmiiidldcaaGreatDoor
