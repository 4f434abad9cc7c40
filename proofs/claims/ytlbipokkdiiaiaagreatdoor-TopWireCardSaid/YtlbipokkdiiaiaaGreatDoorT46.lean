/- Lemmas for TopWire: WJ. -/
import Derived.Test.YtlbipokkdiiaiaaGreatDoorT42
/- The closed facts of TopWire's row, one by one. -/
namespace Go.Proofs.YtlbipokkdiiaiaaGreatDoor.topWire
open Go.ChangeShapes Go.WideShapes Go.ChangeAt Go.RowKit
set_option maxRecDepth 100000
theorem tt {a b : Bool} (h : a = true) (k : b = true) : (a && b) = true := by rw [h, k]; rfl
theorem q1 : (Rows.topWireRow.wf (OpenSpec.ofChange (OpenSpec.ofChange Rows.topWireSpec).bare)) = true := by kernel_rfl
theorem q2 : (laidOutB Tryz.pinned.checked.prog) = true := by kernel_rfl
theorem q3 : (mapsRowed Tryz.pinned.checked.prog) = true := by kernel_rfl
theorem q4 : (Tryz.f3.params.all (Tryz.pinned.checked.prog.readableRec ·)) = true := by kernel_rfl
theorem q5 : (namedTie Tryz.pinned.checked.prog Rows.topWireRow.named (OpenSpec.ofChange Rows.topWireSpec).bare.vars) = true := by kernel_rfl
theorem q6 : ((Rows.topWireRow.stops == [])) = true := by kernel_rfl
theorem q7 : ((Tryz.pinned.checked.prog.stops == [])) = true := by kernel_rfl
theorem q8 : ((Rows.topWireRow.knobs == [])) = true := by kernel_rfl
theorem q9 : ((Tryz.pinned.checked.prog.stopKnobs == [])) = true := by kernel_rfl
theorem q10 : ((Rows.topWireRow.inPlace == Tryz.pinned.checked.prog.inPlace 3)) = true := by kernel_rfl
theorem q11 : ((Rows.topWireRow.unfollowed == Tryz.pinned.checked.prog.unfollowed 3)) = true := by kernel_rfl
theorem q12 : ((Rows.topWireRow.recurses == Tryz.pinned.checked.prog.recurses 3)) = true := by kernel_rfl
theorem q13 : ((Rows.topWireRow.named == Tryz.pinned.checked.prog.varsNamed 3)) = true := by kernel_rfl
theorem q14 : ((Rows.topWireRow.maps == (Tryz.f3.params.toList ++ (OpenSpec.ofChange Rows.topWireSpec).bare.plain.varTypes Tryz.pinned.checked.prog).any (Tryz.pinned.checked.prog.mapsRec ·))) = true := by kernel_rfl
theorem q15 : ((Rows.topWireRow.ifaces == (Tryz.f3.params.toList ++ (OpenSpec.ofChange Rows.topWireSpec).bare.plain.varTypes Tryz.pinned.checked.prog).any (Tryz.pinned.checked.prog.ifacesRec ·))) = true := by kernel_rfl
theorem q16 : ((Rows.topWireRow.mapsOut == Tryz.pinned.checked.prog.mapsAmong Tryz.f3.resultTypes.toList)) = true := by kernel_rfl
theorem q17 : ((Rows.topWireRow.loops == (Tryz.f3.params.toList ++ (OpenSpec.ofChange Rows.topWireSpec).bare.plain.varTypes Tryz.pinned.checked.prog).any (Tryz.pinned.checked.prog.loopsFrom ·))) = true := by kernel_rfl
theorem q18 : ((Rows.topWireRow.wideKeys == (Tryz.f3.params.toList ++ (OpenSpec.ofChange Rows.topWireSpec).bare.plain.varTypes Tryz.pinned.checked.prog ++ Tryz.f3.resultTypes.toList).any (Tryz.pinned.checked.prog.wideKeysFrom ·))) = true := by kernel_rfl
theorem q19 : ((OpenSpec.ofChange Rows.topWireSpec).bare.vars.all (Tryz.pinned.checked.prog.varReadable ·)) = true := by kernel_rfl
theorem q20 : (Tryz.f3.resultTypes.all (fun t => Tryz.pinned.checked.prog.readableRec t && decide (t < Tryz.pinned.checked.prog.types.size))) = true := by kernel_rfl
theorem q21 : ((Rows.topWireRow.ifacesOut == Tryz.f3.resultTypes.toList.any (Tryz.pinned.checked.prog.ifacesRec ·))) = true := by kernel_rfl
theorem q22 : ((Rows.topWireRow.loopsOut == Tryz.f3.resultTypes.toList.any (Tryz.pinned.checked.prog.loopsFrom ·))) = true := by kernel_rfl
theorem q23 : ((Rows.topWireRow.plainKeys == Tryz.pinned.checked.prog.plainKeys)) = true := by kernel_rfl
theorem q24 : (Rows.topWireRow.shortTexts.isNone) = true := by kernel_rfl
theorem q25 : (Tryz.pinned.checked.prog.stopsHeard) = true := by kernel_rfl
theorem q26 : (Tryz.pinned.checked.prog.mayEnter) = true := by kernel_rfl
theorem q27 : ((Rows.topWireRow.lifted == Tryz.pinned.checked.prog.liftsFinal)) = true := by kernel_rfl
theorem q28 : ((Tryz.pinned.checked.prog.make == some Rows.topWireRow.make)) = true := by kernel_rfl
theorem q29 : ((Rows.topWireRow.kinds == (if Rows.topWireRow.domain.isEmpty then [] else Tryz.f3.params.toList.map fun t => match Tryz.pinned.checked.prog.underlying t with | some (.int k) => some k | _ => none))) = true := by kernel_rfl
theorem q30 : ((Rows.topWireRow.pinned == Rows.topWireRow.pinnedBy)) = true := by kernel_rfl
theorem q31 : ((Rows.topWireRow.veiled == (Tryz.f3.params.toList ++ (OpenSpec.ofChange Rows.topWireSpec).bare.plain.varTypes Tryz.pinned.checked.prog ++ Tryz.f3.resultTypes.toList).any (Tryz.pinned.checked.prog.veiledRec ·))) = true := by kernel_rfl
theorem q32 : (Rows.topWireRow.veiledFits Tryz.pinned.checked.prog Tryz.f3.params.toList (Tryz.f3.params.toList ++ (OpenSpec.ofChange Rows.topWireSpec).bare.plain.varTypes Tryz.pinned.checked.prog ++ Tryz.f3.resultTypes.toList)) = true := by kernel_rfl
theorem closed : joinedFacts Tryz.pinned.checked.prog 3 Tryz.f3 (OpenSpec.ofChange Rows.topWireSpec).bare Rows.topWireRow = true := by
  unfold joinedFacts
  exact (tt (tt (tt (tt (tt (tt (tt (tt (tt (tt (tt (tt (tt (tt (tt (tt (tt (tt (tt (tt (tt (tt (tt (tt (tt (tt (tt (tt (tt (tt (tt q1 q2) q3) q4) q5) q6) q7) q8) q9) q10) q11) q12) q13) q14) q15) q16) q17) q18) q19) q20) q21) q22) q23) q24) q25) q26) q27) q28) q29) q30) q31) q32)
theorem byText : Rows.topWireRow.wfByText (OpenSpec.ofChange Rows.topWireSpec) = true := by kernel_rfl
theorem looks0 : true = Tryz.prog.looks [] := by kernel_rfl
theorem goes0 : false = Rows.topWireRow.goesBy Tryz.pinned.checked.prog := by kernel_rfl
theorem named3 : Tryz.prog.funcNamed "bloomery/bloomerytop.TopWire" = some 3 := by kernel_rfl
theorem noStand : (Tryz.f3.params.toList.all fun t => !Tryz.prog.wantsStandIn t) = true := by kernel_rfl
end Go.Proofs.YtlbipokkdiiaiaaGreatDoor.topWire
