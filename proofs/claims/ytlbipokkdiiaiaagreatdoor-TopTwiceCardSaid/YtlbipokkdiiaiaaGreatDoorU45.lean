/- Lemmas for TopTwice: WJ2. -/
import Derived.Test.YtlbipokkdiiaiaaGreatDoorU44
namespace Go.Proofs.YtlbipokkdiiaiaaGreatDoor.topTwice
open Go.ChangeShapes Go.WideShapes Go.ChangeAt Go.RowKit
set_option maxRecDepth 100000
theorem tt {a b : Bool} (h : a = true) (k : b = true) : (a && b) = true := by rw [h, k]; rfl
theorem q1 : (Rows.topTwiceRow.wf (OpenSpec.ofChange (OpenSpec.ofChange Rows.topTwiceSpec).bare)) = true := by kernel_rfl
theorem q2 : (laidOutB Tryz.pinned.checked.prog) = true := by kernel_rfl
theorem q3 : (mapsRowed Tryz.pinned.checked.prog) = true := by kernel_rfl
theorem q4 : (Tryz.f4.params.all (Tryz.pinned.checked.prog.readableRec ·)) = true := by kernel_rfl
theorem q5 : (namedTie Tryz.pinned.checked.prog Rows.topTwiceRow.named (OpenSpec.ofChange Rows.topTwiceSpec).bare.vars) = true := by kernel_rfl
theorem q6 : ((Rows.topTwiceRow.stops == [])) = true := by kernel_rfl
theorem q7 : ((Tryz.pinned.checked.prog.stops == [])) = true := by kernel_rfl
theorem q8 : ((Rows.topTwiceRow.knobs == [])) = true := by kernel_rfl
theorem q9 : ((Tryz.pinned.checked.prog.stopKnobs == [])) = true := by kernel_rfl
theorem q10 : ((Rows.topTwiceRow.inPlace == Tryz.pinned.checked.prog.inPlace 4)) = true := by kernel_rfl
theorem q11 : ((Rows.topTwiceRow.unfollowed == Tryz.pinned.checked.prog.unfollowed 4)) = true := by kernel_rfl
theorem q12 : ((Rows.topTwiceRow.recurses == Tryz.pinned.checked.prog.recurses 4)) = true := by kernel_rfl
theorem q13 : ((Rows.topTwiceRow.named == Tryz.pinned.checked.prog.varsNamed 4)) = true := by kernel_rfl
theorem q14 : ((Rows.topTwiceRow.maps == (Tryz.f4.params.toList ++ (OpenSpec.ofChange Rows.topTwiceSpec).bare.plain.varTypes Tryz.pinned.checked.prog).any (Tryz.pinned.checked.prog.mapsRec ·))) = true := by kernel_rfl
theorem q15 : ((Rows.topTwiceRow.ifaces == (Tryz.f4.params.toList ++ (OpenSpec.ofChange Rows.topTwiceSpec).bare.plain.varTypes Tryz.pinned.checked.prog).any (Tryz.pinned.checked.prog.ifacesRec ·))) = true := by kernel_rfl
theorem q16 : ((Rows.topTwiceRow.mapsOut == Tryz.pinned.checked.prog.mapsAmong Tryz.f4.resultTypes.toList)) = true := by kernel_rfl
theorem q17 : ((Rows.topTwiceRow.loops == (Tryz.f4.params.toList ++ (OpenSpec.ofChange Rows.topTwiceSpec).bare.plain.varTypes Tryz.pinned.checked.prog).any (Tryz.pinned.checked.prog.loopsFrom ·))) = true := by kernel_rfl
theorem q18 : ((Rows.topTwiceRow.wideKeys == (Tryz.f4.params.toList ++ (OpenSpec.ofChange Rows.topTwiceSpec).bare.plain.varTypes Tryz.pinned.checked.prog ++ Tryz.f4.resultTypes.toList).any (Tryz.pinned.checked.prog.wideKeysFrom ·))) = true := by kernel_rfl
theorem q19 : ((OpenSpec.ofChange Rows.topTwiceSpec).bare.vars.all (Tryz.pinned.checked.prog.varReadable ·)) = true := by kernel_rfl
theorem q20 : (Tryz.f4.resultTypes.all (fun t => Tryz.pinned.checked.prog.readableRec t && decide (t < Tryz.pinned.checked.prog.types.size))) = true := by kernel_rfl
theorem q21 : ((Rows.topTwiceRow.ifacesOut == Tryz.f4.resultTypes.toList.any (Tryz.pinned.checked.prog.ifacesRec ·))) = true := by kernel_rfl
theorem q22 : ((Rows.topTwiceRow.loopsOut == Tryz.f4.resultTypes.toList.any (Tryz.pinned.checked.prog.loopsFrom ·))) = true := by kernel_rfl
theorem q23 : ((Rows.topTwiceRow.plainKeys == Tryz.pinned.checked.prog.plainKeys)) = true := by kernel_rfl
theorem q24 : (Rows.topTwiceRow.shortTexts.isNone) = true := by kernel_rfl
theorem q25 : (Tryz.pinned.checked.prog.stopsHeard) = true := by kernel_rfl
theorem q26 : (Tryz.pinned.checked.prog.mayEnter) = true := by kernel_rfl
theorem q27 : ((Rows.topTwiceRow.lifted == Tryz.pinned.checked.prog.liftsFinal)) = true := by kernel_rfl
theorem q28 : ((Tryz.pinned.checked.prog.make == some Rows.topTwiceRow.make)) = true := by kernel_rfl
theorem q29 : ((Rows.topTwiceRow.kinds == (if Rows.topTwiceRow.domain.isEmpty then [] else Tryz.f4.params.toList.map fun t => match Tryz.pinned.checked.prog.underlying t with | some (.int k) => some k | _ => none))) = true := by kernel_rfl
theorem q30 : ((Rows.topTwiceRow.pinned == Rows.topTwiceRow.pinnedBy)) = true := by kernel_rfl
theorem q31 : ((Rows.topTwiceRow.veiled == (Tryz.f4.params.toList ++ (OpenSpec.ofChange Rows.topTwiceSpec).bare.plain.varTypes Tryz.pinned.checked.prog ++ Tryz.f4.resultTypes.toList).any (Tryz.pinned.checked.prog.veiledRec ·))) = true := by kernel_rfl
theorem q32 : (Rows.topTwiceRow.veiledFits Tryz.pinned.checked.prog Tryz.f4.params.toList (Tryz.f4.params.toList ++ (OpenSpec.ofChange Rows.topTwiceSpec).bare.plain.varTypes Tryz.pinned.checked.prog ++ Tryz.f4.resultTypes.toList)) = true := by kernel_rfl
theorem closed : joinedFacts Tryz.pinned.checked.prog 4 Tryz.f4 (OpenSpec.ofChange Rows.topTwiceSpec).bare Rows.topTwiceRow = true := by
 unfold joinedFacts
 exact (tt (tt (tt (tt (tt (tt (tt (tt (tt (tt (tt (tt (tt (tt (tt (tt (tt (tt (tt (tt (tt (tt (tt (tt (tt (tt (tt (tt (tt (tt (tt q1 q2) q3) q4) q5) q6) q7) q8) q9) q10) q11) q12) q13) q14) q15) q16) q17) q18) q19) q20) q21) q22) q23) q24) q25) q26) q27) q28) q29) q30) q31) q32)
theorem byText : Rows.topTwiceRow.wfByText (OpenSpec.ofChange Rows.topTwiceSpec) = true := by kernel_rfl
theorem looks0 : true = Tryz.prog.looks [] := by kernel_rfl
theorem goes0 : false = Rows.topTwiceRow.goesBy Tryz.pinned.checked.prog := by kernel_rfl
theorem named4 : Tryz.prog.funcNamed "bloomery/bloomerytop.TopTwice" = some 4 := by kernel_rfl
theorem noStand : (Tryz.f4.params.toList.all fun t => !Tryz.prog.wantsStandIn t) = true := by kernel_rfl
end Go.Proofs.YtlbipokkdiiaiaaGreatDoor.topTwice
