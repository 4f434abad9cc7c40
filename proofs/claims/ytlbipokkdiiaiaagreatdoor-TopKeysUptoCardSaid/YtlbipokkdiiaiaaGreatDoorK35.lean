/- Lemmas for TopKeysUpto: WJ4. -/
import Derived.Test.YtlbipokkdiiaiaaGreatDoorK25
namespace Go.Proofs.YtlbipokkdiiaiaaGreatDoor.topKeys
open Go.ChangeShapes Go.WideShapes Go.ChangeAt Go.RowKit
set_option maxRecDepth 100000
theorem tt {a b:Bool} (h:a=true) (k:b=true):(a&&b)=true:=by rw[h,k];rfl
theorem q1:(Rows.topKeysUptoRow.wf (OpenSpec.ofChange (Rows.OpenSpec.upto Rows.topKeysSpec).bare))=true:=by kernel_rfl
theorem q2:(laidOutB Tryz.pinned.checked.prog)=true:=by kernel_rfl
theorem q3:(mapsRowed Tryz.pinned.checked.prog)=true:=by kernel_rfl
theorem q4:(Tryz.f5.params.all (Tryz.pinned.checked.prog.readableRec ·))=true:=by kernel_rfl
theorem q5:(namedTie Tryz.pinned.checked.prog Rows.topKeysUptoRow.named (Rows.OpenSpec.upto Rows.topKeysSpec).bare.vars)=true:=by kernel_rfl
theorem q6:((Rows.topKeysUptoRow.stops==[]))=true:=by kernel_rfl
theorem q7:((Tryz.pinned.checked.prog.stops==[]))=true:=by kernel_rfl
theorem q8:((Rows.topKeysUptoRow.knobs==[]))=true:=by kernel_rfl
theorem q9:((Tryz.pinned.checked.prog.stopKnobs==[]))=true:=by kernel_rfl
theorem q10:((Rows.topKeysUptoRow.inPlace==Tryz.pinned.checked.prog.inPlace 5))=true:=by kernel_rfl
theorem q11:((Rows.topKeysUptoRow.unfollowed==Tryz.pinned.checked.prog.unfollowed 5))=true:=by kernel_rfl
theorem q12:((Rows.topKeysUptoRow.recurses==Tryz.pinned.checked.prog.recurses 5))=true:=by kernel_rfl
theorem q13:((Rows.topKeysUptoRow.named==Tryz.pinned.checked.prog.varsNamed 5))=true:=by kernel_rfl
theorem q14:((Rows.topKeysUptoRow.maps==(Tryz.f5.params.toList++(Rows.OpenSpec.upto Rows.topKeysSpec).bare.plain.varTypes Tryz.pinned.checked.prog).any (Tryz.pinned.checked.prog.mapsRec ·)))=true:=by kernel_rfl
theorem q15:((Rows.topKeysUptoRow.ifaces==(Tryz.f5.params.toList++(Rows.OpenSpec.upto Rows.topKeysSpec).bare.plain.varTypes Tryz.pinned.checked.prog).any (Tryz.pinned.checked.prog.ifacesRec ·)))=true:=by kernel_rfl
theorem q16:((Rows.topKeysUptoRow.mapsOut==Tryz.pinned.checked.prog.mapsAmong Tryz.f5.resultTypes.toList))=true:=by kernel_rfl
theorem q17:((Rows.topKeysUptoRow.loops==(Tryz.f5.params.toList++(Rows.OpenSpec.upto Rows.topKeysSpec).bare.plain.varTypes Tryz.pinned.checked.prog).any (Tryz.pinned.checked.prog.loopsFrom ·)))=true:=by kernel_rfl
theorem q18:((Rows.topKeysUptoRow.wideKeys==(Tryz.f5.params.toList++(Rows.OpenSpec.upto Rows.topKeysSpec).bare.plain.varTypes Tryz.pinned.checked.prog++Tryz.f5.resultTypes.toList).any (Tryz.pinned.checked.prog.wideKeysFrom ·)))=true:=by kernel_rfl
theorem q19:((Rows.OpenSpec.upto Rows.topKeysSpec).bare.vars.all (Tryz.pinned.checked.prog.varReadable ·))=true:=by kernel_rfl
theorem q20:(Tryz.f5.resultTypes.all (fun t=>Tryz.pinned.checked.prog.readableRec t&&decide (t<Tryz.pinned.checked.prog.types.size)))=true:=by kernel_rfl
theorem q21:((Rows.topKeysUptoRow.ifacesOut==Tryz.f5.resultTypes.toList.any (Tryz.pinned.checked.prog.ifacesRec ·)))=true:=by kernel_rfl
theorem q22:((Rows.topKeysUptoRow.loopsOut==Tryz.f5.resultTypes.toList.any (Tryz.pinned.checked.prog.loopsFrom ·)))=true:=by kernel_rfl
theorem q23:((Rows.topKeysUptoRow.plainKeys==Tryz.pinned.checked.prog.plainKeys))=true:=by kernel_rfl
theorem q24:(Rows.topKeysUptoRow.shortTexts.isNone)=true:=by kernel_rfl
theorem q25:(Tryz.pinned.checked.prog.stopsHeard)=true:=by kernel_rfl
theorem q26:(Tryz.pinned.checked.prog.mayEnter)=true:=by kernel_rfl
theorem q27:((Rows.topKeysUptoRow.lifted==Tryz.pinned.checked.prog.liftsFinal))=true:=by kernel_rfl
theorem q28:((Tryz.pinned.checked.prog.make==some Rows.topKeysUptoRow.make))=true:=by kernel_rfl
theorem q29:((Rows.topKeysUptoRow.kinds==(if Rows.topKeysUptoRow.domain.isEmpty then[] else Tryz.f5.params.toList.map fun t=>match Tryz.pinned.checked.prog.underlying t with|some (.int k)=>some k|_=>none)))=true:=by kernel_rfl
theorem q30:((Rows.topKeysUptoRow.pinned==Rows.topKeysUptoRow.pinnedBy))=true:=by kernel_rfl
theorem q31:((Rows.topKeysUptoRow.veiled==(Tryz.f5.params.toList++(Rows.OpenSpec.upto Rows.topKeysSpec).bare.plain.varTypes Tryz.pinned.checked.prog++Tryz.f5.resultTypes.toList).any (Tryz.pinned.checked.prog.veiledRec ·)))=true:=by kernel_rfl
theorem q32:(Rows.topKeysUptoRow.veiledFits Tryz.pinned.checked.prog Tryz.f5.params.toList (Tryz.f5.params.toList++(Rows.OpenSpec.upto Rows.topKeysSpec).bare.plain.varTypes Tryz.pinned.checked.prog++Tryz.f5.resultTypes.toList))=true:=by kernel_rfl
theorem zdS:joinedFacts Tryz.pinned.checked.prog 5 Tryz.f5 (Rows.OpenSpec.upto Rows.topKeysSpec).bare Rows.topKeysUptoRow=true:=by
 unfold joinedFacts
 exact(tt (tt (tt (tt (tt (tt (tt (tt (tt (tt (tt (tt (tt (tt (tt (tt (tt (tt (tt (tt (tt (tt (tt (tt (tt (tt (tt (tt (tt (tt (tt q1 q2) q3) q4) q5) q6) q7) q8) q9) q10) q11) q12) q13) q14) q15) q16) q17) q18) q19) q20) q21) q22) q23) q24) q25) q26) q27) q28) q29) q30) q31) q32)
theorem zdQ:Rows.topKeysUptoRow.wfByText (Rows.OpenSpec.upto Rows.topKeysSpec)=true:=by kernel_rfl
theorem zdT:true=Tryz.prog.looks []:=by kernel_rfl
theorem zeH:false=Rows.topKeysUptoRow.goesBy Tryz.pinned.checked.prog:=by kernel_rfl
theorem zbo:Tryz.prog.funcNamed "bloomery/bloomerytop.TopKeys"=some 5:=by kernel_rfl
theorem zcP:(Tryz.f5.params.toList.all fun t=>!Tryz.prog.wantsStandIn t)=true:=by kernel_rfl
end Go.Proofs.YtlbipokkdiiaiaaGreatDoor.topKeys
