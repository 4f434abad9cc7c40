/- Lemmas for TopFoundUpto: WJ3. -/
import Derived.Test.YtlbipokkdiiaiaaGreatDoorF24
namespace Go.Proofs.YtlbipokkdiiaiaaGreatDoor.topFound
open Go.ChangeShapes Go.WideShapes Go.ChangeAt Go.RowKit
set_option maxRecDepth 100000
theorem tt {a b:Bool} (h:a=true) (k:b=true):(a&&b)=true:=by rw[h,k];rfl
theorem q1:(Rows.topFoundUptoRow.wf (OpenSpec.ofChange (Rows.OpenSpec.upto Rows.topFoundSpec).bare))=true:=by kernel_rfl
theorem q2:(laidOutB Tryz.pinned.checked.prog)=true:=by kernel_rfl
theorem q3:(mapsRowed Tryz.pinned.checked.prog)=true:=by kernel_rfl
theorem q4:(Tryz.f6.params.all (Tryz.pinned.checked.prog.readableRec ·))=true:=by kernel_rfl
theorem q5:(namedTie Tryz.pinned.checked.prog Rows.topFoundUptoRow.named (Rows.OpenSpec.upto Rows.topFoundSpec).bare.vars)=true:=by kernel_rfl
theorem q6:((Rows.topFoundUptoRow.stops==[]))=true:=by kernel_rfl
theorem q7:((Tryz.pinned.checked.prog.stops==[]))=true:=by kernel_rfl
theorem q8:((Rows.topFoundUptoRow.knobs==[]))=true:=by kernel_rfl
theorem q9:((Tryz.pinned.checked.prog.stopKnobs==[]))=true:=by kernel_rfl
theorem q10:((Rows.topFoundUptoRow.inPlace==Tryz.pinned.checked.prog.inPlace 6))=true:=by kernel_rfl
theorem q11:((Rows.topFoundUptoRow.unfollowed==Tryz.pinned.checked.prog.unfollowed 6))=true:=by kernel_rfl
theorem q12:((Rows.topFoundUptoRow.recurses==Tryz.pinned.checked.prog.recurses 6))=true:=by kernel_rfl
theorem q13:((Rows.topFoundUptoRow.named==Tryz.pinned.checked.prog.varsNamed 6))=true:=by kernel_rfl
theorem q14:((Rows.topFoundUptoRow.maps==(Tryz.f6.params.toList++(Rows.OpenSpec.upto Rows.topFoundSpec).bare.plain.varTypes Tryz.pinned.checked.prog).any (Tryz.pinned.checked.prog.mapsRec ·)))=true:=by kernel_rfl
theorem q15:((Rows.topFoundUptoRow.ifaces==(Tryz.f6.params.toList++(Rows.OpenSpec.upto Rows.topFoundSpec).bare.plain.varTypes Tryz.pinned.checked.prog).any (Tryz.pinned.checked.prog.ifacesRec ·)))=true:=by kernel_rfl
theorem q16:((Rows.topFoundUptoRow.mapsOut==Tryz.pinned.checked.prog.mapsAmong Tryz.f6.resultTypes.toList))=true:=by kernel_rfl
theorem q17:((Rows.topFoundUptoRow.loops==(Tryz.f6.params.toList++(Rows.OpenSpec.upto Rows.topFoundSpec).bare.plain.varTypes Tryz.pinned.checked.prog).any (Tryz.pinned.checked.prog.loopsFrom ·)))=true:=by kernel_rfl
theorem q18:((Rows.topFoundUptoRow.wideKeys==(Tryz.f6.params.toList++(Rows.OpenSpec.upto Rows.topFoundSpec).bare.plain.varTypes Tryz.pinned.checked.prog++Tryz.f6.resultTypes.toList).any (Tryz.pinned.checked.prog.wideKeysFrom ·)))=true:=by kernel_rfl
theorem q19:((Rows.OpenSpec.upto Rows.topFoundSpec).bare.vars.all (Tryz.pinned.checked.prog.varReadable ·))=true:=by kernel_rfl
theorem q20:(Tryz.f6.resultTypes.all (fun t=>Tryz.pinned.checked.prog.readableRec t&&decide (t<Tryz.pinned.checked.prog.types.size)))=true:=by kernel_rfl
theorem q21:((Rows.topFoundUptoRow.ifacesOut==Tryz.f6.resultTypes.toList.any (Tryz.pinned.checked.prog.ifacesRec ·)))=true:=by kernel_rfl
theorem q22:((Rows.topFoundUptoRow.loopsOut==Tryz.f6.resultTypes.toList.any (Tryz.pinned.checked.prog.loopsFrom ·)))=true:=by kernel_rfl
theorem q23:((Rows.topFoundUptoRow.plainKeys==Tryz.pinned.checked.prog.plainKeys))=true:=by kernel_rfl
theorem q24:(Rows.topFoundUptoRow.shortTexts.isNone)=true:=by kernel_rfl
theorem q25:(Tryz.pinned.checked.prog.stopsHeard)=true:=by kernel_rfl
theorem q26:(Tryz.pinned.checked.prog.mayEnter)=true:=by kernel_rfl
theorem q27:((Rows.topFoundUptoRow.lifted==Tryz.pinned.checked.prog.liftsFinal))=true:=by kernel_rfl
theorem q28:((Tryz.pinned.checked.prog.make==some Rows.topFoundUptoRow.make))=true:=by kernel_rfl
theorem q29:((Rows.topFoundUptoRow.kinds==(if Rows.topFoundUptoRow.domain.isEmpty then[] else Tryz.f6.params.toList.map fun t=>match Tryz.pinned.checked.prog.underlying t with|some (.int k)=>some k|_=>none)))=true:=by kernel_rfl
theorem q30:((Rows.topFoundUptoRow.pinned==Rows.topFoundUptoRow.pinnedBy))=true:=by kernel_rfl
theorem q31:((Rows.topFoundUptoRow.veiled==(Tryz.f6.params.toList++(Rows.OpenSpec.upto Rows.topFoundSpec).bare.plain.varTypes Tryz.pinned.checked.prog++Tryz.f6.resultTypes.toList).any (Tryz.pinned.checked.prog.veiledRec ·)))=true:=by kernel_rfl
theorem q32:(Rows.topFoundUptoRow.veiledFits Tryz.pinned.checked.prog Tryz.f6.params.toList (Tryz.f6.params.toList++(Rows.OpenSpec.upto Rows.topFoundSpec).bare.plain.varTypes Tryz.pinned.checked.prog++Tryz.f6.resultTypes.toList))=true:=by kernel_rfl
theorem zdY:joinedFacts Tryz.pinned.checked.prog 6 Tryz.f6 (Rows.OpenSpec.upto Rows.topFoundSpec).bare Rows.topFoundUptoRow=true:=by
 unfold joinedFacts
 exact(tt (tt (tt (tt (tt (tt (tt (tt (tt (tt (tt (tt (tt (tt (tt (tt (tt (tt (tt (tt (tt (tt (tt (tt (tt (tt (tt (tt (tt (tt (tt q1 q2) q3) q4) q5) q6) q7) q8) q9) q10) q11) q12) q13) q14) q15) q16) q17) q18) q19) q20) q21) q22) q23) q24) q25) q26) q27) q28) q29) q30) q31) q32)
theorem zdL:Rows.topFoundUptoRow.wfByText (Rows.OpenSpec.upto Rows.topFoundSpec)=true:=by kernel_rfl
theorem zdP:true=Tryz.prog.looks []:=by kernel_rfl
theorem zez:false=Rows.topFoundUptoRow.goesBy Tryz.pinned.checked.prog:=by kernel_rfl
theorem zaQ:Tryz.prog.funcNamed "bloomery/bloomerytop.TopFound"=some 6:=by kernel_rfl
theorem zce:(Tryz.f6.params.toList.all fun t=>!Tryz.prog.wantsStandIn t)=true:=by kernel_rfl
end Go.Proofs.YtlbipokkdiiaiaaGreatDoor.topFound
