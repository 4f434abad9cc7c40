/- Lemmas and walks that the statement needs: RpDictW, RpLines, RpLine, RpLineR, RpLineI. -/
import Derived.Test.YtfgiihpopngbkaaGreatDoorP22
namespace Go.Proofs.YtfgiihpopngbkaaGreatDoor
set_option maxRecDepth 100000
set_option maxHeartbeats 8000000
open Go.RowKit
open List renaming setIfInBounds_toArray→sA,set_cons_zero→sB,set_cons_succ→sC
open Nat renaming le_trans→nT
open Go.Act renaming put→aPu
open List renaming length_append→lAp,length_cons→lCo,length_nil→lNi
open Nat renaming le_refl→nRe
open Go.World renaming size_alloc→wSz
open _root_.Array renaming getElem?_eq_some_iff→aGe
open Go renaming heap_alloc_new→hAn
theorem kq (a b c:List aJ) (r:List (List aJ)):(af (b7 (a::b::c::r))).length=(af a).length+2+(af b).length+2+(af (b7 (c::r))).length:=by
 show (af (a++sg 58::sp::(b++sg 44::sp::b7 (c::r)))).length=_;rw [aQ,lAp,aA,aA,lAp,lAp,aQ,lAp,aA,aA,lAp,lAp];show _+(1+(1+(_+(1+(1+_)))))=_;omega
theorem pW (a b:List aJ):(af (b7 [a,b])).length=(af a).length+2+(af b).length:=by
 show (af (a++sg 58::sp::b)).length=_;rw [aQ,lAp,aA,aA,lAp,lAp];show _+(1+(1+_))=_;omega
theorem rX:∀ (s:List (List aJ)) (x:List aJ),x ∈ s→(af x).length≤(af (b7 s)).length
 | [],x,h=>by cases h
 | [a],x,h=>by rw [List.mem_singleton.1 h];exact nRe _
 | [a,b],x,h=>by
   rw [pW];simp only [List.mem_cons,List.not_mem_nil,or_false] at h;rcases h with rfl | rfl <;> omega
 | a::b::c::r,x,h=>by
   rw [kq];rcases List.mem_cons.1 h with rfl | h
   ·omega
   rcases List.mem_cons.1 h with rfl | h
   ·omega
   ·have:=rX (c::r) x h;omega
theorem oC:∀ (s:List (List aJ)) (k:Nat),(af (b7 (s.take (2 * k)))).length≤(af (b7 s)).length
 | s,0=>Nat.zero_le _
 | [],k+1=>by rw [List.take_of_length_le (by simp)];exact nRe _
 | [a],k+1=>by rw [List.take_of_length_le (by simp;omega)];exact nRe _
 | [a,b],k+1=>by rw [List.take_of_length_le (by simp;omega)];exact nRe _
 | a::b::c::r,1=>by
   rw [kq];show (af (b7 [a,b])).length≤_;rw [pW];omega
 | a::b::c::r,k+2=>by
   have:=oC (c::r) (k+1);have e:(a::b::c::r).take (2 * (k+2))=a::b::c::r.take (2 * k+1):=rfl;have e2:(c::r).take (2 * (k+1))=c::r.take (2 * k+1):=rfl;rw [e,kq,kq];rw [e2] at this;omega
theorem yR (a b:List aJ) (s:List (List aJ)) (h:s.length % 2=0):af (b7 (s++[a]++[b]))=af (b7 s)++((if s=[] then [] else [44,32])++(af a++([58,32]++af b))):=by
 have hne:¬ s++[a]=[]:=by simp
 have ho:(s++[a]).length % 2=1:=by rw [lAp];show (s.length+1) % 2=1;omega
 rw [je b,if_neg hne,if_pos ho,je a];by_cases hs:s=[]
 ·subst hs;rw [if_pos rfl,if_pos rfl,aQ,aA,aA];rfl
 ·rw [if_neg hs,if_neg hs,if_neg (by omega),aQ,aQ,aA,aA,aA,aA];simp [df,sg,sp]
theorem zcY (t:List UInt8) (l c:Int) (ks:List NM) (a:Option Addr) (m:Nat) (n:Nat) (w:World) (hh:am aR w (.mk 13 t l c ks a m)) (aF:(af (oP n (NM.mk 13 t l c ks a m).tr)).length≤140737488351232) (iF:oD (NM.mk 13 t l c ks a m).tr≤1000000) (hk:ks.length≤1000000) (hev:ks.length % 2=0) (IH:∀ j (hj:j<ks.length),gM ks[j]) :
  cf 88 #[aB 13 t l c (.slice a ks.length m)] (af (oP n (NM.mk 13 t l c ks a m).tr)) (oD (NM.mk 13 t l c ks a m).tr) w:=by
 have HS:=hid (show af (oP n (NM.mk 13 t l c ks a m).tr)=[123]++(af (b7 (oPs n (NM.trs ks)))++[125])∧oD (NM.mk 13 t l c ks a m).tr=(b9 (oDs (NM.trs ks)))+1 by
  rw [aq,bP,di];exact ⟨by show af (sg 123::(b7 (oPs n _)++[sg 125]))=_;rw [aA,aQ];rfl,rfl⟩)
 rw [HS.out.1] at aF;rw [HS.out.2] at iF;have HK:=hid (fun W (hW:Below w.heap.size w W)=>hh.kidsAt.below hW);have hlD:(af (b7 (oPs n (NM.trs ks)))).length+2≤140737488351232:=by simp only [lAp,lCo,lNi] at aF;omega
 have HX:=hid (fun j (hj:j<ks.length) W (hW:Below w.heap.size w W)=>IH j hj n W ((hh.kidsAt.get j hj).below hW) (nT (rX _ _ (qQ n ks j hj)) (by omega)) (nT (lD _ _ (qm ks j hj)) (by omega)));have HL:=hid (fun j (hj:j % 2=0)=>(show (af (b7 ((oPs n (NM.trs ks)).take j))).length+2≤140737488351232 by
  have:=oC (oPs n (NM.trs ks)) (j / 2);rw [show 2 * (j / 2)=j by omega] at this;omega))
 have HSn:=hid (fun j (hj:j+1<ks.length) (hj2:j % 2=0)=>(show af (b7 ((oPs n (NM.trs ks)).take (j+2)))=af (b7 ((oPs n (NM.trs ks)).take j))++((if j=0 then [] else [44,32])++(af (oP n (ks[j]'(by omega)).tr)++([58,32]++af (oP n ks[j+1].tr)))) by
  rw [lC n ks (j+1) hj,lC n ks j (by omega),yR _ _ _ (by rw [List.length_take,kj];omega)];have e:((oPs n (NM.trs ks)).take j=[]) ↔ j=0:=by
   rw [← List.length_eq_zero_iff,List.length_take,kj];omega
  simp only [e]))
 have HDn:=hid (fun j (hj:j+1<ks.length)=>(show b9 ((oDs (NM.trs ks)).take (j+2))=max (max (b9 ((oDs (NM.trs ks)).take j)) (oD (ks[j]'(by omega)).tr)) (oD ks[j+1].tr) by rw [lT ks (j+1) hj,lT ks j (by omega),lZ,lZ]));have HE:=hid (show (oPs n (NM.trs ks)).take ks.length=oPs n (NM.trs ks)∧(oDs (NM.trs ks)).take ks.length=oDs (NM.trs ks) from ⟨List.take_of_length_le (by rw [kj];omega),List.take_of_length_le (by rw [qP];omega)⟩);obtain ⟨la,lc,hv,iI,hlm,-⟩:=hh.kidsAt.nodes;obtain ⟨rfl,rfl⟩:a=la∧m=lc:=by simpa using hv
 unfold maxLen at hlm;obtain ⟨W0,hW0,hb0,hr0,ho0⟩:∃ W,Hid (W=((w.alloc (.cells #[.int .i64 13,.string (bs t),.int .i64 l,.int .i64 c,.slice a ks.length m] 27)).alloc (.cells #[.string ⟨#[]⟩,.int .i64 0] 70)).alloc (.cells #[.string ⟨#[]⟩,.int .i64 0] 70))∧Below w.heap.size w W∧W.heap[w.heap.size+1]? = some (.cells #[.string ⟨#[]⟩,.int .i64 0] 70 (0,0))∧W.heap[w.heap.size+2]? = some (.cells #[.string ⟨#[]⟩,.int .i64 0] 70 (0,0)) :=
  ⟨_,hid rfl,(gx w _ _).alloc (by rw [wSz,wSz];omega) _,bz (fx w _ _) _,by have h:=fx (w.alloc (.cells #[.int .i64 13,.string (bs t),.int .i64 l,.int .i64 c,.slice a ks.length m] 27)) (.cells #[.string ⟨#[]⟩,.int .i64 0] 70) (.cells #[.string ⟨#[]⟩,.int .i64 0] 70);rw [wSz] at h;exact h⟩
 have HB0:=hid hb0;have HR0:=hid hr0;have HO0:=hid ho0;clear hb0 hr0 ho0;have HIn:=hid (fun W=>kw [123] (af (b7 (oPs n (NM.trs ks)))) [125] (b9 (oDs (NM.trs ks))) (by simp only [lCo,lNi];omega) (by omega) W);generalize oPs n (NM.trs ks)=PP at *;generalize oDs (NM.trs ks)=DD at *;clear hh IH aF iF hv hlD;unfold cf at *;go_enter Tryz.func88,Tryz.ntmps88
 go_wp2_with fail;rw [← hW0.out];clear hW0;go_loopw [6] (fun i wr=>∃ j:Nat,j≤ks.length∧j % 2=0∧i=.int .i64 j∧Below w.heap.size w wr∧wr.heap[w.heap.size+1]? = some (.cells #[.string ⟨#[]⟩,.int .i64 0] 70 (0,0))∧wr.heap[w.heap.size+2]? = some (.cells #[.string (bs (af (b7 (PP.take j)))),.int .i64 (b9 (DD.take j):Nat)] 70 (0,0))) (fun i _=>ks.length - (intOf i).toNat)
 case atStart=>exact ⟨0,by omega,rfl,rfl,HB0.out,HR0.out,HO0.out⟩
 case round =>
  obtain ⟨j,hj,hj2,rfl,hbw,hr0,hr1⟩:=hrel;have hsz:=hbw.size;have hlt1:w.heap.size+2<wr.heap.size:=(aGe.1 hr1).1;have hlt0:w.heap.size+1<wr.heap.size:=by omega
  have HR:=hid hr0;have HO:=hid hr1;have HB:=hid hbw;clear HR0 HO0 HB0;by_cases aL:j<ks.length
  ·have hltb:j+1<ks.length:=by omega
   obtain ⟨la',lc',hv,-,-,hx⟩:=(HK.out _ hbw).nodes;obtain ⟨lb,lo,rfl,hlb,cw⟩:=hx j aL;obtain ⟨rfl,rfl⟩:a=some ⟨lb,lo,none⟩∧m=lc':=by simpa using hv
   have hfa:=cw j aL;have hfb:=cw (j+1) hltb;obtain ⟨la0,lc0,hv0,-,-,hx0⟩:=(HK.out w (Below.refl _ _)).nodes;obtain ⟨lb0,lo0,hla0,hlb0,hcl0⟩:=hx0 j aL;obtain ⟨⟨rfl,rfl⟩,-⟩:(lb=lb0∧lo=lo0)∧m=lc0:=by rw [hla0] at hv0;simpa using hv0
   have hfa0:=hcl0 j aL;have hfb0:=hcl0 (j+1) hltb;clear hx0 hv0 hcl0 hla0;have HXa:=hid (fun W (hW:Below w.heap.size w W)=>HX.out j aL W hW);have HXb:=hid (fun W (hW:Below w.heap.size w W)=>HX.out (j+1) hltb W hW);have HSj:=hid (HSn.out j hltb hj2);have HDj:=hid (HDn.out j hltb);have hL1:=HL.out (j+2) (by omega);rw [HSj.out] at hL1;have hq1:((j:Int)+1).toNat=j+1:=by omega
   have hq2:IntKind.i64.wrap ((j:Int)+1)=(j:Int)+1:=by rw [IntKind.wrap_i64];omega
   have hq3:(0:Int)≤(j:Int)+1:=by omega
   have hq4:(j:Int)+1<(ks.length:Int):=by omega
   clear cw hx hv;generalize ks[j]=xa at *;generalize ks[j+1]=xb at *;cases xa with
   | mk ka ta l1 c1' kka aa ma =>
   cases xb with
   | mk kb' tb l2 c2' kkb ab mb =>
   change Hid (∀ W,_→Calls _ _ #[aB ka ta l1 c1' (.slice aa kka.length ma)] W _) at HXa;change Hid (∀ W,_→Calls _ _ #[aB kb' tb l2 c2' (.slice ab kkb.length mb)] W _) at HXb;have HFa:=hid hfa0;have HFb:=hid hfb0;generalize oD (NM.mk ka ta l1 c1' kka aa ma).tr=da at *;generalize oD (NM.mk kb' tb l2 c2' kkb ab mb).tr=db at *;generalize af (oP n (NM.mk ka ta l1 c1' kka aa ma).tr)=sa at *;generalize af (oP n (NM.mk kb' tb l2 c2' kkb ab mb).tr)=sb at *;generalize b9 (DD.take j)=D at *;generalize af (b7 (PP.take j))=S at *;obtain ⟨o0,o1,fo0,fo1⟩:=de hr1;clear hr0 hr1 hbw hfa hfb hfa0 hfb0;by_cases h0:j=0
   ·have hj0:¬ ((0:Int)<(j:Int)):=by omega
    rw [if_pos h0] at hL1;replace HSj:=hid (HSj.out.trans (by rw [if_pos h0]));have HJ:=hid (dK [(S,D),(sa,da),([58,32],0),(sb,db)] _ rfl 4 rfl (by show (S++(sa++([58,32]++(sb++[])))).length≤_;simp only [lAp,lCo,lNi] at hL1 ⊢;omega) (by simp));clear h0 hL1;obtain ⟨W1,HB1,HR1,HO1,hsw⟩:∃ W,Hid (Below w.heap.size w W)∧Hid (W.heap[w.heap.size+1]? = some (.cells #[.string ⟨#[]⟩,.int .i64 0] 70 (0,0)))∧Hid (W.heap[w.heap.size+2]? = some (.cells #[.string (bs S),.int .i64 (D:Nat)] 70 (0,0)))∧W=wr:=⟨wr,HB,HR,HO,rfl⟩;subst hsw;have hlt2:=hlt1;have hlt3:=hlt0;obtain ⟨c0,c1,c2,c3,c4⟩:=aj (HFa.out.keep (HB1.out.block _ hlb0));obtain ⟨d0,d1,d2,d3,d4⟩:=aj (HFb.out.keep (HB1.out.block _ hlb0));clear HB HR HO HFa HFb;go_wp2_with fail;refine ba 13 (by kernel_rfl) (by kernel_rfl) ?_;simp only [List.take_succ_cons,List.take_zero,List.drop_succ_cons,List.drop_zero]
    repeat (refine WQ.step (fun K hK=>?_);go_simp;first | (refine hK _ ?_;clear hK K) | (apply Exists.intro;refine ⟨fun W hW=>?_,hK _ ?_⟩;(first | (go_at_call_of 88 (Value.string (bs ta));exact zdB hW (HXa.out W (zdy HB1.out hW))) | (go_at_call_of 88 (Value.string (bs tb));exact zdB hW (HXb.out W (zdy HB1.out hW))) | (first | with_reducible rfl | (obtain ⟨zz0,zz1,zz2,zz3,zz4⟩:=kp5 hW c0 c1 c2 c3 c4;obtain ⟨zz5,zz6,zz7,zz8,zz9⟩:=kp5 hW d0 d1 d2 d3 d4;have zz10:=Below.keeps hW o0;have zz11:=Below.keeps hW o1;go_simp;first | rfl | exact ⟨rfl,rfl⟩ | (rw [if_neg (by omega)];exact ⟨rfl,rfl⟩))));clear hK K))
    refine WQ.nil ?_;intro wq hwq;clear c0 c1 c2 c3 c4 d0 d1 d2 d3 d4 o0 o1 fo0 fo1;go_wp2_with fail;refine (HJ.out _).mono ?_;rintro e w2 ⟨rfl,hb2⟩;have HB2:=hid (zdy HB1.out (zdy hwq hb2));have HR2:=hid ((hb2.block _ (by have:=hwq.size;omega)).trans ((hwq.block _ hlt3).trans HR1.out));have HO2:=hid ((hb2.block _ (by have:=hwq.size;omega)).trans ((hwq.block _ hlt2).trans HO1.out));obtain ⟨o0,o1,fo0,fo1⟩:=de HO2.out;clear hb2 hwq;go_wp2_with fail;refine ⟨⟨j+2,by omega,by omega,by go_num,aK HB2.out (by omega) _ _,(cZ _ _ _ _ _ (by omega)).trans HR2.out,?_⟩,by simp [intOf];omega⟩;rw [HSj.out,HDj.out];refine (ff HO2.out _ _).trans ?_;show some (Obj.cells #[.string (bs (S++(sa++([58,32]++(sb++[]))))),.int .i64 (max D (max da (max 0 (max db 0))):Nat)] _ (0,0))=_;rw [List.append_nil,show max D (max da (max 0 (max db 0)))=max (max D da) db by omega];rfl
   ·have hj0:(0:Int)<(j:Int):=by omega
    rw [if_neg h0] at hL1;replace HSj:=hid (HSj.out.trans (by rw [if_neg h0]));have hl2:S.length+4+sa.length+sb.length≤140737488351232:=by simp only [lAp,lCo,lNi] at hL1;omega
    have HJ0:=hid (dK [(S,D),([44,32],0)] _ rfl 2 rfl (by show (S++([44,32]++[])).length≤_;simp only [lAp,lCo,lNi];omega) (by simp));have hS1:fd [(S,D),([44,32],0)]=S++[44,32]:=by simp [fd]
    have hD1:ik [(S,D),([44,32],0)]=max D (max 0 0):=rfl;generalize fd [(S,D),([44,32],0)]=S1 at *;generalize ik [(S,D),([44,32],0)]=D1 at *;have HJ:=hid (dK [(S1,D1),(sa,da),([58,32],0),(sb,db)] _ rfl 4 rfl (by show (S1++(sa++([58,32]++(sb++[])))).length≤_;rw [hS1];simp only [lAp,lCo,lNi];omega) (by simp));have HS1:=hid hS1;have HD1:=hid hD1;clear h0 hL1 hS1 hD1;go_wp2_with fail;refine (HJ0.out wr).mono ?_;rintro e w1 ⟨rfl,hb1⟩;have HBa:=bc HB hb1;have HRa:=hid ((hb1.block _ hlt0).trans HR.out);have HOa:=hid ((hb1.block _ hlt1).trans HO.out);obtain ⟨o0,o1,fo0,fo1⟩:=de HOa.out;clear hb1 HJ0 HB HR HO;go_wp2_with fail;obtain ⟨W1,hW1,hb1,hr1,ho1⟩:∃ W,Hid (W=(w1.setCell ⟨w.heap.size+2,0,none⟩ (.string (bs S1))).setCell ⟨w.heap.size+2,1,none⟩ (.int .i64 (D1:Nat)))∧Below w.heap.size w W∧W.heap[w.heap.size+1]? = some (.cells #[.string ⟨#[]⟩,.int .i64 0] 70 (0,0))∧W.heap[w.heap.size+2]? = some (.cells #[.string (bs S1),.int .i64 (D1:Nat)] 70 (0,0)) :=
     ⟨_,hid rfl,aK HBa.out (by omega) _ _,(cZ _ _ _ _ _ (by omega)).trans HRa.out,ff HOa.out _ _⟩
    rw [← hW1.out];clear hW1;have HB1:=hid hb1;have HR1:=hid hr1;have HO1:=hid ho1;have hlt2:w.heap.size+2<W1.heap.size:=(aGe.1 HO1.out).1;have hlt3:w.heap.size+1<W1.heap.size:=by omega
    obtain ⟨o0,o1,fo0,fo1⟩:=de HO1.out;obtain ⟨c0,c1,c2,c3,c4⟩:=aj (HFa.out.keep (hb1.block _ hlb0));obtain ⟨d0,d1,d2,d3,d4⟩:=aj (HFb.out.keep (hb1.block _ hlb0));have hkl:lb<W1.heap.size:=by have:=hb1.size;omega
    clear hb1 hr1 ho1 HBa HRa HOa HFa HFb;refine ba 13 (by kernel_rfl) (by kernel_rfl) ?_;simp only [List.take_succ_cons,List.take_zero,List.drop_succ_cons,List.drop_zero]
    repeat (refine WQ.step (fun K hK=>?_);go_simp;first | (refine hK _ ?_;clear hK K) | (apply Exists.intro;refine ⟨fun W hW=>?_,hK _ ?_⟩;(first | (go_at_call_of 88 (Value.string (bs ta));exact zdB hW (HXa.out W (zdy HB1.out hW))) | (go_at_call_of 88 (Value.string (bs tb));exact zdB hW (HXb.out W (zdy HB1.out hW))) | (first | with_reducible rfl | (obtain ⟨zz0,zz1,zz2,zz3,zz4⟩:=kp5 hW c0 c1 c2 c3 c4;obtain ⟨zz5,zz6,zz7,zz8,zz9⟩:=kp5 hW d0 d1 d2 d3 d4;have zz10:=Below.keeps hW o0;have zz11:=Below.keeps hW o1;go_simp;first | rfl | exact ⟨rfl,rfl⟩ | (rw [if_neg (by omega)];exact ⟨rfl,rfl⟩))));clear hK K))
    refine WQ.nil ?_;intro wq hwq;clear c0 c1 c2 c3 c4 d0 d1 d2 d3 d4 o0 o1 fo0 fo1;go_wp2_with fail;refine (HJ.out _).mono ?_;rintro e w2 ⟨rfl,hb2⟩;have HB2:=hid (zdy HB1.out (zdy hwq hb2));have HR2:=hid ((hb2.block _ (by have:=hwq.size;omega)).trans ((hwq.block _ hlt3).trans HR1.out));have HO2:=hid ((hb2.block _ (by have:=hwq.size;omega)).trans ((hwq.block _ hlt2).trans HO1.out));obtain ⟨o0,o1,fo0,fo1⟩:=de HO2.out;clear hb2 hwq;go_wp2_with fail;refine ⟨⟨j+2,by omega,by omega,by go_num,aK HB2.out (by omega) _ _,(cZ _ _ _ _ _ (by omega)).trans HR2.out,?_⟩,by simp [intOf];omega⟩;rw [HSj.out,HDj.out];refine (ff HO2.out _ _).trans ?_;have e:fd [(S1,D1),(sa,da),([58,32],0),(sb,db)]=S++([44,32]++(sa++([58,32]++sb))):=by
     show S1++(sa++([58,32]++(sb++[])))=_;rw [HS1.out,List.append_nil,List.append_assoc]
    have e2:ik [(S1,D1),(sa,da),([58,32],0),(sb,db)]=max (max D da) db:=by
     show max D1 (max da (max 0 (max db 0)))=_;rw [HD1.out];omega
    rw [e,e2]
  ·obtain rfl:j=ks.length:=by omega
   rw [HE.out.1,HE.out.2] at hr1 HO;obtain ⟨o0,o1,fo0,fo1⟩:=de hr1;obtain ⟨r0,r1,fr0,fr1⟩:=de hr0;clear hr0 hr1 hbw;go_wp2_with fail;refine (HIn.out _).mono ?_;rintro e w2 ⟨rfl,hb2⟩;have HB2:=bc HB hb2;have HR2:=hid ((hb2.block _ hlt0).trans HR.out);clear hb2;obtain ⟨r0,r1,fr0,fr1⟩:=de HR2.out;go_wp2_with fail;exact br Tryz.underlying70 (w.heap.size+1) (ff HR2.out _ _) ⟨by rw [HS.out.1,HS.out.2];rfl,aK HB2.out (Nat.le_succ _) _ _⟩
def xK (x:NM):Prop:=∀ n w,am aR w x→(af (oP n x.tr)).length≤140737488351232→oD x.tr≤1000000→cf 46 #[x.val,.string (bs (List.replicate n 9))] (af (oP n x.tr)) (oD x.tr) w
def mX (x:NM):Prop:=∀ n w,am aR w x→(af (oP n x.tr)).length≤140737488351232→oD x.tr≤1000000→cf 89 #[x.val,.string (bs (List.replicate n 9))] (af (oP n x.tr)) (oD x.tr) w
theorem np (n:Nat):af (fB n)=List.replicate n 9:=by
 unfold fB;split
 ·rename_i h;rw [h];rfl
 ·simp [af,df]
theorem oJ (n:Nat) (a:List aJ) (r:List (List aJ)):(af (aX n (a::r))).length=n+(af a).length+1+(af (aX n r)).length:=by
 show (af (fB n++(a++nl::aX n r))).length=_;rw [aQ,aQ,aA,np,lAp,lAp,lAp,List.length_replicate];show n+(_+(1+_))=_;omega
theorem qj (n:Nat):∀ (s:List (List aJ)) (x:List aJ),x ∈ s→n+(af x).length≤(af (aX n s)).length
 | [],x,h=>by cases h
 | a::r,x,h=>by
   rw [oJ];rcases List.mem_cons.1 h with rfl | h
   ·omega
   ·have:=qj n r x h;omega
theorem oS (n:Nat):∀ (s:List (List aJ)) (k:Nat),(af (aX n (s.take k))).length≤(af (aX n s)).length
 | _,0=>Nat.zero_le _
 | [],_+1=>nRe _
 | a::r,k+1=>by
   have:=oS n r k;show (af (aX n (a::r.take k))).length≤_;rw [oJ,oJ];omega
theorem oo (v:Value) (ks:List NM) (n:Nat) (w:World) (hl:cn w v ks) (hk:ks.length≤1000000) (aF:(af (aX n (oPs n (NM.trs ks)))).length≤140737488351232) (iF:b9 (oDs (NM.trs ks))≤1000000) (IH:∀ j (hj:j<ks.length),xK ks[j]) :
  cf 27 #[v,.string (bs (List.replicate n 9))] (af (aX n (oPs n (NM.trs ks)))) (b9 (oDs (NM.trs ks))) w:=by
 have HS:=hid (fun W (hW:Below w.heap.size w W)=>hl.below hW);have HX:=hid (fun j (hj:j<ks.length) W (hW:Below w.heap.size w W)=>IH j hj n W ((hl.get j hj).below hW) (by have:=qj n _ _ (qQ n ks j hj);omega) (nT (lD _ _ (qm ks j hj)) iF));have HL:=hid (fun j=>nT (oS n (oPs n (NM.trs ks)) j) aF);have HSn:=hid (fun j (hj:j<ks.length)=>(show af (aX n ((oPs n (NM.trs ks)).take (j+1)))=af (aX n ((oPs n (NM.trs ks)).take j))++(List.replicate n 9++(af (oP n ks[j].tr)++[10])) by
  rw [lC n ks j hj,jp]))
 have HDn:=hid (fun j (hj:j<ks.length)=>(show b9 ((oDs (NM.trs ks)).take (j+1))=max (b9 ((oDs (NM.trs ks)).take j)) (oD ks[j].tr) by rw [lT ks j hj,lZ]));have HE:=hid (show (oPs n (NM.trs ks)).take ks.length=oPs n (NM.trs ks)∧(oDs (NM.trs ks)).take ks.length=oDs (NM.trs ks) from ⟨List.take_of_length_le (by rw [kj];omega),List.take_of_length_le (by rw [qP];omega)⟩);obtain ⟨la,lc,rfl,iI,hlm,-⟩:=hl.nodes;unfold maxLen at hlm;have HR0:=hid (bz (hAn w (.cells #[.string ⟨#[]⟩,.int .i64 0] 70)) (.cells #[.string ⟨#[]⟩,.int .i64 0] 70));have HR1:=hid (fx w (.cells #[.string ⟨#[]⟩,.int .i64 0] 70) (.cells #[.string ⟨#[]⟩,.int .i64 0] 70));have HB0:=hid (gx w (.cells #[.string ⟨#[]⟩,.int .i64 0] 70) (.cells #[.string ⟨#[]⟩,.int .i64 0] 70));generalize oPs n (NM.trs ks)=PP at *;generalize oDs (NM.trs ks)=DD at *;generalize List.replicate n (9:UInt8)=tb at *;clear hl IH aF iF;unfold cf at *;go_enter Tryz.func27,Tryz.ntmps27
 go_wp2_with fail;go_loopw [11] (fun i wr=>∃ j:Nat,j≤ks.length∧i=.int .i64 j∧Below w.heap.size w wr∧wr.heap[w.heap.size]? = some (.cells #[.string ⟨#[]⟩,.int .i64 0] 70 (0,0))∧wr.heap[w.heap.size+1]? = some (.cells #[.string (bs (af (aX n (PP.take j)))),.int .i64 (b9 (DD.take j):Nat)] 70 (0,0))) (fun i _=>ks.length - (intOf i).toNat)
 case atStart=>exact ⟨0,by omega,rfl,HB0.out,HR0.out,HR1.out⟩
 case round =>
  obtain ⟨j,hj,rfl,hbw,hr0,hr1⟩:=hrel;have hsz:=hbw.size;have hlt0:w.heap.size<wr.heap.size:=(aGe.1 hr0).1;have hlt1:w.heap.size+1<wr.heap.size:=(aGe.1 hr1).1;have HR:=hid hr0;have HO:=hid hr1;have HB:=hid hbw;by_cases aL:j<ks.length
  ·obtain ⟨la',lc',hv,-,-,hx⟩:=(HS.out _ hbw).nodes;obtain ⟨lb,lo,rfl,hlb,cw⟩:=hx j aL;obtain ⟨rfl,rfl⟩:la=some ⟨lb,lo,none⟩∧lc=lc':=by simpa using hv
   have hfc:=cw j aL;have HXj:=hid (fun W (hW:Below w.heap.size w W)=>HX.out j aL W hW);have HSj:=hid (HSn.out j aL);have HDj:=hid (HDn.out j aL);have hL1:=HL.out (j+1);rw [HSj.out] at hL1;clear cw hx hv;generalize ks[j]=x at *;cases x with
   | mk kx tx lx cx kk ax mx =>
   change Hid (∀ W,_→Calls _ _ #[aB kx tx lx cx (.slice ax kk.length mx),_] W _) at HXj;obtain ⟨c0,c1,c2,c3,c4⟩:=aj hfc;generalize oD (NM.mk kx tx lx cx kk ax mx).tr=dx at *;generalize b9 (DD.take j)=D at *;generalize af (oP n (NM.mk kx tx lx cx kk ax mx).tr)=sx at *;generalize af (aX n (PP.take j))=S at *;have HJ:=hid (dK [(S,D),(tb,0),(sx,dx),([10],0)] _ rfl 4 rfl (by simpa [fd] using hL1) (by simp));clear hr0 hr1 hbw hfc hL1;go_wp2_with fail;obtain ⟨W1,hW1,hb1,hn1⟩:=an0 wr (.cells #[.int .i64 kx,.string (bs tx),.int .i64 lx,.int .i64 cx,.slice ax kk.length mx] 27);rw [← hW1.out];clear hW1;have HB1:=bc HB hb1;have HR1:=hid ((hb1.block _ hlt0).trans HR.out);have HO1:=hid ((hb1.block _ hlt1).trans HO.out);have hlt2:w.heap.size+1<W1.heap.size:=(aGe.1 HO1.out).1;have hlt3:w.heap.size<W1.heap.size:=by omega
   obtain ⟨z0,z1,z2,z3,z4⟩:=r5 hn1;obtain ⟨o0,o1,fo0,fo1⟩:=de HO1.out;clear hb1 hn1 HB HR HO c0 c1 c2 c3 c4;refine ba 7 (by kernel_rfl) (by kernel_rfl) ?_;simp only [List.take_succ_cons,List.take_zero,List.drop_succ_cons,List.drop_zero]
   repeat (refine WQ.step (fun K hK=>?_);go_simp;first | (refine hK _ ?_;clear hK K) | (apply Exists.intro;refine ⟨fun W hW=>?_,hK _ ?_⟩;(first | (go_at_call 46;exact zdB hW (HXj.out W (zdy HB1.out hW))) | (first | with_reducible rfl | (obtain ⟨zz0,zz1,zz2,zz3,zz4⟩:=kp5 hW z0 z1 z2 z3 z4;have zz5:=Below.keeps hW o0;have zz6:=Below.keeps hW o1;go_simp;first | rfl | exact ⟨rfl,rfl⟩ | (rw [if_neg (by omega)];exact ⟨rfl,rfl⟩))));clear hK K))
   refine WQ.nil ?_;intro wq hwq;clear z0 z1 z2 z3 z4 o0 o1 fo0 fo1;go_wp2_with fail;refine (HJ.out _).mono ?_;rintro e w2 ⟨rfl,hb2⟩;have HB2:=hid (zdy HB1.out (zdy hwq hb2));have HR2:=hid ((hb2.block _ (by have:=hwq.size;omega)).trans ((hwq.block _ hlt3).trans HR1.out));have HO2:=hid ((hb2.block _ (by have:=hwq.size;omega)).trans ((hwq.block _ hlt2).trans HO1.out));obtain ⟨o0,o1,fo0,fo1⟩:=de HO2.out;clear hb2 hwq;go_wp2_with fail;refine ⟨⟨j+1,by omega,by go_num,aK HB2.out (Nat.le_succ _) _ _,(cZ _ _ _ _ _ (by omega)).trans HR2.out,?_⟩,by simp [intOf];omega⟩;rw [HSj.out,HDj.out];refine (ff HO2.out _ _).trans ?_;have e:fd [(S,D),(tb,0),(sx,dx),([10],0)]=S++(tb++(sx++[10])):=by simp [fd]
   have e2:ik [(S,D),(tb,0),(sx,dx),([10],0)]=max D dx:=by show max D (max 0 (max dx (max 0 0)))=_;omega
   rw [e,e2]
  ·obtain rfl:j=ks.length:=by omega
   rw [HE.out.1,HE.out.2] at hr1 HO;obtain ⟨o0,o1,fo0,fo1⟩:=de hr1;obtain ⟨r0,r1,fr0,fr1⟩:=de hr0;clear hr0 hr1 hbw;go_wp2_with fail;exact br Tryz.underlying70 w.heap.size (ff HR.out _ _) ⟨rfl,aK HB.out (nRe _) _ _⟩
theorem zdn (t:List UInt8) (l c:Int) (ks:List NM) (a:Option Addr) (m:Nat) (n:Nat) (w:World) (hh:am aR w (.mk 8 t l c ks a m)) (aF:(af (oP n (NM.mk 8 t l c ks a m).tr)).length≤140737488351232) (iF:oD (NM.mk 8 t l c ks a m).tr≤1000000) (hk:ks.length≤1000000) (IH:∀ j (hj:j<ks.length),xK ks[j]) :
  cf 89 #[aB 8 t l c (.slice a ks.length m),.string (bs (List.replicate n 9))] (af (oP n (NM.mk 8 t l c ks a m).tr)) (oD (NM.mk 8 t l c ks a m).tr) w:=by
 have HS:=hid (show af (oP n (NM.mk 8 t l c ks a m).tr)=[123,10]++(af (aX (n+1) (oPs (n+1) (NM.trs ks)))++(List.replicate n 9++[125]))∧oD (NM.mk 8 t l c ks a m).tr=(b9 (oDs (NM.trs ks)))+1 by
  rw [aq,bP,di];exact ⟨by show af (sg 123::nl::(aX (n+1) (oPs (n+1) _)++(fB n++[sg 125])))=_;rw [aA,aA,aQ,aQ,np];rfl,rfl⟩)
 rw [HS.out.1] at aF;rw [HS.out.2] at iF;have aL:n+1≤140737488355000:=by simp only [lAp,List.length_replicate] at aF;omega
 have HI:=hid (fun W (hW:Below w.heap.size w W)=>oo (.slice a ks.length m) ks (n+1) W (hh.kidsAt.below hW) hk (by simp only [lAp,lCo,lNi] at aF;omega) (by omega) IH);rw [List.replicate_succ'] at HI;have hl3:(af (aX (n+1) (oPs (n+1) (NM.trs ks)))).length+n+3≤140737488351232:=by simp only [lAp,lCo,lNi,List.length_replicate] at aF;omega
 generalize af (aX (n+1) (oPs (n+1) (NM.trs ks)))=S at *;generalize b9 (oDs (NM.trs ks))=D at *;obtain ⟨W0,hW0,hb0,hn0,hr0⟩:=an2 w (.cells #[.int .i64 8,.string (bs t),.int .i64 l,.int .i64 c,.slice a ks.length m] 27) (.cells #[.string ⟨#[]⟩,.int .i64 0] 70);have HB:=hid hb0;have HR:=hid hr0;have HN:=hid hn0;have hlt1:w.heap.size+1<W0.heap.size:=(aGe.1 hr0).1;have hlt0:w.heap.size<W0.heap.size:=by omega
 obtain ⟨z0,z1,z2,z3,z4⟩:=r5 HN.out;obtain ⟨r0,r1,fr0,fr1⟩:=de HR.out;clear hb0 hn0 hr0;clear hh IH;unfold cf at *;go_enter Tryz.func89,Tryz.ntmps89
 go_wp2_with fail;rw [← hW0.out];clear hW0;refine (HI.out _ HB.out).mono ?_;rintro e w1 ⟨rfl,hb1⟩;have HB1:=bc HB hb1;have HR1:=hid ((hb1.block _ (aGe.1 HR.out).1).trans HR.out);clear hb1;go_wp2_with fail;refine (kw [123,10] S (List.replicate n 9++[125]) D (by simp only [lAp,lCo,lNi,List.length_replicate];omega) (by omega) _).mono ?_;rintro e w2 ⟨rfl,hb2⟩;have HB2:=bc HB1 hb2;have HR2:=hid ((hb2.block _ (aGe.1 HR1.out).1).trans HR1.out);clear hb2;obtain ⟨r0,r1,fr0,fr1⟩:=de HR2.out;go_wp2_with fail;exact br Tryz.underlying70 (w.heap.size+1) (ff HR2.out _ _) ⟨by rw [HS.out.1,HS.out.2];rfl,aK HB2.out (Nat.le_succ _) _ _⟩
theorem zdt (t:List UInt8) (l c:Int) (kx:Int) (tx:List UInt8) (lx cx:Int) (ksx:List NM) (ax:Option Addr) (mx:Nat) (a:Option Addr) (m:Nat) (n:Nat) (w:World) (hh:am aR w (.mk 2 t l c [(NM.mk kx tx lx cx ksx ax mx)] a m)) (aF:(af (oP n (NM.mk 2 t l c [(NM.mk kx tx lx cx ksx ax mx)] a m).tr)).length≤140737488351232) (iF:oD (NM.mk 2 t l c [(NM.mk kx tx lx cx ksx ax mx)] a m).tr≤1000000) (IHx:gM (NM.mk kx tx lx cx ksx ax mx)) :
  cf 46 #[aB 2 t l c (.slice a 1 m),.string (bs (List.replicate n 9))] (af (oP n (NM.mk 2 t l c [(NM.mk kx tx lx cx ksx ax mx)] a m).tr)) (oD (NM.mk 2 t l c [(NM.mk kx tx lx cx ksx ax mx)] a m).tr) w:=by
 obtain ⟨kb,ko,rfl,bk,hm1,hlm,Fx,ggx⟩:=fp hh;have HS:=hid (show af (oP n (NM.mk 2 t l c [(NM.mk kx tx lx cx ksx ax mx)] (some ⟨kb,ko,none⟩) m).tr)=(t++[32,61,32])++(af (oP n (NM.mk kx tx lx cx ksx ax mx).tr)++([59]++[]))∧oD (NM.mk 2 t l c [(NM.mk kx tx lx cx ksx ax mx)] (some ⟨kb,ko,none⟩) m).tr=max 0 (max (oD (NM.mk kx tx lx cx ksx ax mx).tr) (max 0 0)) by
  rw [aq,ai,ar,bP,di];constructor
  ·rw [aY];show af ((1,t)::sp::sg 61::sp::(oP n (NM.mk kx tx lx cx ksx ax mx).tr++[sg 59]))=_;simp [af,df,sg,sp]
  ·rw [bj,co];show max (oD (NM.mk kx tx lx cx ksx ax mx).tr) 0=_;omega)
 rw [HS.out.1] at aF;rw [HS.out.2] at iF;obtain ⟨W0,hW0,hb0,hn0,hr0⟩:=an2 w (.cells #[.int .i64 2,.string (bs t),.int .i64 l,.int .i64 c,.slice (some ⟨kb,ko,none⟩) 1 m] 27) (.cells #[.string ⟨#[]⟩,.int .i64 0] 70);have HB:=hid hb0;have HR:=hid hr0;have HN:=hid hn0;have hlt1:w.heap.size+1<W0.heap.size:=(aGe.1 hr0).1;have hlt0:w.heap.size<W0.heap.size:=by omega
 have HXx:=hid (fun W (hW:Below W0.heap.size W0 W)=>IHx n W ((ggx.out.below hb0).below hW) (by simp only [lAp,lCo,lNi] at aF;omega) (by omega));have HJ:=hid (dK [(t++[32,61,32],0),(af (oP n (NM.mk kx tx lx cx ksx ax mx).tr),oD (NM.mk kx tx lx cx ksx ax mx).tr),([59],0)] _ rfl 3 rfl aF (by simp));generalize af (oP n (NM.mk kx tx lx cx ksx ax mx).tr)=sx at *;generalize oD (NM.mk kx tx lx cx ksx ax mx).tr=dx at *;have aL:t.length≤140737488355000:=by simp only [lAp] at aF;omega
 obtain ⟨z0,z1,z2,z3,z4⟩:=r5 HN.out;obtain ⟨r0,r1,fr0,fr1⟩:=de HR.out;obtain ⟨yx0,yx1,yx2,yx3,yx4⟩:=aj (Fx.out.keep (HB.out.block kb bk));have hkl:kb<W0.heap.size:=by have:=HB.out.size;omega
 clear hb0 hn0 hr0;clear hh IHx ggx;unfold cf at *;go_enter Tryz.func46,Tryz.ntmps46
 go_wp2_with fail;rw [← hW0.out];clear hW0;refine ba 9 (by kernel_rfl) (by kernel_rfl) ?_;simp only [List.take_succ_cons,List.take_zero,List.drop_succ_cons,List.drop_zero]
 repeat (refine WQ.step (fun K hK=>?_);go_simp;first | (refine hK _ ?_;clear hK K) | (apply Exists.intro;refine ⟨fun W hW=>?_,hK _ ?_⟩;(first | (go_at_call 88;exact zdB hW (HXx.out W hW)) | (first | with_reducible rfl | (obtain ⟨zz0,zz1,zz2,zz3,zz4⟩:=kp5 hW z0 z1 z2 z3 z4;obtain ⟨zz5,zz6,zz7,zz8,zz9⟩:=kp5 hW yx0 yx1 yx2 yx3 yx4;go_simp;first | rfl | exact ⟨rfl,rfl⟩ | (rw [if_neg (by omega)];exact ⟨rfl,rfl⟩))));clear hK K))
 refine WQ.nil ?_;intro wq hwq;go_wp2_with fail;refine (HJ.out _).mono ?_;rintro e w2 ⟨rfl,hb2⟩;have HB2:=hid (zdy HB.out (zdy hwq hb2));have HR2:=hid ((hb2.block _ (by have:=hwq.size;omega)).trans ((hwq.block _ hlt1).trans HR.out));clear hb2;obtain ⟨r0,r1,fr0,fr1⟩:=de HR2.out;go_wp2_with fail;exact br Tryz.underlying70 (w.heap.size+1) (ff HR2.out _ _) ⟨by rw [HS.out.1,HS.out.2];rfl,aK HB2.out (Nat.le_succ _) _ _⟩
theorem zdf (t:List UInt8) (l c:Int) (kx:Int) (tx:List UInt8) (lx cx:Int) (ksx:List NM) (ax:Option Addr) (mx:Nat) (a:Option Addr) (m:Nat) (n:Nat) (w:World) (hh:am aR w (.mk 3 t l c [(NM.mk kx tx lx cx ksx ax mx)] a m)) (aF:(af (oP n (NM.mk 3 t l c [(NM.mk kx tx lx cx ksx ax mx)] a m).tr)).length≤140737488351232) (iF:oD (NM.mk 3 t l c [(NM.mk kx tx lx cx ksx ax mx)] a m).tr≤1000000) (IHx:gM (NM.mk kx tx lx cx ksx ax mx)) :
  cf 46 #[aB 3 t l c (.slice a 1 m),.string (bs (List.replicate n 9))] (af (oP n (NM.mk 3 t l c [(NM.mk kx tx lx cx ksx ax mx)] a m).tr)) (oD (NM.mk 3 t l c [(NM.mk kx tx lx cx ksx ax mx)] a m).tr) w:=by
 obtain ⟨kb,ko,rfl,bk,hm1,hlm,Fx,ggx⟩:=fp hh;have HS:=hid (show af (oP n (NM.mk 3 t l c [(NM.mk kx tx lx cx ksx ax mx)] (some ⟨kb,ko,none⟩) m).tr)=af (oP n (NM.mk kx tx lx cx ksx ax mx).tr)++([59]++[])∧oD (NM.mk 3 t l c [(NM.mk kx tx lx cx ksx ax mx)] (some ⟨kb,ko,none⟩) m).tr=max (oD (NM.mk kx tx lx cx ksx ax mx).tr) (max 0 0) by
  rw [aq,ai,ar,bP,di];constructor
  ·rw [aY];show af (oP n (NM.mk kx tx lx cx ksx ax mx).tr++[sg 59])=_;simp [af,df,sg]
  ·rw [bj,co];show max (oD (NM.mk kx tx lx cx ksx ax mx).tr) 0=_;omega)
 rw [HS.out.1] at aF;rw [HS.out.2] at iF;obtain ⟨W0,hW0,hb0,hn0,hr0⟩:=an2 w (.cells #[.int .i64 3,.string (bs t),.int .i64 l,.int .i64 c,.slice (some ⟨kb,ko,none⟩) 1 m] 27) (.cells #[.string ⟨#[]⟩,.int .i64 0] 70);have HB:=hid hb0;have HR:=hid hr0;have HN:=hid hn0;have hlt1:w.heap.size+1<W0.heap.size:=(aGe.1 hr0).1;have hlt0:w.heap.size<W0.heap.size:=by omega
 have HXx:=hid (IHx n W0 (ggx.out.below hb0) (by simp only [lAp] at aF;omega) (by omega));have HJ:=hid (dK [(af (oP n (NM.mk kx tx lx cx ksx ax mx).tr),oD (NM.mk kx tx lx cx ksx ax mx).tr),([59],0)] _ rfl 2 rfl aF (by simp));generalize af (oP n (NM.mk kx tx lx cx ksx ax mx).tr)=sx at *;generalize oD (NM.mk kx tx lx cx ksx ax mx).tr=dx at *;obtain ⟨yx0,yx1,yx2,yx3,yx4⟩:=aj Fx.out;clear hb0 hn0 hr0;clear hh IHx ggx;unfold cf at *;go_enter Tryz.func46,Tryz.ntmps46
 go_wp2_with fail;rw [← hW0.out];clear hW0;refine (HXx.out).mono ?_;rintro e w1 ⟨rfl,hb1⟩;have HB1:=bc HB hb1;have HR1:=hid ((hb1.block _ (aGe.1 HR.out).1).trans HR.out);clear hb1;go_wp2_with fail;refine (HJ.out _).mono ?_;rintro e w2 ⟨rfl,hb2⟩;have HB2:=bc HB1 hb2;have HR2:=hid ((hb2.block _ (aGe.1 HR1.out).1).trans HR1.out);clear hb2;obtain ⟨r0,r1,fr0,fr1⟩:=de HR2.out;go_wp2_with fail;exact br Tryz.underlying70 (w.heap.size+1) (ff HR2.out _ _) ⟨by rw [HS.out.1,HS.out.2];rfl,aK HB2.out (Nat.le_succ _) _ _⟩
theorem zdw (t:List UInt8) (l c:Int) (kx:Int) (tx:List UInt8) (lx cx:Int) (ksx:List NM) (ax:Option Addr) (mx:Nat) (ky:Int) (ty:List UInt8) (ly cy:Int) (ksy:List NM) (ay:Option Addr) (my:Nat) (a:Option Addr) (m:Nat) (n:Nat) (w:World) (hh:am aR w (.mk 4 t l c [(NM.mk kx tx lx cx ksx ax mx),(NM.mk ky ty ly cy ksy ay my)] a m)) (aF:(af (oP n (NM.mk 4 t l c [(NM.mk kx tx lx cx ksx ax mx),(NM.mk ky ty ly cy ksy ay my)] a m).tr)).length≤140737488351232) (iF:oD (NM.mk 4 t l c [(NM.mk kx tx lx cx ksx ax mx),(NM.mk ky ty ly cy ksy ay my)] a m).tr≤1000000) (IHx:gM (NM.mk kx tx lx cx ksx ax mx)) (IHy:mX (NM.mk ky ty ly cy ksy ay my)) :
  cf 46 #[aB 4 t l c (.slice a 2 m),.string (bs (List.replicate n 9))] (af (oP n (NM.mk 4 t l c [(NM.mk kx tx lx cx ksx ax mx),(NM.mk ky ty ly cy ksy ay my)] a m).tr)) (oD (NM.mk 4 t l c [(NM.mk kx tx lx cx ksx ax mx),(NM.mk ky ty ly cy ksy ay my)] a m).tr) w:=by
 obtain ⟨kb,ko,rfl,bk,hm1,hlm,Fx,ggx,Fy,ggy⟩:=iM hh;have HS:=hid (show af (oP n (NM.mk 4 t l c [(NM.mk kx tx lx cx ksx ax mx),(NM.mk ky ty ly cy ksy ay my)] (some ⟨kb,ko,none⟩) m).tr)=(102::111::114::32::(t++[32,105,110,32]))++(af (oP n (NM.mk kx tx lx cx ksx ax mx).tr)++([32]++(af (oP n (NM.mk ky ty ly cy ksy ay my).tr)++[])))∧oD (NM.mk 4 t l c [(NM.mk kx tx lx cx ksx ax mx),(NM.mk ky ty ly cy ksy ay my)] (some ⟨kb,ko,none⟩) m).tr=max 0 (max (oD (NM.mk kx tx lx cx ksx ax mx).tr) (max 0 (max (oD (NM.mk ky ty ly cy ksy ay my).tr) 0))) by
  rw [aq,ai,ai,ar,bP,di];constructor
  ·rw [aY,aY];show af ((1,i6)::sp::(1,t)::sp::(1,wIn)::sp::(oP n (NM.mk kx tx lx cx ksx ax mx).tr++sp::oP n (NM.mk ky ty ly cy ksy ay my).tr))=_;simp [af,df,sp,i6,wIn]
  ·rw [bj,bj,co];show max (oD (NM.mk kx tx lx cx ksx ax mx).tr) (max (oD (NM.mk ky ty ly cy ksy ay my).tr) 0)=_;omega)
 rw [HS.out.1] at aF;rw [HS.out.2] at iF;obtain ⟨W0,hW0,hb0,hn0,hr0⟩:=an2 w (.cells #[.int .i64 4,.string (bs t),.int .i64 l,.int .i64 c,.slice (some ⟨kb,ko,none⟩) 2 m] 27) (.cells #[.string ⟨#[]⟩,.int .i64 0] 70);have HB:=hid hb0;have HR:=hid hr0;have HN:=hid hn0;have hlt1:w.heap.size+1<W0.heap.size:=(aGe.1 hr0).1;have hlt0:w.heap.size<W0.heap.size:=by omega
 have HXx:=hid (fun W (hW:Below W0.heap.size W0 W)=>IHx n W ((ggx.out.below hb0).below hW) (by simp only [lAp,lCo,lNi] at aF;omega) (by omega));have HXy:=hid (fun W (hW:Below W0.heap.size W0 W)=>IHy n W ((ggy.out.below hb0).below hW) (by simp only [lAp,lCo,lNi] at aF;omega) (by omega));have HJ:=hid (dK [(102::111::114::32::(t++[32,105,110,32]),0),(af (oP n (NM.mk kx tx lx cx ksx ax mx).tr),oD (NM.mk kx tx lx cx ksx ax mx).tr),([32],0),(af (oP n (NM.mk ky ty ly cy ksy ay my).tr),oD (NM.mk ky ty ly cy ksy ay my).tr)] _ rfl 4 rfl aF (by simp));generalize af (oP n (NM.mk kx tx lx cx ksx ax mx).tr)=sx at *;generalize oD (NM.mk kx tx lx cx ksx ax mx).tr=dx at *;generalize af (oP n (NM.mk ky ty ly cy ksy ay my).tr)=sy at *;generalize oD (NM.mk ky ty ly cy ksy ay my).tr=dy at *;have aL:t.length+8≤140737488355000:=by simp only [lAp,lCo] at aF;omega
 obtain ⟨z0,z1,z2,z3,z4⟩:=r5 HN.out;obtain ⟨r0,r1,fr0,fr1⟩:=de HR.out;obtain ⟨yx0,yx1,yx2,yx3,yx4⟩:=aj (Fx.out.keep (HB.out.block kb bk));obtain ⟨yy0,yy1,yy2,yy3,yy4⟩:=aj (Fy.out.keep (HB.out.block kb bk));have hkl:kb<W0.heap.size:=by have:=HB.out.size;omega
 clear hb0 hn0 hr0;clear hh IHx ggx IHy ggy;unfold cf at *;go_enter Tryz.func46,Tryz.ntmps46
 go_wp2_with fail;rw [← hW0.out];clear hW0;refine ba 15 (by kernel_rfl) (by kernel_rfl) ?_;simp only [List.take_succ_cons,List.take_zero,List.drop_succ_cons,List.drop_zero]
 repeat (refine WQ.step (fun K hK=>?_);go_simp;first | (refine hK _ ?_;clear hK K) | (apply Exists.intro;refine ⟨fun W hW=>?_,hK _ ?_⟩;(first | (go_at_call 88;exact zdB hW (HXx.out W hW)) | (go_at_call 89;exact zdB hW (HXy.out W hW)) | (first | with_reducible rfl | (obtain ⟨zz0,zz1,zz2,zz3,zz4⟩:=kp5 hW z0 z1 z2 z3 z4;obtain ⟨zz5,zz6,zz7,zz8,zz9⟩:=kp5 hW yx0 yx1 yx2 yx3 yx4;obtain ⟨zz10,zz11,zz12,zz13,zz14⟩:=kp5 hW yy0 yy1 yy2 yy3 yy4;go_simp;first | rfl | exact ⟨rfl,rfl⟩ | (rw [if_neg (by omega)];exact ⟨rfl,rfl⟩))));clear hK K))
 refine WQ.nil ?_;intro wq hwq;go_wp2_with fail;refine (HJ.out _).mono ?_;rintro e w2 ⟨rfl,hb2⟩;have HB2:=hid (zdy HB.out (zdy hwq hb2));have HR2:=hid ((hb2.block _ (by have:=hwq.size;omega)).trans ((hwq.block _ hlt1).trans HR.out));clear hb2;obtain ⟨r0,r1,fr0,fr1⟩:=de HR2.out;go_wp2_with fail;exact br Tryz.underlying70 (w.heap.size+1) (ff HR2.out _ _) ⟨by rw [HS.out.1,HS.out.2];rfl,aK HB2.out (Nat.le_succ _) _ _⟩
theorem zdp (t:List UInt8) (l c:Int) (ks:List NM) (a:Option Addr) (m:Nat) (n N:Nat) (kz:Int) (tz:List UInt8) (lz cz:Int) (ksz:List NM) (az:Option Addr) (mz:Nat) (w:World) (hh:am aR w (.mk 6 t l c ks a m)) (hks:ks.length=N+1) (hkl:ks.length≤1000000) (hz:ks[N]=(NM.mk kz tz lz cz ksz az mz)) (aF:(af (oP n (NM.mk 6 t l c ks a m).tr)).length≤140737488351232) (iF:oD (NM.mk 6 t l c ks a m).tr≤1000000)
  (IH:∀ j (hj:j<N),gM ks[j]) (IHz:mX (NM.mk kz tz lz cz ksz az mz)) :
  cf 46 #[aB 6 t l c (.slice a (N+1) m),.string (bs (List.replicate n 9))] (af (oP n (NM.mk 6 t l c ks a m).tr)) (oD (NM.mk 6 t l c ks a m).tr) w:=by
 have hsp:NM.trs ks=NM.trs (ks.take N)++[(NM.mk kz tz lz cz ksz az mz).tr]:=by
  have h1:ks.take (N+1)=ks:=List.take_of_length_le (by omega);rw [List.take_succ_eq_append_getElem (by omega),hz] at h1;rw [bR,bR];exact (congrArg (List.map NM.tr) h1.symm).trans (by rw [List.map_append];rfl)
 have HS:=hid (show af (oP n (NM.mk 6 t l c ks a m).tr)=(114::117::108::101::32::(t++[40]))++((af (aE (oPs n (NM.trs (ks.take N)))))++([41,32]++(af (oP n (NM.mk kz tz lz cz ksz az mz).tr)++[])))∧oD (NM.mk 6 t l c ks a m).tr=max 0 (max (b9 (oDs (NM.trs (ks.take N)))) (max 0 (max (oD (NM.mk kz tz lz cz ksz az mz).tr) 0))) by
  rw [aq,bP,di,hsp];constructor
  ·rw [show (if (6:Int)=8 then n+1 else n)=n from rfl,c8,List.map_append,← c8];show af ((1,fO)::sp::(1,t)::sg 40::(aE (List.dropLast (oPs n (NM.trs (ks.take N))++[oP n (NM.mk kz tz lz cz ksz az mz).tr]))++sg 41::sp::List.getLastD (oPs n (NM.trs (ks.take N))++[oP n (NM.mk kz tz lz cz ksz az mz).tr]) []))=_;rw [List.dropLast_concat,List.getLastD_concat];simp [af,df,sp,sg,fO]
  ·show b9 (oDs (NM.trs (ks.take N)++[(NM.mk kz tz lz cz ksz az mz).tr]))=_;rw [gX,List.map_append,← gX,nA];show max _ (max (oD (NM.mk kz tz lz cz ksz az mz).tr) 0)=_;omega)
 rw [HS.out.1] at aF;rw [HS.out.2] at iF;obtain ⟨la,lc,hv,iI,hlm,hx⟩:=hh.kidsAt.nodes;obtain ⟨kb,ko,ve,bk,cw⟩:=hx 0 (by omega);obtain ⟨rfl,rfl⟩:a=la∧m=lc:=by simpa using hv
 subst ve;have hlcn:N+1≤m:=by omega
 unfold maxLen at hlm;have Fz:=hid (show dn w kb (ko+N * 5) (NM.mk kz tz lz cz ksz az mz) from by have:=cw N (by omega);rwa [hz] at this);have ggz:=hid (show am aR w (NM.mk kz tz lz cz ksz az mz) from by have:=hh.kidsAt.get N (by omega);rwa [hz] at this);have HKT:=hid (show cn w (.slice (some ⟨kb,ko,none⟩) N m) (ks.take N) from (hh.kidsAt).take N (by omega));obtain ⟨W0,hW0,hb0,hn0,hr0⟩:=an2 w (.cells #[.int .i64 6,.string (bs t),.int .i64 l,.int .i64 c,.slice (some ⟨kb,ko,none⟩) (N+1) m] 27) (.cells #[.string ⟨#[]⟩,.int .i64 0] 70);have HB:=hid hb0;have HR:=hid hr0;have HN:=hid hn0;have hlt1:w.heap.size+1<W0.heap.size:=(aGe.1 hr0).1;have hlt0:w.heap.size<W0.heap.size:=by omega
 have HI:=hid (fun W (hW:Below w.heap.size w W)=>k7 (.slice (some ⟨kb,ko,none⟩) N m) (ks.take N) n W (HKT.out.below hW) (by rw [List.length_take];omega) (by simp only [lAp,lCo,lNi] at aF;omega) (by omega) (fun j hj=>by
  have hj1:j<N:=by rw [List.length_take] at hj;omega
  rw [List.getElem_take];exact IH j hj1))
 have HXz:=hid (fun W (hW:Below W0.heap.size W0 W)=>IHz n W ((ggz.out.below hb0).below hW) (by simp only [lAp,lCo,lNi] at aF;omega) (by omega));have HJ:=hid (dK [(114::117::108::101::32::(t++[40]),0),((af (aE (oPs n (NM.trs (ks.take N))))),(b9 (oDs (NM.trs (ks.take N))))),([41,32],0),(af (oP n (NM.mk kz tz lz cz ksz az mz).tr),oD (NM.mk kz tz lz cz ksz az mz).tr)] _ rfl 4 rfl aF (by simp));generalize (af (aE (oPs n (NM.trs (ks.take N)))))=S at *;generalize (b9 (oDs (NM.trs (ks.take N))))=D at *;generalize af (oP n (NM.mk kz tz lz cz ksz az mz).tr)=sz at *;generalize oD (NM.mk kz tz lz cz ksz az mz).tr=dz at *;have aL:t.length+6≤140737488355000:=by simp only [lAp,lCo] at aF;omega
 have hq1:(N:Int)+1 - 1=(N:Int):=by omega
 have hq2:IntKind.i64.wrap (N:Int)=(N:Int):=IntWalk.i64_in _ (by omega);have hq3:(N:Int)<(N:Int)+1:=by omega
 have hq4:(N:Int)≤(m:Int):=by omega
 obtain ⟨z0,z1,z2,z3,z4⟩:=r5 HN.out;obtain ⟨r0,r1,fr0,fr1⟩:=de HR.out;obtain ⟨yz0,yz1,yz2,yz3,yz4⟩:=aj (Fz.out.keep (HB.out.block kb bk));have hkl:kb<W0.heap.size:=by have:=HB.out.size;omega
 clear hb0 hn0 hr0 hh IH IHz hz hx cw hv iI hsp HKT ggz hks;unfold cf at *;go_enter Tryz.func46,Tryz.ntmps46
 go_wp2_with fail;rw [← hW0.out];clear hW0;refine ba 16 (by kernel_rfl) (by kernel_rfl) ?_;simp only [List.take_succ_cons,List.take_zero,List.drop_succ_cons,List.drop_zero]
 repeat (refine WQ.step (fun K hK=>?_);go_simp;first | (refine hK _ ?_;clear hK K) | (apply Exists.intro;refine ⟨fun W hW=>?_,hK _ ?_⟩;(first | (go_at_call 90;exact zdB hW (HI.out W (zdy HB.out hW))) | (go_at_call 89;exact zdB hW (HXz.out W hW)) | (first | with_reducible rfl | (obtain ⟨zz0,zz1,zz2,zz3,zz4⟩:=kp5 hW z0 z1 z2 z3 z4;obtain ⟨zz5,zz6,zz7,zz8,zz9⟩:=kp5 hW yz0 yz1 yz2 yz3 yz4;go_simp;first | rfl | exact ⟨rfl,rfl⟩ | (rw [if_neg (by omega)];exact ⟨rfl,rfl⟩))));clear hK K))
 refine WQ.nil ?_;intro wq hwq;go_wp2_with fail;refine (HJ.out _).mono ?_;rintro e w2 ⟨rfl,hb2⟩;have HB2:=hid (zdy HB.out (zdy hwq hb2));have HR2:=hid ((hb2.block _ (by have:=hwq.size;omega)).trans ((hwq.block _ hlt1).trans HR.out));clear hb2;obtain ⟨r0,r1,fr0,fr1⟩:=de HR2.out;go_wp2_with fail;exact br Tryz.underlying70 (w.heap.size+1) (ff HR2.out _ _) ⟨by rw [HS.out.1,HS.out.2];rfl,aK HB2.out (Nat.le_succ _) _ _⟩
theorem sY {P:Program} {c:Code} {a:Act} {w:World} {Q:Exit→Act→World→Prop} {F:Nat→Nat→Act} (R:Nat→World→Prop) (h1:c.wp P (fun e a' w'=>e=.normal∧∃ ob sb,a'=F ob sb∧R ob w') a w)
  (h2:∀ ob sb w',R ob w'→Q .normal (F ob sb) w'):c.wp P Q a w :=
 Code.wp_mono (fun e a w h=>by obtain ⟨he,ob,sb,ha,hr⟩:=h;subst he ha;exact h2 ob sb _ hr) h1
theorem rQ (w W0:World) (o:Obj) (h:Below W0.heap.size W0 w):∃ W ob,Hid (W=w.alloc o)∧Hid (ob=w.heap.size)∧Below w.heap.size w W∧Hid (W.heap[ob]? = some o)∧W0.heap.size≤ob:=⟨_,_,hid rfl,hid rfl,ag _ _,hid (hAn _ _),h.size⟩
theorem u5 (w:World) (xs:Array Value) (e:TypeId) (n size:Nat) (l:List mr) (hl:xs.size=n * size) (hn:n≤maxLen) (hx:xs.toList=fC l):∃ W sb,Hid (W=w.alloc (.cells xs e))∧Hid (sb=w.heap.size)∧Below w.heap.size w W∧Hid (a9 W size (.slice (some ⟨sb,0,none⟩) n n) n (fC l)):=⟨_,_,hid rfl,hid rfl,ag _ _,hid (by have:=m6 w xs e (0,0) n size hl hn;rwa [hx] at this)⟩
theorem zzk {w w':World} {b:Nat} {o:Obj} (k:Hid (w.heap[b]? = some o)) (h:Below w.heap.size w w'):Hid (w'.heap[b]? = some o):=hid ((h.block _ (aGe.1 k.out).1).trans k.out)
theorem zcD (l c:Int) (kx:Int) (tx:List UInt8) (lx cx:Int) (ksx:List NM) (ax:Option Addr) (mx:Nat) (ky:Int) (ty:List UInt8) (ly cy:Int) (ksy:List NM) (ay:Option Addr) (my:Nat) (kz:Int) (tz:List UInt8) (lz cz:Int) (ksz:List NM) (az:Option Addr) (mz:Nat) (kb ko m n N:Nat) (w:World) (sx sy sz:List UInt8) (dx dy dz:Nat) (bk:kb<w.heap.size) (hm1:N≤m) (hlm:m≤2 ^ 63 - 1) (hN:N=2∨N=3) (Fx:Hid (dn w kb ko (NM.mk kx tx lx cx ksx ax mx))) (Fy:Hid (dn w kb (ko+5) (NM.mk ky ty ly cy ksy ay my))) (Fz:Hid (N=3→dn w kb (ko+10) (NM.mk kz tz lz cz ksz az mz)))
  (HXx:Hid (∀ W,Below w.heap.size w W→cf 88 #[aB kx tx lx cx (.slice ax ksx.length mx)] sx dx W)) (HXy:Hid (∀ W,Below w.heap.size w W→cf 89 #[aB ky ty ly cy (.slice ay ksy.length my),.string (bs (List.replicate n 9))] sy dy W)) (HXz:Hid (N=3→∀ W,Below w.heap.size w W→cf 89 #[aB kz tz lz cz (.slice az ksz.length mz),.string (bs (List.replicate n 9))] sz dz W)) (hl4:(fd [([105,102,32],0),(sx,dx),([32],0),(sy,dy)]).length≤140737488351232) (hl3:N=3→(fd [(fd [([105,102,32],0),(sx,dx),([32],0),(sy,dy)],ik [([105,102,32],0),(sx,dx),([32],0),(sy,dy)]),([32,101,108,115,101,32],0),(sz,dz)]).length≤140737488351232) (S:List UInt8) (D:Nat) (hS2:Hid (N=2→S=fd [([105,102,32],0),(sx,dx),([32],0),(sy,dy)]∧D=ik [([105,102,32],0),(sx,dx),([32],0),(sy,dy)])) (hS3:Hid (N=3→S=fd [(fd [([105,102,32],0),(sx,dx),([32],0),(sy,dy)],ik [([105,102,32],0),(sx,dx),([32],0),(sy,dy)]),([32,101,108,115,101,32],0),(sz,dz)]∧D=ik [(fd [([105,102,32],0),(sx,dx),([32],0),(sy,dy)],ik [([105,102,32],0),(sx,dx),([32],0),(sy,dy)]),([32,101,108,115,101,32],0),(sz,dz)])) :
  cf 46 #[aB 5 [] l c (.slice (some ⟨kb,ko,none⟩) N m),.string (bs (List.replicate n 9))] S D w:=by
 have HJ:=hid (fun W v (hv:a9 W 2 v 4 (fC [([105,102,32],0),(sx,dx),([32],0),(sy,dy)]))=>qa v [([105,102,32],0),(sx,dx),([32],0),(sy,dy)] W hv hl4);have HJ3:=hid (fun (h3:N=3)=>dK [(fd [([105,102,32],0),(sx,dx),([32],0),(sy,dy)],ik [([105,102,32],0),(sx,dx),([32],0),(sy,dy)]),([32,101,108,115,101,32],0),(sz,dz)] _ rfl 3 rfl (hl3 h3) (by simp));clear hl4 hl3;generalize fd [([105,102,32],0),(sx,dx),([32],0),(sy,dy)]=S5 at *;generalize ik [([105,102,32],0),(sx,dx),([32],0),(sy,dy)]=D5 at *;have h0N:(0:Int)<(N:Int):=by omega
 have h1N:(1:Int)<(N:Int):=by omega
 obtain ⟨W0,hW0,hb0,hn0,hr0⟩:=an2 w (.cells #[.int .i64 5,.string (bs []),.int .i64 l,.int .i64 c,.slice (some ⟨kb,ko,none⟩) N m] 27) (.cells #[.string ⟨#[]⟩,.int .i64 0] 70);have HB:=hid hb0;have HR:=hid hr0;have HN:=hid hn0;have hlt1:w.heap.size+1<W0.heap.size:=(aGe.1 hr0).1;have hlt0:w.heap.size<W0.heap.size:=by omega
 obtain ⟨z0,z1,z2,z3,z4⟩:=r5 HN.out;obtain ⟨r0,r1,fr0,fr1⟩:=de HR.out;obtain ⟨yx0,yx1,yx2,yx3,yx4⟩:=aj (Fx.out.keep (HB.out.block kb bk));obtain ⟨yy0,yy1,yy2,yy3,yy4⟩:=aj (Fy.out.keep (HB.out.block kb bk));have hkl:kb<W0.heap.size:=by have:=HB.out.size;omega
 clear hb0 hn0 hr0;unfold cf at *;go_enter Tryz.func46,Tryz.ntmps46
 go_wp2_with fail;rw [← hW0.out];clear hW0;apply sY (R:=fun ob W=>Hid (Below W0.heap.size W0 W)∧Hid (W.heap[ob]? = some (.cells #[.string (bs S5),.int .i64 (D5:Nat)] 70 (0,0)))∧Hid (W.heap[w.heap.size+1]? = some (.cells #[.string ⟨#[]⟩,.int .i64 0] 70 (0,0)))∧W0.heap.size≤ob)
 ·refine aH (S:=fun W=>Below W0.heap.size W0 W) (by kernel_rfl) ?_;obtain ⟨V0,hV0,hS⟩:=dr1 W0;rw [← hV0.out];clear hV0;have HRV:=hid ((hS.block _ hlt1).trans HR.out);refine WH.take 0 (some 58) rfl rfl (by kernel_rfl) (by kernel_rfl) (by kernel_rfl) (fun _ _ _ _ h=>nomatch h.1) hS ⟨.agg #[.string ⟨#[105,102,32]⟩,.int .i64 0],⟨by kernel_rfl,fun W hW=>by first | rfl | (go_simp;done)⟩,?_⟩
  try simp only [aPu,sA,sB,sC]
  refine WH.take 1 (some 59) rfl rfl (by kernel_rfl) (by kernel_rfl) (by kernel_rfl) (fun _ _ _ _ h=>nomatch h.1) hS ⟨.slice (some ⟨kb,ko,none⟩) N m,⟨by kernel_rfl,fun W hW=>by first | rfl | (go_simp;done)⟩,?_⟩
  try simp only [aPu,sA,sB,sC]
  refine WH.take 2 (some 60) rfl rfl (by kernel_rfl) (by kernel_rfl) (by kernel_rfl) (fun _ _ _ _ h=>nomatch h.1) hS ⟨.pointer (some ⟨kb,ko,none⟩),⟨by kernel_rfl,fun W hW=>by go_simp;intro;omega⟩,?_⟩
  try simp only [aPu,sA,sB,sC]
  refine WH.take 3 (some 61) rfl rfl (by kernel_rfl) (by kernel_rfl) (by kernel_rfl) (fun _ _ _ _ h=>nomatch h.1) hS ⟨.agg #[.int .i64 kx,.string (bs tx),.int .i64 lx,.int .i64 cx,.slice ax ksx.length mx],⟨by kernel_rfl,fun W hW=>by obtain ⟨q0,q1,q2,q3,q4⟩:=kp5 hW yx0 yx1 yx2 yx3 yx4;go_simp⟩,?_⟩
  try simp only [aPu,sA,sB,sC]
  refine WH.take 5 (some 63) rfl rfl (by kernel_rfl) (by kernel_rfl) (by kernel_rfl) (fun _ _ _ _ h=>nomatch h.1) hS ⟨.agg #[.string ⟨#[32]⟩,.int .i64 0],⟨by kernel_rfl,fun W hW=>by first | rfl | (go_simp;done)⟩,?_⟩
  try simp only [aPu,sA,sB,sC]
  refine WH.take 6 (some 64) rfl rfl (by kernel_rfl) (by kernel_rfl) (by kernel_rfl) (fun _ _ _ _ h=>nomatch h.1) hS ⟨.slice (some ⟨kb,ko,none⟩) N m,⟨by kernel_rfl,fun W hW=>by first | rfl | (go_simp;done)⟩,?_⟩
  try simp only [aPu,sA,sB,sC]
  refine WH.take 7 (some 65) rfl rfl (by kernel_rfl) (by kernel_rfl) (by kernel_rfl) (fun _ _ _ _ h=>nomatch h.1) hS ⟨.pointer (some ⟨kb,ko+5,none⟩),⟨by kernel_rfl,fun W hW=>by go_simp⟩,?_⟩
  try simp only [aPu,sA,sB,sC]
  refine WH.take 8 (some 66) rfl rfl (by kernel_rfl) (by kernel_rfl) (by kernel_rfl) (fun _ _ _ _ h=>nomatch h.1) hS ⟨.agg #[.int .i64 ky,.string (bs ty),.int .i64 ly,.int .i64 cy,.slice ay ksy.length my],⟨by kernel_rfl,fun W hW=>by obtain ⟨q0,q1,q2,q3,q4⟩:=kp5 hW yy0 yy1 yy2 yy3 yy4;go_simp⟩,?_⟩
  try simp only [aPu,sA,sB,sC]
  refine WH.take 9 (some 67) rfl rfl (by kernel_rfl) (by kernel_rfl) (by kernel_rfl) (fun _ _ _ _ h=>nomatch h.1) hS ⟨.string (bs (List.replicate n 9)),⟨by kernel_rfl,fun W hW=>by first | rfl | (go_simp;done)⟩,?_⟩
  try simp only [aPu,sA,sB,sC]
  refine WH.tw 4 13 ?_ ?_
  ·intro K hK;go_simp;refine (HXx.out _ (zdy HB.out hS)).mono ?_;rintro e v1 ⟨rfl,bv1⟩;have hSv1:=zdy hS bv1;have HRv1:=zzk HRV bv1;go_wp2_with fail;refine hK.out _ _ hSv1 ?_;clear hK K
   try simp only [aPu,sA,sB,sC]
   refine WH.tw 10 13 ?_ ?_
   ·intro K hK;go_simp;refine (HXy.out _ (zdy HB.out hSv1)).mono ?_;rintro e v3 ⟨rfl,bv3⟩;have hSv3:=zdy hSv1 bv3;have HRv3:=zzk HRv1 bv3;go_wp2_with fail;refine hK.out _ _ hSv3 ?_;clear hK K
    try simp only [aPu,sA,sB,sC]
    refine WH.tw 11 13 ?_ ?_
    ·intro K hK;go_simp;obtain ⟨v5,sbv5,hw,hp,bv5,HLv5⟩:=u5 v3 #[.string ⟨#[105,102,32]⟩,.int .i64 0,.string (bs sx),.int .i64 (dx:Int),.string ⟨#[32]⟩,.int .i64 0,.string (bs sy),.int .i64 (dy:Int)] 70 4 2 [([105,102,32],0),(sx,dx),([32],0),(sy,dy)] rfl (by unfold maxLen;omega) rfl;rw [← hw.out,← hp.out];clear hw hp;have hSv5:=zdy hSv3 bv5;have HRv5:=zzk HRv3 bv5;refine hK.out _ _ hSv5 ?_;clear hK K
     try simp only [aPu,sA,sB,sC]
     refine WH.tw 12 13 ?_ ?_
     ·intro K hK;go_simp;refine (HJ.out _ _ HLv5.out).mono ?_;rintro e v7 ⟨rfl,bv7⟩;have hSv7:=zdy hSv5 bv7;have HRv7:=zzk HRv5 bv7;have HLv7:=hid (HLv5.out.below bv7 (nRe _));go_wp2_with fail;refine hK.out _ _ hSv7 ?_;clear hK K
      try simp only [aPu,sA,sB,sC]
      refine zdC 13 ?_;intro K hK;go_simp;obtain ⟨v9,obv9,hw,hp,bv9,HOv9,hge⟩:=rQ v7 W0 (.cells #[.string ⟨#[]⟩,.int .i64 0] 70) hSv7;rw [← hw.out,← hp.out];clear hw hp;have hSv9:=zdy hSv7 bv9;have HRv9:=zzk HRv7 bv9;refine hK.out _ _ hSv9 ?_;clear hK K
      try simp only [aPu,sA,sB,sC]
      obtain ⟨o0,o1,fo0,fo1⟩:=de HOv9.out;refine zdC 14 ?_;intro K hK;go_simp;refine hK.out _ _ (aK hSv9 hge _ _) ?_;clear hK K
      try simp only [aPu,sA,sB,sC]
      refine zdH ?_;exact ⟨rfl,obv9,sbv5,rfl,hid (aK hSv9 hge _ _),hid (ff HOv9.out _ _),hid ((cZ _ _ _ _ _ (by omega)).trans HRv9.out),hge⟩
     ·intro K hK;go_simp;obtain ⟨v8,obv8,hw,hp,bv8,HOv8,hge⟩:=rQ v5 W0 (.cells #[.string ⟨#[]⟩,.int .i64 0] 70) hSv5;rw [← hw.out,← hp.out];clear hw hp;have hSv8:=zdy hSv5 bv8;have HRv8:=zzk HRv5 bv8;have HLv8:=hid (HLv5.out.below bv8 (nRe _));refine hK.out _ _ hSv8 ?_;clear hK K
      try simp only [aPu,sA,sB,sC]
      refine zdC 12 ?_;intro K hK;go_simp;refine (HJ.out _ _ HLv8.out).mono ?_;rintro e v10 ⟨rfl,bv10⟩;have hSv10:=zdy hSv8 bv10;have HRv10:=zzk HRv8 bv10;have HOv10:=zzk HOv8 bv10;have HLv10:=hid (HLv8.out.below bv10 (nRe _));go_wp2_with fail;refine hK.out _ _ hSv10 ?_;clear hK K
      try simp only [aPu,sA,sB,sC]
      obtain ⟨o0,o1,fo0,fo1⟩:=de HOv10.out;refine zdC 14 ?_;intro K hK;go_simp;refine hK.out _ _ (aK hSv10 hge _ _) ?_;clear hK K
      try simp only [aPu,sA,sB,sC]
      refine zdH ?_;exact ⟨rfl,obv8,sbv5,rfl,hid (aK hSv10 hge _ _),hid (ff HOv10.out _ _),hid ((cZ _ _ _ _ _ (by omega)).trans HRv10.out),hge⟩
    ·intro K hK;go_simp;obtain ⟨v6,obv6,hw,hp,bv6,HOv6,hge⟩:=rQ v3 W0 (.cells #[.string ⟨#[]⟩,.int .i64 0] 70) hSv3;rw [← hw.out,← hp.out];clear hw hp;have hSv6:=zdy hSv3 bv6;have HRv6:=zzk HRv3 bv6;refine hK.out _ _ hSv6 ?_;clear hK K
     try simp only [aPu,sA,sB,sC]
     refine zdC 11 ?_;intro K hK;go_simp;obtain ⟨v11,sbv11,hw,hp,bv11,HLv11⟩:=u5 v6 #[.string ⟨#[105,102,32]⟩,.int .i64 0,.string (bs sx),.int .i64 (dx:Int),.string ⟨#[32]⟩,.int .i64 0,.string (bs sy),.int .i64 (dy:Int)] 70 4 2 [([105,102,32],0),(sx,dx),([32],0),(sy,dy)] rfl (by unfold maxLen;omega) rfl;rw [← hw.out,← hp.out];clear hw hp;have hSv11:=zdy hSv6 bv11;have HRv11:=zzk HRv6 bv11;have HOv11:=zzk HOv6 bv11;refine hK.out _ _ hSv11 ?_;clear hK K
     try simp only [aPu,sA,sB,sC]
     refine zdC 12 ?_;intro K hK;go_simp;refine (HJ.out _ _ HLv11.out).mono ?_;rintro e v12 ⟨rfl,bv12⟩;have hSv12:=zdy hSv11 bv12;have HRv12:=zzk HRv11 bv12;have HOv12:=zzk HOv11 bv12;have HLv12:=hid (HLv11.out.below bv12 (nRe _));go_wp2_with fail;refine hK.out _ _ hSv12 ?_;clear hK K
     try simp only [aPu,sA,sB,sC]
     obtain ⟨o0,o1,fo0,fo1⟩:=de HOv12.out;refine zdC 14 ?_;intro K hK;go_simp;refine hK.out _ _ (aK hSv12 hge _ _) ?_;clear hK K
     try simp only [aPu,sA,sB,sC]
     refine zdH ?_;exact ⟨rfl,obv6,sbv11,rfl,hid (aK hSv12 hge _ _),hid (ff HOv12.out _ _),hid ((cZ _ _ _ _ _ (by omega)).trans HRv12.out),hge⟩
   ·intro K hK;go_simp;obtain ⟨v4,obv4,hw,hp,bv4,HOv4,hge⟩:=rQ v1 W0 (.cells #[.string ⟨#[]⟩,.int .i64 0] 70) hSv1;rw [← hw.out,← hp.out];clear hw hp;have hSv4:=zdy hSv1 bv4;have HRv4:=zzk HRv1 bv4;refine hK.out _ _ hSv4 ?_;clear hK K
    try simp only [aPu,sA,sB,sC]
    refine zdC 10 ?_;intro K hK;go_simp;refine (HXy.out _ (zdy HB.out hSv4)).mono ?_;rintro e v13 ⟨rfl,bv13⟩;have hSv13:=zdy hSv4 bv13;have HRv13:=zzk HRv4 bv13;have HOv13:=zzk HOv4 bv13;go_wp2_with fail;refine hK.out _ _ hSv13 ?_;clear hK K
    try simp only [aPu,sA,sB,sC]
    refine zdC 11 ?_;intro K hK;go_simp;obtain ⟨v14,sbv14,hw,hp,bv14,HLv14⟩:=u5 v13 #[.string ⟨#[105,102,32]⟩,.int .i64 0,.string (bs sx),.int .i64 (dx:Int),.string ⟨#[32]⟩,.int .i64 0,.string (bs sy),.int .i64 (dy:Int)] 70 4 2 [([105,102,32],0),(sx,dx),([32],0),(sy,dy)] rfl (by unfold maxLen;omega) rfl;rw [← hw.out,← hp.out];clear hw hp;have hSv14:=zdy hSv13 bv14;have HRv14:=zzk HRv13 bv14;have HOv14:=zzk HOv13 bv14;refine hK.out _ _ hSv14 ?_;clear hK K
    try simp only [aPu,sA,sB,sC]
    refine zdC 12 ?_;intro K hK;go_simp;refine (HJ.out _ _ HLv14.out).mono ?_;rintro e v15 ⟨rfl,bv15⟩;have hSv15:=zdy hSv14 bv15;have HRv15:=zzk HRv14 bv15;have HOv15:=zzk HOv14 bv15;have HLv15:=hid (HLv14.out.below bv15 (nRe _));go_wp2_with fail;refine hK.out _ _ hSv15 ?_;clear hK K
    try simp only [aPu,sA,sB,sC]
    obtain ⟨o0,o1,fo0,fo1⟩:=de HOv15.out;refine zdC 14 ?_;intro K hK;go_simp;refine hK.out _ _ (aK hSv15 hge _ _) ?_;clear hK K
    try simp only [aPu,sA,sB,sC]
    refine zdH ?_;exact ⟨rfl,obv4,sbv14,rfl,hid (aK hSv15 hge _ _),hid (ff HOv15.out _ _),hid ((cZ _ _ _ _ _ (by omega)).trans HRv15.out),hge⟩
  ·intro K hK;go_simp;obtain ⟨v2,obv2,hw,hp,bv2,HOv2,hge⟩:=rQ V0 W0 (.cells #[.string ⟨#[]⟩,.int .i64 0] 70) hS;rw [← hw.out,← hp.out];clear hw hp;have hSv2:=zdy hS bv2;have HRv2:=zzk HRV bv2;refine hK.out _ _ hSv2 ?_;clear hK K
   try simp only [aPu,sA,sB,sC]
   refine zdC 4 ?_;intro K hK;go_simp;refine (HXx.out _ (zdy HB.out hSv2)).mono ?_;rintro e v16 ⟨rfl,bv16⟩;have hSv16:=zdy hSv2 bv16;have HRv16:=zzk HRv2 bv16;have HOv16:=zzk HOv2 bv16;go_wp2_with fail;refine hK.out _ _ hSv16 ?_;clear hK K
   try simp only [aPu,sA,sB,sC]
   refine zdC 10 ?_;intro K hK;go_simp;refine (HXy.out _ (zdy HB.out hSv16)).mono ?_;rintro e v17 ⟨rfl,bv17⟩;have hSv17:=zdy hSv16 bv17;have HRv17:=zzk HRv16 bv17;have HOv17:=zzk HOv16 bv17;go_wp2_with fail;refine hK.out _ _ hSv17 ?_;clear hK K
   try simp only [aPu,sA,sB,sC]
   refine zdC 11 ?_;intro K hK;go_simp;obtain ⟨v18,sbv18,hw,hp,bv18,HLv18⟩:=u5 v17 #[.string ⟨#[105,102,32]⟩,.int .i64 0,.string (bs sx),.int .i64 (dx:Int),.string ⟨#[32]⟩,.int .i64 0,.string (bs sy),.int .i64 (dy:Int)] 70 4 2 [([105,102,32],0),(sx,dx),([32],0),(sy,dy)] rfl (by unfold maxLen;omega) rfl;rw [← hw.out,← hp.out];clear hw hp;have hSv18:=zdy hSv17 bv18;have HRv18:=zzk HRv17 bv18;have HOv18:=zzk HOv17 bv18;refine hK.out _ _ hSv18 ?_;clear hK K
   try simp only [aPu,sA,sB,sC]
   refine zdC 12 ?_;intro K hK;go_simp;refine (HJ.out _ _ HLv18.out).mono ?_;rintro e v19 ⟨rfl,bv19⟩;have hSv19:=zdy hSv18 bv19;have HRv19:=zzk HRv18 bv19;have HOv19:=zzk HOv18 bv19;have HLv19:=hid (HLv18.out.below bv19 (nRe _));go_wp2_with fail;refine hK.out _ _ hSv19 ?_;clear hK K
   try simp only [aPu,sA,sB,sC]
   obtain ⟨o0,o1,fo0,fo1⟩:=de HOv19.out;refine zdC 14 ?_;intro K hK;go_simp;refine hK.out _ _ (aK hSv19 hge _ _) ?_;clear hK K
   try simp only [aPu,sA,sB,sC]
   refine zdH ?_;exact ⟨rfl,obv2,sbv18,rfl,hid (aK hSv19 hge _ _),hid (ff HOv19.out _ _),hid ((cZ _ _ _ _ _ (by omega)).trans HRv19.out),hge⟩
 ·rintro ob sb V ⟨HBV,HOV,HRV,hge⟩;obtain ⟨o0,o1,fo0,fo1⟩:=de HOV.out;obtain ⟨r0,r1,fr0,fr1⟩:=de HRV.out;have HBW:=hid (zdy HB.out HBV.out);have hltq:w.heap.size+1<V.heap.size:=(aGe.1 HRV.out).1;have hltO:ob<V.heap.size:=(aGe.1 HOV.out).1;clear z0 z1 z2 z3 z4 yx0 yx1 yx2 yx3 yx4 yy0 yy1 yy2 yy3 yy4 HXx HXy HJ Fx Fy;rcases hN with rfl | rfl
  ·replace hS2:=hid (hS2.out rfl);go_wp2_with fail;exact br Tryz.underlying70 (w.heap.size+1) (ff HRV.out _ _) ⟨by rw [hS2.out.1,hS2.out.2],aK HBW.out (Nat.le_succ _) _ _⟩
  ·replace hS3:=hid (hS3.out rfl);replace HXz:=hid (HXz.out rfl);replace HJ3:=hid (HJ3.out rfl);obtain ⟨yz0,yz1,yz2,yz3,yz4⟩:=aj ((Fz.out rfl).keep (HBW.out.block kb bk));have hklv:kb<V.heap.size:=by omega
   go_wp2_with fail;refine ba 7 (by kernel_rfl) (by kernel_rfl) ?_;simp only [List.take_succ_cons,List.take_zero,List.drop_succ_cons,List.drop_zero]
   repeat (refine WQ.step (fun K hK=>?_);go_simp;first | (refine hK _ ?_;clear hK K) | (apply Exists.intro;refine ⟨fun W hW=>?_,hK _ ?_⟩;(first | (go_at_call 89;exact zdB hW (HXz.out W (HBW.out.trans (hW.mono HBW.out.size)))) | (first | with_reducible rfl | (obtain ⟨zz0,zz1,zz2,zz3,zz4⟩:=kp5 hW o0 o1 yz0 yz1 yz2;have zz5:=Below.keeps hW yz3;have zz6:=Below.keeps hW yz4;go_simp;first | rfl | exact ⟨rfl,rfl⟩ | (rw [if_neg (by omega)];exact ⟨rfl,rfl⟩))));clear hK K))
   refine WQ.nil ?_;intro wq hwq;go_wp2_with fail;refine (HJ3.out _).mono ?_;rintro e w3 ⟨rfl,hb3⟩;have HB3:=hid (zdy HBW.out (zdy hwq hb3));have HR3:=hid ((hb3.block _ (by have:=hwq.size;omega)).trans ((hwq.block _ hltq).trans HRV.out));have HO3:=hid ((hb3.block _ (by have:=hwq.size;omega)).trans ((hwq.block _ hltO).trans HOV.out));clear hb3 hwq;obtain ⟨o0,o1,fo0,fo1⟩:=de HO3.out;obtain ⟨r0,r1,fr0,fr1⟩:=de HR3.out;go_wp2_with fail;exact br Tryz.underlying70 (w.heap.size+1) (ff ((cZ _ _ _ _ _ (by omega)).trans HR3.out) _ _) ⟨by rw [hS3.out.1,hS3.out.2],aK (aK HB3.out (by omega) _ _) (Nat.le_succ _) _ _⟩
theorem zcC (l c:Int) (kx:Int) (tx:List UInt8) (lx cx:Int) (ksx:List NM) (ax:Option Addr) (mx:Nat) (ky:Int) (ty:List UInt8) (ly cy:Int) (ksy:List NM) (ay:Option Addr) (my:Nat) (a:Option Addr) (m:Nat) (n:Nat) (w:World) (hh:am aR w (.mk 5 [] l c [(NM.mk kx tx lx cx ksx ax mx),(NM.mk ky ty ly cy ksy ay my)] a m)) (aF:(af (oP n (NM.mk 5 [] l c [(NM.mk kx tx lx cx ksx ax mx),(NM.mk ky ty ly cy ksy ay my)] a m).tr)).length≤140737488351232) (iF:oD (NM.mk 5 [] l c [(NM.mk kx tx lx cx ksx ax mx),(NM.mk ky ty ly cy ksy ay my)] a m).tr≤1000000) (IHx:gM (NM.mk kx tx lx cx ksx ax mx)) (IHy:mX (NM.mk ky ty ly cy ksy ay my)) :
  cf 46 #[aB 5 [] l c (.slice a 2 m),.string (bs (List.replicate n 9))] (af (oP n (NM.mk 5 [] l c [(NM.mk kx tx lx cx ksx ax mx),(NM.mk ky ty ly cy ksy ay my)] a m).tr)) (oD (NM.mk 5 [] l c [(NM.mk kx tx lx cx ksx ax mx),(NM.mk ky ty ly cy ksy ay my)] a m).tr) w:=by
 obtain ⟨kb,ko,rfl,bk,hm1,hlm,Fx,ggx,Fy,ggy⟩:=iM hh;have HS:=hid (show af (oP n (NM.mk 5 [] l c [(NM.mk kx tx lx cx ksx ax mx),(NM.mk ky ty ly cy ksy ay my)] (some ⟨kb,ko,none⟩) m).tr)=[105,102,32]++(af (oP n (NM.mk kx tx lx cx ksx ax mx).tr)++([32]++(af (oP n (NM.mk ky ty ly cy ksy ay my).tr)++[])))∧oD (NM.mk 5 [] l c [(NM.mk kx tx lx cx ksx ax mx),(NM.mk ky ty ly cy ksy ay my)] (some ⟨kb,ko,none⟩) m).tr=max 0 (max (oD (NM.mk kx tx lx cx ksx ax mx).tr) (max 0 (max (oD (NM.mk ky ty ly cy ksy ay my).tr) 0))) by
  rw [aq,ai,ai,ar,bP,di];constructor
  ·rw [aY,aY,dH];show af ((1,wIf)::sp::(oP n (NM.mk kx tx lx cx ksx ax mx).tr++sp::(oP n (NM.mk ky ty ly cy ksy ay my).tr++([]))))=_;simp [af,df,sp,wIf]
  ·rw [bj,bj,co];show max (oD (NM.mk kx tx lx cx ksx ax mx).tr) (max (oD (NM.mk ky ty ly cy ksy ay my).tr) 0)=_;omega)
 rw [HS.out.1] at aF;rw [HS.out.2] at iF;have HXx:=hid (fun W (hW:Below w.heap.size w W)=>IHx n W (ggx.out.below hW) (by simp only [lAp,lCo,lNi] at aF;omega) (by omega));have HXy:=hid (fun W (hW:Below w.heap.size w W)=>IHy n W (ggy.out.below hW) (by simp only [lAp,lCo,lNi] at aF;omega) (by omega));exact zcD l c kx tx lx cx ksx ax mx ky ty ly cy ksy ay my kx tx lx cx ksx ax mx kb ko m n 2 w (af (oP n (NM.mk kx tx lx cx ksx ax mx).tr)) (af (oP n (NM.mk ky ty ly cy ksy ay my).tr)) ([]) (oD (NM.mk kx tx lx cx ksx ax mx).tr) (oD (NM.mk ky ty ly cy ksy ay my).tr) 0 bk hm1 hlm (by omega) Fx Fy (hid (fun h=>absurd h (by decide))) HXx HXy (hid (fun h=>absurd h (by decide))) (by show ([105,102,32]++(af (oP n (NM.mk kx tx lx cx ksx ax mx).tr)++([32]++(af (oP n (NM.mk ky ty ly cy ksy ay my).tr)++[])))).length≤_;simp only [lAp,lCo,lNi] at aF ⊢;omega) (fun h=>absurd h (by decide)) _ _ (hid (fun _=>HS.out)) (hid (fun h=>absurd h (by decide)))
theorem zcq (l c:Int) (kx:Int) (tx:List UInt8) (lx cx:Int) (ksx:List NM) (ax:Option Addr) (mx:Nat) (ky:Int) (ty:List UInt8) (ly cy:Int) (ksy:List NM) (ay:Option Addr) (my:Nat) (kz:Int) (tz:List UInt8) (lz cz:Int) (ksz:List NM) (az:Option Addr) (mz:Nat) (a:Option Addr) (m:Nat) (n:Nat) (w:World) (hh:am aR w (.mk 5 [] l c [(NM.mk kx tx lx cx ksx ax mx),(NM.mk ky ty ly cy ksy ay my),(NM.mk kz tz lz cz ksz az mz)] a m)) (aF:(af (oP n (NM.mk 5 [] l c [(NM.mk kx tx lx cx ksx ax mx),(NM.mk ky ty ly cy ksy ay my),(NM.mk kz tz lz cz ksz az mz)] a m).tr)).length≤140737488351232) (iF:oD (NM.mk 5 [] l c [(NM.mk kx tx lx cx ksx ax mx),(NM.mk ky ty ly cy ksy ay my),(NM.mk kz tz lz cz ksz az mz)] a m).tr≤1000000) (IHx:gM (NM.mk kx tx lx cx ksx ax mx)) (IHy:mX (NM.mk ky ty ly cy ksy ay my)) (IHz:mX (NM.mk kz tz lz cz ksz az mz)) :
  cf 46 #[aB 5 [] l c (.slice a 3 m),.string (bs (List.replicate n 9))] (af (oP n (NM.mk 5 [] l c [(NM.mk kx tx lx cx ksx ax mx),(NM.mk ky ty ly cy ksy ay my),(NM.mk kz tz lz cz ksz az mz)] a m).tr)) (oD (NM.mk 5 [] l c [(NM.mk kx tx lx cx ksx ax mx),(NM.mk ky ty ly cy ksy ay my),(NM.mk kz tz lz cz ksz az mz)] a m).tr) w:=by
 obtain ⟨kb,ko,rfl,bk,hm1,hlm,Fx,ggx,Fy,ggy,Fz,ggz⟩:=xU hh;have HS:=hid (show af (oP n (NM.mk 5 [] l c [(NM.mk kx tx lx cx ksx ax mx),(NM.mk ky ty ly cy ksy ay my),(NM.mk kz tz lz cz ksz az mz)] (some ⟨kb,ko,none⟩) m).tr)=([105,102,32]++(af (oP n (NM.mk kx tx lx cx ksx ax mx).tr)++([32]++(af (oP n (NM.mk ky ty ly cy ksy ay my).tr)++[]))))++([32,101,108,115,101,32]++(af (oP n (NM.mk kz tz lz cz ksz az mz).tr)++[]))∧oD (NM.mk 5 [] l c [(NM.mk kx tx lx cx ksx ax mx),(NM.mk ky ty ly cy ksy ay my),(NM.mk kz tz lz cz ksz az mz)] (some ⟨kb,ko,none⟩) m).tr=max (max 0 (max (oD (NM.mk kx tx lx cx ksx ax mx).tr) (max 0 (max (oD (NM.mk ky ty ly cy ksy ay my).tr) 0)))) (max 0 (max (oD (NM.mk kz tz lz cz ksz az mz).tr) 0)) by
  rw [aq,ai,ai,ai,ar,bP,di];constructor
  ·rw [aY,aY,aY,dH];show af ((1,wIf)::sp::(oP n (NM.mk kx tx lx cx ksx ax mx).tr++sp::(oP n (NM.mk ky ty ly cy ksy ay my).tr++(sp::(1,fa)::sp::oP n (NM.mk kz tz lz cz ksz az mz).tr))))=_;simp [af,df,sp,wIf,fa]
  ·rw [bj,bj,bj,co];show max (oD (NM.mk kx tx lx cx ksx ax mx).tr) (max (oD (NM.mk ky ty ly cy ksy ay my).tr) (max (oD (NM.mk kz tz lz cz ksz az mz).tr) 0))=_;omega)
 rw [HS.out.1] at aF;rw [HS.out.2] at iF;have HXx:=hid (fun W (hW:Below w.heap.size w W)=>IHx n W (ggx.out.below hW) (by simp only [lAp,lCo,lNi] at aF;omega) (by omega));have HXy:=hid (fun W (hW:Below w.heap.size w W)=>IHy n W (ggy.out.below hW) (by simp only [lAp,lCo,lNi] at aF;omega) (by omega));have HXz:=hid (fun W (hW:Below w.heap.size w W)=>IHz n W (ggz.out.below hW) (by simp only [lAp,lCo,lNi] at aF;omega) (by omega));exact zcD l c kx tx lx cx ksx ax mx ky ty ly cy ksy ay my kz tz lz cz ksz az mz kb ko m n 3 w (af (oP n (NM.mk kx tx lx cx ksx ax mx).tr)) (af (oP n (NM.mk ky ty ly cy ksy ay my).tr)) (af (oP n (NM.mk kz tz lz cz ksz az mz).tr)) (oD (NM.mk kx tx lx cx ksx ax mx).tr) (oD (NM.mk ky ty ly cy ksy ay my).tr) (oD (NM.mk kz tz lz cz ksz az mz).tr) bk hm1 hlm (by omega) Fx Fy (hid (fun _=>Fz.out)) HXx HXy (hid (fun _=>HXz.out)) (by show ([105,102,32]++(af (oP n (NM.mk kx tx lx cx ksx ax mx).tr)++([32]++(af (oP n (NM.mk ky ty ly cy ksy ay my).tr)++[])))).length≤_;simp only [lAp,lCo,lNi] at aF ⊢;omega) (fun _=>aF) _ _ (hid (fun h=>absurd h (by decide))) (hid (fun _=>HS.out))
end Go.Proofs.YtfgiihpopngbkaaGreatDoor
