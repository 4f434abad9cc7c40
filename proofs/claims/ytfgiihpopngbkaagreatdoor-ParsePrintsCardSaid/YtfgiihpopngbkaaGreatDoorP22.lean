/- Lemmas and walks that the statement needs: RpItems, RpWrit, RpOp, RpPar. -/
import Derived.Test.YtfgiihpopngbkaaGreatDoorP21
namespace Go.Proofs.YtfgiihpopngbkaaGreatDoor
set_option maxRecDepth 100000
set_option maxHeartbeats 8000000
open Go.RowKit
open List renaming setIfInBounds_toArray→sA,set_cons_zero→sB,set_cons_succ→sC
open Nat renaming le_trans→nT
open Go.Act renaming put→aPu
open List renaming length_append→lAp,length_cons→lCo,length_nil→lNi
open Nat renaming le_refl→nRe
open Go.World renaming size_alloc→wSz
open _root_.Array renaming getElem?_eq_some_iff→aGe
open Go renaming heap_alloc_new→hAn
def cf (F:FuncId) (args:Array Value) (s:List UInt8) (d:Nat) (w:World):Prop :=
 Calls Tryz.prog F args w fun e w'=>e=.returned (xZ s d)∧Below w.heap.size w w'
def gM (x:NM):Prop:=∀ n w,am aR w x→(af (oP n x.tr)).length≤140737488351232→oD x.tr≤1000000→cf 88 #[x.val] (af (oP n x.tr)) (oD x.tr) w
theorem jw (a b:List aJ) (r:List (List aJ)):(af (aE (a::b::r))).length=(af a).length+2+(af (aE (b::r))).length:=by
 show (af (a++sg 44::sp::aE (b::r))).length=_;rw [aQ,lAp,aA,aA,lAp,lAp];show _+(1+(1+_))=_;omega
theorem qh:∀ (s:List (List aJ)) (x:List aJ),x ∈ s→(af x).length≤(af (aE s)).length
 | [],x,h=>by cases h
 | [a],x,h=>by rw [List.mem_singleton.1 h];exact nRe _
 | a::b::r,x,h=>by
   rw [jw];rcases List.mem_cons.1 h with rfl | h
   ·omega
   ·have:=qh (b::r) x h;omega
theorem n8:∀ (s:List (List aJ)) (k:Nat),(af (aE (s.take k))).length≤(af (aE s)).length
 | _,0=>Nat.zero_le _
 | [],_+1=>nRe _
 | [a],k+1=>by rw [List.take_of_length_le (by simp)];exact nRe _
 | a::b::r,1=>by rw [jw];show (af a).length≤_;omega
 | a::b::r,k+2=>by
   have:=n8 (b::r) (k+1);show (af (aE (a::b::r.take k))).length≤_;rw [jw,jw];have e:b::r.take k=(b::r).take (k+1):=rfl;rw [e];omega
theorem lD:∀ (s:List Nat) (x:Nat),x ∈ s→x≤b9 s
 | [],x,h=>by cases h
 | a::r,x,h=>by
   show x≤max a (b9 r);rcases List.mem_cons.1 h with rfl | h
   ·omega
   ·have:=lD r x h;omega
theorem lC (n:Nat) (ks:List NM) (j:Nat) (h:j<ks.length):(oPs n (NM.trs ks)).take (j+1)=(oPs n (NM.trs ks)).take j++[oP n ks[j].tr]:=by
 rw [c8,bR,List.map_map];rw [List.take_succ_eq_append_getElem (by simpa using h)];simp
theorem lT (ks:List NM) (j:Nat) (h:j<ks.length):(oDs (NM.trs ks)).take (j+1)=(oDs (NM.trs ks)).take j++[oD ks[j].tr]:=by
 rw [gX,bR,List.map_map];rw [List.take_succ_eq_append_getElem (by simpa using h)];simp
theorem qQ (n:Nat) (ks:List NM) (j:Nat) (h:j<ks.length):oP n ks[j].tr ∈ oPs n (NM.trs ks):=by
 rw [c8,bR,List.map_map];exact List.mem_map.2 ⟨ks[j],List.getElem_mem h,rfl⟩
theorem qm (ks:List NM) (j:Nat) (h:j<ks.length):oD ks[j].tr ∈ oDs (NM.trs ks):=by
 rw [gX,bR,List.map_map];exact List.mem_map.2 ⟨ks[j],List.getElem_mem h,rfl⟩
theorem kj (n:Nat) (ks:List NM):(oPs n (NM.trs ks)).length=ks.length:=by rw [c8,bR];simp
theorem qP (ks:List NM):(oDs (NM.trs ks)).length=ks.length:=by rw [gX,bR];simp
theorem lZ (s:List Nat) (x:Nat):b9 (s++[x])=max (b9 s) x:=by
 rw [nA];have:b9 [x]=x:=by show max x 0=x;omega
 rw [this]
theorem k7 (v:Value) (ks:List NM) (n:Nat) (w:World) (hl:cn w v ks) (hk:ks.length≤1000000) (aF:(af (aE (oPs n (NM.trs ks)))).length≤140737488351232) (iF:b9 (oDs (NM.trs ks))≤1000000) (IH:∀ j (hj:j<ks.length),gM ks[j]) :
  cf 90 #[v] (af (aE (oPs n (NM.trs ks)))) (b9 (oDs (NM.trs ks))) w:=by
 have HS:=hid (fun W (hW:Below w.heap.size w W)=>hl.below hW);have HX:=hid (fun j (hj:j<ks.length) W (hW:Below w.heap.size w W)=>IH j hj n W ((hl.get j hj).below hW) (nT (qh _ _ (qQ n ks j hj)) aF) (nT (lD _ _ (qm ks j hj)) iF));have HL:=hid (fun j=>nT (n8 (oPs n (NM.trs ks)) j) aF);have HSn:=hid (fun j (hj:j<ks.length)=>(show af (aE ((oPs n (NM.trs ks)).take (j+1)))=af (if j=0 then oP n ks[j].tr else aE ((oPs n (NM.trs ks)).take j)++sg 44::sp::oP n ks[j].tr) by
  rw [lC n ks j hj,fA];have e:((oPs n (NM.trs ks)).take j=[]) ↔ j=0:=by
   rw [← List.length_eq_zero_iff,List.length_take,kj];omega
  simp only [e]))
 have HDn:=hid (fun j (hj:j<ks.length)=>(show b9 ((oDs (NM.trs ks)).take (j+1))=max (b9 ((oDs (NM.trs ks)).take j)) (oD ks[j].tr) by rw [lT ks j hj,lZ]));have HE:=hid (show (oPs n (NM.trs ks)).take ks.length=oPs n (NM.trs ks)∧(oDs (NM.trs ks)).take ks.length=oDs (NM.trs ks) from ⟨List.take_of_length_le (by rw [kj];omega),List.take_of_length_le (by rw [qP];omega)⟩);obtain ⟨la,lc,rfl,iI,hlm,-⟩:=hl.nodes;unfold maxLen at hlm;have HR0:=hid (bz (hAn w (.cells #[.string ⟨#[]⟩,.int .i64 0] 70)) (.cells #[.string ⟨#[]⟩,.int .i64 0] 70));have HR1:=hid (fx w (.cells #[.string ⟨#[]⟩,.int .i64 0] 70) (.cells #[.string ⟨#[]⟩,.int .i64 0] 70));have HB0:=hid (gx w (.cells #[.string ⟨#[]⟩,.int .i64 0] 70) (.cells #[.string ⟨#[]⟩,.int .i64 0] 70));generalize oPs n (NM.trs ks)=PP at *;generalize oDs (NM.trs ks)=DD at *;clear hl IH aF iF;unfold cf at *;go_enter Tryz.func90,Tryz.ntmps90
 go_wp2_with fail;go_loopw [9] (fun i wr=>∃ j:Nat,j≤ks.length∧i=.int .i64 j∧Below w.heap.size w wr∧wr.heap[w.heap.size]? = some (.cells #[.string ⟨#[]⟩,.int .i64 0] 70 (0,0))∧wr.heap[w.heap.size+1]? = some (.cells #[.string (bs (af (aE (PP.take j)))),.int .i64 (b9 (DD.take j):Nat)] 70 (0,0))) (fun i _=>ks.length - (intOf i).toNat)
 case atStart=>exact ⟨0,by omega,rfl,HB0.out,HR0.out,HR1.out⟩
 case round =>
  obtain ⟨j,hj,rfl,hbw,hr0,hr1⟩:=hrel;have hsz:=hbw.size;have hlt0:w.heap.size<wr.heap.size:=(aGe.1 hr0).1;have hlt1:w.heap.size+1<wr.heap.size:=(aGe.1 hr1).1;have HR:=hid hr0;have HO:=hid hr1;have HB:=hid hbw;by_cases aL:j<ks.length
  ·obtain ⟨la',lc',hv,-,-,hx⟩:=(HS.out _ hbw).nodes;obtain ⟨lb,lo,rfl,hlb,cw⟩:=hx j aL;obtain ⟨rfl,rfl⟩:la=some ⟨lb,lo,none⟩∧lc=lc':=by simpa using hv
   have hfc:=cw j aL;have HXj:=hid (fun W (hW:Below w.heap.size w W)=>HX.out j aL W hW);have HSj:=hid (HSn.out j aL);have HDj:=hid (HDn.out j aL);have hL1:=HL.out (j+1);have hL0:=HL.out j;clear cw hx hv;generalize ks[j]=x at *;cases x with
   | mk kx tx lx cx kk ax mx =>
   change Hid (∀ W,_→Calls _ _ #[aB kx tx lx cx (.slice ax kk.length mx)] W _) at HXj;obtain ⟨c0,c1,c2,c3,c4⟩:=aj hfc;obtain ⟨o0,o1,fo0,fo1⟩:=de hr1;clear hr0 hr1 hbw hfc;generalize oD (NM.mk kx tx lx cx kk ax mx).tr=dx at *;generalize b9 (DD.take j)=D at *;by_cases h0:j=0
   ·have hj0:¬ ((0:Int)<(j:Int)):=by omega
    have he:af (aE (PP.take j))=[]:=by rw [h0];rfl
    have HSk:=hid (HSj.out.trans (by rw [if_pos h0]));rw [HSk.out] at hL1;have HE0:=hid he;generalize af (oP n (NM.mk kx tx lx cx kk ax mx).tr)=sx at *;generalize af (aE (PP.take j))=S at *;have HJ:=hid (dK [(S,D),(sx,dx)] _ rfl 2 rfl (by rw [he];simpa [fd] using hL1) (by simp));clear HSj h0 he;go_wp2_with fail;obtain ⟨W1,hW1,hb1,hn1⟩:=an0 wr (.cells #[.int .i64 kx,.string (bs tx),.int .i64 lx,.int .i64 cx,.slice ax kk.length mx] 27);rw [← hW1.out];clear hW1;have HB1:=bc HB hb1;have HR1:=hid ((hb1.block _ hlt0).trans HR.out);have HO1:=hid ((hb1.block _ hlt1).trans HO.out);have hlt2:w.heap.size+1<W1.heap.size:=(aGe.1 HO1.out).1;have hlt3:w.heap.size<W1.heap.size:=by omega
    obtain ⟨z0,z1,z2,z3,z4⟩:=r5 hn1;obtain ⟨o0,o1,fo0,fo1⟩:=de HO1.out;clear hb1 hn1 HB HR HO c0 c1 c2 c3 c4;refine ba 3 (by kernel_rfl) (by kernel_rfl) ?_;simp only [List.take_succ_cons,List.take_zero,List.drop_succ_cons,List.drop_zero]
    repeat (refine WQ.step (fun K hK=>?_);go_simp;first | (refine hK _ ?_;clear hK K) | (apply Exists.intro;refine ⟨fun W hW=>?_,hK _ ?_⟩;(first | (go_at_call 88;exact zdB hW (HXj.out W (zdy HB1.out hW))) | (first | with_reducible rfl | (obtain ⟨zz0,zz1,zz2,zz3,zz4⟩:=kp5 hW z0 z1 z2 z3 z4;have zz5:=Below.keeps hW o0;have zz6:=Below.keeps hW o1;go_simp;first | rfl | exact ⟨rfl,rfl⟩ | (rw [if_neg (by omega)];exact ⟨rfl,rfl⟩))));clear hK K))
    refine WQ.nil ?_;intro wq hwq;clear z0 z1 z2 z3 z4 o0 o1 fo0 fo1;go_wp2_with fail;refine (HJ.out _).mono ?_;rintro e w2 ⟨rfl,hb2⟩;have HB2:=hid (zdy HB1.out (zdy hwq hb2));have HR2:=hid ((hb2.block _ (by have:=hwq.size;omega)).trans ((hwq.block _ hlt3).trans HR1.out));have HO2:=hid ((hb2.block _ (by have:=hwq.size;omega)).trans ((hwq.block _ hlt2).trans HO1.out));obtain ⟨o0,o1,fo0,fo1⟩:=de HO2.out;clear hb2 hwq;go_wp2_with fail;refine ⟨⟨j+1,by omega,by go_num,aK HB2.out (Nat.le_succ _) _ _,(cZ _ _ _ _ _ (by omega)).trans HR2.out,?_⟩,by simp [intOf];omega⟩;rw [HSk.out,HDj.out];have e:fd [(S,D),(sx,dx)]=sx:=by rw [HE0.out];simp [fd]
    have e2:ik [(S,D),(sx,dx)]=max D dx:=by show max D (max dx 0)=_;omega
    refine (ff HO2.out _ _).trans ?_;rw [e,e2]
   ·have hj0:(0:Int)<(j:Int):=by omega
    have HSk:=hid (show _=af (aE (PP.take j))++[44,32]++af (oP n (NM.mk kx tx lx cx kk ax mx).tr) from HSj.out.trans (by rw [if_neg h0,aQ,aA,aA,List.append_assoc];rfl));rw [HSk.out] at hL1;generalize af (oP n (NM.mk kx tx lx cx kk ax mx).tr)=sx at *;generalize af (aE (PP.take j))=S at *;have hl2:S.length+2+sx.length≤140737488351232:=by simp only [lAp,lCo,lNi] at hL1;omega
    have HJ0:=hid (dK [(S,D),([44,32],0)] _ rfl 2 rfl (by show (S++([44,32]++[])).length≤_;simp only [lAp,lCo,lNi];omega) (by simp));have HJ:=hid (dK [(fd [(S,D),([44,32],0)],ik [(S,D),([44,32],0)]),(sx,dx)] _ rfl 2 rfl (by show (_++(sx++[])).length≤_;show ((S++([44,32]++[]))++(sx++[])).length≤_;simp only [lAp,lCo,lNi];omega) (by simp));clear HSj h0 hL1;go_wp2_with fail;obtain ⟨Wa,hWa,hba,hna⟩:=an0 wr (.cells #[.int .i64 kx,.string (bs tx),.int .i64 lx,.int .i64 cx,.slice ax kk.length mx] 27);have hsa:Wa.heap.size=wr.heap.size+1:=by rw [hWa.out,wSz]
    have HJ0':=HJ0.out Wa;rw [hsa,hWa.out] at HJ0';refine HJ0'.mono ?_;rintro e w1 ⟨rfl,hb1⟩;have hb1':Below Wa.heap.size Wa w1:=by rw [hsa,hWa.out];exact hb1
    have HBa:=hid (zdy HB.out (zdy hba hb1'));have HRa:=hid ((hb1'.block _ (by omega)).trans ((hba.block _ hlt0).trans HR.out));have HOa:=hid ((hb1'.block _ (by omega)).trans ((hba.block _ hlt1).trans HO.out));have hna1:=(hb1'.block wr.heap.size (by omega)).trans hna;have hs1:wr.heap.size<w1.heap.size:=by have:=hb1'.size;omega
    obtain ⟨o0,o1,fo0,fo1⟩:=de HOa.out;clear hb1 hb1' hba hna hsa HJ0' HJ0 hWa c0 c1 c2 c3 c4 HB HR HO;generalize hS1:fd [(S,D),([44,32],0)]=S1 at *;generalize hD1:ik [(S,D),([44,32],0)]=D1 at *;have HS1:=hid hS1;have HD1:=hid hD1;clear hS1 hD1;go_wp2_with fail;obtain ⟨W1,hW1,hb1,hr1,ho1,hn1⟩:∃ W,Hid (W=(w1.setCell ⟨w.heap.size+1,0,none⟩ (.string (bs S1))).setCell ⟨w.heap.size+1,1,none⟩ (.int .i64 (D1:Nat)))∧Below w.heap.size w W∧W.heap[w.heap.size]? = some (.cells #[.string ⟨#[]⟩,.int .i64 0] 70 (0,0))∧W.heap[w.heap.size+1]? = some (.cells #[.string (bs S1),.int .i64 (D1:Nat)] 70 (0,0))∧W.heap[wr.heap.size]? = some (.cells #[.int .i64 kx,.string (bs tx),.int .i64 lx,.int .i64 cx,.slice ax kk.length mx] 27 (0,0)) :=
     ⟨_,hid rfl,aK HBa.out (Nat.le_succ _) _ _,(cZ _ _ _ _ _ (by omega)).trans HRa.out,ff HOa.out _ _,(cZ _ _ _ _ _ (by omega)).trans hna1⟩
    rw [← hW1.out];clear hW1;have HB1:=hid hb1;have HR1:=hid hr1;have HO1:=hid ho1;have hlt2:w.heap.size+1<W1.heap.size:=(aGe.1 HO1.out).1;have hlt3:w.heap.size<W1.heap.size:=by omega
    obtain ⟨z0,z1,z2,z3,z4⟩:=r5 hn1;obtain ⟨o0,o1,fo0,fo1⟩:=de HO1.out;clear hb1 hr1 ho1 hn1 hna1 HBa HRa HOa;refine ba 3 (by kernel_rfl) (by kernel_rfl) ?_;simp only [List.take_succ_cons,List.take_zero,List.drop_succ_cons,List.drop_zero]
    repeat (refine WQ.step (fun K hK=>?_);go_simp;first | (refine hK _ ?_;clear hK K) | (apply Exists.intro;refine ⟨fun W hW=>?_,hK _ ?_⟩;(first | (go_at_call 88;exact zdB hW (HXj.out W (zdy HB1.out hW))) | (first | with_reducible rfl | (obtain ⟨zz0,zz1,zz2,zz3,zz4⟩:=kp5 hW z0 z1 z2 z3 z4;have zz5:=Below.keeps hW o0;have zz6:=Below.keeps hW o1;go_simp;first | rfl | exact ⟨rfl,rfl⟩ | (rw [if_neg (by omega)];exact ⟨rfl,rfl⟩))));clear hK K))
    refine WQ.nil ?_;intro wq hwq;clear z0 z1 z2 z3 z4 o0 o1 fo0 fo1;go_wp2_with fail;refine (HJ.out _).mono ?_;rintro e w2 ⟨rfl,hb2⟩;have HB2:=hid (zdy HB1.out (zdy hwq hb2));have HR2:=hid ((hb2.block _ (by have:=hwq.size;omega)).trans ((hwq.block _ hlt3).trans HR1.out));have HO2:=hid ((hb2.block _ (by have:=hwq.size;omega)).trans ((hwq.block _ hlt2).trans HO1.out));obtain ⟨o0,o1,fo0,fo1⟩:=de HO2.out;clear hb2 hwq;go_wp2_with fail;refine ⟨⟨j+1,by omega,by go_num,aK HB2.out (Nat.le_succ _) _ _,(cZ _ _ _ _ _ (by omega)).trans HR2.out,?_⟩,by simp [intOf];omega⟩;rw [HSk.out,HDj.out];refine (ff HO2.out _ _).trans ?_;have e:fd [(S1,D1),(sx,dx)]=S++[44,32]++sx:=by rw [← HS1.out];simp [fd]
    have e2:ik [(S1,D1),(sx,dx)]=max D dx:=by rw [← HD1.out];show max (max D (max 0 0)) (max dx 0)=_;omega
    rw [e,e2]
  ·obtain rfl:j=ks.length:=by omega
   rw [HE.out.1,HE.out.2] at hr1 HO;obtain ⟨o0,o1,fo0,fo1⟩:=de hr1;obtain ⟨r0,r1,fr0,fr1⟩:=de hr0;clear hr0 hr1 hbw;go_wp2_with fail;exact br Tryz.underlying70 w.heap.size (ff HR.out _ _) ⟨rfl,aK HB.out (nRe _) _ _⟩
def kS (b:Bool) (s:List UInt8):List UInt8:=if b=true then [40]++(s++[41]) else s
theorem kZ (b:Bool) (l:List aJ):af (brk b l)=kS b (af l):=by
 unfold brk kS;cases b
 ·rfl
 ·show af (sg 40::(l++[sg 41]))=_;rw [aA,aQ];rfl
theorem nS (b:Bool) (s:List UInt8):s.length≤(kS b s).length:=by
 unfold kS;split
 ·simp only [lAp];omega
 ·exact nRe _
theorem qJ (b:Bool) (d:Nat):d≤gW b d:=by unfold gW;split <;> omega
theorem me (k:Int) (t:List UInt8) (l c:Int) (a:Option Addr) (N m:Nat) (b:Bool) (s:List UInt8) (d:Nat) (hl:(kS b s).length≤140737488351232) (hd:d≤1000000) (w:World)
  (H:∀ W,Below w.heap.size w W→cf 88 #[aB k t l c (.slice a N m)] s d W) :
  cf 125 #[aB k t l c (.slice a N m),.bool b] (kS b s) (gW b d) w:=by
 obtain ⟨W0,hW0,hb0,hn0,hr0⟩:=an2 w (.cells #[.int .i64 k,.string (bs t),.int .i64 l,.int .i64 c,.slice a N m] 27) (.cells #[.string ⟨#[]⟩,.int .i64 0] 70);have HB:=hid hb0;have HR:=hid hr0;have HN:=hid hn0;have HX:=hid (H W0 hb0);have hlt1:w.heap.size+1<W0.heap.size:=(aGe.1 hr0).1;have hlt0:w.heap.size<W0.heap.size:=by omega
 obtain ⟨z0,z1,z2,z3,z4⟩:=r5 hn0;clear hb0 hn0 hr0 H;unfold cf at *;cases b with
 | true =>
   have hl2:1+s.length+1≤140737488351232:=by unfold kS at hl;simp only [if_true,lAp,lCo,lNi] at hl;omega
   go_enter Tryz.func125,Tryz.ntmps125
   go_wp2_with fail;rw [← hW0.out];clear hW0;go_wp2_with fail;refine HX.out.mono ?_;rintro e w1 ⟨rfl,hb1⟩;have HB1:=bc HB hb1;have HR1:=hid ((hb1.block _ hlt1).trans HR.out);clear hb1;go_wp2_with fail;refine (kw [40] s [41] d (by simpa using hl2) (by omega) _).mono ?_;rintro e w2 ⟨rfl,hb2⟩;have HB2:=bc HB1 hb2;have HR2:=hid ((hb2.block _ (aGe.1 HR1.out).1).trans HR1.out);clear hb2;obtain ⟨r0,r1,fr0,fr1⟩:=de HR2.out;go_wp2_with fail;exact br Tryz.underlying70 (w.heap.size+1) (ff HR2.out _ _) ⟨rfl,aK HB2.out (Nat.le_succ _) _ _⟩
 | false =>
   go_enter Tryz.func125,Tryz.ntmps125
   go_wp2_with fail;rw [← hW0.out];clear hW0;go_wp2_with fail;refine HX.out.mono ?_;rintro e w1 ⟨rfl,hb1⟩;have HB1:=bc HB hb1;have HR1:=hid ((hb1.block _ hlt1).trans HR.out);clear hb1;obtain ⟨r0,r1,fr0,fr1⟩:=de HR1.out;go_wp2_with fail;exact br Tryz.underlying70 (w.heap.size+1) (ff HR1.out _ _) ⟨rfl,aK HB1.out (Nat.le_succ _) _ _⟩
theorem zdj (t:List UInt8) (l c:Int)  (a:Option Addr) (m:Nat) (n:Nat) (w:World) (_hh:am aR w (.mk 9 t l c [] a m)) (_aF:(af (oP n (NM.mk 9 t l c [] a m).tr)).length≤140737488351232) (_iF:oD (NM.mk 9 t l c [] a m).tr≤1000000) :
  cf 88 #[aB 9 t l c (.slice a 0 m)] (af (oP n (NM.mk 9 t l c [] a m).tr)) (oD (NM.mk 9 t l c [] a m).tr) w:=by
 have HS:=hid (show af (oP n (NM.mk 9 t l c [] a m).tr)=t∧oD (NM.mk 9 t l c [] a m).tr=0 by
  rw [aq,ar,bP,di];exact ⟨by show af [(1,t)]=t;simp [af,df],rfl⟩)
 rw [HS.out.1] at _aF;rw [HS.out.2] at _iF;have HR1:=hid (fx w (.cells #[.int .i64 9,.string (bs t),.int .i64 l,.int .i64 c,.slice a 0 m] 27) (.cells #[.string (bs t),.int .i64 0] 70));have HB1:=hid (gx w (.cells #[.int .i64 9,.string (bs t),.int .i64 l,.int .i64 c,.slice a 0 m] 27) (.cells #[.string (bs t),.int .i64 0] 70));clear _hh;unfold cf at *;go_enter Tryz.func88,Tryz.ntmps88
 go_wp2_with fail;exact br Tryz.underlying70 (w.heap.size+1) HR1.out ⟨by rw [HS.out.1,HS.out.2];rfl,HB1.out⟩
theorem zcV (t:List UInt8) (l c:Int)  (a:Option Addr) (m:Nat) (n:Nat) (w:World) (_hh:am aR w (.mk 10 t l c [] a m)) (_aF:(af (oP n (NM.mk 10 t l c [] a m).tr)).length≤140737488351232) (_iF:oD (NM.mk 10 t l c [] a m).tr≤1000000) :
  cf 88 #[aB 10 t l c (.slice a 0 m)] (af (oP n (NM.mk 10 t l c [] a m).tr)) (oD (NM.mk 10 t l c [] a m).tr) w:=by
 have HS:=hid (show af (oP n (NM.mk 10 t l c [] a m).tr)=t∧oD (NM.mk 10 t l c [] a m).tr=0 by
  rw [aq,ar,bP,di];exact ⟨by show af [(2,t)]=t;simp [af,df],rfl⟩)
 rw [HS.out.1] at _aF;rw [HS.out.2] at _iF;have HR1:=hid (fx w (.cells #[.int .i64 10,.string (bs t),.int .i64 l,.int .i64 c,.slice a 0 m] 27) (.cells #[.string (bs t),.int .i64 0] 70));have HB1:=hid (gx w (.cells #[.int .i64 10,.string (bs t),.int .i64 l,.int .i64 c,.slice a 0 m] 27) (.cells #[.string (bs t),.int .i64 0] 70));clear _hh;unfold cf at *;go_enter Tryz.func88,Tryz.ntmps88
 go_wp2_with fail;exact br Tryz.underlying70 (w.heap.size+1) HR1.out ⟨by rw [HS.out.1,HS.out.2];rfl,HB1.out⟩
theorem zdb (t:List UInt8) (l c:Int)  (a:Option Addr) (m:Nat) (n:Nat) (w:World) (_hh:am aR w (.mk 11 t l c [] a m)) (_aF:(af (oP n (NM.mk 11 t l c [] a m).tr)).length≤140737488351232) (_iF:oD (NM.mk 11 t l c [] a m).tr≤1000000) (ht:t.length≤1000000) :
  cf 88 #[aB 11 t l c (.slice a 0 m)] (af (oP n (NM.mk 11 t l c [] a m).tr)) (oD (NM.mk 11 t l c [] a m).tr) w:=by
 obtain ⟨q,hq⟩:∃ q,dR t=q:=⟨_,rfl⟩;have HS:=hid (show af (oP n (NM.mk 11 t l c [] a m).tr)=q∧oD (NM.mk 11 t l c [] a m).tr=0 by
  rw [aq,ar,bP,di];exact ⟨by rw [← hq];show af [(3,t)]=_;simp [af,df],rfl⟩)
 rw [HS.out.1] at _aF;rw [HS.out.2] at _iF;have HQ:=hid (fun W=>nK t (by omega) q hq W);have HR1:=hid (fx w (.cells #[.int .i64 11,.string (bs t),.int .i64 l,.int .i64 c,.slice a 0 m] 27) (.cells #[.string (bs q),.int .i64 0] 70));have HB1:=hid (gx w (.cells #[.int .i64 11,.string (bs t),.int .i64 l,.int .i64 c,.slice a 0 m] 27) (.cells #[.string (bs q),.int .i64 0] 70));clear _hh hq;unfold cf at *;go_enter Tryz.func88,Tryz.ntmps88
 go_wp2_with fail;refine (HQ.out _).mono ?_;rintro e w1 ⟨rfl,rfl⟩;go_wp2_with fail;exact br Tryz.underlying70 (w.heap.size+1) HR1.out ⟨by rw [HS.out.1,HS.out.2];rfl,HB1.out⟩
theorem zcn (t:List UInt8) (l c:Int) (ks:List NM) (a:Option Addr) (m:Nat) (n:Nat) (w:World) (hh:am aR w (.mk 12 t l c ks a m)) (aF:(af (oP n (NM.mk 12 t l c ks a m).tr)).length≤140737488351232) (iF:oD (NM.mk 12 t l c ks a m).tr≤1000000) (hk:ks.length≤1000000) (IH:∀ j (hj:j<ks.length),gM ks[j]) :
  cf 88 #[aB 12 t l c (.slice a ks.length m)] (af (oP n (NM.mk 12 t l c ks a m).tr)) (oD (NM.mk 12 t l c ks a m).tr) w:=by
 have HS:=hid (show af (oP n (NM.mk 12 t l c ks a m).tr)=[91]++((af (aE (oPs n (NM.trs ks))))++[93])∧oD (NM.mk 12 t l c ks a m).tr=(b9 (oDs (NM.trs ks)))+1 by
  rw [aq,bP,di];exact ⟨by show af (sg 91::(aE (oPs n _)++[sg 93]))=_;rw [aA,aQ];rfl,rfl⟩)
 rw [HS.out.1] at aF;rw [HS.out.2] at iF;have HI:=hid (fun W (hW:Below w.heap.size w W)=>k7 (.slice a ks.length m) ks n W (hh.kidsAt.below hW) hk (by simp only [lAp,lCo,lNi] at aF;omega) (by omega) IH);generalize af (aE (oPs n (NM.trs ks)))=S at *;generalize b9 (oDs (NM.trs ks))=D at *;obtain ⟨W0,hW0,hb0,hn0,hr0⟩:=an2 w (.cells #[.int .i64 12,.string (bs t),.int .i64 l,.int .i64 c,.slice a ks.length m] 27) (.cells #[.string ⟨#[]⟩,.int .i64 0] 70);have HB:=hid hb0;have HR:=hid hr0;have HN:=hid hn0;have hlt1:w.heap.size+1<W0.heap.size:=(aGe.1 hr0).1;have hlt0:w.heap.size<W0.heap.size:=by omega
 obtain ⟨z0,z1,z2,z3,z4⟩:=r5 HN.out;obtain ⟨r0,r1,fr0,fr1⟩:=de HR.out;clear hb0 hn0 hr0;clear hh IH;unfold cf at *;go_enter Tryz.func88,Tryz.ntmps88
 go_wp2_with fail;rw [← hW0.out];clear hW0;refine (HI.out _ HB.out).mono ?_;rintro e w1 ⟨rfl,hb1⟩;have HB1:=bc HB hb1;have HR1:=hid ((hb1.block _ (aGe.1 HR.out).1).trans HR.out);clear hb1;go_wp2_with fail;refine (kw [91] S [93] D (by simp only [lAp,lCo,lNi] at aF ⊢;omega) (by omega) _).mono ?_;rintro e w2 ⟨rfl,hb2⟩;have HB2:=bc HB1 hb2;have HR2:=hid ((hb2.block _ (aGe.1 HR1.out).1).trans HR1.out);clear hb2;obtain ⟨r0,r1,fr0,fr1⟩:=de HR2.out;go_wp2_with fail;exact br Tryz.underlying70 (w.heap.size+1) (ff HR2.out _ _) ⟨by rw [HS.out.1,HS.out.2];rfl,aK HB2.out (Nat.le_succ _) _ _⟩
theorem zc2 (t:List UInt8) (l c:Int) (ks:List NM) (a:Option Addr) (m:Nat) (n:Nat) (w:World) (hh:am aR w (.mk 14 t l c ks a m)) (aF:(af (oP n (NM.mk 14 t l c ks a m).tr)).length≤140737488351232) (iF:oD (NM.mk 14 t l c ks a m).tr≤1000000) (hk:ks.length≤1000000) (IH:∀ j (hj:j<ks.length),gM ks[j]) :
  cf 88 #[aB 14 t l c (.slice a ks.length m)] (af (oP n (NM.mk 14 t l c ks a m).tr)) (oD (NM.mk 14 t l c ks a m).tr) w:=by
 have HS:=hid (show af (oP n (NM.mk 14 t l c ks a m).tr)=(t++[40])++((af (aE (oPs n (NM.trs ks))))++[41])∧oD (NM.mk 14 t l c ks a m).tr=(b9 (oDs (NM.trs ks)))+1 by
  rw [aq,bP,di];exact ⟨by show af ((1,t)::sg 40::(aE (oPs n _)++[sg 41]))=_;rw [aA,aA,aQ,List.append_assoc];rfl,rfl⟩)
 rw [HS.out.1] at aF;rw [HS.out.2] at iF;have HI:=hid (fun W (hW:Below w.heap.size w W)=>k7 (.slice a ks.length m) ks n W (hh.kidsAt.below hW) hk (by simp only [lAp,lCo,lNi] at aF;omega) (by omega) IH);generalize af (aE (oPs n (NM.trs ks)))=S at *;generalize b9 (oDs (NM.trs ks))=D at *;obtain ⟨W0,hW0,hb0,hn0,hr0⟩:=an2 w (.cells #[.int .i64 14,.string (bs t),.int .i64 l,.int .i64 c,.slice a ks.length m] 27) (.cells #[.string ⟨#[]⟩,.int .i64 0] 70);have HB:=hid hb0;have HR:=hid hr0;have HN:=hid hn0;have hlt1:w.heap.size+1<W0.heap.size:=(aGe.1 hr0).1;have hlt0:w.heap.size<W0.heap.size:=by omega
 obtain ⟨z0,z1,z2,z3,z4⟩:=r5 HN.out;obtain ⟨r0,r1,fr0,fr1⟩:=de HR.out;clear hb0 hn0 hr0;have aL:t.length≤140737488355000:=by simp only [lAp] at aF;omega
 clear hh IH;unfold cf at *;go_enter Tryz.func88,Tryz.ntmps88
 go_wp2_with fail;rw [← hW0.out];clear hW0;refine ba 5 (by kernel_rfl) (by kernel_rfl) ?_;simp only [List.take_succ_cons,List.take_zero,List.drop_succ_cons,List.drop_zero]
 repeat (refine WQ.step (fun K hK=>?_);go_simp;first | (refine hK _ ?_;clear hK K) | (apply Exists.intro;refine ⟨fun W hW=>?_,hK _ ?_⟩;(first | (go_at_call 90;exact zdB hW (HI.out W (zdy HB.out hW))) | (first | with_reducible rfl | (obtain ⟨zz0,zz1,zz2,zz3,zz4⟩:=kp5 hW z0 z1 z2 z3 z4;go_simp;first | rfl | exact ⟨rfl,rfl⟩ | (rw [if_neg (by omega)];exact ⟨rfl,rfl⟩))));clear hK K))
 refine WQ.nil ?_;intro wq hwq;go_wp2_with fail;refine (kw (t++[40]) S [41] D (by simp only [lAp,lCo,lNi] at aF ⊢;omega) (by omega) _).mono ?_;rintro e w2 ⟨rfl,hb2⟩;have HB2:=hid (zdy HB.out (zdy hwq hb2));have HR2:=hid ((hb2.block _ (by have:=hwq.size;omega)).trans ((hwq.block _ hlt1).trans HR.out));clear hb2;obtain ⟨r0,r1,fr0,fr1⟩:=de HR2.out;go_wp2_with fail;exact br Tryz.underlying70 (w.heap.size+1) (ff HR2.out _ _) ⟨by rw [HS.out.1,HS.out.2,List.append_assoc];rfl,aK HB2.out (Nat.le_succ _) _ _⟩
theorem zcf (t:List UInt8) (l c:Int) (kx:Int) (tx:List UInt8) (lx cx:Int) (ksx:List NM) (ax:Option Addr) (mx:Nat) (a:Option Addr) (m:Nat) (n:Nat) (w:World) (hh:am aR w (.mk 15 t l c [(NM.mk kx tx lx cx ksx ax mx)] a m)) (aF:(af (oP n (NM.mk 15 t l c [(NM.mk kx tx lx cx ksx ax mx)] a m).tr)).length≤140737488351232) (iF:oD (NM.mk 15 t l c [(NM.mk kx tx lx cx ksx ax mx)] a m).tr≤1000000) (htn:(t == ([]:List UInt8))=false) (IHx:gM (NM.mk kx tx lx cx ksx ax mx)) :
  cf 88 #[aB 15 t l c (.slice a 1 m)] (af (oP n (NM.mk 15 t l c [(NM.mk kx tx lx cx ksx ax mx)] a m).tr)) (oD (NM.mk 15 t l c [(NM.mk kx tx lx cx ksx ax mx)] a m).tr) w:=by
 obtain ⟨kb,ko,rfl,bk,hm1,hlm,Fx,ggx⟩:=fp hh;have HS:=hid (show af (oP n (NM.mk 15 t l c [(NM.mk kx tx lx cx ksx ax mx)] (some ⟨kb,ko,none⟩) m).tr)=(t++[32,61,32])++(af (oP n (NM.mk kx tx lx cx ksx ax mx).tr)++[])∧oD (NM.mk 15 t l c [(NM.mk kx tx lx cx ksx ax mx)] (some ⟨kb,ko,none⟩) m).tr=max 0 (max (oD (NM.mk kx tx lx cx ksx ax mx).tr) 0) by
  rw [aq,ai,ar,bP,di];have ht:t≠[]:=by simpa using htn
  constructor
  ·show af (if t=[] then _ else _)=_;rw [if_neg ht,aY];simp [af,df,sg,sp]
  ·rw [bj,co];show max (oD (NM.mk kx tx lx cx ksx ax mx).tr) 0=_;omega)
 rw [HS.out.1] at aF;rw [HS.out.2] at iF;obtain ⟨W0,hW0,hb0,hn0,hr0⟩:=an2 w (.cells #[.int .i64 15,.string (bs t),.int .i64 l,.int .i64 c,.slice (some ⟨kb,ko,none⟩) 1 m] 27) (.cells #[.string ⟨#[]⟩,.int .i64 0] 70);have HB:=hid hb0;have HR:=hid hr0;have HN:=hid hn0;have hlt1:w.heap.size+1<W0.heap.size:=(aGe.1 hr0).1;have hlt0:w.heap.size<W0.heap.size:=by omega
 have HXx:=hid (fun W (hW:Below W0.heap.size W0 W)=>IHx n W ((ggx.out.below hb0).below hW) (by simp only [lAp,lCo,lNi] at aF;omega) (by omega));have HJ:=hid (dK [(t++[32,61,32],0),(af (oP n (NM.mk kx tx lx cx ksx ax mx).tr),oD (NM.mk kx tx lx cx ksx ax mx).tr)] _ rfl 2 rfl aF (by simp));generalize af (oP n (NM.mk kx tx lx cx ksx ax mx).tr)=sx at *;generalize oD (NM.mk kx tx lx cx ksx ax mx).tr=dx at *;have aL:t.length≤140737488355000:=by simp only [lAp] at aF;omega
 obtain ⟨z0,z1,z2,z3,z4⟩:=r5 HN.out;obtain ⟨r0,r1,fr0,fr1⟩:=de HR.out;obtain ⟨yx0,yx1,yx2,yx3,yx4⟩:=aj (Fx.out.keep (HB.out.block kb bk));have hkl:kb<W0.heap.size:=by have:=HB.out.size;omega
 clear hb0 hn0 hr0;clear hh IHx ggx;unfold cf at *;go_enter Tryz.func88,Tryz.ntmps88
 go_wp2_with fail;rw [← hW0.out];clear hW0;refine ba 8 (by kernel_rfl) (by kernel_rfl) ?_;simp only [List.take_succ_cons,List.take_zero,List.drop_succ_cons,List.drop_zero]
 repeat (refine WQ.step (fun K hK=>?_);go_simp;first | (refine hK _ ?_;clear hK K) | (apply Exists.intro;refine ⟨fun W hW=>?_,hK _ ?_⟩;(first | (go_at_call 88;exact zdB hW (HXx.out W hW)) | (first | with_reducible rfl | (obtain ⟨zz0,zz1,zz2,zz3,zz4⟩:=kp5 hW z0 z1 z2 z3 z4;obtain ⟨zz5,zz6,zz7,zz8,zz9⟩:=kp5 hW yx0 yx1 yx2 yx3 yx4;go_simp;first | rfl | exact ⟨rfl,rfl⟩ | (rw [if_neg (by omega)];exact ⟨rfl,rfl⟩))));clear hK K))
 refine WQ.nil ?_;intro wq hwq;go_wp2_with fail;refine (HJ.out _).mono ?_;rintro e w2 ⟨rfl,hb2⟩;have HB2:=hid (zdy HB.out (zdy hwq hb2));have HR2:=hid ((hb2.block _ (by have:=hwq.size;omega)).trans ((hwq.block _ hlt1).trans HR.out));clear hb2;obtain ⟨r0,r1,fr0,fr1⟩:=de HR2.out;go_wp2_with fail;exact br Tryz.underlying70 (w.heap.size+1) (ff HR2.out _ _) ⟨by rw [HS.out.1,HS.out.2];rfl,aK HB2.out (Nat.le_succ _) _ _⟩
theorem zci (l c:Int) (kx:Int) (tx:List UInt8) (lx cx:Int) (ksx:List NM) (ax:Option Addr) (mx:Nat) (a:Option Addr) (m:Nat) (n:Nat) (w:World) (hh:am aR w (.mk 15 [] l c [(NM.mk kx tx lx cx ksx ax mx)] a m)) (aF:(af (oP n (NM.mk 15 [] l c [(NM.mk kx tx lx cx ksx ax mx)] a m).tr)).length≤140737488351232) (iF:oD (NM.mk 15 [] l c [(NM.mk kx tx lx cx ksx ax mx)] a m).tr≤1000000) (IHx:gM (NM.mk kx tx lx cx ksx ax mx)) :
  cf 88 #[aB 15 [] l c (.slice a 1 m)] (af (oP n (NM.mk 15 [] l c [(NM.mk kx tx lx cx ksx ax mx)] a m).tr)) (oD (NM.mk 15 [] l c [(NM.mk kx tx lx cx ksx ax mx)] a m).tr) w:=by
 obtain ⟨kb,ko,rfl,bk,hm1,hlm,Fx,ggx⟩:=fp hh;have HS:=hid (show af (oP n (NM.mk 15 [] l c [(NM.mk kx tx lx cx ksx ax mx)] (some ⟨kb,ko,none⟩) m).tr)=af (oP n (NM.mk kx tx lx cx ksx ax mx).tr)∧oD (NM.mk 15 [] l c [(NM.mk kx tx lx cx ksx ax mx)] (some ⟨kb,ko,none⟩) m).tr=oD (NM.mk kx tx lx cx ksx ax mx).tr by
  rw [aq,ai,ar,bP,di];constructor
  ·rw [aY];rfl
  ·rw [bj,co];show max (oD (NM.mk kx tx lx cx ksx ax mx).tr) 0=_;omega)
 rw [HS.out.1] at aF;rw [HS.out.2] at iF;obtain ⟨W0,hW0,hb0,hn0,hr0⟩:=an2 w (.cells #[.int .i64 15,.string (bs []),.int .i64 l,.int .i64 c,.slice (some ⟨kb,ko,none⟩) 1 m] 27) (.cells #[.string ⟨#[]⟩,.int .i64 0] 70);have HB:=hid hb0;have HR:=hid hr0;have HN:=hid hn0;have hlt1:w.heap.size+1<W0.heap.size:=(aGe.1 hr0).1;have hlt0:w.heap.size<W0.heap.size:=by omega
 have HXx:=hid (IHx n W0 (ggx.out.below hb0) aF iF);generalize af (oP n (NM.mk kx tx lx cx ksx ax mx).tr)=sx at *;generalize oD (NM.mk kx tx lx cx ksx ax mx).tr=dx at *;obtain ⟨yx0,yx1,yx2,yx3,yx4⟩:=aj Fx.out;clear hb0 hn0 hr0;clear hh IHx ggx;unfold cf at *;go_enter Tryz.func88,Tryz.ntmps88
 go_wp2_with fail;rw [← hW0.out];clear hW0;refine (HXx.out).mono ?_;rintro e w1 ⟨rfl,hb1⟩;have HB1:=bc HB hb1;have HR1:=hid ((hb1.block _ (aGe.1 HR.out).1).trans HR.out);clear hb1;obtain ⟨r0,r1,fr0,fr1⟩:=de HR1.out;go_wp2_with fail;exact br Tryz.underlying70 (w.heap.size+1) (ff HR1.out _ _) ⟨by rw [HS.out.1,HS.out.2],aK HB1.out (Nat.le_succ _) _ _⟩
theorem zce (t:List UInt8) (l c:Int) (kx:Int) (tx:List UInt8) (lx cx:Int) (ksx:List NM) (ax:Option Addr) (mx:Nat) (a:Option Addr) (m:Nat) (n:Nat) (w:World) (hh:am aR w (.mk 16 t l c [(NM.mk kx tx lx cx ksx ax mx)] a m)) (aF:(af (oP n (NM.mk 16 t l c [(NM.mk kx tx lx cx ksx ax mx)] a m).tr)).length≤140737488351232) (iF:oD (NM.mk 16 t l c [(NM.mk kx tx lx cx ksx ax mx)] a m).tr≤1000000) (htn:t=cj) (IHx:gM (NM.mk kx tx lx cx ksx ax mx)) :
  cf 88 #[aB 16 t l c (.slice a 1 m)] (af (oP n (NM.mk 16 t l c [(NM.mk kx tx lx cx ksx ax mx)] a m).tr)) (oD (NM.mk 16 t l c [(NM.mk kx tx lx cx ksx ax mx)] a m).tr) w:=by
 obtain ⟨kb,ko,rfl,bk,hm1,hlm,Fx,ggx⟩:=fp hh;have HS:=hid (show af (oP n (NM.mk 16 t l c [(NM.mk kx tx lx cx ksx ax mx)] (some ⟨kb,ko,none⟩) m).tr)=[110,111,116,32]++kS (dY (kx,tx)) (af (oP n (NM.mk kx tx lx cx ksx ax mx).tr))∧oD (NM.mk 16 t l c [(NM.mk kx tx lx cx ksx ax mx)] (some ⟨kb,ko,none⟩) m).tr=gW (dY (kx,tx)) (oD (NM.mk kx tx lx cx ksx ax mx).tr)+1 by
  rw [aq,ai,ar,bP,di,htn,aY,bj,← kZ];constructor
  ·show af ((1,cj)::sp::brk (dY (Tr.top (NM.mk kx tx lx cx ksx ax mx).tr)) (oP n (NM.mk kx tx lx cx ksx ax mx).tr))=_;rw [aA,aA,aq];rfl
  ·rfl)
 rw [HS.out.1] at aF;rw [HS.out.2] at iF;obtain ⟨W0,hW0,hb0,hn0,hr0⟩:=an2 w (.cells #[.int .i64 16,.string (bs t),.int .i64 l,.int .i64 c,.slice (some ⟨kb,ko,none⟩) 1 m] 27) (.cells #[.string ⟨#[]⟩,.int .i64 0] 70);have HB:=hid hb0;have HR:=hid hr0;have HN:=hid hn0;have hlt1:w.heap.size+1<W0.heap.size:=(aGe.1 hr0).1;have hlt0:w.heap.size<W0.heap.size:=by omega
 have qn:(t == [110,111,116])=true:=by rw [htn];rfl
 have hbl:=nS (dY (kx,tx)) (af (oP n (NM.mk kx tx lx cx ksx ax mx).tr));have hbd:=qJ (dY (kx,tx)) (oD (NM.mk kx tx lx cx ksx ax mx).tr);have HXx:=hid (fun W (hW:Below W0.heap.size W0 W)=>IHx n W ((ggx.out.below hb0).below hW) (by simp only [lAp,lCo,lNi] at aF;omega) (by omega));generalize af (oP n (NM.mk kx tx lx cx ksx ax mx).tr)=sx at *;generalize oD (NM.mk kx tx lx cx ksx ax mx).tr=dx at *;have HT:=hid (fun W=>oO kx tx lx cx ax ksx.length mx W);generalize dY (kx,tx)=bb at *;obtain ⟨z0,z1,z2,z3,z4⟩:=r5 HN.out;obtain ⟨r0,r1,fr0,fr1⟩:=de HR.out;obtain ⟨yx0,yx1,yx2,yx3,yx4⟩:=aj (Fx.out.keep (HB.out.block kb bk));have hkl:kb<W0.heap.size:=by have:=HB.out.size;omega
 clear hb0 hn0 hr0;clear hh IHx ggx htn;unfold cf at *;go_enter Tryz.func88,Tryz.ntmps88
 go_wp2_with fail;rw [← hW0.out];clear hW0;refine ba 7 (by kernel_rfl) (by kernel_rfl) ?_;simp only [List.take_succ_cons,List.take_zero,List.drop_succ_cons,List.drop_zero]
 repeat (refine WQ.step (fun K hK=>?_);go_simp;first | (refine hK _ ?_;clear hK K) | (apply Exists.intro;refine ⟨fun W hW=>?_,hK _ ?_⟩;(first | (go_at_call 126;exact zdB hW (HT.out W)) | (first | with_reducible rfl | (obtain ⟨zz0,zz1,zz2,zz3,zz4⟩:=kp5 hW z0 z1 z2 z3 z4;obtain ⟨zz5,zz6,zz7,zz8,zz9⟩:=kp5 hW yx0 yx1 yx2 yx3 yx4;go_simp;first | rfl | exact ⟨rfl,rfl⟩ | (rw [if_neg (by omega)];exact ⟨rfl,rfl⟩))));clear hK K))
 refine WQ.nil ?_;intro wq hwq;go_wp2_with fail;refine (me kx tx lx cx ax ksx.length mx bb sx dx (by simp only [lAp,lCo,lNi] at aF;omega) (by omega) _ (fun W hW=>HXx.out W (hwq.trans (hW.mono hwq.size)))).mono ?_;rintro e w2 ⟨rfl,hb2⟩;have HB2:=hid (zdy HB.out (zdy hwq hb2));have HR2:=hid ((hb2.block _ (by have:=hwq.size;omega)).trans ((hwq.block _ hlt1).trans HR.out));clear hb2;go_wp2_with fail;refine (kw [110,111,116,32] (kS bb sx) [] (gW bb dx) (by simp only [lAp,lCo,lNi] at aF ⊢;omega) (by omega) _).mono ?_;rintro e w3 ⟨rfl,hb3⟩;have HB3:=bc HB2 hb3;have HR3:=hid ((hb3.block _ (aGe.1 HR2.out).1).trans HR2.out);clear hb3;obtain ⟨r0,r1,fr0,fr1⟩:=de HR3.out;go_wp2_with fail;exact br Tryz.underlying70 (w.heap.size+1) (ff HR3.out _ _) ⟨by rw [HS.out.1,HS.out.2];rfl,aK HB3.out (Nat.le_succ _) _ _⟩
theorem zbC (t:List UInt8) (l c:Int) (kx:Int) (tx:List UInt8) (lx cx:Int) (ksx:List NM) (ax:Option Addr) (mx:Nat) (ky:Int) (ty:List UInt8) (ly cy:Int) (ksy:List NM) (ay:Option Addr) (my:Nat) (a:Option Addr) (m:Nat) (n:Nat) (w:World) (hh:am aR w (.mk 16 t l c [(NM.mk kx tx lx cx ksx ax mx),(NM.mk ky ty ly cy ksy ay my)] a m)) (aF:(af (oP n (NM.mk 16 t l c [(NM.mk kx tx lx cx ksx ax mx),(NM.mk ky ty ly cy ksy ay my)] a m).tr)).length≤140737488351232) (iF:oD (NM.mk 16 t l c [(NM.mk kx tx lx cx ksx ax mx),(NM.mk ky ty ly cy ksy ay my)] a m).tr≤1000000) (htn:(t == [110,111,116])=false) (IHx:gM (NM.mk kx tx lx cx ksx ax mx)) (IHy:gM (NM.mk ky ty ly cy ksy ay my)) :
  cf 88 #[aB 16 t l c (.slice a 2 m)] (af (oP n (NM.mk 16 t l c [(NM.mk kx tx lx cx ksx ax mx),(NM.mk ky ty ly cy ksy ay my)] a m).tr)) (oD (NM.mk 16 t l c [(NM.mk kx tx lx cx ksx ax mx),(NM.mk ky ty ly cy ksy ay my)] a m).tr) w:=by
 obtain ⟨kb,ko,rfl,bk,hm1,hlm,Fx,ggx,Fy,ggy⟩:=iM hh;have HS:=hid (show af (oP n (NM.mk 16 t l c [(NM.mk kx tx lx cx ksx ax mx),(NM.mk ky ty ly cy ksy ay my)] (some ⟨kb,ko,none⟩) m).tr)=kS (dX (kx,tx)) (af (oP n (NM.mk kx tx lx cx ksx ax mx).tr))++((32::(t++[32]))++(kS (dX (ky,ty) || (t == [43] && dY (ky,ty))) (af (oP n (NM.mk ky ty ly cy ksy ay my).tr))++[]))∧oD (NM.mk 16 t l c [(NM.mk kx tx lx cx ksx ax mx),(NM.mk ky ty ly cy ksy ay my)] (some ⟨kb,ko,none⟩) m).tr=max (gW (dX (kx,tx)) (oD (NM.mk kx tx lx cx ksx ax mx).tr)) (max 0 (max (gW (dX (ky,ty) || (t == [43] && dY (ky,ty))) (oD (NM.mk ky ty ly cy ksy ay my).tr)) 0)) by
  rw [aq,ai,ai,ar,bP,di,aY,aY,bj,bj,← kZ,← kZ];have ht:¬ t=cj:=by simpa [cj] using htn
  constructor
  ·show af (if t=cj then _ else _)=_;rw [if_neg ht];show af (brk (gV (Tr.top (NM.mk kx tx lx cx ksx ax mx).tr)) (oP n (NM.mk kx tx lx cx ksx ax mx).tr)++sp::opP t::sp::brk (hU t (Tr.top (NM.mk ky ty ly cy ksy ay my).tr)) (oP n (NM.mk ky ty ly cy ksy ay my).tr))=_;have hw:(if t=wIn then (1:Nat) else 4)≠3:=by split <;> decide
   rw [aQ,aA,aA,aA,aq,aq,List.append_nil];show _=_++((32::(t++[32]))++_);have e:df (opP t).1 (opP t).2=t:=by unfold df opP;rw [if_neg hw]
   rw [e];simp [df,sp,gV,hU,Tr.top]
  ·show (if t=cj then _ else _)=_;rw [if_neg ht];show max (gW (gV (Tr.top (NM.mk kx tx lx cx ksx ax mx).tr)) _) (gW (hU t (Tr.top (NM.mk ky ty ly cy ksy ay my).tr)) _)=_;rw [aq,aq];show max (gW (dX (kx,tx)) (oD (Tr.mk kx tx (NM.trs ksx)))) (gW (hU t (ky,ty)) (oD (Tr.mk ky ty (NM.trs ksy))))=_;unfold hU;omega)
 rw [HS.out.1] at aF;rw [HS.out.2] at iF;obtain ⟨W0,hW0,hb0,hn0,hr0⟩:=an2 w (.cells #[.int .i64 16,.string (bs t),.int .i64 l,.int .i64 c,.slice (some ⟨kb,ko,none⟩) 2 m] 27) (.cells #[.string ⟨#[]⟩,.int .i64 0] 70);have HB:=hid hb0;have HR:=hid hr0;have HN:=hid hn0;have hlt1:w.heap.size+1<W0.heap.size:=(aGe.1 hr0).1;have hlt0:w.heap.size<W0.heap.size:=by omega
 have hblx:=nS (dX (kx,tx)) (af (oP n (NM.mk kx tx lx cx ksx ax mx).tr));have hbdx:=qJ (dX (kx,tx)) (oD (NM.mk kx tx lx cx ksx ax mx).tr);have hbly:=nS (dX (ky,ty) || (t == [43] && dY (ky,ty))) (af (oP n (NM.mk ky ty ly cy ksy ay my).tr));have hbdy:=qJ (dX (ky,ty) || (t == [43] && dY (ky,ty))) (oD (NM.mk ky ty ly cy ksy ay my).tr);have HXx:=hid (fun W (hW:Below W0.heap.size W0 W)=>IHx n W ((ggx.out.below hb0).below hW) (by simp only [lAp,lCo,lNi] at aF;omega) (by omega));have HXy:=hid (fun W (hW:Below W0.heap.size W0 W)=>IHy n W ((ggy.out.below hb0).below hW) (by simp only [lAp,lCo,lNi] at aF;omega) (by omega));have HJ:=hid (dK [(kS (dX (kx,tx)) (af (oP n (NM.mk kx tx lx cx ksx ax mx).tr)),gW (dX (kx,tx)) (oD (NM.mk kx tx lx cx ksx ax mx).tr)),(32::(t++[32]),0),(kS (dX (ky,ty) || (t == [43] && dY (ky,ty))) (af (oP n (NM.mk ky ty ly cy ksy ay my).tr)),gW (dX (ky,ty) || (t == [43] && dY (ky,ty))) (oD (NM.mk ky ty ly cy ksy ay my).tr))] _ rfl 3 rfl aF (by simp));generalize af (oP n (NM.mk kx tx lx cx ksx ax mx).tr)=sx at *;generalize oD (NM.mk kx tx lx cx ksx ax mx).tr=dx at *;generalize af (oP n (NM.mk ky ty ly cy ksy ay my).tr)=sy at *;generalize oD (NM.mk ky ty ly cy ksy ay my).tr=dy at *;have hlx:(kS (dX (kx,tx)) sx).length≤140737488351232:=by simp only [lAp,lCo,lNi] at aF;omega
 have hly:(kS (dX (ky,ty) || (t == [43] && dY (ky,ty))) sy).length≤140737488351232:=by simp only [lAp,lCo,lNi] at aF;omega
 have aL:t.length+2≤140737488355000:=by simp only [lAp,lCo,lNi] at aF;omega
 have HCx:=hid (fun W=>rv kx tx lx cx ax ksx.length mx W);have HCy:=hid (fun W=>rv ky ty ly cy ay ksy.length my W);have HTy:=hid (fun W=>oO ky ty ly cy ay ksy.length my W);generalize dX (kx,tx)=b0 at *;generalize dX (ky,ty)=b1 at *;generalize dY (ky,ty)=b2 at *;have HSx:=hid (fun W (hW:Below W0.heap.size W0 W)=>me kx tx lx cx ax ksx.length mx b0 sx dx (by omega) (by omega) W (fun W2 hW2=>HXx.out W2 (hW.trans (hW2.mono hW.size))));have HSy:=hid (fun W (hW:Below W0.heap.size W0 W)=>me ky ty ly cy ay ksy.length my (b1 || (t == [43] && b2)) sy dy (by omega) (by omega) W (fun W2 hW2=>HXy.out W2 (hW.trans (hW2.mono hW.size))));obtain ⟨z0,z1,z2,z3,z4⟩:=r5 HN.out;obtain ⟨r0,r1,fr0,fr1⟩:=de HR.out;obtain ⟨yx0,yx1,yx2,yx3,yx4⟩:=aj (Fx.out.keep (HB.out.block kb bk));obtain ⟨yy0,yy1,yy2,yy3,yy4⟩:=aj (Fy.out.keep (HB.out.block kb bk));have hkl:kb<W0.heap.size:=by have:=HB.out.size;omega
 clear hb0 hn0 hr0;clear hh IHx ggx IHy ggy aF iF hlx hly hblx hbly;cases b1 with
 | true =>
   simp only [Bool.true_or] at HSy HJ HS;unfold cf at *;go_enter Tryz.func88,Tryz.ntmps88
   go_wp2_with fail;rw [← hW0.out];clear hW0;refine ba 32 (by kernel_rfl) (by kernel_rfl) ?_;simp only [List.take_succ_cons,List.take_zero,List.drop_succ_cons,List.drop_zero]
   repeat (refine WQ.step (fun K hK=>?_);go_simp;first | (refine hK _ ?_;clear hK K) | (apply Exists.intro;refine ⟨fun W hW=>?_,hK _ ?_⟩;(first | (go_at_call_of 127 (Value.string (bs tx));exact zdB hW (HCx.out W)) | (go_at_call_of 127 (Value.string (bs ty));exact zdB hW (HCy.out W)) | (go_at_call_of 126 (Value.string (bs ty));exact zdB hW (HTy.out W)) | (go_at_call_of 125 (Value.string (bs tx));exact zdB hW (HSx.out W hW)) | (go_at_call_of 125 (Value.string (bs ty));exact zdB hW (HSy.out W hW)) | (first | with_reducible rfl | (obtain ⟨zz0,zz1,zz2,zz3,zz4⟩:=kp5 hW z0 z1 z2 z3 z4;obtain ⟨zz5,zz6,zz7,zz8,zz9⟩:=kp5 hW yx0 yx1 yx2 yx3 yx4;obtain ⟨zz10,zz11,zz12,zz13,zz14⟩:=kp5 hW yy0 yy1 yy2 yy3 yy4;go_simp;first | rfl | exact ⟨rfl,rfl⟩ | (rw [if_neg (by omega)];exact ⟨rfl,rfl⟩))));clear hK K))
   refine WQ.nil ?_;intro wq hwq;go_wp2_with fail;refine (HJ.out _).mono ?_;rintro e w2 ⟨rfl,hb2⟩;have HB2:=hid (zdy HB.out (zdy hwq hb2));have HR2:=hid ((hb2.block _ (by have:=hwq.size;omega)).trans ((hwq.block _ hlt1).trans HR.out));clear hb2;obtain ⟨r0,r1,fr0,fr1⟩:=de HR2.out;go_wp2_with fail;exact br Tryz.underlying70 (w.heap.size+1) (ff HR2.out _ _) ⟨by rw [HS.out.1,HS.out.2];rfl,aK HB2.out (Nat.le_succ _) _ _⟩
 | false =>
   simp only [Bool.false_or] at HSy HJ HS;cases q43:(t == [43]) with
   | true =>
     simp only [q43,Bool.true_and] at HSy HJ HS;unfold cf at *;go_enter Tryz.func88,Tryz.ntmps88
     go_wp2_with fail;rw [← hW0.out];clear hW0;refine ba 32 (by kernel_rfl) (by kernel_rfl) ?_;simp only [List.take_succ_cons,List.take_zero,List.drop_succ_cons,List.drop_zero]
     repeat (refine WQ.step (fun K hK=>?_);go_simp;first | (refine hK _ ?_;clear hK K) | (apply Exists.intro;refine ⟨fun W hW=>?_,hK _ ?_⟩;(first | (go_at_call_of 127 (Value.string (bs tx));exact zdB hW (HCx.out W)) | (go_at_call_of 127 (Value.string (bs ty));exact zdB hW (HCy.out W)) | (go_at_call_of 126 (Value.string (bs ty));exact zdB hW (HTy.out W)) | (go_at_call_of 125 (Value.string (bs tx));exact zdB hW (HSx.out W hW)) | (go_at_call_of 125 (Value.string (bs ty));exact zdB hW (HSy.out W hW)) | (first | with_reducible rfl | (obtain ⟨zz0,zz1,zz2,zz3,zz4⟩:=kp5 hW z0 z1 z2 z3 z4;obtain ⟨zz5,zz6,zz7,zz8,zz9⟩:=kp5 hW yx0 yx1 yx2 yx3 yx4;obtain ⟨zz10,zz11,zz12,zz13,zz14⟩:=kp5 hW yy0 yy1 yy2 yy3 yy4;go_simp;first | rfl | exact ⟨rfl,rfl⟩ | (rw [if_neg (by omega)];exact ⟨rfl,rfl⟩))));clear hK K))
     refine WQ.nil ?_;intro wq hwq;go_wp2_with fail;refine (HJ.out _).mono ?_;rintro e w2 ⟨rfl,hb2⟩;have HB2:=hid (zdy HB.out (zdy hwq hb2));have HR2:=hid ((hb2.block _ (by have:=hwq.size;omega)).trans ((hwq.block _ hlt1).trans HR.out));clear hb2;obtain ⟨r0,r1,fr0,fr1⟩:=de HR2.out;go_wp2_with fail;exact br Tryz.underlying70 (w.heap.size+1) (ff HR2.out _ _) ⟨by rw [HS.out.1,HS.out.2];rfl,aK HB2.out (Nat.le_succ _) _ _⟩
   | false =>
     simp only [q43,Bool.false_and] at HSy HJ HS;unfold cf at *;go_enter Tryz.func88,Tryz.ntmps88
     go_wp2_with fail;rw [← hW0.out];clear hW0;refine ba 32 (by kernel_rfl) (by kernel_rfl) ?_;simp only [List.take_succ_cons,List.take_zero,List.drop_succ_cons,List.drop_zero]
     repeat (refine WQ.step (fun K hK=>?_);go_simp;first | (refine hK _ ?_;clear hK K) | (apply Exists.intro;refine ⟨fun W hW=>?_,hK _ ?_⟩;(first | (go_at_call_of 127 (Value.string (bs tx));exact zdB hW (HCx.out W)) | (go_at_call_of 127 (Value.string (bs ty));exact zdB hW (HCy.out W)) | (go_at_call_of 126 (Value.string (bs ty));exact zdB hW (HTy.out W)) | (go_at_call_of 125 (Value.string (bs tx));exact zdB hW (HSx.out W hW)) | (go_at_call_of 125 (Value.string (bs ty));exact zdB hW (HSy.out W hW)) | (first | with_reducible rfl | (obtain ⟨zz0,zz1,zz2,zz3,zz4⟩:=kp5 hW z0 z1 z2 z3 z4;obtain ⟨zz5,zz6,zz7,zz8,zz9⟩:=kp5 hW yx0 yx1 yx2 yx3 yx4;obtain ⟨zz10,zz11,zz12,zz13,zz14⟩:=kp5 hW yy0 yy1 yy2 yy3 yy4;go_simp;first | rfl | exact ⟨rfl,rfl⟩ | (rw [if_neg (by omega)];exact ⟨rfl,rfl⟩))));clear hK K))
     refine WQ.nil ?_;intro wq hwq;go_wp2_with fail;refine (HJ.out _).mono ?_;rintro e w2 ⟨rfl,hb2⟩;have HB2:=hid (zdy HB.out (zdy hwq hb2));have HR2:=hid ((hb2.block _ (by have:=hwq.size;omega)).trans ((hwq.block _ hlt1).trans HR.out));clear hb2;obtain ⟨r0,r1,fr0,fr1⟩:=de HR2.out;go_wp2_with fail;exact br Tryz.underlying70 (w.heap.size+1) (ff HR2.out _ _) ⟨by rw [HS.out.1,HS.out.2];rfl,aK HB2.out (Nat.le_succ _) _ _⟩
theorem zdg (t:List UInt8) (l c:Int) (kx:Int) (tx:List UInt8) (lx cx:Int) (ksx:List NM) (ax:Option Addr) (mx:Nat) (a:Option Addr) (m:Nat) (n:Nat) (w:World) (hh:am aR w (.mk 7 t l c [(NM.mk kx tx lx cx ksx ax mx)] a m)) (aF:(af (oP n (NM.mk 7 t l c [(NM.mk kx tx lx cx ksx ax mx)] a m).tr)).length≤140737488351232) (iF:oD (NM.mk 7 t l c [(NM.mk kx tx lx cx ksx ax mx)] a m).tr≤1000000) (h9:kx=9) (hk:ksx=[]) :
  cf 88 #[aB 7 t l c (.slice a 1 m)] (af (oP n (NM.mk 7 t l c [(NM.mk kx tx lx cx ksx ax mx)] a m).tr)) (oD (NM.mk 7 t l c [(NM.mk kx tx lx cx ksx ax mx)] a m).tr) w:=by
 obtain ⟨kb,ko,rfl,bk,hm1,hlm,Fx,ggx⟩:=fp hh;have HS:=hid (show af (oP n (NM.mk 7 t l c [(NM.mk kx tx lx cx ksx ax mx)] (some ⟨kb,ko,none⟩) m).tr)=t++58::32::tx∧oD (NM.mk 7 t l c [(NM.mk kx tx lx cx ksx ax mx)] (some ⟨kb,ko,none⟩) m).tr=0 by
  rw [aq,ai,ar,bP,di];constructor
  ·show af ((1,t)::sg 58::sp::(1,tx)::[])=_;simp [af,df,sg,sp]
  ·rw [bj,co];show max (oD (NM.mk kx tx lx cx ksx ax mx).tr) 0=0;rw [aq,di,h9,hk];show max (b9 (oDs (NM.trs []))) 0=0;rw [ar,co];rfl)
 rw [HS.out.1] at aF;rw [HS.out.2] at iF;obtain ⟨W0,hW0,hb0,hn0,hr0⟩:=an2 w (.cells #[.int .i64 7,.string (bs t),.int .i64 l,.int .i64 c,.slice (some ⟨kb,ko,none⟩) 1 m] 27) (.cells #[.string ⟨#[]⟩,.int .i64 0] 70);have HB:=hid hb0;have HR:=hid hr0;have HN:=hid hn0;have hlt1:w.heap.size+1<W0.heap.size:=(aGe.1 hr0).1;have hlt0:w.heap.size<W0.heap.size:=by omega
 have aL:t.length+2+tx.length≤140737488351232:=by simp only [lAp,lCo] at aF;omega
 obtain ⟨z0,z1,z2,z3,z4⟩:=r5 HN.out;obtain ⟨r0,r1,fr0,fr1⟩:=de HR.out;obtain ⟨yx0,yx1,yx2,yx3,yx4⟩:=aj (Fx.out.keep (HB.out.block kb bk));have hkl:kb<W0.heap.size:=by have:=HB.out.size;omega
 clear hb0 hn0 hr0;clear hh ggx h9 hk;unfold cf at *;go_enter Tryz.func88,Tryz.ntmps88
 go_wp2_with fail;rw [← hW0.out];clear hW0;refine aH (S:=fun W=>Below W0.heap.size W0 W) (by kernel_rfl) ?_;have hS:Below W0.heap.size W0 W0.drew:=dS.below ⟨1,rfl⟩;refine zdA 0 (some 13) (.pointer (some ⟨w.heap.size,1,none⟩)) hS ?_
 try simp only [aPu,sA,sB,sC]
 refine zdD 1 (some 14) (.string (bs t)) hS ?_ (hv:=fun W hW=>by have q:=Below.keeps hW z1;go_simp)
 try simp only [aPu,sA,sB,sC]
 refine zdD 2 (some 15) (.string (bs (t++[58,32]))) hS ?_ (hv:=fun W hW=>by first | (go_simp;done) | (go_simp;omega))
 try simp only [aPu,sA,sB,sC]
 refine zdA 3 (some 16) (.slice (some ⟨kb,ko,none⟩) 1 m) hS ?_
 try simp only [aPu,sA,sB,sC]
 refine zdD 4 (some 17) (.pointer (some ⟨kb,ko,none⟩)) hS ?_ (hv:=fun W hW=>by go_simp)
 try simp only [aPu,sA,sB,sC]
 refine zdA 5 (some 18) (.pointer (some ⟨kb,ko+1,none⟩)) hS ?_
 try simp only [aPu,sA,sB,sC]
 refine zdD 6 (some 19) (.string (bs tx)) hS ?_ (hv:=fun W hW=>by have q:=Below.keeps hW yx1;go_simp)
 try simp only [aPu,sA,sB,sC]
 refine zdD 7 (some 20) (.string (bs (t++58::32::tx))) hS ?_ (hv:=fun W hW=>by first | (go_simp;done) | (go_simp;omega))
 try simp only [aPu,sA,sB,sC]
 refine zdD 8 (some 21) (.agg #[.string (bs (t++58::32::tx)),.int .i64 0]) hS ?_ (hv:=fun W hW=>by first | rfl | (go_simp;done))
 try simp only [aPu,sA,sB,sC]
 obtain ⟨W1,hw1,hS1,rO1⟩:∃ W,Hid (W=(W0.alloc (.cells #[.string ⟨#[]⟩,.int .i64 0] 70)).drew)∧Below W0.heap.size W0 W∧W.heap[W0.heap.size]? = some (.cells #[.string ⟨#[]⟩,.int .i64 0] 70 (0,0)):=⟨_,hid rfl,zdy (ag W0 _) (dS.below ⟨1,rfl⟩),hAn W0 _⟩;refine zdC 9 ?_;intro K hK;go_simp;rw [← hw1.out];refine hK.out _ _ hS1 ?_;clear hK K hS hw1
 try simp only [aPu,sA,sB,sC]
 obtain ⟨W2,hw2,hS2,rO2⟩:∃ W,Hid (W=(W1.setCell ⟨W0.heap.size,0,none⟩ (.string (bs (t++58::32::tx)))).setCell ⟨W0.heap.size,1,none⟩ (.int .i64 0))∧Below W0.heap.size W0 W∧W.heap[W0.heap.size]? = some (.cells #[.string (bs (t++58::32::tx)),.int .i64 0] 70 (0,0)):=⟨_,hid rfl,aK hS1 (nRe _) _ _,ff rO1 _ _⟩;obtain ⟨o0,o1,fo0,fo1⟩:=de rO1;refine zdC 10 ?_;intro K hK;go_simp;rw [← hw2.out];refine hK.out _ _ hS2 ?_;clear hK K hw2 o0 o1 fo0 fo1 rO1 hS1
 try simp only [aPu,sA,sB,sC]
 refine zdH ?_;have HBq:=bc HB hS2;have HRq:=hid ((hS2.block _ hlt1).trans HR.out);have HOq:=hid rO2;have hltq:w.heap.size+1<W2.heap.size:=by have:=hS2.size;omega
 have hltO:W0.heap.size<W2.heap.size:=(aGe.1 rO2).1;obtain ⟨r0,r1,fr0,fr1⟩:=de HRq.out;obtain ⟨o0,o1,fo0,fo1⟩:=de HOq.out;clear hS2 rO2;go_wp2_with fail;exact br Tryz.underlying70 (w.heap.size+1) (ff HRq.out _ _) ⟨by rw [HS.out.1,HS.out.2];rfl,aK HBq.out (Nat.le_succ _) _ _⟩
theorem zcG (t:List UInt8) (l c:Int) (kx:Int) (tx:List UInt8) (lx cx:Int) (ksx:List NM) (ax:Option Addr) (mx:Nat) (ky:Int) (ty:List UInt8) (ly cy:Int) (ksy:List NM) (ay:Option Addr) (my:Nat) (a:Option Addr) (m:Nat) (n:Nat) (w:World) (hh:am aR w (.mk 7 t l c [(NM.mk kx tx lx cx ksx ax mx),(NM.mk ky ty ly cy ksy ay my)] a m)) (aF:(af (oP n (NM.mk 7 t l c [(NM.mk kx tx lx cx ksx ax mx),(NM.mk ky ty ly cy ksy ay my)] a m).tr)).length≤140737488351232) (iF:oD (NM.mk 7 t l c [(NM.mk kx tx lx cx ksx ax mx),(NM.mk ky ty ly cy ksy ay my)] a m).tr≤1000000) (h9:kx=9) (hk:ksx=[]) (IHy:gM (NM.mk ky ty ly cy ksy ay my)) :
  cf 88 #[aB 7 t l c (.slice a 2 m)] (af (oP n (NM.mk 7 t l c [(NM.mk kx tx lx cx ksx ax mx),(NM.mk ky ty ly cy ksy ay my)] a m).tr)) (oD (NM.mk 7 t l c [(NM.mk kx tx lx cx ksx ax mx),(NM.mk ky ty ly cy ksy ay my)] a m).tr) w:=by
 obtain ⟨kb,ko,rfl,bk,hm1,hlm,Fx,ggx,Fy,ggy⟩:=iM hh;have HS:=hid (show af (oP n (NM.mk 7 t l c [(NM.mk kx tx lx cx ksx ax mx),(NM.mk ky ty ly cy ksy ay my)] (some ⟨kb,ko,none⟩) m).tr)=(t++58::32::tx)++([32,61,32]++(af (oP n (NM.mk ky ty ly cy ksy ay my).tr)++[]))∧oD (NM.mk 7 t l c [(NM.mk kx tx lx cx ksx ax mx),(NM.mk ky ty ly cy ksy ay my)] (some ⟨kb,ko,none⟩) m).tr=max 0 (max 0 (max (oD (NM.mk ky ty ly cy ksy ay my).tr) 0)) by
  rw [aq,ai,ai,ar,bP,di];constructor
  ·rw [aY,aY,dH];show af ((1,t)::sg 58::sp::(1,tx)::(sp::sg 61::sp::oP n (NM.mk ky ty ly cy ksy ay my).tr))=_;simp [af,df,sg,sp]
  ·rw [bj,bj,co];show max (oD (NM.mk kx tx lx cx ksx ax mx).tr) (max (oD (NM.mk ky ty ly cy ksy ay my).tr) 0)=_;have e:oD (NM.mk kx tx lx cx ksx ax mx).tr=0:=by
    rw [aq,di,h9,hk];show b9 (oDs (NM.trs []))=0;rw [ar,co];rfl
   rw [e];omega)
 rw [HS.out.1] at aF;rw [HS.out.2] at iF;obtain ⟨W0,hW0,hb0,hn0,hr0⟩:=an2 w (.cells #[.int .i64 7,.string (bs t),.int .i64 l,.int .i64 c,.slice (some ⟨kb,ko,none⟩) 2 m] 27) (.cells #[.string ⟨#[]⟩,.int .i64 0] 70);have HB:=hid hb0;have HR:=hid hr0;have HN:=hid hn0;have hlt1:w.heap.size+1<W0.heap.size:=(aGe.1 hr0).1;have hlt0:w.heap.size<W0.heap.size:=by omega
 have HXy:=hid (fun W (hW:Below W0.heap.size W0 W)=>IHy n W ((ggy.out.below hb0).below hW) (by simp only [lAp,lCo,lNi] at aF;omega) (by omega));have HJ:=hid (dK [(t++58::32::tx,0),([32,61,32],0),(af (oP n (NM.mk ky ty ly cy ksy ay my).tr),oD (NM.mk ky ty ly cy ksy ay my).tr)] _ rfl 3 rfl aF (by simp));generalize af (oP n (NM.mk ky ty ly cy ksy ay my).tr)=sy at *;generalize oD (NM.mk ky ty ly cy ksy ay my).tr=dy at *;have aL:t.length+2+tx.length≤140737488351232:=by simp only [lAp,lCo] at aF;omega
 obtain ⟨z0,z1,z2,z3,z4⟩:=r5 HN.out;obtain ⟨r0,r1,fr0,fr1⟩:=de HR.out;obtain ⟨yx0,yx1,yx2,yx3,yx4⟩:=aj (Fx.out.keep (HB.out.block kb bk));obtain ⟨yy0,yy1,yy2,yy3,yy4⟩:=aj (Fy.out.keep (HB.out.block kb bk));have hkl:kb<W0.heap.size:=by have:=HB.out.size;omega
 clear hb0 hn0 hr0;clear hh ggx ggy h9 hk IHy;unfold cf at *;go_enter Tryz.func88,Tryz.ntmps88
 go_wp2_with fail;rw [← hW0.out];clear hW0;refine aH (S:=fun W=>Below W0.heap.size W0 W) (by kernel_rfl) ?_;have hS:Below W0.heap.size W0 W0.drew:=dS.below ⟨1,rfl⟩;refine zdA 0 (some 13) (.pointer (some ⟨w.heap.size,1,none⟩)) hS ?_
 try simp only [aPu,sA,sB,sC]
 refine zdD 1 (some 14) (.string (bs t)) hS ?_ (hv:=fun W hW=>by have q:=Below.keeps hW z1;go_simp)
 try simp only [aPu,sA,sB,sC]
 refine zdD 2 (some 15) (.string (bs (t++[58,32]))) hS ?_ (hv:=fun W hW=>by first | (go_simp;done) | (go_simp;omega))
 try simp only [aPu,sA,sB,sC]
 refine zdA 3 (some 16) (.slice (some ⟨kb,ko,none⟩) 2 m) hS ?_
 try simp only [aPu,sA,sB,sC]
 refine zdD 4 (some 17) (.pointer (some ⟨kb,ko,none⟩)) hS ?_ (hv:=fun W hW=>by go_simp)
 try simp only [aPu,sA,sB,sC]
 refine zdA 5 (some 18) (.pointer (some ⟨kb,ko+1,none⟩)) hS ?_
 try simp only [aPu,sA,sB,sC]
 refine zdD 6 (some 19) (.string (bs tx)) hS ?_ (hv:=fun W hW=>by have q:=Below.keeps hW yx1;go_simp)
 try simp only [aPu,sA,sB,sC]
 refine zdD 7 (some 20) (.string (bs (t++58::32::tx))) hS ?_ (hv:=fun W hW=>by first | (go_simp;done) | (go_simp;omega))
 try simp only [aPu,sA,sB,sC]
 refine zdD 8 (some 21) (.agg #[.string (bs (t++58::32::tx)),.int .i64 0]) hS ?_ (hv:=fun W hW=>by first | rfl | (go_simp;done))
 try simp only [aPu,sA,sB,sC]
 obtain ⟨W1,hw1,hS1,rO1⟩:∃ W,Hid (W=(W0.alloc (.cells #[.string ⟨#[]⟩,.int .i64 0] 70)).drew)∧Below W0.heap.size W0 W∧W.heap[W0.heap.size]? = some (.cells #[.string ⟨#[]⟩,.int .i64 0] 70 (0,0)):=⟨_,hid rfl,zdy (ag W0 _) (dS.below ⟨1,rfl⟩),hAn W0 _⟩;refine zdC 9 ?_;intro K hK;go_simp;rw [← hw1.out];refine hK.out _ _ hS1 ?_;clear hK K hS hw1
 try simp only [aPu,sA,sB,sC]
 obtain ⟨W2,hw2,hS2,rO2⟩:∃ W,Hid (W=(W1.setCell ⟨W0.heap.size,0,none⟩ (.string (bs (t++58::32::tx)))).setCell ⟨W0.heap.size,1,none⟩ (.int .i64 0))∧Below W0.heap.size W0 W∧W.heap[W0.heap.size]? = some (.cells #[.string (bs (t++58::32::tx)),.int .i64 0] 70 (0,0)):=⟨_,hid rfl,aK hS1 (nRe _) _ _,ff rO1 _ _⟩;obtain ⟨o0,o1,fo0,fo1⟩:=de rO1;refine zdC 10 ?_;intro K hK;go_simp;rw [← hw2.out];refine hK.out _ _ hS2 ?_;clear hK K hw2 o0 o1 fo0 fo1 rO1 hS1
 try simp only [aPu,sA,sB,sC]
 refine zdH ?_;have HBq:=bc HB hS2;have HRq:=hid ((hS2.block _ hlt1).trans HR.out);have HOq:=hid rO2;have hltq:w.heap.size+1<W2.heap.size:=by have:=hS2.size;omega
 have hltO:W0.heap.size<W2.heap.size:=(aGe.1 rO2).1;obtain ⟨o0,o1,fo0,fo1⟩:=de HOq.out;obtain ⟨yy0,yy1,yy2,yy3,yy4⟩:=aj (Fy.out.keep (HBq.out.block kb bk));have hklq:kb<W2.heap.size:=by have:=HBq.out.size;omega
 go_wp2_with fail;refine ba 6 (by kernel_rfl) (by kernel_rfl) ?_;simp only [List.take_succ_cons,List.take_zero,List.drop_succ_cons,List.drop_zero]
 repeat (refine WQ.step (fun K hK=>?_);go_simp;first | (refine hK _ ?_;clear hK K) | (apply Exists.intro;refine ⟨fun W hW=>?_,hK _ ?_⟩;(first | (go_at_call 88;exact zdB hW (HXy.out W (hS2.trans (hW.mono hS2.size)))) | (first | with_reducible rfl | (obtain ⟨zz0,zz1,zz2,zz3,zz4⟩:=kp5 hW o0 o1 yy0 yy1 yy2;have zz5:=Below.keeps hW yy3;have zz6:=Below.keeps hW yy4;go_simp;first | rfl | exact ⟨rfl,rfl⟩ | (rw [if_neg (by omega)];exact ⟨rfl,rfl⟩))));clear hK K))
 refine WQ.nil ?_;intro wq hwq;go_wp2_with fail;refine (HJ.out _).mono ?_;rintro e w3 ⟨rfl,hb3⟩;have HB3:=hid (zdy HBq.out (zdy hwq hb3));have HR3:=hid ((hb3.block _ (by have:=hwq.size;omega)).trans ((hwq.block _ hltq).trans HRq.out));have HO3:=hid ((hb3.block _ (by have:=hwq.size;omega)).trans ((hwq.block _ hltO).trans HOq.out));clear hb3 hwq hS2 rO2;obtain ⟨o0,o1,fo0,fo1⟩:=de HO3.out;obtain ⟨r0,r1,fr0,fr1⟩:=de HR3.out;go_wp2_with fail;have hne:w.heap.size+1≠W0.heap.size:=by omega
 exact br Tryz.underlying70 (w.heap.size+1) (ff ((cZ _ _ _ _ _ hne).trans HR3.out) _ _) ⟨by rw [HS.out.1,HS.out.2];rfl,aK (aK HB3.out (by omega) _ _) (Nat.le_succ _) _ _⟩
end Go.Proofs.YtfgiihpopngbkaaGreatDoor
