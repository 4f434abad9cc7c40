/- Lemmas and walks that the statement needs: RefSame, PrintsLaw, FrameNode. -/
import Derived.Test.YtfgiihpopngbkaaGreatDoorP25
import Derived.Deep.Fields
import Derived.ChangeSame
import Derived.Lib.SmallJoins
namespace Go.Proofs.YtfgiihpopngbkaaGreatDoor
set_option maxRecDepth 100000
set_option maxHeartbeats 8000000
open Go.RowKit
open Nat renaming le_refl→nRe
open _root_.Array renaming getElem?_eq_some_iff→aGe
def pg (N:Nat):Prop:=∀ (k:Int) (t:List UInt8) (l c:Int) (ks:List NM) (a:Option Addr) (m:Nat) (k':Int) (t':List UInt8) (l' c':Int) (ks':List NM) (a':Option Addr) (m':Nat),(NM.mk k t l c ks a m).hi≤N→∀ w,am aR w (.mk k t l c ks a m)→am aR w (.mk k' t' l' c' ks' a' m') →
    Calls Tryz.prog 10 #[aB k t l c (.slice a ks.length m),aB k' t' l' c' (.slice a' ks'.length m')] w fun e w'=>e=.returned (.bool (gJ (NM.mk k t l c ks a m).tr (NM.mk k' t' l' c' ks' a' m').tr))∧Below w.heap.size w w'
theorem qA (N:Nat) (IH:pg N):pg (N+1):=by
 intro k t l c ks a m k' t' l' c' ks' a' m' hN w hH hH';have hl:=hH.kidsAt;have hl':=hH'.kidsAt;rw [ij] at hN;have HC:=hid (fun j (hj:j<ks.length) (hj':j<ks'.length) W (hW:Below w.heap.size w W)=>show Calls Tryz.prog 10 #[aB ks[j].k ks[j].t ks[j].l ks[j].c ks[j].sl,aB ks'[j].k ks'[j].t ks'[j].l ks'[j].c ks'[j].sl] W (fun e w'=>e=.returned (.bool (gJ ks[j].tr ks'[j].tr))∧Below W.heap.size W w') by
  have h1:=(hl.below hW).get j hj;have h1':=(hl'.below hW).get j hj';have h2:=iq (ks:=ks) (N:=N) (by omega) j hj;generalize ks[j]=x at *;generalize ks'[j]=y at *;cases x with
  | mk p q r s u v z =>
  cases y with
  | mk p' q' r' s' u' v' z'=>exact IH p q r s u v z p' q' r' s' u' v' z' h2 W h1 h1')
 have HS:=hid (fun W (hW:Below w.heap.size w W)=>hl.below hW);have HS':=hid (fun W (hW:Below w.heap.size w W)=>hl'.below hW);have hln:ks.length≤m∧m≤maxLen:=by obtain ⟨_,_,e,h1,h2,-⟩:=hl.nodes;simp only [Value.slice.injEq] at e;obtain ⟨-,-,rfl⟩:=e;exact ⟨h1,h2⟩
 have hln':ks'.length≤m'∧m'≤maxLen:=by obtain ⟨_,_,e,h1,h2,-⟩:=hl'.nodes;simp only [Value.slice.injEq] at e;obtain ⟨-,-,rfl⟩:=e;exact ⟨h1,h2⟩
 unfold maxLen at hln hln';obtain ⟨iI,hlm⟩:=hln;obtain ⟨hlc',hlm'⟩:=hln';have HBA:=hid (lG w k t l c (.slice a ks.length m) (.cells #[.int .i64 k',.string (bs t'),.int .i64 l',.int .i64 c',.slice a' ks'.length m'] 27 (0,0)) 27 (0,0));have HBB:=hid (mN w k' t' l' c' (.slice a' ks'.length m') (.cells #[.int .i64 k,.string (bs t),.int .i64 l,.int .i64 c,.slice a ks.length m] 27 (0,0)) 27 (0,0));have hb2n:=jz w (.cells #[.int .i64 k,.string (bs t),.int .i64 l,.int .i64 c,.slice a ks.length m] 27 (0,0)) (.cells #[.int .i64 k',.string (bs t'),.int .i64 l',.int .i64 c',.slice a' ks'.length m'] 27 (0,0));have hba:=HBA.out;have ac:=HBB.out;obtain ⟨a0,a1,a2,a3,a4⟩:=hba;obtain ⟨b0,b1,b2,b3,b4⟩:=ac;have HE:=hid (o9 k t (NM.trs ks) k' t' (NM.trs ks'));rw [aq,aq];clear hl hl' hH hH' hN IH;generalize gJ (.mk k t (NM.trs ks)) (.mk k' t' (NM.trs ks'))=bb at *;by_cases hc:k=k'
 case neg =>
  have HF:Hid (bb=false):=hid (by rw [HE.out];rw [decide_eq_false hc];rfl);have q:(k != k')=true:=neT hc;clear hc;go_enter Tryz.func10,Tryz.ntmps10
  go_wp2_with fail;go_ret;exact ⟨by rw [HF.out];rfl,hb2n⟩
 subst hc;by_cases hc:t=t'
 case neg =>
  have HF:Hid (bb=false):=hid (by rw [HE.out];rw [decide_eq_false hc];simp);have q:(t == t')=false:=beq_eq_false_iff_ne.2 hc;have q2:(t != t')=true:=bne_iff_ne.2 hc;clear hc;go_enter Tryz.func10,Tryz.ntmps10
  go_wp2_with fail;go_ret;exact ⟨by rw [HF.out];rfl,hb2n⟩
 subst hc;have HE1:Hid (bb=dU (NM.trs ks) (NM.trs ks')):=hid (by rw [HE.out];simp);clear HE;by_cases hc:ks.length=ks'.length
 case neg =>
  have HF:Hid (bb=false):=hid (by rw [HE1.out,oX hc]);have q:((ks.length:Int) != (ks'.length:Int))=true:=neT (by omega);clear hc;go_enter Tryz.func10,Tryz.ntmps10
  go_wp2_with fail;go_ret;exact ⟨by rw [HF.out];rfl,hb2n⟩
 have hll:=hid hc;have u1:((ks.length:Int) != (ks'.length:Int))=false:=neF (by omega);have hll1:ks.length≤ks'.length:=by omega
 clear hc;go_enter Tryz.func10,Tryz.ntmps10
 go_wp2_with fail;go_loopw [30] (fun i wr=>∃ j:Nat,j≤ks.length∧i=.int .i64 j∧Hid (dU (NM.trs (ks.take j)) (NM.trs (ks'.take j))=true)∧Below w.heap.size w wr∧rm wr w.heap.size k t l c (.slice a ks.length m)∧rm wr (w.heap.size+1) k t l' c' (.slice a' ks'.length m')) (fun i _=>ks.length - (intOf i).toNat)
 case atStart=>exact ⟨0,by omega,rfl,hid (by simp [ar,kV]),hb2n,HBA.out,HBB.out⟩
 case round =>
  obtain ⟨j,hj,rfl,HA,hbw,hba,ac⟩:=hrel;have HXA:=hid hba;have HXB:=hid ac;clear a0 a1 a2 a3 a4 b0 b1 b2 b3 b4;obtain ⟨a0,a1,a2,a3,a4⟩:=hba;obtain ⟨b0,b1,b2,b3,b4⟩:=ac;by_cases aL:j<ks.length
  ·have hlt':j<ks'.length:=by omega
   obtain ⟨la2,lc2,hv,-,-,hx⟩:=(HS.out _ hbw).nodes;obtain ⟨lb,lo,rfl,hlb,cw⟩:=hx j aL;obtain ⟨rfl,rfl⟩:a=some ⟨lb,lo,none⟩∧m=lc2:=by simpa using hv
   obtain ⟨p0,p1,p2,p3,p4⟩:=cw j aL;clear hx hv cw;obtain ⟨la2',lc2',hv,-,-,hx⟩:=(HS'.out _ hbw).nodes;obtain ⟨lb',lo',rfl,hlb',cw⟩:=hx j hlt';obtain ⟨rfl,rfl⟩:a'=some ⟨lb',lo',none⟩∧m'=lc2':=by simpa using hv
   obtain ⟨r0,r1,r2,r3,r4⟩:=cw j hlt';clear hx hv cw;have HCj:=hid (fun W hW=>HC.out j aL hlt' W (zdy hbw hW));have HBad:=hid (fun h=>ol (l:=ks) (l':=ks') j aL hlt' h);have HNx:=hid (fun h=>m7 (l:=ks) (l':=ks') j aL hlt' HA.out h);generalize gJ ks[j].tr ks'[j].tr=sb at *;generalize ks[j].k=xk at *;generalize ks[j].t=xt at *;generalize ks[j].l=xl at *;generalize ks[j].c=xc at *;generalize ks[j].sl=xs at *;generalize ks'[j].k=yk at *;generalize ks'[j].t=yt at *;generalize ks'[j].l=yl at *;generalize ks'[j].c=yc at *;generalize ks'[j].sl=ys at *;go_wp2_with fail;refine jt (by kernel_rfl) (by kernel_rfl) ?_
   repeat (refine WQ.step (fun K hK=>?_);go_simp;first | (refine hK _ ?_;clear hK K) | (apply Exists.intro;refine ⟨fun W hW=>?_,hK _ ?_⟩;(first | (go_at_call 10;exact zdB hW (HCj.out W hW)) | (first | with_reducible rfl | (obtain ⟨zz0,zz1,zz2,zz3,zz4⟩:=kp5 hW a0 a1 a2 a3 a4;obtain ⟨zz5,zz6,zz7,zz8,zz9⟩:=kp5 hW b0 b1 b2 b3 b4;obtain ⟨zz10,zz11,zz12,zz13,zz14⟩:=kp5 hW p0 p1 p2 p3 p4;obtain ⟨zz15,zz16,zz17,zz18,zz19⟩:=kp5 hW r0 r1 r2 r3 r4;go_simp;first | rfl | exact ⟨rfl,rfl⟩ | (rw [if_neg (by omega)];exact ⟨rfl,rfl⟩))));clear hK K))
   refine WQ.nil ?_;intro wq hwq;have hbq:=zdy hbw hwq;have hxa:=HXA.out.keeps hwq;have hxb:=HXB.out.keeps hwq;cases sb with
   | true =>
     have HN:=hid (HNx.out rfl);go_wp2_with fail;exact ⟨⟨j+1,by omega,by go_num,HN,hbq,hxa,hxb⟩,by simp [intOf];omega⟩
   | false =>
     have HF:Hid (bb=false):=hid (by rw [HE1.out];exact HBad.out rfl);go_wp2_with fail;go_ret;exact ⟨by rw [HF.out];rfl,hbq⟩
  ·obtain rfl:j=ks.length:=by omega
   have HF:Hid (bb=true):=hid (by rw [HE1.out];have:=HA.out;rwa [List.take_length,hll.out,List.take_length] at this);go_wp2_with fail;go_ret;exact ⟨by rw [HF.out];rfl,hbw⟩
theorem nt:∀ N,pg N
 | 0=>by
   intro k t l c ks a m k' t' l' c' ks' a' m' hN;rw [ij] at hN;omega
 | N+1=>qA N (nt N)
theorem ry (k:Int) (t:List UInt8) (l c:Int) (ks:List NM) (a:Option Addr) (m:Nat) (k':Int) (t':List UInt8) (l' c':Int) (ks':List NM) (a':Option Addr) (m':Nat) (w:World) (h:am aR w (.mk k t l c ks a m)) (h':am aR w (.mk k' t' l' c' ks' a' m')) :
  Calls Tryz.prog 10 #[aB k t l c (.slice a ks.length m),aB k' t' l' c' (.slice a' ks'.length m')] w fun e w'=>e=.returned (.bool (gJ (NM.mk k t l c ks a m).tr (NM.mk k' t' l' c' ks' a' m').tr))∧Below w.heap.size w w' :=
 nt _ k t l c ks a m k' t' l' c' ks' a' m' (nRe _) w h h'
theorem ct {w w':World} {b:Nat} {o:Obj} (h:w.heap[b]? = some o) (hb:Below w.heap.size w w'):w'.heap[b]? = some o:=(hb.block b (aGe.1 h).1).trans h
theorem tZ (k:Int) (t:List UInt8) (l c:Int) (ks:List NM) (a:Option Addr) (m:Nat) (k2:Int) (t2:List UInt8) (l2 c2:Int) (ks2:List NM) (a2:Option Addr) (m2:Nat) (hsm:(NM.mk k t l c ks a m).small) (hsm2:(NM.mk k2 t2 l2 c2 ks2 a2 m2).small) (w:World) (hw:bB w) (hh:am aR w (NM.mk k t l c ks a m)) (hh2:am aR w (NM.mk k2 t2 l2 c2 ks2 a2 m2)) :
  Calls Tryz.prog 4 #[aB k t l c (.slice a ks.length m),aB k2 t2 l2 c2 (.slice a2 ks2.length m2)] w fun e w'=>e=.returned (.bool true)∧Below w.heap.size w w':=by
 obtain ⟨w1,hwh,hb1,hr1,hq1⟩:=an2 w (.cells #[.int .i64 k,.string (bs t),.int .i64 l,.int .i64 c,.slice a ks.length m] 27) (.cells #[.int .i64 k2,.string (bs t2),.int .i64 l2,.int .i64 c2,.slice a2 ks2.length m2] 27);have HB1:=hid hb1;have HR1:=hid hr1;have HQ1:=hid hq1;have HW1:=hid (hw.below hb1);have HX1:=hid (hh.below hb1);have HY1:=hid (hh2.below hb1);have Ha:=hid (xB w1 HW1.out);have HWA:=hid (fun W (hH:am aR W (NM.mk k t l c ks a m))=>nX k t l c ks a m hsm W hH);have HWB:=hid (fun W (hH:am aR W (NM.mk k2 t2 l2 c2 ks2 a2 m2))=>nX k2 t2 l2 c2 ks2 a2 m2 hsm2 W hH);clear hb1 hr1 hq1 hw hh hh2;have bC:=nb;by_cases hba:4000<cE (NM.mk k t l c ks a m).tr 0
 ·generalize cE (NM.mk k t l c ks a m).tr 0=wa at *;generalize cE (NM.mk k2 t2 l2 c2 ks2 a2 m2).tr 0=wb at *;have hba2:(4000:Int)<(wa:Int):=by omega
  go_enter Tryz.func4,Tryz.ntmps4
  go_wp2_with fail;rw [← hwh.out];clear hwh;refine Ha.out.mono ?_;rintro e w2 ⟨rfl,hb2⟩;have HB2:=bc HB1 hb2;have HR2:=hid (ct HR1.out hb2);have HQ2:=hid (ct HQ1.out hb2);have HW2:=hid (HW1.out.below hb2);have HX2:=hid (HX1.out.below hb2);have HY2:=hid (HY1.out.below hb2);clear hb2 HB1 HR1 HQ1 HW1 HX1 HY1;clear Ha;obtain ⟨z0,z1,z2,z3,z4⟩:=r5 HR2.out;obtain ⟨y0,y1,y2,y3,y4⟩:=r5 HQ2.out;have hl2:w.heap.size+1<w2.heap.size:=(aGe.1 HQ2.out).1;have hm2:w.heap.size<w2.heap.size:=by omega
  go_wp2_with fail;clear z0 z1 z2 z3 z4 y0 y1 y2 y3 y4;refine (HWA.out _ HX2.out).mono ?_;rintro e w3 ⟨rfl,hb3⟩;have HB3:=bc HB2 hb3;have HR3:=hid (ct HR2.out hb3);have HQ3:=hid (ct HQ2.out hb3);have HW3:=hid (HW2.out.below hb3);have HX3:=hid (HX2.out.below hb3);have HY3:=hid (HY2.out.below hb3);clear hb3 HB2 HR2 HQ2 HW2 HX2 HY2;clear HWA hl2 hm2;obtain ⟨z0,z1,z2,z3,z4⟩:=r5 HR3.out;obtain ⟨y0,y1,y2,y3,y4⟩:=r5 HQ3.out;have hl3:w.heap.size+1<w3.heap.size:=(aGe.1 HQ3.out).1;have hm3:w.heap.size<w3.heap.size:=by omega
  go_wp2_with fail;go_ret;exact ⟨rfl,HB3.out⟩
 by_cases ac:4000<cE (NM.mk k2 t2 l2 c2 ks2 a2 m2).tr 0
 ·generalize cE (NM.mk k t l c ks a m).tr 0=wa at *;generalize cE (NM.mk k2 t2 l2 c2 ks2 a2 m2).tr 0=wb at *;have hna:¬ ((4000:Int)<(wa:Int)):=by omega
  have hbb2:(4000:Int)<(wb:Int):=by omega
  go_enter Tryz.func4,Tryz.ntmps4
  go_wp2_with fail;rw [← hwh.out];clear hwh;refine Ha.out.mono ?_;rintro e w2 ⟨rfl,hb2⟩;have HB2:=bc HB1 hb2;have HR2:=hid (ct HR1.out hb2);have HQ2:=hid (ct HQ1.out hb2);have HW2:=hid (HW1.out.below hb2);have HX2:=hid (HX1.out.below hb2);have HY2:=hid (HY1.out.below hb2);clear hb2 HB1 HR1 HQ1 HW1 HX1 HY1;clear Ha;obtain ⟨z0,z1,z2,z3,z4⟩:=r5 HR2.out;obtain ⟨y0,y1,y2,y3,y4⟩:=r5 HQ2.out;have hl2:w.heap.size+1<w2.heap.size:=(aGe.1 HQ2.out).1;have hm2:w.heap.size<w2.heap.size:=by omega
  go_wp2_with fail;clear z0 z1 z2 z3 z4 y0 y1 y2 y3 y4;refine (HWA.out _ HX2.out).mono ?_;rintro e w3 ⟨rfl,hb3⟩;have HB3:=bc HB2 hb3;have HR3:=hid (ct HR2.out hb3);have HQ3:=hid (ct HQ2.out hb3);have HW3:=hid (HW2.out.below hb3);have HX3:=hid (HX2.out.below hb3);have HY3:=hid (HY2.out.below hb3);clear hb3 HB2 HR2 HQ2 HW2 HX2 HY2;clear HWA hl2 hm2;obtain ⟨z0,z1,z2,z3,z4⟩:=r5 HR3.out;obtain ⟨y0,y1,y2,y3,y4⟩:=r5 HQ3.out;have hl3:w.heap.size+1<w3.heap.size:=(aGe.1 HQ3.out).1;have hm3:w.heap.size<w3.heap.size:=by omega
  go_wp2_with fail;clear z0 z1 z2 z3 z4 y0 y1 y2 y3 y4;refine (HWB.out _ HY3.out).mono ?_;rintro e w4 ⟨rfl,hb4⟩;have HB4:=bc HB3 hb4;have HR4:=hid (ct HR3.out hb4);have HQ4:=hid (ct HQ3.out hb4);have HW4:=hid (HW3.out.below hb4);have HX4:=hid (HX3.out.below hb4);have HY4:=hid (HY3.out.below hb4);clear hb4 HB3 HR3 HQ3 HW3 HX3 HY3;clear HWB hl3 hm3;obtain ⟨z0,z1,z2,z3,z4⟩:=r5 HR4.out;obtain ⟨y0,y1,y2,y3,y4⟩:=r5 HQ4.out;have hl4:w.heap.size+1<w4.heap.size:=(aGe.1 HQ4.out).1;have hm4:w.heap.size<w4.heap.size:=by omega
  go_wp2_with fail;go_ret;exact ⟨rfl,HB4.out⟩
 have hwf:=ll (NM.mk k t l c ks a m) 0 (by omega);have hsz:=wH (NM.mk k t l c ks a m).tr 0 (by omega);rw [aq,uW] at hsz;obtain ⟨⟨rs,re⟩,hR⟩:∃ R,fD (NM.mk k t l c ks a m).tr=R:=⟨_,rfl⟩;have HP:=hid (fun W (hW:bB W) (hH:am aR W (NM.mk k t l c ks a m))=>(show Calls Tryz.prog 12 #[aB k t l c (.slice a ks.length m)] W (fun e w'=>e=.returned (.tuple #[.string (bs rs),.int .i64 (re:Int)])∧Below W.heap.size W w') by
  have:=pP k t l c ks a m W hW hH hwf.1 (by have:=hwf.2;omega) (fun h=>sD h (by omega));rw [hR] at this;exact this))
 have HPR:=hid (fun W (hW:bB W) (hH:am aR W (NM.mk k t l c ks a m))=>qN k t l c ks a m W hW hH hwf.1 (by have:=hwf.2;omega) (fun h=>sD h (by omega)) (rs,re) hR);have HSab:=hid (fun W hX hY=>rD k t l c ks a m k2 t2 l2 c2 ks2 a2 m2 W hX hY);have HTab:=hid (fun W hX hY=>ry k t l c ks a m k2 t2 l2 c2 ks2 a2 m2 W hX hY);have HSaa:=hid (fun W hX=>rD k t l c ks a m k t l c ks a m W hX hX);have haa:gJ (NM.mk k t l c ks a m).tr (NM.mk k t l c ks a m).tr=true:=lF.2 rfl;rw [haa] at HSaa;generalize gJ (NM.mk k t l c ks a m).tr (NM.mk k2 t2 l2 c2 ks2 a2 m2).tr=sb at *;clear haa hR hwf hsz;generalize cE (NM.mk k t l c ks a m).tr 0=wa at *;generalize cE (NM.mk k2 t2 l2 c2 ks2 a2 m2).tr 0=wb at *;have q1:(rs == rs)=true:=by simp
 have q2:((re:Int) == (re:Int))=true:=by simp
 have hna:¬ ((4000:Int)<(wa:Int)):=by omega
 have hnb:¬ ((4000:Int)<(wb:Int)):=by omega
 cases sb with
 | true =>
   go_enter Tryz.func4,Tryz.ntmps4
   go_wp2_with fail;rw [← hwh.out];clear hwh;refine Ha.out.mono ?_;rintro e w2 ⟨rfl,hb2⟩;have HB2:=bc HB1 hb2;have HR2:=hid (ct HR1.out hb2);have HQ2:=hid (ct HQ1.out hb2);have HW2:=hid (HW1.out.below hb2);have HX2:=hid (HX1.out.below hb2);have HY2:=hid (HY1.out.below hb2);clear hb2 HB1 HR1 HQ1 HW1 HX1 HY1;clear Ha;obtain ⟨z0,z1,z2,z3,z4⟩:=r5 HR2.out;obtain ⟨y0,y1,y2,y3,y4⟩:=r5 HQ2.out;have hl2:w.heap.size+1<w2.heap.size:=(aGe.1 HQ2.out).1;have hm2:w.heap.size<w2.heap.size:=by omega
   go_wp2_with fail;clear z0 z1 z2 z3 z4 y0 y1 y2 y3 y4;refine (HWA.out _ HX2.out).mono ?_;rintro e w3 ⟨rfl,hb3⟩;have HB3:=bc HB2 hb3;have HR3:=hid (ct HR2.out hb3);have HQ3:=hid (ct HQ2.out hb3);have HW3:=hid (HW2.out.below hb3);have HX3:=hid (HX2.out.below hb3);have HY3:=hid (HY2.out.below hb3);clear hb3 HB2 HR2 HQ2 HW2 HX2 HY2;clear HWA hl2 hm2;obtain ⟨z0,z1,z2,z3,z4⟩:=r5 HR3.out;obtain ⟨y0,y1,y2,y3,y4⟩:=r5 HQ3.out;have hl3:w.heap.size+1<w3.heap.size:=(aGe.1 HQ3.out).1;have hm3:w.heap.size<w3.heap.size:=by omega
   go_wp2_with fail;clear z0 z1 z2 z3 z4 y0 y1 y2 y3 y4;refine (HWB.out _ HY3.out).mono ?_;rintro e w4 ⟨rfl,hb4⟩;have HB4:=bc HB3 hb4;have HR4:=hid (ct HR3.out hb4);have HQ4:=hid (ct HQ3.out hb4);have HW4:=hid (HW3.out.below hb4);have HX4:=hid (HX3.out.below hb4);have HY4:=hid (HY3.out.below hb4);clear hb4 HB3 HR3 HQ3 HW3 HX3 HY3;clear HWB hl3 hm3;obtain ⟨z0,z1,z2,z3,z4⟩:=r5 HR4.out;obtain ⟨y0,y1,y2,y3,y4⟩:=r5 HQ4.out;have hl4:w.heap.size+1<w4.heap.size:=(aGe.1 HQ4.out).1;have hm4:w.heap.size<w4.heap.size:=by omega
   go_wp2_with fail;clear z0 z1 z2 z3 z4 y0 y1 y2 y3 y4;refine (HP.out _ HW4.out HX4.out).mono ?_;rintro e w5 ⟨rfl,hb5⟩;have HB5:=bc HB4 hb5;have HR5:=hid (ct HR4.out hb5);have HQ5:=hid (ct HQ4.out hb5);have HW5:=hid (HW4.out.below hb5);have HX5:=hid (HX4.out.below hb5);have HY5:=hid (HY4.out.below hb5);clear hb5 HB4 HR4 HQ4 HW4 HX4 HY4;clear HP hl4 hm4;obtain ⟨z0,z1,z2,z3,z4⟩:=r5 HR5.out;obtain ⟨y0,y1,y2,y3,y4⟩:=r5 HQ5.out;have hl5:w.heap.size+1<w5.heap.size:=(aGe.1 HQ5.out).1;have hm5:w.heap.size<w5.heap.size:=by omega
   go_wp2_with fail;clear z0 z1 z2 z3 z4 y0 y1 y2 y3 y4;refine (HPR.out _ HW5.out HX5.out).mono ?_;rintro e w6 ⟨rfl,hb6⟩;have HB6:=bc HB5 hb6;have HR6:=hid (ct HR5.out hb6);have HQ6:=hid (ct HQ5.out hb6);have HW6:=hid (HW5.out.below hb6);have HX6:=hid (HX5.out.below hb6);have HY6:=hid (HY5.out.below hb6);clear hb6 HB5 HR5 HQ5 HW5 HX5 HY5;clear HPR hl5 hm5;obtain ⟨z0,z1,z2,z3,z4⟩:=r5 HR6.out;obtain ⟨y0,y1,y2,y3,y4⟩:=r5 HQ6.out;have hl6:w.heap.size+1<w6.heap.size:=(aGe.1 HQ6.out).1;have hm6:w.heap.size<w6.heap.size:=by omega
   go_wp2_with fail;refine jt (by kernel_rfl) (by kernel_rfl) ?_
   repeat (refine WQ.step (fun K hK=>?_);go_simp;first | (refine hK _ ?_;clear hK K) | (apply Exists.intro;refine ⟨fun W hW=>?_,hK _ ?_⟩;(first | (go_at_call 10;exact zdB hW (HTab.out W (HX6.out.below hW) (HY6.out.below hW))) | (go_at_call_of 14 (Value.string (bs t2));exact zdB hW (HSab.out W (HX6.out.below hW) (HY6.out.below hW))) | (go_at_call 14;exact zdB hW (HSaa.out W (HX6.out.below hW))) | (first | with_reducible rfl | (obtain ⟨zz0,zz1,zz2,zz3,zz4⟩:=kp5 hW z0 z1 z2 z3 z4;obtain ⟨zz5,zz6,zz7,zz8,zz9⟩:=kp5 hW y0 y1 y2 y3 y4;go_simp;first | rfl | exact ⟨rfl,rfl⟩ | (rw [if_neg (by omega)];exact ⟨rfl,rfl⟩))));clear hK K))
   refine WQ.nil ?_;intro wq hwq;go_wp2_with fail;go_ret;exact ⟨rfl,zdy HB6.out hwq⟩
 | false =>
   go_enter Tryz.func4,Tryz.ntmps4
   go_wp2_with fail;rw [← hwh.out];clear hwh;refine Ha.out.mono ?_;rintro e w2 ⟨rfl,hb2⟩;have HB2:=bc HB1 hb2;have HR2:=hid (ct HR1.out hb2);have HQ2:=hid (ct HQ1.out hb2);have HW2:=hid (HW1.out.below hb2);have HX2:=hid (HX1.out.below hb2);have HY2:=hid (HY1.out.below hb2);clear hb2 HB1 HR1 HQ1 HW1 HX1 HY1;clear Ha;obtain ⟨z0,z1,z2,z3,z4⟩:=r5 HR2.out;obtain ⟨y0,y1,y2,y3,y4⟩:=r5 HQ2.out;have hl2:w.heap.size+1<w2.heap.size:=(aGe.1 HQ2.out).1;have hm2:w.heap.size<w2.heap.size:=by omega
   go_wp2_with fail;clear z0 z1 z2 z3 z4 y0 y1 y2 y3 y4;refine (HWA.out _ HX2.out).mono ?_;rintro e w3 ⟨rfl,hb3⟩;have HB3:=bc HB2 hb3;have HR3:=hid (ct HR2.out hb3);have HQ3:=hid (ct HQ2.out hb3);have HW3:=hid (HW2.out.below hb3);have HX3:=hid (HX2.out.below hb3);have HY3:=hid (HY2.out.below hb3);clear hb3 HB2 HR2 HQ2 HW2 HX2 HY2;clear HWA hl2 hm2;obtain ⟨z0,z1,z2,z3,z4⟩:=r5 HR3.out;obtain ⟨y0,y1,y2,y3,y4⟩:=r5 HQ3.out;have hl3:w.heap.size+1<w3.heap.size:=(aGe.1 HQ3.out).1;have hm3:w.heap.size<w3.heap.size:=by omega
   go_wp2_with fail;clear z0 z1 z2 z3 z4 y0 y1 y2 y3 y4;refine (HWB.out _ HY3.out).mono ?_;rintro e w4 ⟨rfl,hb4⟩;have HB4:=bc HB3 hb4;have HR4:=hid (ct HR3.out hb4);have HQ4:=hid (ct HQ3.out hb4);have HW4:=hid (HW3.out.below hb4);have HX4:=hid (HX3.out.below hb4);have HY4:=hid (HY3.out.below hb4);clear hb4 HB3 HR3 HQ3 HW3 HX3 HY3;clear HWB hl3 hm3;obtain ⟨z0,z1,z2,z3,z4⟩:=r5 HR4.out;obtain ⟨y0,y1,y2,y3,y4⟩:=r5 HQ4.out;have hl4:w.heap.size+1<w4.heap.size:=(aGe.1 HQ4.out).1;have hm4:w.heap.size<w4.heap.size:=by omega
   go_wp2_with fail;clear z0 z1 z2 z3 z4 y0 y1 y2 y3 y4;refine (HP.out _ HW4.out HX4.out).mono ?_;rintro e w5 ⟨rfl,hb5⟩;have HB5:=bc HB4 hb5;have HR5:=hid (ct HR4.out hb5);have HQ5:=hid (ct HQ4.out hb5);have HW5:=hid (HW4.out.below hb5);have HX5:=hid (HX4.out.below hb5);have HY5:=hid (HY4.out.below hb5);clear hb5 HB4 HR4 HQ4 HW4 HX4 HY4;clear HP hl4 hm4;obtain ⟨z0,z1,z2,z3,z4⟩:=r5 HR5.out;obtain ⟨y0,y1,y2,y3,y4⟩:=r5 HQ5.out;have hl5:w.heap.size+1<w5.heap.size:=(aGe.1 HQ5.out).1;have hm5:w.heap.size<w5.heap.size:=by omega
   go_wp2_with fail;clear z0 z1 z2 z3 z4 y0 y1 y2 y3 y4;refine (HPR.out _ HW5.out HX5.out).mono ?_;rintro e w6 ⟨rfl,hb6⟩;have HB6:=bc HB5 hb6;have HR6:=hid (ct HR5.out hb6);have HQ6:=hid (ct HQ5.out hb6);have HW6:=hid (HW5.out.below hb6);have HX6:=hid (HX5.out.below hb6);have HY6:=hid (HY5.out.below hb6);clear hb6 HB5 HR5 HQ5 HW5 HX5 HY5;clear HPR hl5 hm5;obtain ⟨z0,z1,z2,z3,z4⟩:=r5 HR6.out;obtain ⟨y0,y1,y2,y3,y4⟩:=r5 HQ6.out;have hl6:w.heap.size+1<w6.heap.size:=(aGe.1 HQ6.out).1;have hm6:w.heap.size<w6.heap.size:=by omega
   go_wp2_with fail;refine jt (by kernel_rfl) (by kernel_rfl) ?_
   repeat (refine WQ.step (fun K hK=>?_);go_simp;first | (refine hK _ ?_;clear hK K) | (apply Exists.intro;refine ⟨fun W hW=>?_,hK _ ?_⟩;(first | (go_at_call 10;exact zdB hW (HTab.out W (HX6.out.below hW) (HY6.out.below hW))) | (go_at_call_of 14 (Value.string (bs t2));exact zdB hW (HSab.out W (HX6.out.below hW) (HY6.out.below hW))) | (go_at_call 14;exact zdB hW (HSaa.out W (HX6.out.below hW))) | (first | with_reducible rfl | (obtain ⟨zz0,zz1,zz2,zz3,zz4⟩:=kp5 hW z0 z1 z2 z3 z4;obtain ⟨zz5,zz6,zz7,zz8,zz9⟩:=kp5 hW y0 y1 y2 y3 y4;go_simp;first | rfl | exact ⟨rfl,rfl⟩ | (rw [if_neg (by omega)];exact ⟨rfl,rfl⟩))));clear hK K))
   refine WQ.nil ?_;intro wq hwq;go_wp2_with fail;go_ret;exact ⟨rfl,zdy HB6.out hwq⟩
section
open Go.Joins Go.ChangeShapes Go.WideShapes Go.ChangeAt Go.RowKit Go.Deep
theorem u7 {H:Type} {P:Program} {e:TypeId} {d:DataW H}:∀ {ds:List (DataW H)},d ∈ ds→∀ n ∈ d.weights P e,n ∈ DataW.weightsAll P e ds
 | d0::ds,hd,n,hn=>by
   simp only [DataW.weightsAll,List.mem_append];rcases List.mem_cons.1 hd with rfl | hd
   ·exact .inl hn
   ·exact .inr (u7 hd n hn)
theorem nQ:∃ f0 f1 f2 f3:Field,Tryz.prog.underlying 27=some (.struct #[f0,f1,f2,f3])∧f0.type=3∧f1.type=9∧f2.type=24∧f3.type=25∧f0.offset=0∧f1.offset=1∧f2.offset=2∧f3.offset=4 :=
 ⟨_,_,_,_,rfl,rfl,rfl,rfl,rfl,rfl,rfl,rfl,rfl⟩
theorem r8:∃ f0 f1:Field,Tryz.prog.underlying 24=some (.struct #[f0,f1])∧f0.type=3∧f1.type=3∧f0.offset=0∧f1.offset=1 :=
 ⟨_,_,rfl,rfl,rfl,rfl,rfl⟩
theorem oH:Tryz.prog.cellsOf 27=5:=by kernel_rfl
theorem rM:Tryz.prog.cellsOf 24=2:=by kernel_rfl
theorem mq:Tryz.prog.cellsOf 3=1:=by kernel_rfl
theorem wQ:Tryz.prog.cellsOf 9=1:=by kernel_rfl
theorem wR:Tryz.prog.cellsOf 25=1:=by kernel_rfl
theorem uT {P:Nat→NM→Prop}:∀ len,(∀ i,i<len→∃ x,P i x)→∃ l:List NM,l.length=len∧∀ i (h:i<l.length),P i l[i]
 | 0,_=>⟨[],rfl,fun i h=>by simp at h⟩
 | len+1,h=>by
   obtain ⟨l,hl,hp⟩:=uT len (fun i hi=>h i (by omega));obtain ⟨x,hx⟩:=h len (by omega);refine ⟨l++[x],by simp [hl],fun i hi=>?_⟩;by_cases e:i<l.length
   ·rw [List.getElem_append_left e];exact hp i e
   ·have:i=len:=by simp at hi;omega
    subst this;rw [List.getElem_append_right (by omega)];simpa [hl] using hx
theorem pO {W:World}:∀ {l:List NM},(∀ i (h:i<l.length),am aR W l[i])→aP aR W l
 | [],_=>fF
 | v::r,h=>by
   unfold aP;exact ⟨h 0 (by simp),pO (fun i hi=>h (i+1) (by simpa using hi))⟩
theorem pH:∀ {l:List NM},(∀ i (h:i<l.length),l[i].small)→zdL l
 | [],_=>by unfold zdL;trivial
 | v::r,h=>by
   unfold zdL;exact ⟨h 0 (by simp),pH (fun i hi=>h (i+1) (by simpa using hi))⟩
theorem oN:∀ (l:List NM) (i:Nat) (h:i<l.length) (r:Nat),r<5→(aW l)[i * 5+r]? = l[i].cells[r]?
 | v::t,0,_,r,hr=>by
   rw [gE,Nat.zero_mul,Nat.zero_add,List.getElem?_append_left (by rw [v.cells_len];exact hr)];rfl
 | v::t,i+1,h,r,hr=>by
   rw [gE,List.getElem?_append_right (by rw [v.cells_len];omega),v.cells_len,show (i+1) * 5+r - 5=i * 5+r by omega];exact oN t i (by simpa using h) r hr
 | [],i,h,_,_=>by simp at h
theorem wm {H:Type} {enc:TypeId × Value→H} {W:World}:∀ (N:Nat) (d:DataW H) (p:List MemPlace) (cs:List Value) (n:Nat),SizeOf.sizeOf d≤N →
  DataW.trod enc Tryz.prog W 0 (fun _=>true) true n 27 cs=some (d,p)→(∀ z ∈ d.weights Tryz.prog 27,z≤reachBytes) →
  ∃ x:NM,x.cells=cs∧am aR W x∧x.small:=by
 intro N;induction N with
 | zero=>intro d;intros;rename_i h _ _;exfalso;cases d <;> simp at h
 | succ N ih =>
   intro d p cs n hN h hw;obtain ⟨f0,f1,f2,f3,hu,t0,t1,t2,t3,o0,o1,o2,o3⟩:=nQ;obtain ⟨xs,n1,-,hx,cw,aF,hg⟩:=DataW.trod_struct hu h;rw [oH] at cw
   match cs,cw with
   | [c0,c1,c2,c3,c4],_ =>
   match xs,aF with
   | [y0,y1,y2,y3],_ =>
   have h0:=hg 0 f0 rfl;have h1:=hg 1 f1 rfl;have h2:=hg 2 f2 rfl;have h3:=hg 3 f3 rfl;rw [t0,o0,mq] at h0;rw [t1,o1,wQ] at h1;rw [t2,o2,rM] at h2;rw [t3,o3,wR] at h3;replace h0:DataW.trod enc Tryz.prog W 0 (fun _=>true) true n1 3 [c0]=some y0:=h0;replace h1:DataW.trod enc Tryz.prog W 0 (fun _=>true) true n1 9 [c1]=some y1:=h1;replace h2:DataW.trod enc Tryz.prog W 0 (fun _=>true) true n1 24 [c2,c3]=some y2:=h2;replace h3:DataW.trod enc Tryz.prog W 0 (fun _=>true) true n1 25 [c4]=some y3:=h3;obtain ⟨a0,e0,-,-⟩:=DataW.trod_int Tryz.underlying3 h0;obtain ⟨s1,e1,f1',-⟩:=DataW.trod_string Tryz.underlying9 h1;obtain ⟨g0,g1,hpu,u0,u1,v0,v1⟩:=r8;obtain ⟨zs,n2,-,-,-,hzl,hzg⟩:=DataW.trod_struct hpu h2
   match zs,hzl with
   | [z0,z1],_ =>
   have k0:=hzg 0 g0 rfl;have k1:=hzg 1 g1 rfl;rw [u0,v0,mq] at k0;rw [u1,v1,mq] at k1;obtain ⟨a2,e2,-,-⟩:=DataW.trod_int Tryz.underlying3 (cs:=[c2]) k0;obtain ⟨a3,e3,-,-⟩:=DataW.trod_int Tryz.underlying3 (cs:=[c3]) k1;simp only [List.cons.injEq,and_true] at e0 e1 e2 e3;subst e0 e1 e2 e3;simp only [Prod.mk.injEq,List.map_cons,List.map_nil] at hx;obtain ⟨hd,-⟩:=hx;have hws:∀ z,z ∈ y1.1.weights Tryz.prog 9∨z ∈ y3.1.weights Tryz.prog 25→z≤reachBytes:=by
    intro z hz;refine hw z ?_;rw [hd];simp only [DataW.weights,hu,List.map_cons,List.map_nil,t0,t1,t2,t3,DataW.weightsEach,List.mem_append];rcases hz with hz | hz
    ·exact .inr (.inl hz)
    ·exact .inr (.inr (.inr (.inl hz)))
   have hs1:s1.data.toList.length≤140737488351232:=by
    have:=hws s1.data.toList.length (.inl (by rw [f1'];simp [DataW.weights]));simp only [reachBytes] at this;omega
   rcases open_slice Tryz.underlying25 h3 with ⟨hcs,-⟩ | ⟨a,len,cap,m,n3,D,Pl,hcs,-,hl,hm,hmm,hxx,hi⟩
   ·obtain rfl:c4=.slice none 0 0:=by simpa using hcs
    refine ⟨.mk a0 s1.data.toList a2 a3 [] none 0,rfl,iw _ _ _ _,?_⟩;unfold NM.small;exact ⟨hs1,by unfold zdL;trivial⟩
   ·obtain rfl:c4=.slice (some a) len cap:=by simpa using hcs
    simp only [if_true] at hmm;rw [oH] at hi;have hyi:∀ i,i<len→∃ x:NM,(∀ r u,x.cells[r]? = some u→W.cell? (a.add (i * 5+r))=some u)∧am aR W x∧x.small:=by
     intro i hil;obtain ⟨cs',hc,hf⟩:=hi i (by omega);obtain ⟨_,hcl',hat⟩:=World.cells?_some hc;have hs3:SizeOf.sizeOf (D i)≤N:=by
      have m2:D i ∈ (List.range len).map D:=List.mem_map.2 ⟨i,List.mem_range.2 hil,rfl⟩;have k3:=List.sizeOf_lt_of_mem m2;have k4:SizeOf.sizeOf y3.1=1+SizeOf.sizeOf ((List.range len).map D)+SizeOf.sizeOf ((List.range (m - len)).map fun j=>D (len+j)):=by rw [hxx];simp
      have k5:SizeOf.sizeOf d=1+SizeOf.sizeOf [y0.1,y1.1,y2.1,y3.1]:=by rw [hd];simp
      have k6:SizeOf.sizeOf y3.1<SizeOf.sizeOf [y0.1,y1.1,y2.1,y3.1]:=List.sizeOf_lt_of_mem (by simp);omega
     obtain ⟨x,hxc,hxh,hxf⟩:=ih (D i) (Pl i) cs' n3 hs3 hf (fun z hz=>hws z (.inr (by
      rw [hxx];simp only [DataW.weights,Tryz.underlying25,List.mem_cons,List.mem_append];exact .inr (.inl (u7 (List.mem_map.2 ⟨i,List.mem_range.2 hil,rfl⟩) z hz)))))
     refine ⟨x,fun r u hr=>?_,hxh,hxf⟩;have hr5:r<5:=by have:=(List.getElem?_eq_some_iff.1 hr).1;rw [x.cells_len] at this;exact this
     have:=hat r hr5;rw [← Go.Deep.add_add,this];rw [hxc] at hr;have hcl5:cs'.length=5:=hcl';rw [← hr,List.getElem?_eq_getElem (by omega)]
    obtain ⟨l,hll,hp⟩:=uT (P:=fun i x=>(∀ r u,x.cells[r]? = some u→W.cell? (a.add (i * 5+r))=some u)∧am aR W x∧x.small) len hyi;have hHL:aP aR W l:=pO (fun i h=>(hp i h).2.1);have hFL:zdL l:=pH (fun i h=>(hp i h).2.2);have hSl:a9 W 5 (.slice (some a) l.length cap) l.length (aW l):=by
     refine ⟨by rw [be],some a,cap,rfl,by rw [hll];exact hl,hm,fun h=>(by cases h),fun hne=>?_⟩;have hl0:0<l.length:=by
      rcases Nat.eq_zero_or_pos l.length with h0 | h0
      ·rw [List.length_eq_zero_iff.1 h0] at hne;exact absurd rfl hne
      ·exact h0
     have hcell:∀ j u,(aW l)[j]? = some u→W.cell? (a.add j)=some u:=by
      intro j u hu;have hj:j<l.length * 5:=by rw [← be];exact (List.getElem?_eq_some_iff.1 hu).1
      have hq':j / 5 * 5+j % 5=j:=by omega
      have:=oN l (j / 5) (by omega) (j % 5) (Nat.mod_lt _ (by omega));rw [hq'] at this;rw [this] at hu;have:=(hp (j / 5) (by omega)).1 _ _ hu;rwa [hq'] at this
     have h00:∃ u,(aW l)[0]? = some u:=⟨_,List.getElem?_eq_getElem (by rw [be];omega)⟩;obtain ⟨u0,hu0⟩:=h00;obtain ⟨b,off,spot⟩:=a;have hspot:spot=none:=by simpa [Addr.add] using World.cell?_spot (hcell 0 u0 hu0)
     subst hspot;refine ⟨b,off,rfl,?_,fun j u hu=>?_⟩
     ·have:=World.block_lt_of_cell? W _ (hcell 0 u0 hu0);simpa [Addr.add] using this
     ·rw [← add_plain];exact hcell j u hu
    refine ⟨.mk a0 s1.data.toList a2 a3 l (some a) cap,?_,lu ⟨hSl,fun _ _ _ _ _ _=>trivial⟩ hHL,?_⟩
    ·show [_,_,_,_,Value.slice (some a) l.length cap]=_;rw [hll];rfl
    ·unfold NM.small;exact ⟨hs1,hFL⟩
theorem su {H:Type} {enc:TypeId × Value→H} {W:World} {base:Nat} {v:Value} {d:DataW H} {p:List MemPlace}
  (hv:Value.okWide Tryz.prog W .any base 27 v) (h:DataW.Trod enc Tryz.prog W 0 (fun _=>true) true 27 v d p) (hw:∀ n ∈ d.weights Tryz.prog 27,n≤reachBytes) :
  ∃ (k:Int) (t:List UInt8) (l c:Int) (ks:List NM) (a:Option Addr) (m:Nat),v=aB k t l c (.slice a ks.length m)∧am aR W (.mk k t l c ks a m)∧(NM.mk k t l c ks a m).small:=by
 obtain ⟨f0,f1,f2,f3,hu,-⟩:=nQ;obtain ⟨cs,rfl,-⟩:=okWide_struct hu hv;obtain ⟨fuel,hf⟩:=h;obtain ⟨x,hx,hh,hs⟩:=wm _ d p cs.toList fuel (nRe _) hf hw;cases x with
 | mk k t l c ks a m =>
   refine ⟨k,t,l,c,ks,a,m,?_,hh,hs⟩;obtain ⟨cl⟩:=cs;rw [show cl=_ from hx.symm];rfl
end
end Go.Proofs.YtfgiihpopngbkaaGreatDoor
