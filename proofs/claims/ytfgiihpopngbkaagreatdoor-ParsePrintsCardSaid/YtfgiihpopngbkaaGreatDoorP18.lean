/- Lemmas and walks that the statement needs: ParseParam, ParseBlock, ParseRule. -/
import Derived.Test.YtfgiihpopngbkaaGreatDoorP14
namespace Go.Proofs.YtfgiihpopngbkaaGreatDoor
set_option maxRecDepth 100000
set_option maxHeartbeats 8000000
open Go.RowKit
open List renaming setIfInBounds_toArray→sA,set_cons_zero→sB,set_cons_succ→sC
open Nat renaming lt_of_lt_of_le→nL,le_trans→nT
open Go.Act renaming put→aPu
open Go renaming cell_of_row→cRo
theorem tq (en:Pl) (f:Nat) (l:List Tok) (d:Nat):ce en (f+1) 0 l d=(bl en (cd l) l).then fun n r=>(cB en [58] r).then fun _ r=>(bl en (gi r) r).then fun t r =>
   if aT r 0 [61]=true then (cB en [61] r).then fun _ r=>(bA en f r d).then fun x r=>.ok [.mk 7 n.2.1 n.2.2 [.mk 9 t.2.1 t.2.2 [],x]] r
   else .ok [.mk 7 n.2.1 n.2.2 [.mk 9 t.2.1 t.2.2 []]] r:=by
 rw [ce,if_pos rfl]
theorem zbm (en:Pl) (l:List Tok):gi l=((atT en l 0).1 == 1 && cY (atT en l 0).2.1):=by unfold gi dV;rw [(kn en l 0).1,(kn en l 0).2]
theorem ur (f:Nat) (g:Nat) (en:Pl) (l:List Tok) (d:Nat)
  (IH:∀ l,cC 65 #[.pointer (some ⟨g,0,none⟩)] g en l d ca (bA en f l d)) :
  cC 107 #[.pointer (some ⟨g,0,none⟩)] g en l d sc (ce en (f+1) 0 l d):=by
 intro w hp hne;obtain ⟨X,hX⟩:∃ X,X=ce en (f+1) 0 l d:=⟨_,rfl⟩;rw [← hX] at hne ⊢;rw [tq] at hX;have HX:=hid hX;clear hX;have hgl:=hp.lt;obtain ⟨i0,hi0,iz0,iz1,iz2⟩:=info_parts fM;have Pg:=hid (fun (b:Nat) (h:w.heap.size+1≤b)=>(show b≠g by omega));obtain ⟨w1,hw,hp1,hB,rr,au⟩:=aN hp (.cells #[.int .i64 0,.string ⟨#[]⟩,.int .i64 0,.int .i64 0,.slice none 0 0] 27);have ae:=hid rr;have an:w.heap.size≠g:=by omega
 have ah:w.heap.size<w1.heap.size:=au;clear hp rr;have hp:=hp1;clear hp1;have HB:=hid hB;clear hB;go_enter Tryz.func107,Tryz.ntmps107
 go_wp2_with fail;rw [← hw.out];clear hw;refine (dk g en l d _ hp).mono ?_;rintro e w2 ⟨rfl,ac⟩;replace hp:=hp.keep ac;replace ac:=obw g ac;replace HB:=kb HB ac;replace ae:=kr ac ae an;replace ah:=lx ae;replace au:=nT au ac.size;clear ac;go_wp2_with fail;cases hx:bl en (cd l) l with
 | oof=>exact absurd (by rw [HX.out,hx];rfl) hne
 | bad er p =>
   refine (cc hx hp).mono ?_;rintro e wb ⟨rfl,ac⟩;go_wp2_with fail;exact ⟨rfl,zdz (by rw [HX.out,hx] <;> rfl) (HB.out.trans ac)⟩
 | ok n r =>
   refine (c9 hx hp).mono ?_;rintro e w3 ⟨rfl,aC,ac⟩;clear hp;have hp:=aC;clear aC;replace HB:=kb HB ac;replace ae:=kr ac ae an;replace ah:=lx ae;replace au:=nT au ac.size;clear ac;go_wp2_with fail;obtain ⟨w4,hw,aC,ac,rr,tl⟩:=aN hp (.cells #[.int .i64 (n.1:Int),.string (bs n.2.1),.int .i64 (n.2.2.1:Int),.int .i64 (n.2.2.2:Int)] 46);have cv:w3.heap.size≠g:=by have:=hp.lt;omega
   have g_n:w.heap.size+1≤w3.heap.size:=au;clear hp;have hp:=aC;clear aC;have aG:=hid rr;clear rr;replace HB:=kb HB ac;replace ae:=kr ac ae an;replace ah:=lx ae;replace au:=nT au ac.size;have dM:w3.heap.size<w4.heap.size:=tl;clear tl ac;rw [← hw.out];clear hw;replace HX:=thk HX hx;clear hx;cases hx:cB en [58] r with
   | oof=>exact absurd (by rw [HX.out,hx];rfl) hne
   | bad er p =>
     refine (eM hx hp).mono ?_;rintro e wb ⟨rfl,ac⟩;go_wp2_with fail;exact ⟨rfl,zdz (by rw [HX.out,hx] <;> rfl) (HB.out.trans ac)⟩
   | ok t3 r2 =>
     refine (fV hx hp).mono ?_;rintro e w5 ⟨rfl,aC,ac⟩;clear hp;have hp:=aC;clear aC;replace HB:=kb HB ac;replace ae:=kr ac ae an;replace ah:=lx ae;replace aG:=kr ac aG cv;replace dM:=lx aG;replace au:=nT au ac.size;clear ac;replace HX:=thk HX hx;clear hx;go_wp2_with fail;have hk:=zbm en r2;have HA:=hid (fun W (hW:PS W g en r2 d)=>eI 0 g en r2 d W hW);generalize atT en r2 0=t0 at *;have HT:=hid (fun W=>gR t0.2.1 W);generalize cY t0.2.1=tb at *;obtain ⟨b,hb⟩:∃ b,b=gi r2:=⟨_,rfl⟩;rw [← hb] at hk HX;by_cases hk1:t0.1=1
     ·skip
      have q:((t0.1:Int) == 1)=true:=eqT (by omega);have hk2:(t0.1 == 1)=true:=by simpa using hk1
      rw [hk2,Bool.true_and] at hk;subst hk;clear hb hk1 hk2;refine (HA.out _ hp).mono ?_;rintro e w6 ⟨rfl,ac⟩;replace hp:=hp.keep ac;replace ac:=obw g ac;replace HB:=kb HB ac;replace ae:=kr ac ae an;replace ah:=lx ae;replace aG:=kr ac aG cv;replace dM:=lx aG;replace au:=nT au ac.size;clear ac;go_wp2_with fail;refine (HA.out _ hp).mono ?_;rintro e w7 ⟨rfl,ac⟩;replace hp:=hp.keep ac;replace ac:=obw g ac;replace HB:=kb HB ac;replace ae:=kr ac ae an;replace ah:=lx ae;replace aG:=kr ac aG cv;replace dM:=lx aG;replace au:=nT au ac.size;clear ac;go_wp2_with fail;refine (HT.out _).mono ?_;rintro e w8 ⟨rfl,ac⟩;replace hp:=hp.keep ac;replace ac:=obw g ac;replace HB:=kb HB ac;replace ae:=kr ac ae an;replace ah:=lx ae;replace aG:=kr ac aG cv;replace dM:=lx aG;replace au:=nT au ac.size;clear ac;go_wp2_with fail;clear HA HT;cases hx:bl en b r2 with
      | oof=>exact absurd (by rw [HX.out,hx];rfl) hne
      | bad er p =>
        refine (cc hx hp).mono ?_;rintro e wb ⟨rfl,ac⟩;go_wp2_with fail;exact ⟨rfl,zdz (by rw [HX.out,hx] <;> rfl) (HB.out.trans ac)⟩
      | ok t r3 =>
        refine (c9 hx hp).mono ?_;rintro e w9 ⟨rfl,aC,ac⟩;clear hp;have hp:=aC;clear aC;replace HB:=kb HB ac;replace ae:=kr ac ae an;replace ah:=lx ae;replace aG:=kr ac aG cv;replace dM:=lx aG;replace au:=nT au ac.size;clear ac;go_wp2_with fail;obtain ⟨w10,hw,aC,ac,rr,tl⟩:=aN hp (.cells #[.int .i64 (t.1:Int),.string (bs t.2.1),.int .i64 (t.2.2.1:Int),.int .i64 (t.2.2.2:Int)] 46);have bm:w9.heap.size≠g:=by have:=hp.lt;omega
        have om:w.heap.size+1≤w9.heap.size:=au;clear hp;have hp:=aC;clear aC;have av:=hid rr;clear rr;replace HB:=kb HB ac;replace ae:=kr ac ae an;replace ah:=lx ae;replace aG:=kr ac aG cv;replace dM:=lx aG;replace au:=nT au ac.size;have aD:w9.heap.size<w10.heap.size:=tl;clear tl ac;rw [← hw.out];clear hw;replace HX:=thk HX hx;clear hx;obtain ⟨gH,gz,gv,gF,gy,gG,gB,gI⟩:=hC av.out;go_wp2_with fail;clear gH gy gz gG gv gB gF gI;refine (bW 9 t t.2.1 none 0 0 _).mono ?_;rintro e w11 ⟨rfl,ac⟩;replace hp:=hp.keep ac;replace ac:=obw g ac;replace HB:=kb HB ac;replace ae:=kr ac ae an;replace ah:=lx ae;replace aG:=kr ac aG cv;replace dM:=lx aG;replace av:=kr ac av bm;replace aD:=lx av;replace au:=nT au ac.size;clear ac;go_wp2_with fail;obtain ⟨w12,hw,aC,ac,rr,tl⟩:=aN hp (.cells #[.int .i64 9,.string (bs t.2.1),.int .i64 (t.2.2.1:Int),.int .i64 (t.2.2.2:Int),.slice none 0 0] 27);have eU:w11.heap.size≠g:=by have:=hp.lt;omega
        have jI:w.heap.size+1≤w11.heap.size:=au;clear hp;have hp:=aC;clear aC;have G_kd:=hid (gC.laid (B:=w.heap.size+1) (ns:=[NM.mk 9 t.2.1 t.2.2.1 t.2.2.2 [] none 0]) rr rfl (by simp) au (cm (iw _ _ _ _)) (ac.same Pg.out));have hl_kd:1≤200000:=by omega
        have u_kd_res:=ah;have u_kd_n:=dM;have u_kd_t:=aD;have bG:=hid rr;clear rr;replace HB:=kb HB ac;replace ae:=kr ac ae an;replace ah:=lx ae;replace aG:=kr ac aG cv;replace dM:=lx aG;replace av:=kr ac av bm;replace aD:=lx av;replace au:=nT au ac.size;have dh:w11.heap.size<w12.heap.size:=tl;clear tl ac;rw [← hw.out];clear hw;have HS:=hid (fun W (hW:PS W g en r3 d)=>ch 0 [61] g en r3 d W hW);generalize aT r3 0 [61]=b1 at *;cases b1 with
        | false =>
          replace HX:=hid (by have:=HX.out;rw [if_neg (c:=false=true) (by decide)] at this;exact this);refine (HS.out _ hp).mono ?_;rintro e w13 ⟨rfl,ac⟩;replace hp:=hp.keep ac;replace ac:=obw g ac;replace HB:=kb HB ac;replace ae:=kr ac ae an;replace ah:=lx ae;replace aG:=kr ac aG cv;replace dM:=lx aG;replace av:=kr ac av bm;replace aD:=lx av;replace bG:=kr ac bG eU;replace dh:=lx bG;replace G_kd:=hid (G_kd.out.keep ac (by omega) (by omega));replace au:=nT au ac.size;clear ac;obtain ⟨bJ,bI,bH,bK,uz,tH,uj,tV⟩:=hC aG.out;go_wp2_with fail;clear bJ uz bI tH bH uj bK tV;refine (bW 7 n n.2.1 (some ⟨w11.heap.size,0,none⟩) 1 1 _).mono ?_;rintro e w14 ⟨rfl,ac⟩;replace hp:=hp.keep ac;replace ac:=obw g ac;replace HB:=kb HB ac;replace ae:=kr ac ae an;replace ah:=lx ae;replace aG:=kr ac aG cv;replace dM:=lx aG;replace av:=kr ac av bm;replace aD:=lx av;replace bG:=kr ac bG eU;replace dh:=lx bG;replace G_kd:=hid (G_kd.out.keep ac (by omega) (by omega));replace au:=nT au ac.size;clear ac;have hzz:=hgl;have HW:=hid (cu hp HB.out ae.out (by omega) (by omega) (.int .i64 7) (.string (bs n.2.1)) (.int .i64 (n.2.2.1:Int)) (.int .i64 (n.2.2.2:Int)) (.slice (some ⟨w11.heap.size,0,none⟩) 1 1));obtain ⟨cT,cQ,cO,cN,cS,cR,cI,cJ,cH,cP⟩:=eV ae.out;go_wp2_with fail;obtain ⟨wz,hw,fl,fo,fu,hsz,dv⟩:=HW.out;rw [← hw];refine br Tryz.underlying27 (w.heap.size) fu (zdE HX.out ?_ fl fo);have S:d9 (w.heap.size+1≤·) w14 wz:=⟨by omega,fun k _ (hk:w.heap.size+1≤k)=>dv k (by omega)⟩;exact ⟨_,rfl,⟨_,_,_,_,[NM.mk 9 t.2.1 t.2.2.1 t.2.2.2 [] none 0],_,_,rfl,eK (k:=7) (p:=(n.2.2.1,n.2.2.2)) (dF (eK (k:=9) (t:=t.2.1) (p:=(t.2.2.1,t.2.2.2)) gh none 0)) _ _,am.less (P:=fun b=>w.heap.size+1≤b) (fun b _ (hb:w.heap.size+1≤b)=>(show w.heap.size≤b by omega)) (am.keep S ((G_kd.out.one (by omega)).kids _ _ _ _))⟩⟩
        | true =>
          replace HX:=hid (by have:=HX.out;rw [if_pos (c:=true=true) rfl] at this;exact this);refine (HS.out _ hp).mono ?_;rintro e w15 ⟨rfl,ac⟩;replace hp:=hp.keep ac;replace ac:=obw g ac;replace HB:=kb HB ac;replace ae:=kr ac ae an;replace ah:=lx ae;replace aG:=kr ac aG cv;replace dM:=lx aG;replace av:=kr ac av bm;replace aD:=lx av;replace bG:=kr ac bG eU;replace dh:=lx bG;replace G_kd:=hid (G_kd.out.keep ac (by omega) (by omega));replace au:=nT au ac.size;clear ac;go_wp2_with fail;cases hx:cB en [61] r3 with
          | oof=>exact absurd (by rw [HX.out,hx];rfl) hne
          | bad er p =>
            refine (eM hx hp).mono ?_;rintro e wb ⟨rfl,ac⟩;go_wp2_with fail;exact ⟨rfl,zdz (by rw [HX.out,hx] <;> rfl) (HB.out.trans ac)⟩
          | ok t4 r4 =>
            refine (fV hx hp).mono ?_;rintro e w16 ⟨rfl,aC,ac⟩;clear hp;have hp:=aC;clear aC;replace HB:=kb HB ac;replace ae:=kr ac ae an;replace ah:=lx ae;replace aG:=kr ac aG cv;replace dM:=lx aG;replace av:=kr ac av bm;replace aD:=lx av;replace bG:=kr ac bG eU;replace dh:=lx bG;replace G_kd:=hid (G_kd.out.keep ac (by omega) (by omega));replace au:=nT au ac.size;clear ac;replace HX:=thk HX hx;clear hx;go_wp2_with fail;cases hx:bA en f r4 d with
            | oof=>exact absurd (by rw [HX.out,hx];rfl) hne
            | bad er p =>
              refine ((IH r4).bad hx hp).mono ?_;rintro e wb ⟨rfl,ac⟩;go_wp2_with fail;exact ⟨rfl,zdz (by rw [HX.out,hx] <;> rfl) (HB.out.trans ac)⟩
            | ok x r5 =>
              refine ((IH r4).ok hx hp).mono ?_;rintro e w17 ⟨_,rfl,⟨ey,eC,eB,ez,bQ,eD,eA,rfl,hi,hh⟩,aC,ac⟩;clear hp;have hp:=aC;clear aC;have i_x:=hid hi;have hy:=hid (am.less (P':=fun b=>w.heap.size+1≤b) (fun b _ (hb:w16.heap.size≤b)=>(show w.heap.size+1≤b by omega)) hh);have ay:=hid (am.less (P':=fun b=>w.heap.size+1≤b∧Value.ownBlock (.slice (some ⟨w11.heap.size,0,none⟩) 1 1)≠some b) (fun b _ (hb:w16.heap.size≤b)=>⟨by omega,fun e=>by have:=G_kd.out.fresh e;omega⟩) hh);replace HB:=kb HB ac;replace ae:=kr ac ae an;replace ah:=lx ae;replace aG:=kr ac aG cv;replace dM:=lx aG;replace av:=kr ac av bm;replace aD:=lx av;replace bG:=kr ac bG eU;replace dh:=lx bG;replace G_kd:=hid (G_kd.out.keep ac (by omega) (by omega));replace au:=nT au ac.size;have bZ:=hy;clear hy hi hh ac;have ay_x:=ay;clear ay;replace HX:=thk HX hx;clear hx;obtain ⟨w18,hw,aC,ac,rr,tl⟩:=aN hp (.cells #[.int .i64 ey,.string (bs eC),.int .i64 eB,.int .i64 ez,.slice eD bQ.length eA] 27);have zb6:w17.heap.size≠g:=by have:=hp.lt;omega
              have zbU:w.heap.size+1≤w17.heap.size:=au;clear hp;have hp:=aC;clear aC;have jO:=hid rr;clear rr;replace HB:=kb HB ac;replace ae:=kr ac ae an;replace ah:=lx ae;replace aG:=kr ac aG cv;replace dM:=lx aG;replace av:=kr ac av bm;replace aD:=lx av;replace bG:=kr ac bG eU;replace dh:=lx bG;replace bZ:=kh ac Pg bZ;replace ay_x:=hid (am.keep (ac.same (fun b hb=>Pg.out b hb.1)) ay_x.out);replace G_kd:=hid (G_kd.out.keep ac (by omega) (by omega));replace au:=nT au ac.size;have oQ:w17.heap.size<w18.heap.size:=tl;clear tl ac;have hown:=G_kd.out.own;go_wp2_with (at_builtin;rw [← hw.out];refine wpList_append_own_at _ rfl _ _ 25 rfl (w11.heap.size) 27 i0 (.agg #[.int .i64 0,.string ⟨#[]⟩,.int .i64 0,.int .i64 0,.slice none 0 0]) 5 64 Tryz.underlying25 hi0 iz0 iz1 iz2 rfl (by decide) _ _ _ rfl hown ⟨w17.heap.size,0,none⟩ 1 1 (aW [(NM.mk ey eC eB ez bQ eD eA)]) rfl (be _) (go jO.out rfl) (dd _) ?c1 ?c2 ?c3 ?_)
              case c1=>have:=hl_kd;unfold maxLen;(try simp) <;> omega
              case c2=>have:=hl_kd;(try simp) <;> omega
              case c3=>omega
              intro v' w19 hown' hgrow hnil hat;replace G_kd:=hid (G_kd.out.app (cm ay_x.out) hown' (by simp) hgrow hat);replace hp:=hp.grown hown hgrow (by omega);replace HB:=hid (HB.out.grown hown hgrow (by omega));clear bG dh eU;replace ae:=hid ((eb hown hgrow _ (by omega) (by omega)).trans ae.out);replace aG:=hid ((eb hown hgrow _ (by omega) (by omega)).trans aG.out);replace av:=hid ((eb hown hgrow _ (by omega) (by omega)).trans av.out);replace au:=nT au hgrow.size;replace ah:=nL ah hgrow.size;replace dM:=nL dM hgrow.size;replace aD:=nL aD hgrow.size;obtain ⟨a_kd',m_kd',hv',hc_kd',hm_kd'⟩:=(G_kd.out.one (by omega)).shape;subst hv';clear hown hown' hgrow hat jO oQ bZ ay_x hnil hw;obtain ⟨bJ,bI,bH,bK,uz,tH,uj,tV⟩:=hC aG.out;go_wp2_with fail;clear bJ uz bI tH bH uj bK tV;refine (bW 7 n n.2.1 a_kd' 2 m_kd' _).mono ?_;rintro e w20 ⟨rfl,ac⟩;replace hp:=hp.keep ac;replace ac:=obw g ac;replace HB:=kb HB ac;replace ae:=kr ac ae an;replace ah:=lx ae;replace aG:=kr ac aG cv;replace dM:=lx aG;replace av:=kr ac av bm;replace aD:=lx av;replace G_kd:=hid (G_kd.out.keep ac (by omega) (by omega));replace au:=nT au ac.size;clear ac;have hzz:=hgl;have HW:=hid (cu hp HB.out ae.out (by omega) (by omega) (.int .i64 7) (.string (bs n.2.1)) (.int .i64 (n.2.2.1:Int)) (.int .i64 (n.2.2.2:Int)) ((.slice a_kd' 2 m_kd')));obtain ⟨cT,cQ,cO,cN,cS,cR,cI,cJ,cH,cP⟩:=eV ae.out;go_wp2_with fail;obtain ⟨wz,hw,fl,fo,fu,hsz,dv⟩:=HW.out;rw [← hw];refine br Tryz.underlying27 (w.heap.size) fu (zdE HX.out ?_ fl fo);have S:d9 (w.heap.size+1≤·) w20 wz:=⟨by omega,fun k _ (hk:w.heap.size+1≤k)=>dv k (by omega)⟩;exact ⟨_,rfl,⟨_,_,_,_,([NM.mk 9 t.2.1 t.2.2.1 t.2.2.2 [] none 0]++[(NM.mk ey eC eB ez bQ eD eA)]),a_kd',m_kd',rfl,eK (k:=7) (p:=(n.2.2.1,n.2.2.2)) (eN (dF (eK (k:=9) (t:=t.2.1) (p:=(t.2.2.1,t.2.2.2)) gh none 0)) (dF i_x.out)) _ _,am.less (P:=fun b=>w.heap.size+1≤b) (fun b _ (hb:w.heap.size+1≤b)=>(show w.heap.size≤b by omega)) (am.keep S ((G_kd.out.one (by omega)).kids _ _ _ _))⟩⟩
     ·skip
      have q:((t0.1:Int) == 1)=false:=eqF (by omega);have hk2:(t0.1 == 1)=false:=by simpa using hk1
      rw [hk2,Bool.false_and] at hk;subst hk;clear hb hk1 hk2;refine (HA.out _ hp).mono ?_;rintro e w21 ⟨rfl,ac⟩;replace hp:=hp.keep ac;replace ac:=obw g ac;replace HB:=kb HB ac;replace ae:=kr ac ae an;replace ah:=lx ae;replace aG:=kr ac aG cv;replace dM:=lx aG;replace au:=nT au ac.size;clear ac;go_wp2_with fail;cases hx:bl en false r2 with
      | oof=>unfold bl at hx;simp at hx
      | ok a b=>unfold bl at hx;simp at hx
      | bad er p =>
        refine (cc hx hp).mono ?_;rintro e wb ⟨rfl,ac⟩;go_wp2_with fail;exact ⟨rfl,zdz (by rw [HX.out,hx] <;> rfl) (HB.out.trans ac)⟩
theorem tm (f:Nat) (g:Nat) (en:Pl) (l:List Tok) (d:Nat)
  (IH:∀ l d,cC 21 #[.pointer (some ⟨g,0,none⟩),.string (bs [125])] g en l d fe (bY en f true l d)) :
  cC 66 #[.pointer (some ⟨g,0,none⟩)] g en l d ca (cM en (f+1) l d):=by
 intro w hp hne;obtain ⟨X,hX⟩:∃ X,X=cM en (f+1) l d:=⟨_,rfl⟩;rw [← hX] at hne ⊢;rw [cM] at hX;have HX:=hid hX;clear hX;have hgl:=hp.lt;have Pg:=hid (fun (b:Nat) (h:w.heap.size+1≤b)=>(show b≠g by omega));obtain ⟨w1,hw,hp1,hB,rr,au⟩:=aN hp (.cells #[.int .i64 0,.string ⟨#[]⟩,.int .i64 0,.int .i64 0,.slice none 0 0] 27);have ae:=hid rr;have an:w.heap.size≠g:=by omega
 have ah:w.heap.size<w1.heap.size:=au;clear hp rr;have hp:=hp1;clear hp1;have HB:=hid hB;clear hB;go_enter Tryz.func66,Tryz.ntmps66
 go_wp2_with fail;rw [← hw.out];clear hw;refine (ch 0 [123] g en l d _ hp).mono ?_;rintro e w2 ⟨rfl,ac⟩;replace hp:=hp.keep ac;replace ac:=obw g ac;replace HB:=kb HB ac;replace ae:=kr ac ae an;replace ah:=lx ae;replace au:=nT au ac.size;clear ac;go_wp2_with fail;cases hx:dW en (aT l 0 [123]) d l with
 | oof=>exact absurd (by rw [HX.out,hx];rfl) hne
 | bad er p =>
   refine (ji hx hp).mono ?_;rintro e wb ⟨rfl,ac⟩;go_wp2_with fail;exact ⟨rfl,zdz (by rw [HX.out,hx] <;> rfl) (HB.out.trans ac)⟩
 | ok t r =>
   refine (km hx hp).mono ?_;rintro e w3 ⟨rfl,aC,ac⟩;clear hp;have hp:=aC;clear aC;replace HB:=kb HB ac;replace ae:=kr ac ae an;replace ah:=lx ae;replace au:=nT au ac.size;clear ac;go_wp2_with fail;obtain ⟨w4,hw,aC,ac,rr,tl⟩:=aN hp (.cells #[.int .i64 (t.1:Int),.string (bs t.2.1),.int .i64 (t.2.2.1:Int),.int .i64 (t.2.2.2:Int)] 46);have bm:w3.heap.size≠g:=by have:=hp.lt;omega
   have om:w.heap.size+1≤w3.heap.size:=au;clear hp;have hp:=aC;clear aC;have av:=hid rr;clear rr;replace HB:=kb HB ac;replace ae:=kr ac ae an;replace ah:=lx ae;replace au:=nT au ac.size;have aD:w3.heap.size<w4.heap.size:=tl;clear tl ac;rw [← hw.out];clear hw;replace HX:=thk HX hx;clear hx;cases hx:bY en f true r (d+1) with
   | oof=>exact absurd (by rw [HX.out,hx];rfl) hne
   | bad er p =>
     refine ((IH r (d+1)).bad hx hp).mono ?_;rintro e wb ⟨rfl,ac⟩;go_wp2_with fail;exact ⟨rfl,zdz (by rw [HX.out,hx] <;> rfl) (HB.out.trans ac)⟩
   | ok k r2 =>
     refine ((IH r (d+1)).ok hx hp).mono ?_;rintro e w5 ⟨_,rfl,⟨ns_k,hG,hi,hl_k⟩,aC,ac⟩;obtain ⟨oZ,oe,hv,hc_k,hm_k⟩:=hG.shape;subst hv;have b_k:w.heap.size+1≤w4.heap.size:=au;clear hp;have hp:=aC;clear aC;have i_k:=hid hi;have hg:=hid (hG.two (B:=w.heap.size+1) au);have u_k_res:=ah;have u_k_t:=aD;replace HB:=kb HB ac;replace ae:=kr ac ae an;replace ah:=lx ae;replace av:=kr ac av bm;replace aD:=lx av;replace au:=nT au ac.size;have G_k:=hg;clear hi hG ac hg;replace HX:=thk HX hx;clear hx;go_wp2_with fail;cases hx:cB en [125] r2 with
     | oof=>exact absurd (by rw [HX.out,hx];rfl) hne
     | bad er p =>
       refine (jb hx hp).mono ?_;rintro e wb ⟨rfl,ac⟩;go_wp2_with fail;exact ⟨rfl,zdz (by rw [HX.out,hx] <;> rfl) (HB.out.trans ac)⟩
     | ok t3 r3 =>
       refine (jQ hx hp).mono ?_;rintro e w6 ⟨rfl,aC,ac⟩;clear hp;have hp:=aC;clear aC;replace HB:=kb HB ac;replace ae:=kr ac ae an;replace ah:=lx ae;replace av:=kr ac av bm;replace aD:=lx av;replace G_k:=hid (G_k.out.keep ac (by omega) (by omega));replace au:=nT au ac.size;clear ac;replace HX:=thk HX hx;clear hx;obtain ⟨gH,gz,gv,gF,gy,gG,gB,gI⟩:=hC av.out;go_wp2_with fail;clear gH gy gz gG gv gB gF gI;refine (bW 8 t [] oZ ns_k.length oe _).mono ?_;rintro e w7 ⟨rfl,ac⟩;replace hp:=hp.keep ac;replace ac:=obw g ac;replace HB:=kb HB ac;replace ae:=kr ac ae an;replace ah:=lx ae;replace av:=kr ac av bm;replace aD:=lx av;replace G_k:=hid (G_k.out.keep ac (by omega) (by omega));replace au:=nT au ac.size;clear ac;have hzz:=hgl;have HW:=hid (cu hp HB.out ae.out (by omega) (by omega) (.int .i64 8) (.string (bs [])) (.int .i64 (t.2.2.1:Int)) (.int .i64 (t.2.2.2:Int)) (.slice oZ ns_k.length oe));obtain ⟨cT,cQ,cO,cN,cS,cR,cI,cJ,cH,cP⟩:=eV ae.out;go_wp2_with fail;obtain ⟨wz,hw,fl,fo,fu,hsz,dv⟩:=HW.out;rw [← hw];refine br Tryz.underlying27 (w.heap.size) fu (zdE HX.out ?_ fl fo);have S:d9 (w.heap.size+1≤·) w7 wz:=⟨by omega,fun k _ (hk:w.heap.size+1≤k)=>dv k (by omega)⟩;exact ⟨_,_,_,_,ns_k,oZ,oe,rfl,eK (k:=8) (p:=(t.2.2.1,t.2.2.2)) i_k.out _ _,am.less (P:=fun b=>w.heap.size+1≤b) (fun b _ (hb:w.heap.size+1≤b)=>(show w.heap.size≤b by omega)) (am.keep S ((G_k.out.one (by omega)).kids _ _ _ _))⟩
def oy (en:Pl) (f:Nat) (l:List Tok) (d:Nat):PR Nd :=
 (bl en true l).then fun t r=>(bl en (cd r) r).then fun n r=>(cB en [40] r).then fun _ r =>
   (bw en f 0 [41] true r d).then fun k r=>(cB en [41] r).then fun _ r=>(cM en f r d).then fun y r=>.ok (.mk 6 n.2.1 t.2.2 (k++[y])) r
theorem wX (f:Nat) (g:Nat) (en:Pl) (l:List Tok) (d:Nat)
  (IL:∀ b l d,fI 106 0 [41] f b g en l d)
  (IB:∀ l d,cC 66 #[.pointer (some ⟨g,0,none⟩)] g en l d ca (cM en f l d)) :
  cC 67 #[.pointer (some ⟨g,0,none⟩)] g en l d ca (oy en f l d):=by
 intro w hp hne;obtain ⟨X,hX⟩:∃ X,X=oy en f l d:=⟨_,rfl⟩;rw [← hX] at hne ⊢;rw [oy] at hX;have HX:=hid hX;clear hX;have hgl:=hp.lt;have qo:=mf;obtain ⟨i0,hi0,iz0,iz1,iz2⟩:=info_parts fM;have Pg:=hid (fun (b:Nat) (h:w.heap.size+2≤b)=>(show b≠g by omega));obtain ⟨w1,hw,hp1,hB,rb,rr,au⟩:=iV hp (.cells #[.pointer (some ⟨g,0,none⟩)] 53) (.cells #[.int .i64 0,.string ⟨#[]⟩,.int .i64 0,.int .i64 0,.slice none 0 0] 27);have ap:=hid rb;have ae:=hid rr;have bg:w.heap.size≠g:=by omega
 have an:w.heap.size+1≠g:=by omega
 have aI:w.heap.size<w1.heap.size:=by omega
 have ah:w.heap.size+1<w1.heap.size:=au;clear hp rb rr;have hp:=hp1;clear hp1;have HB:=hid hB;clear hB;go_enter Tryz.func67,Tryz.ntmps67
 go_wp2_with fail;rw [← hw.out];clear hw;cases hx:bl en true l with
 | oof=>exact absurd (by rw [HX.out,hx] <;> rfl) hne
 | bad er p =>
   refine (cc hx hp).mono ?_;rintro e wb ⟨rfl,ac⟩;go_wp2_with fail;exact ⟨rfl,zdz (by rw [HX.out,hx] <;> rfl) (HB.out.trans ac)⟩
 | ok t r =>
   refine (c9 hx hp).mono ?_;rintro e w2 ⟨rfl,aC,ac⟩;clear hp;have hp:=aC;clear aC;replace HB:=kb HB ac;replace ap:=kr ac ap bg;replace aI:=lx ap;replace ae:=kr ac ae an;replace ah:=lx ae;replace au:=nT au ac.size;clear ac;go_wp2_with fail;obtain ⟨w3,hw,aC,ac,rr,tl⟩:=aN hp (.cells #[.int .i64 (t.1:Int),.string (bs t.2.1),.int .i64 (t.2.2.1:Int),.int .i64 (t.2.2.2:Int)] 46);have bm:w2.heap.size≠g:=by have:=hp.lt;omega
   have om:w.heap.size+2≤w2.heap.size:=au;clear hp;have hp:=aC;clear aC;have u_t_bx:=aI;have u_t_res:=ah;have av:=hid rr;clear rr;replace HB:=kb HB ac;replace ap:=kr ac ap bg;replace aI:=lx ap;replace ae:=kr ac ae an;replace ah:=lx ae;replace au:=nT au ac.size;have aD:w2.heap.size<w3.heap.size:=tl;clear tl ac;rw [← hw.out];clear hw;replace HX:=thk HX hx;clear hx;cases hx:bl en (cd r) r with
   | oof=>exact absurd (by rw [HX.out,hx];rfl) hne
   | bad er p =>
     refine aH (S:=fun W=>W.heap[w.heap.size]? = some (.cells #[.pointer (some ⟨g,0,none⟩)] 53)) (by kernel_rfl) ?_;obtain ⟨w4,hw,aC,ac⟩:=dj hp;clear hp;have hp:=aC;clear aC;replace HB:=kb HB ac;replace ap:=kr ac ap bg;replace aI:=lx ap;replace ae:=kr ac ae an;replace ah:=lx ae;replace av:=kr ac av bm;replace aD:=lx av;replace au:=nT au ac.size;rw [← hw.out];clear hw ac;have hS:=ap.out;refine zdD 0 (some 8) (.pointer (some ⟨g,0,none⟩)) hS ?_ (hv:=fun W hW=>by have q:W.cell? ⟨w.heap.size,0,none⟩=some (.pointer (some ⟨g,0,none⟩)):=cRo W _ 0 _ _ _ hW;go_simp)
     try simp only [aPu,sA,sB,sC]
     refine zdD 1 (some 9) (.pointer (some ⟨g,0,none⟩)) hS ?_ (hv:=fun W hW=>by have q:W.cell? ⟨w.heap.size,0,none⟩=some (.pointer (some ⟨g,0,none⟩)):=cRo W _ 0 _ _ _ hW;go_simp)
     try simp only [aPu,sA,sB,sC]
     refine WH.tw 2 4 ?_ ?_
     ·intro K hK;go_simp;refine (dk g en r d _ hp).mono ?_;rintro e w5 ⟨rfl,ac⟩;replace hp:=hp.keep ac;replace ac:=obw g ac;replace HB:=kb HB ac;replace ap:=kr ac ap bg;replace aI:=lx ap;replace ae:=kr ac ae an;replace ah:=lx ae;replace av:=kr ac av bm;replace aD:=lx av;replace au:=nT au ac.size;clear ac;go_wp2_with fail;clear hS;have hS:=ap.out;refine hK.out _ _ hS ?_;clear hK K
      try simp only [aPu,sA,sB,sC]
      refine WH.tw 3 4 ?_ ?_
      ·intro K hK;go_simp;refine (cc hx hp).mono ?_;rintro e wb ⟨rfl,ac⟩;go_wp2_with fail;exact ⟨rfl,zdz (by rw [HX.out,hx] <;> rfl) (HB.out.trans ac)⟩
      ·intro K hK;go_simp;obtain ⟨w6,hw,aC,ac,rr,tl⟩:=aN hp (.cells #[.int .i64 0,.string ⟨#[]⟩,.int .i64 0,.int .i64 0] 46);have j6:w5.heap.size≠g:=by have:=hp.lt;omega
       have qT:w.heap.size+2≤w5.heap.size:=au;clear hp;have hp:=aC;clear aC;have u_zt_bx:=aI;have u_zt_res:=ah;have u_zt_t:=aD;have ew:=hid rr;clear rr;replace HB:=kb HB ac;replace ap:=kr ac ap bg;replace aI:=lx ap;replace ae:=kr ac ae an;replace ah:=lx ae;replace av:=kr ac av bm;replace aD:=lx av;replace au:=nT au ac.size;have hO:w5.heap.size<w6.heap.size:=tl;clear tl ac;rw [← hw.out];clear hw;clear hS;have hS:=ap.out;refine hK.out _ _ hS ?_;clear hK K
       try simp only [aPu,sA,sB,sC]
       refine zdC 3 ?_;intro K hK;go_simp;refine (cc hx hp).mono ?_;rintro e wb ⟨rfl,ac⟩;go_wp2_with fail;exact ⟨rfl,zdz (by rw [HX.out,hx] <;> rfl) (HB.out.trans ac)⟩
     ·intro K hK;go_simp;obtain ⟨w7,hw,aC,ac,rr,tl⟩:=aN hp (.cells #[.int .i64 0,.string ⟨#[]⟩,.int .i64 0,.int .i64 0] 46);have j6:w4.heap.size≠g:=by have:=hp.lt;omega
      have qT:w.heap.size+2≤w4.heap.size:=au;clear hp;have hp:=aC;clear aC;have u_zt_bx:=aI;have u_zt_res:=ah;have u_zt_t:=aD;have ew:=hid rr;clear rr;replace HB:=kb HB ac;replace ap:=kr ac ap bg;replace aI:=lx ap;replace ae:=kr ac ae an;replace ah:=lx ae;replace av:=kr ac av bm;replace aD:=lx av;replace au:=nT au ac.size;have hO:w4.heap.size<w7.heap.size:=tl;clear tl ac;rw [← hw.out];clear hw;clear hS;have hS:=ap.out;refine hK.out _ _ hS ?_;clear hK K
      try simp only [aPu,sA,sB,sC]
      refine zdC 2 ?_;intro K hK;go_simp;refine (dk g en r d _ hp).mono ?_;rintro e w8 ⟨rfl,ac⟩;replace hp:=hp.keep ac;replace ac:=obw g ac;replace HB:=kb HB ac;replace ap:=kr ac ap bg;replace aI:=lx ap;replace ae:=kr ac ae an;replace ah:=lx ae;replace av:=kr ac av bm;replace aD:=lx av;replace ew:=kr ac ew j6;replace hO:=lx ew;replace au:=nT au ac.size;clear ac;go_wp2_with fail;clear hS;have hS:=ap.out;refine hK.out _ _ hS ?_;clear hK K
      try simp only [aPu,sA,sB,sC]
      refine zdC 3 ?_;intro K hK;go_simp;refine (cc hx hp).mono ?_;rintro e wb ⟨rfl,ac⟩;go_wp2_with fail;exact ⟨rfl,zdz (by rw [HX.out,hx] <;> rfl) (HB.out.trans ac)⟩
   | ok n r2 =>
     go_cut [4] (fun tp wx=>∃ z,tp=.pointer (some ⟨z,0,none⟩)∧w2.heap.size+1≤z∧wx.heap[z]? = some (.cells #[.int .i64 (n.1:Int),.string (bs n.2.1),.int .i64 (n.2.2.1:Int),.int .i64 (n.2.2.2:Int)] 46)∧wx.heap[w.heap.size]? = some (.cells #[.pointer (some ⟨g,0,none⟩)] 53)∧wx.heap[w.heap.size+1]? = some (.cells #[.int .i64 0,.string ⟨#[]⟩,.int .i64 0,.int .i64 0,.slice none 0 0] 27)∧wx.heap[w2.heap.size]? = some (.cells #[.int .i64 (t.1:Int),.string (bs t.2.1),.int .i64 (t.2.2.1:Int),.int .i64 (t.2.2.2:Int)] 46)∧PS wx g en r2 d∧aV g w wx∧z<wx.heap.size)
     case first =>
      refine aH (S:=fun W=>W.heap[w.heap.size]? = some (.cells #[.pointer (some ⟨g,0,none⟩)] 53)) (by kernel_rfl) ?_;obtain ⟨w9,hw,aC,ac⟩:=dj hp;clear hp;have hp:=aC;clear aC;replace HB:=kb HB ac;replace ap:=kr ac ap bg;replace aI:=lx ap;replace ae:=kr ac ae an;replace ah:=lx ae;replace av:=kr ac av bm;replace aD:=lx av;replace au:=nT au ac.size;rw [← hw.out];clear hw ac;have hS:=ap.out;refine zdD 0 (some 8) (.pointer (some ⟨g,0,none⟩)) hS ?_ (hv:=fun W hW=>by have q:W.cell? ⟨w.heap.size,0,none⟩=some (.pointer (some ⟨g,0,none⟩)):=cRo W _ 0 _ _ _ hW;go_simp)
      try simp only [aPu,sA,sB,sC]
      refine zdD 1 (some 9) (.pointer (some ⟨g,0,none⟩)) hS ?_ (hv:=fun W hW=>by have q:W.cell? ⟨w.heap.size,0,none⟩=some (.pointer (some ⟨g,0,none⟩)):=cRo W _ 0 _ _ _ hW;go_simp)
      try simp only [aPu,sA,sB,sC]
      refine WH.tw 2 4 ?_ ?_
      ·intro K hK;go_simp;refine (dk g en r d _ hp).mono ?_;rintro e w10 ⟨rfl,ac⟩;replace hp:=hp.keep ac;replace ac:=obw g ac;replace HB:=kb HB ac;replace ap:=kr ac ap bg;replace aI:=lx ap;replace ae:=kr ac ae an;replace ah:=lx ae;replace av:=kr ac av bm;replace aD:=lx av;replace au:=nT au ac.size;clear ac;go_wp2_with fail;clear hS;have hS:=ap.out;refine hK.out _ _ hS ?_;clear hK K
       try simp only [aPu,sA,sB,sC]
       refine WH.tw 3 4 ?_ ?_
       ·intro K hK;go_simp;refine (c9 hx hp).mono ?_;rintro e w11 ⟨rfl,aC,ac⟩;clear hp;have hp:=aC;clear aC;replace HB:=kb HB ac;replace ap:=kr ac ap bg;replace aI:=lx ap;replace ae:=kr ac ae an;replace ah:=lx ae;replace av:=kr ac av bm;replace aD:=lx av;replace au:=nT au ac.size;clear ac;go_wp2_with fail;clear hS;have hS:=ap.out;refine hK.out _ _ hS ?_;clear hK K
        try simp only [aPu,sA,sB,sC]
        refine zdC 4 ?_;intro K hK;go_simp;obtain ⟨w12,hw,aC,ac,rr,tl⟩:=aN hp (.cells #[.int .i64 0,.string ⟨#[]⟩,.int .i64 0,.int .i64 0] 46);have j6:w11.heap.size≠g:=by have:=hp.lt;omega
        have qT:w.heap.size+2≤w11.heap.size:=au;clear hp;have hp:=aC;clear aC;have u_zt_bx:=aI;have u_zt_res:=ah;have u_zt_t:=aD;have ew:=hid rr;clear rr;replace HB:=kb HB ac;replace ap:=kr ac ap bg;replace aI:=lx ap;replace ae:=kr ac ae an;replace ah:=lx ae;replace av:=kr ac av bm;replace aD:=lx av;replace au:=nT au ac.size;have hO:w11.heap.size<w12.heap.size:=tl;clear tl ac;rw [← hw.out];clear hw;clear hS;have hS:=ap.out;refine hK.out _ _ hS ?_;clear hK K
        try simp only [aPu,sA,sB,sC]
        have HW:=hid (jr hp HB.out ew.out (by omega) (by omega) (.int .i64 (n.1:Int)) (.string (bs n.2.1)) (.int .i64 (n.2.2.1:Int)) (.int .i64 (n.2.2.2:Int)));obtain ⟨jP,kf,jY,j4,j1,jR,jX,j2⟩:=hC ew.out;refine zdC 5 ?_;intro K hK;go_simp;clear jP j1 kf jR jY jX j4 j2;obtain ⟨wz,hw,fl,fo,fu,hsz,dv⟩:=HW.out;rw [← hw];refine hK.out _ _ ((dv _ (by omega)).trans ap.out) ?_;clear hK K
        try simp only [aPu,sA,sB,sC]
        refine zdH ?_;go_wp2_with fail
        go_meet
        case rel=>exact ⟨_,rfl,by omega,fu,(dv _ (by omega)).trans ap.out,(dv _ (by omega)).trans ae.out,(dv _ (by omega)).trans av.out,fl,fo,by omega⟩
       ·intro K hK;go_simp;obtain ⟨w13,hw,aC,ac,rr,tl⟩:=aN hp (.cells #[.int .i64 0,.string ⟨#[]⟩,.int .i64 0,.int .i64 0] 46);have j6:w10.heap.size≠g:=by have:=hp.lt;omega
        have qT:w.heap.size+2≤w10.heap.size:=au;clear hp;have hp:=aC;clear aC;have u_zt_bx:=aI;have u_zt_res:=ah;have u_zt_t:=aD;have ew:=hid rr;clear rr;replace HB:=kb HB ac;replace ap:=kr ac ap bg;replace aI:=lx ap;replace ae:=kr ac ae an;replace ah:=lx ae;replace av:=kr ac av bm;replace aD:=lx av;replace au:=nT au ac.size;have hO:w10.heap.size<w13.heap.size:=tl;clear tl ac;rw [← hw.out];clear hw;clear hS;have hS:=ap.out;refine hK.out _ _ hS ?_;clear hK K
        try simp only [aPu,sA,sB,sC]
        refine zdC 3 ?_;intro K hK;go_simp;refine (c9 hx hp).mono ?_;rintro e w14 ⟨rfl,aC,ac⟩;clear hp;have hp:=aC;clear aC;replace HB:=kb HB ac;replace ap:=kr ac ap bg;replace aI:=lx ap;replace ae:=kr ac ae an;replace ah:=lx ae;replace av:=kr ac av bm;replace aD:=lx av;replace ew:=kr ac ew j6;replace hO:=lx ew;replace au:=nT au ac.size;clear ac;go_wp2_with fail;clear hS;have hS:=ap.out;refine hK.out _ _ hS ?_;clear hK K
        try simp only [aPu,sA,sB,sC]
        have HW:=hid (jr hp HB.out ew.out (by omega) (by omega) (.int .i64 (n.1:Int)) (.string (bs n.2.1)) (.int .i64 (n.2.2.1:Int)) (.int .i64 (n.2.2.2:Int)));obtain ⟨jP,kf,jY,j4,j1,jR,jX,j2⟩:=hC ew.out;refine zdC 5 ?_;intro K hK;go_simp;clear jP j1 kf jR jY jX j4 j2;obtain ⟨wz,hw,fl,fo,fu,hsz,dv⟩:=HW.out;rw [← hw];refine hK.out _ _ ((dv _ (by omega)).trans ap.out) ?_;clear hK K
        try simp only [aPu,sA,sB,sC]
        refine zdH ?_;go_wp2_with fail
        go_meet
        case rel=>exact ⟨_,rfl,by omega,fu,(dv _ (by omega)).trans ap.out,(dv _ (by omega)).trans ae.out,(dv _ (by omega)).trans av.out,fl,fo,by omega⟩
      ·intro K hK;go_simp;obtain ⟨w15,hw,aC,ac,rr,tl⟩:=aN hp (.cells #[.int .i64 0,.string ⟨#[]⟩,.int .i64 0,.int .i64 0] 46);have j6:w9.heap.size≠g:=by have:=hp.lt;omega
       have qT:w.heap.size+2≤w9.heap.size:=au;clear hp;have hp:=aC;clear aC;have u_zt_bx:=aI;have u_zt_res:=ah;have u_zt_t:=aD;have ew:=hid rr;clear rr;replace HB:=kb HB ac;replace ap:=kr ac ap bg;replace aI:=lx ap;replace ae:=kr ac ae an;replace ah:=lx ae;replace av:=kr ac av bm;replace aD:=lx av;replace au:=nT au ac.size;have hO:w9.heap.size<w15.heap.size:=tl;clear tl ac;rw [← hw.out];clear hw;clear hS;have hS:=ap.out;refine hK.out _ _ hS ?_;clear hK K
       try simp only [aPu,sA,sB,sC]
       refine zdC 2 ?_;intro K hK;go_simp;refine (dk g en r d _ hp).mono ?_;rintro e w16 ⟨rfl,ac⟩;replace hp:=hp.keep ac;replace ac:=obw g ac;replace HB:=kb HB ac;replace ap:=kr ac ap bg;replace aI:=lx ap;replace ae:=kr ac ae an;replace ah:=lx ae;replace av:=kr ac av bm;replace aD:=lx av;replace ew:=kr ac ew j6;replace hO:=lx ew;replace au:=nT au ac.size;clear ac;go_wp2_with fail;clear hS;have hS:=ap.out;refine hK.out _ _ hS ?_;clear hK K
       try simp only [aPu,sA,sB,sC]
       refine zdC 3 ?_;intro K hK;go_simp;refine (c9 hx hp).mono ?_;rintro e w17 ⟨rfl,aC,ac⟩;clear hp;have hp:=aC;clear aC;replace HB:=kb HB ac;replace ap:=kr ac ap bg;replace aI:=lx ap;replace ae:=kr ac ae an;replace ah:=lx ae;replace av:=kr ac av bm;replace aD:=lx av;replace ew:=kr ac ew j6;replace hO:=lx ew;replace au:=nT au ac.size;clear ac;go_wp2_with fail;clear hS;have hS:=ap.out;refine hK.out _ _ hS ?_;clear hK K
       try simp only [aPu,sA,sB,sC]
       have HW:=hid (jr hp HB.out ew.out (by omega) (by omega) (.int .i64 (n.1:Int)) (.string (bs n.2.1)) (.int .i64 (n.2.2.1:Int)) (.int .i64 (n.2.2.2:Int)));obtain ⟨jP,kf,jY,j4,j1,jR,jX,j2⟩:=hC ew.out;refine zdC 5 ?_;intro K hK;go_simp;clear jP j1 kf jR jY jX j4 j2;obtain ⟨wz,hw,fl,fo,fu,hsz,dv⟩:=HW.out;rw [← hw];refine hK.out _ _ ((dv _ (by omega)).trans ap.out) ?_;clear hK K
       try simp only [aPu,sA,sB,sC]
       refine zdH ?_;go_wp2_with fail
       go_meet
       case rel=>exact ⟨_,rfl,by omega,fu,(dv _ (by omega)).trans ap.out,(dv _ (by omega)).trans ae.out,(dv _ (by omega)).trans av.out,fl,fo,by omega⟩
     case rest =>
      obtain ⟨z_n,rfl,g_n,hz,hx0,hx1,hx2,aC,ac,dM⟩:=hcut;clear hp;have hp:=aC;clear aC;replace HB:=hid ac;replace ap:=hid hx0;replace ae:=hid hx1;replace av:=hid hx2;have aG:=hid hz;have cv:z_n≠g:=by omega
      replace au:w.heap.size+2≤wc.heap.size:=by omega
      replace aI:w.heap.size<wc.heap.size:=by omega
      replace ah:w.heap.size+1<wc.heap.size:=by omega
      replace aD:w2.heap.size<wc.heap.size:=by omega
      clear hz hx0 hx1 hx2 ac;replace HX:=thk HX hx;clear hx;obtain ⟨bf,bd⟩:=eu ap.out;go_wp2_with fail;clear bf bd;cases hx:cB en [40] r2 with
      | oof=>exact absurd (by rw [HX.out,hx] <;> rfl) hne
      | bad er p =>
        refine (eM hx hp).mono ?_;rintro e wb ⟨rfl,ac⟩;go_wp2_with fail;exact ⟨rfl,zdz (by rw [HX.out,hx] <;> rfl) (HB.out.trans ac)⟩
      | ok t3 r3 =>
        refine (fV hx hp).mono ?_;rintro e w18 ⟨rfl,aC,ac⟩;clear hp;have hp:=aC;clear aC;replace HB:=kb HB ac;replace ap:=kr ac ap bg;replace aI:=lx ap;replace ae:=kr ac ae an;replace ah:=lx ae;replace av:=kr ac av bm;replace aD:=lx av;replace aG:=kr ac aG cv;replace dM:=lx aG;replace au:=nT au ac.size;clear ac;replace HX:=thk HX hx;clear hx;obtain ⟨bf,bd⟩:=eu ap.out;go_wp2_with fail;clear bf bd;cases hx:bw en f 0 [41] true r3 d with
        | oof=>exact absurd (by rw [HX.out,hx] <;> rfl) hne
        | bad er p =>
          refine ((IL _ r3 d).bad hx hp bg ap.out).mono ?_;rintro e wb ⟨rfl,ac⟩;go_wp2_with fail;exact ⟨rfl,zdz (by rw [HX.out,hx] <;> rfl) (HB.out.trans ac)⟩
        | ok k r4 =>
          refine ((IL _ r3 d).ok hx hp bg ap.out).mono ?_;rintro e w19 ⟨_,rfl,⟨ns_k,hG,hi,hl_k⟩,aC,ac⟩;obtain ⟨oZ,oe,hv,hc_k,hm_k⟩:=hG.shape;subst hv;have b_k:w.heap.size+2≤w18.heap.size:=au;clear hp;have hp:=aC;clear aC;have i_k:=hid hi;have hg:=hid (hG.two (B:=w.heap.size+2) au);have u_k_bx:=aI;have u_k_res:=ah;have u_k_t:=aD;have u_k_n:=dM;replace HB:=kb HB ac;replace ap:=kr ac ap bg;replace aI:=lx ap;replace ae:=kr ac ae an;replace ah:=lx ae;replace av:=kr ac av bm;replace aD:=lx av;replace aG:=kr ac aG cv;replace dM:=lx aG;replace au:=nT au ac.size;have s_k:=ac.size;have G_k:=hg;clear hi hG ac hg;replace HX:=thk HX hx;clear hx;obtain ⟨bf,bd⟩:=eu ap.out;go_wp2_with fail;clear bf bd;cases hx:cB en [41] r4 with
          | oof=>exact absurd (by rw [HX.out,hx] <;> rfl) hne
          | bad er p =>
            refine (eM hx hp).mono ?_;rintro e wb ⟨rfl,ac⟩;go_wp2_with fail;exact ⟨rfl,zdz (by rw [HX.out,hx] <;> rfl) (HB.out.trans ac)⟩
          | ok t4 r5 =>
            refine (fV hx hp).mono ?_;rintro e w20 ⟨rfl,aC,ac⟩;clear hp;have hp:=aC;clear aC;replace HB:=kb HB ac;replace ap:=kr ac ap bg;replace aI:=lx ap;replace ae:=kr ac ae an;replace ah:=lx ae;replace av:=kr ac av bm;replace aD:=lx av;replace aG:=kr ac aG cv;replace dM:=lx aG;replace G_k:=hid (G_k.out.keep ac (by omega) (by omega));replace s_k:=nT s_k ac.size;replace au:=nT au ac.size;clear ac;replace HX:=thk HX hx;clear hx;go_wp2_with fail;refine aH (S:=fun W=>W.heap[w.heap.size]? = some (.cells #[.pointer (some ⟨g,0,none⟩)] 53)∧W.heap[w2.heap.size]? = some (.cells #[.int .i64 (t.1:Int),.string (bs t.2.1),.int .i64 (t.2.2.1:Int),.int .i64 (t.2.2.2:Int)] 46)∧W.heap[z_n]? = some (.cells #[.int .i64 (n.1:Int),.string (bs n.2.1),.int .i64 (n.2.2.1:Int),.int .i64 (n.2.2.2:Int)] 46)) (by kernel_rfl) ?_;obtain ⟨w21,hw,aC,ac⟩:=dj hp;clear hp;have hp:=aC;clear aC;replace HB:=kb HB ac;replace ap:=kr ac ap bg;replace aI:=lx ap;replace ae:=kr ac ae an;replace ah:=lx ae;replace av:=kr ac av bm;replace aD:=lx av;replace aG:=kr ac aG cv;replace dM:=lx aG;replace G_k:=hid (G_k.out.keep ac (by omega) (by omega));replace s_k:=nT s_k ac.size;replace au:=nT au ac.size;rw [← hw.out];clear hw ac;have hS:=And.intro ap.out (And.intro av.out (aG.out));refine zdN 0 (some 19) hS 46 (w2.heap.size) 0 [.int .i64 (t.1:Int),.string (bs t.2.1),.int .i64 (t.2.2.1:Int),.int .i64 (t.2.2.2:Int)] (fun W hW=>bt hW.2.1) Tryz.underlying46 ?_
            try simp only [aPu,sA,sB,sC]
            refine zdA 1 (some 20) (.pointer (some ⟨z_n,1,none⟩)) hS ?_
            try simp only [aPu,sA,sB,sC]
            refine zdD 2 (some 21) (.string (bs n.2.1)) hS ?_ (hv:=fun W hW=>by have q:W.cell? ⟨z_n,1,none⟩=some (.string (bs n.2.1)):=cRo W _ 1 _ _ _ hW.2.2;go_simp)
            try simp only [aPu,sA,sB,sC]
            refine zdA 3 (some 22) ((.slice oZ ns_k.length oe)) hS ?_
            try simp only [aPu,sA,sB,sC]
            refine zdD 4 (some 23) (.pointer (some ⟨g,0,none⟩)) hS ?_ (hv:=fun W hW=>by have q:W.cell? ⟨w.heap.size,0,none⟩=some (.pointer (some ⟨g,0,none⟩)):=cRo W _ 0 _ _ _ hW.1;go_simp)
            try simp only [aPu,sA,sB,sC]
            refine zdC 5 ?_;intro K hK;go_simp;cases hx:cM en f r5 d with
            | oof=>exact absurd (by rw [HX.out,hx] <;> rfl) hne
            | bad er p =>
              refine ((IB r5 d).bad hx hp).mono ?_;rintro e wb ⟨rfl,ac⟩;go_wp2_with fail;exact ⟨rfl,zdz (by rw [HX.out,hx] <;> rfl) (HB.out.trans ac)⟩
            | ok y r6 =>
              refine ((IB r5 d).ok hx hp).mono ?_;rintro e w22 ⟨_,rfl,⟨mm,mQ,mJ,mH,gQ,mM,mj,rfl,hi,hh⟩,aC,ac⟩;clear hp;have hp:=aC;clear aC;have i_y:=hid hi;have hy:=hid (am.less (P':=fun b=>w.heap.size+2≤b) (fun b _ (hb:w21.heap.size≤b)=>(show w.heap.size+2≤b by omega)) hh);have ay:=hid (am.less (P':=fun b=>w.heap.size+2≤b∧Value.ownBlock (.slice oZ ns_k.length oe)≠some b) (fun b _ (hb:w21.heap.size≤b)=>⟨by omega,fun e=>by have:=G_k.out.fresh e;omega⟩) hh);replace HB:=kb HB ac;replace ap:=kr ac ap bg;replace aI:=lx ap;replace ae:=kr ac ae an;replace ah:=lx ae;replace av:=kr ac av bm;replace aD:=lx av;replace aG:=kr ac aG cv;replace dM:=lx aG;replace G_k:=hid (G_k.out.keep ac (by omega) (by omega));replace s_k:=nT s_k ac.size;replace au:=nT au ac.size;have jj:=hy;clear hy hi hh ac;have ay_y:=ay;clear ay;replace HX:=thk HX hx;clear hx;go_wp2_with fail;clear hS;have hS:=And.intro ap.out (And.intro av.out (aG.out));refine hK.out _ _ hS ?_;clear hK K
              try simp only [aPu,sA,sB,sC]
              refine zdC 6 ?_;intro K hK;go_simp;obtain ⟨w23,hw,aC,ac,rr,tl⟩:=aN hp (.cells #[.int .i64 mm,.string (bs mQ),.int .i64 mJ,.int .i64 mH,.slice mM gQ.length mj] 27);have zb6:w22.heap.size≠g:=by have:=hp.lt;omega
              have zbU:w.heap.size+2≤w22.heap.size:=au;clear hp;have hp:=aC;clear aC;have u_ka_bx:=aI;have u_ka_res:=ah;have u_ka_t:=aD;have u_ka_n:=dM;have jO:=hid rr;clear rr;replace HB:=kb HB ac;replace ap:=kr ac ap bg;replace aI:=lx ap;replace ae:=kr ac ae an;replace ah:=lx ae;replace av:=kr ac av bm;replace aD:=lx av;replace aG:=kr ac aG cv;replace dM:=lx aG;replace jj:=kh ac Pg jj;replace ay_y:=hid (am.keep (ac.same (fun b hb=>Pg.out b hb.1)) ay_y.out);replace G_k:=hid (G_k.out.keep ac (by omega) (by omega));replace s_k:=nT s_k ac.size;replace au:=nT au ac.size;have oQ:w22.heap.size<w23.heap.size:=tl;clear tl ac;rw [← hw.out];clear hw;clear hS;have hS:=And.intro ap.out (And.intro av.out (aG.out));refine hK.out _ _ hS ?_;clear hK K
              try simp only [aPu,sA,sB,sC]
              refine zdC 7 ?_;intro K hK;have hown:=G_k.out.own;refine k9 _ _ 25 (by rfl) (w18.heap.size) 27 i0 (.agg #[.int .i64 0,.string ⟨#[]⟩,.int .i64 0,.int .i64 0,.slice none 0 0]) 5 64 Tryz.underlying25 hi0 iz0 iz1 iz2 rfl (by decide) _ _ _ (by rfl) hown ⟨w22.heap.size,0,none⟩ 1 1 (aW [(NM.mk mm mQ mJ mH gQ mM mj)]) (by rfl) (be _) (go jO.out rfl) (dd _) ?c1 ?c2 ?c3 ?_
              case c1=>have:=hl_k;unfold maxLen;(try simp) <;> omega
              case c2=>have:=hl_k;(try simp) <;> omega
              case c3=>omega
              intro v' w24 hown' hgrow hat;replace G_k:=hid (G_k.out.app (cm ay_y.out) hown' (by simp) hgrow hat);replace hp:=hp.grown hown hgrow (by omega);replace HB:=hid (HB.out.grown hown hgrow (by omega));replace ap:=hid ((eb hown hgrow _ (by omega) (by omega)).trans ap.out);replace ae:=hid ((eb hown hgrow _ (by omega) (by omega)).trans ae.out);replace av:=hid ((eb hown hgrow _ (by omega) (by omega)).trans av.out);replace aG:=hid ((eb hown hgrow _ (by omega) (by omega)).trans aG.out);replace au:=nT au hgrow.size;replace s_k:=nT s_k hgrow.size;replace aI:=nL aI hgrow.size;replace ah:=nL ah hgrow.size;replace aD:=nL aD hgrow.size;replace dM:=nL dM hgrow.size;obtain ⟨a_k',m_k',hv',hc_k',hm_k'⟩:=(G_k.out.one (by omega)).shape;subst hv';clear hown hown' hgrow hat jO oQ jj ay_y;obtain ⟨m0,hm0⟩:∃ m0,m0=(ns_k++[(NM.mk mm mQ mJ mH gQ mM mj)]).length:=⟨_,rfl⟩;rw [← hm0];have hm1:=hid hm0;clear hm0;clear hS;have hS:=And.intro ap.out (And.intro av.out (aG.out));refine hK.out _ _ hS ?_;clear hK K
              try simp only [aPu,sA]
              refine zdC 8 ?_;intro K hK;go_simp;refine (bW 6 t n.2.1 a_k' m0 m_k' _).mono ?_;rintro e w25 ⟨rfl,ac⟩;replace hp:=hp.keep ac;replace ac:=obw g ac;replace HB:=kb HB ac;replace ap:=kr ac ap bg;replace aI:=lx ap;replace ae:=kr ac ae an;replace ah:=lx ae;replace av:=kr ac av bm;replace aD:=lx av;replace aG:=kr ac aG cv;replace dM:=lx aG;replace G_k:=hid (G_k.out.keep ac (by omega) (by omega));replace s_k:=nT s_k ac.size;replace au:=nT au ac.size;clear ac;go_wp2_with fail;clear hS;have hS:=And.intro ap.out (And.intro av.out (aG.out));refine hK.out _ _ hS ?_;clear hK K
              try simp only [aPu,sA,sB,sC]
              have hzz:=hgl;have HW:=hid (cu hp HB.out ae.out (by omega) (by omega) (.int .i64 6) (.string (bs n.2.1)) (.int .i64 (t.2.2.1:Int)) (.int .i64 (t.2.2.2:Int)) ((.slice a_k' m0 m_k')));obtain ⟨cT,cQ,cO,cN,cS,cR,cI,cJ,cH,cP⟩:=eV ae.out;refine zdC 9 ?_;intro K hK;go_simp;clear cT cR cQ cI cO cJ cN cH cS cP;obtain ⟨wz,hw,fl,fo,fu,hsz,dv⟩:=HW.out;rw [← hw];refine hK.out _ _ (And.intro ((dv _ (by omega)).trans ap.out) (And.intro ((dv _ (by omega)).trans av.out) ((dv _ (by omega)).trans aG.out))) ?_;clear hK K
              try simp only [aPu,sA,sB,sC]
              refine zdH ?_;go_wp2_with fail;refine br Tryz.underlying27 (w.heap.size+1) fu (zdE HX.out ?_ fl fo);have S:d9 (w.heap.size+2≤·) w25 wz:=⟨by omega,fun k _ (hk:w.heap.size+2≤k)=>dv k (by omega)⟩;exact ⟨_,_,_,_,(ns_k++[(NM.mk mm mQ mJ mH gQ mM mj)]),a_k',m_k',by rw [hm1.out];rfl,eK (k:=6) (p:=(t.2.2.1,t.2.2.2)) (eN i_k.out (dF i_y.out)) _ _,am.less (P:=fun b=>w.heap.size+2≤b) (fun b _ (hb:w.heap.size+2≤b)=>(show w.heap.size≤b by omega)) (am.keep S ((G_k.out.one (by omega)).kids _ _ _ _))⟩
end Go.Proofs.YtfgiihpopngbkaaGreatDoor
