/- Lemmas and walks that the statement needs: ParseExpr, ParseArg. -/
import Derived.Test.YtfgiihpopngbkaaGreatDoorP11
namespace Go.Proofs.YtfgiihpopngbkaaGreatDoor
set_option maxRecDepth 100000
set_option maxHeartbeats 8000000
open Go.RowKit
open List renaming setIfInBounds_toArray→sA,set_cons_zero→sB,set_cons_succ→sC
open Nat renaming le_trans→nT
open Go.Act renaming put→aPu
open Go renaming cell_of_row→cRo
theorem xf (f:Nat) (g:Nat) (en:Pl) (l:List Tok) (d:Nat)
  (IH:∀ l,cC 102 #[.pointer (some ⟨g,0,none⟩)] g en l d ca (gN en f l d)) :
  cC 65 #[.pointer (some ⟨g,0,none⟩)] g en l d ca (bA en (f+1) l d):=by
 intro w hp hne;obtain ⟨X,hX⟩:∃ X,X=bA en (f+1) l d:=⟨_,rfl⟩;rw [← hX] at hne ⊢;rw [bA] at hX;have HX:=hid hX;clear hX;have hgl:=hp.lt;have Pg:=hid (fun (b:Nat) (h:w.heap.size+1≤b)=>(show b≠g by omega));obtain ⟨w1,hw,hp1,hB,rr,au⟩:=aN hp (.cells #[.int .i64 0,.string ⟨#[]⟩,.int .i64 0,.int .i64 0,.slice none 0 0] 27);have ae:=hid rr;have an:w.heap.size≠g:=by omega
 have ah:w.heap.size<w1.heap.size:=au;clear hp rr;have hp:=hp1;clear hp1;have HB:=hid hB;clear hB;go_enter Tryz.func65,Tryz.ntmps65
 go_wp2_with fail;rw [← hw.out];clear hw;cases hx:gN en f l d with
 | oof=>exact absurd (by rw [HX.out,hx];rfl) hne
 | bad er p =>
   refine ((IH l).bad hx hp).mono ?_;rintro e wb ⟨rfl,ac⟩;go_wp2_with fail;exact ⟨rfl,zdz (by rw [HX.out,hx] <;> rfl) (HB.out.trans ac)⟩
 | ok x r =>
   refine ((IH l).ok hx hp).mono ?_;rintro e w2 ⟨_,rfl,⟨ey,eC,eB,ez,bQ,eD,eA,rfl,hi,hh⟩,aC,ac⟩;clear hp;have hp:=aC;clear aC;have i_x:=hid hi;have hy:=hid (am.less (P':=fun b=>w.heap.size+1≤b) (fun b _ (hb:w1.heap.size≤b)=>(show w.heap.size+1≤b by omega)) hh);replace HB:=kb HB ac;replace ae:=kr ac ae an;replace ah:=lx ae;replace au:=nT au ac.size;have bZ:=hy;clear hy hi hh ac;go_wp2_with fail;obtain ⟨w3,hw,aC,ac,rr,tl⟩:=aN hp (.cells #[.int .i64 ey,.string (bs eC),.int .i64 eB,.int .i64 ez,.slice eD bQ.length eA] 27);have gq:w2.heap.size≠g:=by have:=hp.lt;omega
   have g_x:w.heap.size+1≤w2.heap.size:=au;clear hp;have hp:=aC;clear aC;have bu:=hid rr;clear rr;replace HB:=kb HB ac;replace ae:=kr ac ae an;replace ah:=lx ae;replace bZ:=kh ac Pg bZ;replace au:=nT au ac.size;have cW:w2.heap.size<w3.heap.size:=tl;clear tl ac;rw [← hw.out];clear hw;replace HX:=thk HX hx;clear hx;have HS1:=hid (fun W (hW:PS W g en r d)=>ch 0 [61,61] g en r d W hW);have HS2:=hid (fun W (hW:PS W g en r d)=>ch 0 [33,61] g en r d W hW);have HS3:=hid (fun W (hW:PS W g en r d)=>cX [105,110] g en r d W hW);have e3:bL r wIn=bL r [105,110]:=rfl;rw [e3] at HX;clear e3;generalize aT r 0 [61,61]=b1 at *;generalize aT r 0 [33,61]=b2 at *;generalize bL r [105,110]=b3 at *;cases b1 with
   | true =>
     replace HX:=hid (by have:=HX.out;rw [if_pos (c:=(true || b2 || b3)=true) rfl] at this;exact this);refine (HS1.out _ hp).mono ?_;rintro e w4 ⟨rfl,ac⟩;replace hp:=hp.keep ac;replace ac:=obw g ac;replace HB:=kb HB ac;replace ae:=kr ac ae an;replace ah:=lx ae;replace bu:=kr ac bu gq;replace cW:=lx bu;replace bZ:=kh ac Pg bZ;replace au:=nT au ac.size;clear ac;clear HS1 HS2 HS3;go_wp2_with fail;cases hx:bl en true r with
     | oof=>exact absurd (by rw [HX.out,hx];rfl) hne
     | bad er p =>
       refine (cc hx hp).mono ?_;rintro e wb ⟨rfl,ac⟩;go_wp2_with fail;exact ⟨rfl,zdz (by rw [HX.out,hx] <;> rfl) (HB.out.trans ac)⟩
     | ok t r2 =>
       refine (c9 hx hp).mono ?_;rintro e w5 ⟨rfl,aC,ac⟩;clear hp;have hp:=aC;clear aC;replace HB:=kb HB ac;replace ae:=kr ac ae an;replace ah:=lx ae;replace bu:=kr ac bu gq;replace cW:=lx bu;replace bZ:=kh ac Pg bZ;replace au:=nT au ac.size;clear ac;go_wp2_with fail;obtain ⟨w6,hw,aC,ac,rr,tl⟩:=aN hp (.cells #[.int .i64 (t.1:Int),.string (bs t.2.1),.int .i64 (t.2.2.1:Int),.int .i64 (t.2.2.2:Int)] 46);have bm:w5.heap.size≠g:=by have:=hp.lt;omega
       have om:w.heap.size+1≤w5.heap.size:=au;clear hp;have hp:=aC;clear aC;have av:=hid rr;clear rr;replace HB:=kb HB ac;replace ae:=kr ac ae an;replace ah:=lx ae;replace bu:=kr ac bu gq;replace cW:=lx bu;replace bZ:=kh ac Pg bZ;replace au:=nT au ac.size;have aD:w5.heap.size<w6.heap.size:=tl;clear tl ac;rw [← hw.out];clear hw;replace HX:=thk HX hx;clear hx;refine aH (S:=fun W=>W.heap[w5.heap.size]? = some (.cells #[.int .i64 (t.1:Int),.string (bs t.2.1),.int .i64 (t.2.2.1:Int),.int .i64 (t.2.2.2:Int)] 46)∧W.heap[w2.heap.size]? = some (.cells #[.int .i64 ey,.string (bs eC),.int .i64 eB,.int .i64 ez,.slice eD bQ.length eA] 27)) (by kernel_rfl) ?_;obtain ⟨w7,hw,aC,ac⟩:=dj hp;clear hp;have hp:=aC;clear aC;replace HB:=kb HB ac;replace ae:=kr ac ae an;replace ah:=lx ae;replace bu:=kr ac bu gq;replace cW:=lx bu;replace av:=kr ac av bm;replace aD:=lx av;replace bZ:=kh ac Pg bZ;replace au:=nT au ac.size;rw [← hw.out];clear hw ac;have hS:=And.intro av.out (bu.out);refine zdN 0 (some 19) hS 46 (w5.heap.size) 0 [.int .i64 (t.1:Int),.string (bs t.2.1),.int .i64 (t.2.2.1:Int),.int .i64 (t.2.2.2:Int)] (fun W hW=>bt hW.1) Tryz.underlying46 ?_
       try simp only [aPu,sA,sB,sC]
       refine zdA 1 (some 20) (.pointer (some ⟨w5.heap.size,1,none⟩)) hS ?_
       try simp only [aPu,sA,sB,sC]
       refine zdD 2 (some 21) (.string (bs t.2.1)) hS ?_ (hv:=fun W hW=>by have q:W.cell? ⟨w5.heap.size,1,none⟩=some (.string (bs t.2.1)):=cRo W _ 1 _ _ _ hW.1;go_simp)
       try simp only [aPu,sA,sB,sC]
       refine zdN 3 (some 22) hS 27 (w2.heap.size) 0 [.int .i64 ey,.string (bs eC),.int .i64 eB,.int .i64 ez,.slice eD bQ.length eA] (fun W hW=>bt hW.2) Tryz.underlying27 ?_
       try simp only [aPu,sA,sB,sC]
       refine zdA 4 (some 23) (.pointer (some ⟨g,0,none⟩)) hS ?_
       try simp only [aPu,sA,sB,sC]
       refine zdC 5 ?_;intro K hK;go_simp;cases hx:gN en f r2 d with
       | oof=>exact absurd (by rw [HX.out,hx];rfl) hne
       | bad er p =>
         refine ((IH r2).bad hx hp).mono ?_;rintro e wb ⟨rfl,ac⟩;go_wp2_with fail;exact ⟨rfl,zdz (by rw [HX.out,hx] <;> rfl) (HB.out.trans ac)⟩
       | ok y r3 =>
         refine ((IH r2).ok hx hp).mono ?_;rintro e w8 ⟨_,rfl,⟨mm,mQ,mJ,mH,gQ,mM,mj,rfl,hi,hh⟩,aC,ac⟩;clear hp;have hp:=aC;clear aC;have i_y:=hid hi;have hy:=hid (am.less (P':=fun b=>w.heap.size+1≤b) (fun b _ (hb:w7.heap.size≤b)=>(show w.heap.size+1≤b by omega)) hh);replace HB:=kb HB ac;replace ae:=kr ac ae an;replace ah:=lx ae;replace bu:=kr ac bu gq;replace cW:=lx bu;replace av:=kr ac av bm;replace aD:=lx av;replace bZ:=kh ac Pg bZ;replace au:=nT au ac.size;have jj:=hy;clear hy hi hh ac;replace HX:=thk HX hx;clear hx;go_wp2_with fail;clear hS;have hS:=And.intro av.out (bu.out);refine hK.out _ _ hS ?_;clear hK K
         try simp only [aPu,sA,sB,sC]
         refine zdC 6 ?_;intro K hK;go_simp;obtain ⟨w9,hw,aC,ac,rr,tl⟩:=aN hp (.cells #[.int .i64 ey,.string (bs eC),.int .i64 eB,.int .i64 ez,.slice eD bQ.length eA,.int .i64 mm,.string (bs mQ),.int .i64 mJ,.int .i64 mH,.slice mM gQ.length mj] 27);have eU:w8.heap.size≠g:=by have:=hp.lt;omega
         have jI:w.heap.size+1≤w8.heap.size:=au;clear hp;have hp:=aC;clear aC;have bG:=hid rr;clear rr;replace HB:=kb HB ac;replace ae:=kr ac ae an;replace ah:=lx ae;replace bu:=kr ac bu gq;replace cW:=lx bu;replace av:=kr ac av bm;replace aD:=lx av;replace bZ:=kh ac Pg bZ;replace jj:=kh ac Pg jj;replace au:=nT au ac.size;have dh:w8.heap.size<w9.heap.size:=tl;clear tl ac;rw [← hw.out];clear hw;clear hS;have hS:=And.intro av.out (bu.out);refine hK.out _ _ hS ?_;clear hK K
         try simp only [aPu,sA,sB,sC]
         refine zdC 7 ?_;intro K hK;go_simp;refine (bW 16 t t.2.1 (some ⟨w8.heap.size,0,none⟩) 2 2 _).mono ?_;rintro e w10 ⟨rfl,ac⟩;replace hp:=hp.keep ac;replace ac:=obw g ac;replace HB:=kb HB ac;replace ae:=kr ac ae an;replace ah:=lx ae;replace bu:=kr ac bu gq;replace cW:=lx bu;replace av:=kr ac av bm;replace aD:=lx av;replace bG:=kr ac bG eU;replace dh:=lx bG;replace bZ:=kh ac Pg bZ;replace jj:=kh ac Pg jj;replace au:=nT au ac.size;clear ac;go_wp2_with fail;clear hS;have hS:=And.intro av.out (bu.out);refine hK.out _ _ hS ?_;clear hK K
         try simp only [aPu,sA,sB,sC]
         have hzz:=hgl;have HW:=hid (cu hp HB.out ae.out (by omega) (by omega) (.int .i64 16) (.string (bs t.2.1)) (.int .i64 (t.2.2.1:Int)) (.int .i64 (t.2.2.2:Int)) (.slice (some ⟨w8.heap.size,0,none⟩) 2 2));obtain ⟨cT,cQ,cO,cN,cS,cR,cI,cJ,cH,cP⟩:=eV ae.out;refine zdC 8 ?_;intro K hK;go_simp;clear cT cR cQ cI cO cJ cN cH cS cP;obtain ⟨wz,hw,fl,fo,fu,hsz,dv⟩:=HW.out;rw [← hw];refine hK.out _ _ (And.intro ((dv _ (by omega)).trans av.out) ((dv _ (by omega)).trans bu.out)) ?_;clear hK K
         try simp only [aPu,sA,sB,sC]
         refine zdH ?_;go_wp2_with fail;refine br Tryz.underlying27 (w.heap.size) fu (zdE HX.out ?_ fl fo);have S:d9 (w.heap.size+1≤·) w10 wz:=⟨by omega,fun k _ (hk:w.heap.size+1≤k)=>dv k (by omega)⟩;exact ⟨_,_,_,_,[(NM.mk ey eC eB ez bQ eD eA),(NM.mk mm mQ mJ mH gQ mM mj)],_,_,rfl,eK (k:=16) (p:=(t.2.2.1,t.2.2.2)) (ju i_x.out i_y.out) _ _,am.less (P:=fun b=>w.heap.size+1≤b) (fun b _ (hb:w.heap.size+1≤b)=>(show w.heap.size≤b by omega)) (ef ((dv _ (by omega)).trans bG.out) rfl (by simp) (by omega) (gl (am.keep S bZ.out) (am.keep S jj.out)) _ _ _ _)⟩
   | false =>
     cases b2 with
     | true =>
       replace HX:=hid (by have:=HX.out;rw [if_pos (c:=(false || true || b3)=true) rfl] at this;exact this);refine (HS1.out _ hp).mono ?_;rintro e w11 ⟨rfl,ac⟩;replace hp:=hp.keep ac;replace ac:=obw g ac;replace HB:=kb HB ac;replace ae:=kr ac ae an;replace ah:=lx ae;replace bu:=kr ac bu gq;replace cW:=lx bu;replace bZ:=kh ac Pg bZ;replace au:=nT au ac.size;clear ac;go_wp2_with fail;refine (HS2.out _ hp).mono ?_;rintro e w12 ⟨rfl,ac⟩;replace hp:=hp.keep ac;replace ac:=obw g ac;replace HB:=kb HB ac;replace ae:=kr ac ae an;replace ah:=lx ae;replace bu:=kr ac bu gq;replace cW:=lx bu;replace bZ:=kh ac Pg bZ;replace au:=nT au ac.size;clear ac;clear HS1 HS2 HS3;go_wp2_with fail;cases hx:bl en true r with
       | oof=>exact absurd (by rw [HX.out,hx];rfl) hne
       | bad er p =>
         refine (cc hx hp).mono ?_;rintro e wb ⟨rfl,ac⟩;go_wp2_with fail;exact ⟨rfl,zdz (by rw [HX.out,hx] <;> rfl) (HB.out.trans ac)⟩
       | ok t r2 =>
         refine (c9 hx hp).mono ?_;rintro e w13 ⟨rfl,aC,ac⟩;clear hp;have hp:=aC;clear aC;replace HB:=kb HB ac;replace ae:=kr ac ae an;replace ah:=lx ae;replace bu:=kr ac bu gq;replace cW:=lx bu;replace bZ:=kh ac Pg bZ;replace au:=nT au ac.size;clear ac;go_wp2_with fail;obtain ⟨w14,hw,aC,ac,rr,tl⟩:=aN hp (.cells #[.int .i64 (t.1:Int),.string (bs t.2.1),.int .i64 (t.2.2.1:Int),.int .i64 (t.2.2.2:Int)] 46);have bm:w13.heap.size≠g:=by have:=hp.lt;omega
         have om:w.heap.size+1≤w13.heap.size:=au;clear hp;have hp:=aC;clear aC;have av:=hid rr;clear rr;replace HB:=kb HB ac;replace ae:=kr ac ae an;replace ah:=lx ae;replace bu:=kr ac bu gq;replace cW:=lx bu;replace bZ:=kh ac Pg bZ;replace au:=nT au ac.size;have aD:w13.heap.size<w14.heap.size:=tl;clear tl ac;rw [← hw.out];clear hw;replace HX:=thk HX hx;clear hx;refine aH (S:=fun W=>W.heap[w13.heap.size]? = some (.cells #[.int .i64 (t.1:Int),.string (bs t.2.1),.int .i64 (t.2.2.1:Int),.int .i64 (t.2.2.2:Int)] 46)∧W.heap[w2.heap.size]? = some (.cells #[.int .i64 ey,.string (bs eC),.int .i64 eB,.int .i64 ez,.slice eD bQ.length eA] 27)) (by kernel_rfl) ?_;obtain ⟨w15,hw,aC,ac⟩:=dj hp;clear hp;have hp:=aC;clear aC;replace HB:=kb HB ac;replace ae:=kr ac ae an;replace ah:=lx ae;replace bu:=kr ac bu gq;replace cW:=lx bu;replace av:=kr ac av bm;replace aD:=lx av;replace bZ:=kh ac Pg bZ;replace au:=nT au ac.size;rw [← hw.out];clear hw ac;have hS:=And.intro av.out (bu.out);refine zdN 0 (some 19) hS 46 (w13.heap.size) 0 [.int .i64 (t.1:Int),.string (bs t.2.1),.int .i64 (t.2.2.1:Int),.int .i64 (t.2.2.2:Int)] (fun W hW=>bt hW.1) Tryz.underlying46 ?_
         try simp only [aPu,sA,sB,sC]
         refine zdA 1 (some 20) (.pointer (some ⟨w13.heap.size,1,none⟩)) hS ?_
         try simp only [aPu,sA,sB,sC]
         refine zdD 2 (some 21) (.string (bs t.2.1)) hS ?_ (hv:=fun W hW=>by have q:W.cell? ⟨w13.heap.size,1,none⟩=some (.string (bs t.2.1)):=cRo W _ 1 _ _ _ hW.1;go_simp)
         try simp only [aPu,sA,sB,sC]
         refine zdN 3 (some 22) hS 27 (w2.heap.size) 0 [.int .i64 ey,.string (bs eC),.int .i64 eB,.int .i64 ez,.slice eD bQ.length eA] (fun W hW=>bt hW.2) Tryz.underlying27 ?_
         try simp only [aPu,sA,sB,sC]
         refine zdA 4 (some 23) (.pointer (some ⟨g,0,none⟩)) hS ?_
         try simp only [aPu,sA,sB,sC]
         refine zdC 5 ?_;intro K hK;go_simp;cases hx:gN en f r2 d with
         | oof=>exact absurd (by rw [HX.out,hx];rfl) hne
         | bad er p =>
           refine ((IH r2).bad hx hp).mono ?_;rintro e wb ⟨rfl,ac⟩;go_wp2_with fail;exact ⟨rfl,zdz (by rw [HX.out,hx] <;> rfl) (HB.out.trans ac)⟩
         | ok y r3 =>
           refine ((IH r2).ok hx hp).mono ?_;rintro e w16 ⟨_,rfl,⟨mm,mQ,mJ,mH,gQ,mM,mj,rfl,hi,hh⟩,aC,ac⟩;clear hp;have hp:=aC;clear aC;have i_y:=hid hi;have hy:=hid (am.less (P':=fun b=>w.heap.size+1≤b) (fun b _ (hb:w15.heap.size≤b)=>(show w.heap.size+1≤b by omega)) hh);replace HB:=kb HB ac;replace ae:=kr ac ae an;replace ah:=lx ae;replace bu:=kr ac bu gq;replace cW:=lx bu;replace av:=kr ac av bm;replace aD:=lx av;replace bZ:=kh ac Pg bZ;replace au:=nT au ac.size;have jj:=hy;clear hy hi hh ac;replace HX:=thk HX hx;clear hx;go_wp2_with fail;clear hS;have hS:=And.intro av.out (bu.out);refine hK.out _ _ hS ?_;clear hK K
           try simp only [aPu,sA,sB,sC]
           refine zdC 6 ?_;intro K hK;go_simp;obtain ⟨w17,hw,aC,ac,rr,tl⟩:=aN hp (.cells #[.int .i64 ey,.string (bs eC),.int .i64 eB,.int .i64 ez,.slice eD bQ.length eA,.int .i64 mm,.string (bs mQ),.int .i64 mJ,.int .i64 mH,.slice mM gQ.length mj] 27);have eU:w16.heap.size≠g:=by have:=hp.lt;omega
           have jI:w.heap.size+1≤w16.heap.size:=au;clear hp;have hp:=aC;clear aC;have bG:=hid rr;clear rr;replace HB:=kb HB ac;replace ae:=kr ac ae an;replace ah:=lx ae;replace bu:=kr ac bu gq;replace cW:=lx bu;replace av:=kr ac av bm;replace aD:=lx av;replace bZ:=kh ac Pg bZ;replace jj:=kh ac Pg jj;replace au:=nT au ac.size;have dh:w16.heap.size<w17.heap.size:=tl;clear tl ac;rw [← hw.out];clear hw;clear hS;have hS:=And.intro av.out (bu.out);refine hK.out _ _ hS ?_;clear hK K
           try simp only [aPu,sA,sB,sC]
           refine zdC 7 ?_;intro K hK;go_simp;refine (bW 16 t t.2.1 (some ⟨w16.heap.size,0,none⟩) 2 2 _).mono ?_;rintro e w18 ⟨rfl,ac⟩;replace hp:=hp.keep ac;replace ac:=obw g ac;replace HB:=kb HB ac;replace ae:=kr ac ae an;replace ah:=lx ae;replace bu:=kr ac bu gq;replace cW:=lx bu;replace av:=kr ac av bm;replace aD:=lx av;replace bG:=kr ac bG eU;replace dh:=lx bG;replace bZ:=kh ac Pg bZ;replace jj:=kh ac Pg jj;replace au:=nT au ac.size;clear ac;go_wp2_with fail;clear hS;have hS:=And.intro av.out (bu.out);refine hK.out _ _ hS ?_;clear hK K
           try simp only [aPu,sA,sB,sC]
           have hzz:=hgl;have HW:=hid (cu hp HB.out ae.out (by omega) (by omega) (.int .i64 16) (.string (bs t.2.1)) (.int .i64 (t.2.2.1:Int)) (.int .i64 (t.2.2.2:Int)) (.slice (some ⟨w16.heap.size,0,none⟩) 2 2));obtain ⟨cT,cQ,cO,cN,cS,cR,cI,cJ,cH,cP⟩:=eV ae.out;refine zdC 8 ?_;intro K hK;go_simp;clear cT cR cQ cI cO cJ cN cH cS cP;obtain ⟨wz,hw,fl,fo,fu,hsz,dv⟩:=HW.out;rw [← hw];refine hK.out _ _ (And.intro ((dv _ (by omega)).trans av.out) ((dv _ (by omega)).trans bu.out)) ?_;clear hK K
           try simp only [aPu,sA,sB,sC]
           refine zdH ?_;go_wp2_with fail;refine br Tryz.underlying27 (w.heap.size) fu (zdE HX.out ?_ fl fo);have S:d9 (w.heap.size+1≤·) w18 wz:=⟨by omega,fun k _ (hk:w.heap.size+1≤k)=>dv k (by omega)⟩;exact ⟨_,_,_,_,[(NM.mk ey eC eB ez bQ eD eA),(NM.mk mm mQ mJ mH gQ mM mj)],_,_,rfl,eK (k:=16) (p:=(t.2.2.1,t.2.2.2)) (ju i_x.out i_y.out) _ _,am.less (P:=fun b=>w.heap.size+1≤b) (fun b _ (hb:w.heap.size+1≤b)=>(show w.heap.size≤b by omega)) (ef ((dv _ (by omega)).trans bG.out) rfl (by simp) (by omega) (gl (am.keep S bZ.out) (am.keep S jj.out)) _ _ _ _)⟩
     | false =>
       cases b3 with
       | true =>
         replace HX:=hid (by have:=HX.out;rw [if_pos (c:=(false || false || true)=true) rfl] at this;exact this);refine (HS1.out _ hp).mono ?_;rintro e w19 ⟨rfl,ac⟩;replace hp:=hp.keep ac;replace ac:=obw g ac;replace HB:=kb HB ac;replace ae:=kr ac ae an;replace ah:=lx ae;replace bu:=kr ac bu gq;replace cW:=lx bu;replace bZ:=kh ac Pg bZ;replace au:=nT au ac.size;clear ac;go_wp2_with fail;refine (HS2.out _ hp).mono ?_;rintro e w20 ⟨rfl,ac⟩;replace hp:=hp.keep ac;replace ac:=obw g ac;replace HB:=kb HB ac;replace ae:=kr ac ae an;replace ah:=lx ae;replace bu:=kr ac bu gq;replace cW:=lx bu;replace bZ:=kh ac Pg bZ;replace au:=nT au ac.size;clear ac;go_wp2_with fail;refine (HS3.out _ hp).mono ?_;rintro e w21 ⟨rfl,ac⟩;replace hp:=hp.keep ac;replace ac:=obw g ac;replace HB:=kb HB ac;replace ae:=kr ac ae an;replace ah:=lx ae;replace bu:=kr ac bu gq;replace cW:=lx bu;replace bZ:=kh ac Pg bZ;replace au:=nT au ac.size;clear ac;clear HS1 HS2 HS3;go_wp2_with fail;cases hx:bl en true r with
         | oof=>exact absurd (by rw [HX.out,hx];rfl) hne
         | bad er p =>
           refine (cc hx hp).mono ?_;rintro e wb ⟨rfl,ac⟩;go_wp2_with fail;exact ⟨rfl,zdz (by rw [HX.out,hx] <;> rfl) (HB.out.trans ac)⟩
         | ok t r2 =>
           refine (c9 hx hp).mono ?_;rintro e w22 ⟨rfl,aC,ac⟩;clear hp;have hp:=aC;clear aC;replace HB:=kb HB ac;replace ae:=kr ac ae an;replace ah:=lx ae;replace bu:=kr ac bu gq;replace cW:=lx bu;replace bZ:=kh ac Pg bZ;replace au:=nT au ac.size;clear ac;go_wp2_with fail;obtain ⟨w23,hw,aC,ac,rr,tl⟩:=aN hp (.cells #[.int .i64 (t.1:Int),.string (bs t.2.1),.int .i64 (t.2.2.1:Int),.int .i64 (t.2.2.2:Int)] 46);have bm:w22.heap.size≠g:=by have:=hp.lt;omega
           have om:w.heap.size+1≤w22.heap.size:=au;clear hp;have hp:=aC;clear aC;have av:=hid rr;clear rr;replace HB:=kb HB ac;replace ae:=kr ac ae an;replace ah:=lx ae;replace bu:=kr ac bu gq;replace cW:=lx bu;replace bZ:=kh ac Pg bZ;replace au:=nT au ac.size;have aD:w22.heap.size<w23.heap.size:=tl;clear tl ac;rw [← hw.out];clear hw;replace HX:=thk HX hx;clear hx;refine aH (S:=fun W=>W.heap[w22.heap.size]? = some (.cells #[.int .i64 (t.1:Int),.string (bs t.2.1),.int .i64 (t.2.2.1:Int),.int .i64 (t.2.2.2:Int)] 46)∧W.heap[w2.heap.size]? = some (.cells #[.int .i64 ey,.string (bs eC),.int .i64 eB,.int .i64 ez,.slice eD bQ.length eA] 27)) (by kernel_rfl) ?_;obtain ⟨w24,hw,aC,ac⟩:=dj hp;clear hp;have hp:=aC;clear aC;replace HB:=kb HB ac;replace ae:=kr ac ae an;replace ah:=lx ae;replace bu:=kr ac bu gq;replace cW:=lx bu;replace av:=kr ac av bm;replace aD:=lx av;replace bZ:=kh ac Pg bZ;replace au:=nT au ac.size;rw [← hw.out];clear hw ac;have hS:=And.intro av.out (bu.out);refine zdN 0 (some 19) hS 46 (w22.heap.size) 0 [.int .i64 (t.1:Int),.string (bs t.2.1),.int .i64 (t.2.2.1:Int),.int .i64 (t.2.2.2:Int)] (fun W hW=>bt hW.1) Tryz.underlying46 ?_
           try simp only [aPu,sA,sB,sC]
           refine zdA 1 (some 20) (.pointer (some ⟨w22.heap.size,1,none⟩)) hS ?_
           try simp only [aPu,sA,sB,sC]
           refine zdD 2 (some 21) (.string (bs t.2.1)) hS ?_ (hv:=fun W hW=>by have q:W.cell? ⟨w22.heap.size,1,none⟩=some (.string (bs t.2.1)):=cRo W _ 1 _ _ _ hW.1;go_simp)
           try simp only [aPu,sA,sB,sC]
           refine zdN 3 (some 22) hS 27 (w2.heap.size) 0 [.int .i64 ey,.string (bs eC),.int .i64 eB,.int .i64 ez,.slice eD bQ.length eA] (fun W hW=>bt hW.2) Tryz.underlying27 ?_
           try simp only [aPu,sA,sB,sC]
           refine zdA 4 (some 23) (.pointer (some ⟨g,0,none⟩)) hS ?_
           try simp only [aPu,sA,sB,sC]
           refine zdC 5 ?_;intro K hK;go_simp;cases hx:gN en f r2 d with
           | oof=>exact absurd (by rw [HX.out,hx];rfl) hne
           | bad er p =>
             refine ((IH r2).bad hx hp).mono ?_;rintro e wb ⟨rfl,ac⟩;go_wp2_with fail;exact ⟨rfl,zdz (by rw [HX.out,hx] <;> rfl) (HB.out.trans ac)⟩
           | ok y r3 =>
             refine ((IH r2).ok hx hp).mono ?_;rintro e w25 ⟨_,rfl,⟨mm,mQ,mJ,mH,gQ,mM,mj,rfl,hi,hh⟩,aC,ac⟩;clear hp;have hp:=aC;clear aC;have i_y:=hid hi;have hy:=hid (am.less (P':=fun b=>w.heap.size+1≤b) (fun b _ (hb:w24.heap.size≤b)=>(show w.heap.size+1≤b by omega)) hh);replace HB:=kb HB ac;replace ae:=kr ac ae an;replace ah:=lx ae;replace bu:=kr ac bu gq;replace cW:=lx bu;replace av:=kr ac av bm;replace aD:=lx av;replace bZ:=kh ac Pg bZ;replace au:=nT au ac.size;have jj:=hy;clear hy hi hh ac;replace HX:=thk HX hx;clear hx;go_wp2_with fail;clear hS;have hS:=And.intro av.out (bu.out);refine hK.out _ _ hS ?_;clear hK K
             try simp only [aPu,sA,sB,sC]
             refine zdC 6 ?_;intro K hK;go_simp;obtain ⟨w26,hw,aC,ac,rr,tl⟩:=aN hp (.cells #[.int .i64 ey,.string (bs eC),.int .i64 eB,.int .i64 ez,.slice eD bQ.length eA,.int .i64 mm,.string (bs mQ),.int .i64 mJ,.int .i64 mH,.slice mM gQ.length mj] 27);have eU:w25.heap.size≠g:=by have:=hp.lt;omega
             have jI:w.heap.size+1≤w25.heap.size:=au;clear hp;have hp:=aC;clear aC;have bG:=hid rr;clear rr;replace HB:=kb HB ac;replace ae:=kr ac ae an;replace ah:=lx ae;replace bu:=kr ac bu gq;replace cW:=lx bu;replace av:=kr ac av bm;replace aD:=lx av;replace bZ:=kh ac Pg bZ;replace jj:=kh ac Pg jj;replace au:=nT au ac.size;have dh:w25.heap.size<w26.heap.size:=tl;clear tl ac;rw [← hw.out];clear hw;clear hS;have hS:=And.intro av.out (bu.out);refine hK.out _ _ hS ?_;clear hK K
             try simp only [aPu,sA,sB,sC]
             refine zdC 7 ?_;intro K hK;go_simp;refine (bW 16 t t.2.1 (some ⟨w25.heap.size,0,none⟩) 2 2 _).mono ?_;rintro e w27 ⟨rfl,ac⟩;replace hp:=hp.keep ac;replace ac:=obw g ac;replace HB:=kb HB ac;replace ae:=kr ac ae an;replace ah:=lx ae;replace bu:=kr ac bu gq;replace cW:=lx bu;replace av:=kr ac av bm;replace aD:=lx av;replace bG:=kr ac bG eU;replace dh:=lx bG;replace bZ:=kh ac Pg bZ;replace jj:=kh ac Pg jj;replace au:=nT au ac.size;clear ac;go_wp2_with fail;clear hS;have hS:=And.intro av.out (bu.out);refine hK.out _ _ hS ?_;clear hK K
             try simp only [aPu,sA,sB,sC]
             have hzz:=hgl;have HW:=hid (cu hp HB.out ae.out (by omega) (by omega) (.int .i64 16) (.string (bs t.2.1)) (.int .i64 (t.2.2.1:Int)) (.int .i64 (t.2.2.2:Int)) (.slice (some ⟨w25.heap.size,0,none⟩) 2 2));obtain ⟨cT,cQ,cO,cN,cS,cR,cI,cJ,cH,cP⟩:=eV ae.out;refine zdC 8 ?_;intro K hK;go_simp;clear cT cR cQ cI cO cJ cN cH cS cP;obtain ⟨wz,hw,fl,fo,fu,hsz,dv⟩:=HW.out;rw [← hw];refine hK.out _ _ (And.intro ((dv _ (by omega)).trans av.out) ((dv _ (by omega)).trans bu.out)) ?_;clear hK K
             try simp only [aPu,sA,sB,sC]
             refine zdH ?_;go_wp2_with fail;refine br Tryz.underlying27 (w.heap.size) fu (zdE HX.out ?_ fl fo);have S:d9 (w.heap.size+1≤·) w27 wz:=⟨by omega,fun k _ (hk:w.heap.size+1≤k)=>dv k (by omega)⟩;exact ⟨_,_,_,_,[(NM.mk ey eC eB ez bQ eD eA),(NM.mk mm mQ mJ mH gQ mM mj)],_,_,rfl,eK (k:=16) (p:=(t.2.2.1,t.2.2.2)) (ju i_x.out i_y.out) _ _,am.less (P:=fun b=>w.heap.size+1≤b) (fun b _ (hb:w.heap.size+1≤b)=>(show w.heap.size≤b by omega)) (ef ((dv _ (by omega)).trans bG.out) rfl (by simp) (by omega) (gl (am.keep S bZ.out) (am.keep S jj.out)) _ _ _ _)⟩
       | false =>
         replace HX:=hid (by have:=HX.out;rw [if_neg (c:=(false || false || false)=true) (by decide)] at this;exact this);refine (HS1.out _ hp).mono ?_;rintro e w28 ⟨rfl,ac⟩;replace hp:=hp.keep ac;replace ac:=obw g ac;replace HB:=kb HB ac;replace ae:=kr ac ae an;replace ah:=lx ae;replace bu:=kr ac bu gq;replace cW:=lx bu;replace bZ:=kh ac Pg bZ;replace au:=nT au ac.size;clear ac;go_wp2_with fail;refine (HS2.out _ hp).mono ?_;rintro e w29 ⟨rfl,ac⟩;replace hp:=hp.keep ac;replace ac:=obw g ac;replace HB:=kb HB ac;replace ae:=kr ac ae an;replace ah:=lx ae;replace bu:=kr ac bu gq;replace cW:=lx bu;replace bZ:=kh ac Pg bZ;replace au:=nT au ac.size;clear ac;go_wp2_with fail;refine (HS3.out _ hp).mono ?_;rintro e w30 ⟨rfl,ac⟩;replace hp:=hp.keep ac;replace ac:=obw g ac;replace HB:=kb HB ac;replace ae:=kr ac ae an;replace ah:=lx ae;replace bu:=kr ac bu gq;replace cW:=lx bu;replace bZ:=kh ac Pg bZ;replace au:=nT au ac.size;clear ac;clear HS1 HS2 HS3;obtain ⟨jH,jE,jK,jM,jG,jC,jL,jF,jD,jJ⟩:=eV bu.out;have hzz:=hgl;have HW:=hid (cu hp HB.out ae.out (by omega) (by omega) (.int .i64 ey) (.string (bs eC)) (.int .i64 eB) (.int .i64 ez) (.slice eD bQ.length eA));obtain ⟨cT,cQ,cO,cN,cS,cR,cI,cJ,cH,cP⟩:=eV ae.out;go_wp2_with fail;obtain ⟨wz,hw,fl,fo,fu,hsz,dv⟩:=HW.out;rw [← hw];refine br Tryz.underlying27 (w.heap.size) fu (zdE HX.out ?_ fl fo);have S:d9 (w.heap.size+1≤·) w30 wz:=⟨by omega,fun k _ (hk:w.heap.size+1≤k)=>dv k (by omega)⟩;exact ⟨ey,eC,eB,ez,bQ,eD,eA,rfl,i_x.out,am.less (P:=fun b=>w.heap.size+1≤b) (fun b _ (hb:w.heap.size+1≤b)=>(show w.heap.size≤b by omega)) (am.keep S bZ.out)⟩
theorem xT (en:Pl) (f:Nat) (l:List Tok) (d:Nat):ce en (f+1) 1 l d=if (cd l && aT l 1 [61])=true then (bl en true l).then fun _ r=>(cB en [61] r).then fun _ r=>(bA en f r d).then fun x r=>.ok [.mk 15 (atT en l 0).2.1 (atT en l 0).2.2 [x]] r
  else (bA en f l d).then fun x r=>.ok [.mk 15 [] (atT en l 0).2.2 [x]] r:=by
 rw [ce,if_neg (by decide),if_pos rfl]
theorem ya (f:Nat) (g:Nat) (en:Pl) (l:List Tok) (d:Nat)
  (IH:∀ l,cC 65 #[.pointer (some ⟨g,0,none⟩)] g en l d ca (bA en f l d)) :
  cC 109 #[.pointer (some ⟨g,0,none⟩)] g en l d sc (ce en (f+1) 1 l d):=by
 intro w hp hne;obtain ⟨X,hX⟩:∃ X,X=ce en (f+1) 1 l d:=⟨_,rfl⟩;rw [← hX] at hne ⊢;rw [xT] at hX;have HX:=hid hX;clear hX;have hgl:=hp.lt;have Pg:=hid (fun (b:Nat) (h:w.heap.size+1≤b)=>(show b≠g by omega));obtain ⟨w1,hw,hp1,hB,rr,au⟩:=aN hp (.cells #[.int .i64 0,.string ⟨#[]⟩,.int .i64 0,.int .i64 0,.slice none 0 0] 27);have ae:=hid rr;have an:w.heap.size≠g:=by omega
 have ah:w.heap.size<w1.heap.size:=au;clear hp rr;have hp:=hp1;clear hp1;have HB:=hid hB;clear hB;go_enter Tryz.func109,Tryz.ntmps109
 go_wp2_with fail;rw [← hw.out];clear hw;refine (eI 0 g en l d _ hp).mono ?_;rintro e w2 ⟨rfl,ac⟩;replace hp:=hp.keep ac;replace ac:=obw g ac;replace HB:=kb HB ac;replace ae:=kr ac ae an;replace ah:=lx ae;replace au:=nT au ac.size;clear ac;generalize atT en l 0=t at *;go_wp2_with fail;obtain ⟨w3,hw,aC,ac,rr,tl⟩:=aN hp (.cells #[.int .i64 (t.1:Int),.string (bs t.2.1),.int .i64 (t.2.2.1:Int),.int .i64 (t.2.2.2:Int)] 46);have bm:w2.heap.size≠g:=by have:=hp.lt;omega
 have om:w.heap.size+1≤w2.heap.size:=au;clear hp;have hp:=aC;clear aC;have av:=hid rr;clear rr;replace HB:=kb HB ac;replace ae:=kr ac ae an;replace ah:=lx ae;replace au:=nT au ac.size;have aD:w2.heap.size<w3.heap.size:=tl;clear tl ac;rw [← hw.out];clear hw;have HS1:=hid (fun W (hW:PS W g en l d)=>dk g en l d W hW);have HS2:=hid (fun W (hW:PS W g en l d)=>ch 1 [61] g en l d W hW);generalize cd l=b1 at *;generalize aT l 1 [61]=b2 at *;cases b1 with
 | false =>
   replace HX:=hid (by have:=HX.out;rw [if_neg (c:=(false && b2)=true) (by simp)] at this;exact this);refine (HS1.out _ hp).mono ?_;rintro e w4 ⟨rfl,ac⟩;replace hp:=hp.keep ac;replace ac:=obw g ac;replace HB:=kb HB ac;replace ae:=kr ac ae an;replace ah:=lx ae;replace av:=kr ac av bm;replace aD:=lx av;replace au:=nT au ac.size;clear ac;go_wp2_with fail;clear HS1 HS2;refine aH (S:=fun W=>W.heap[w2.heap.size]? = some (.cells #[.int .i64 (t.1:Int),.string (bs t.2.1),.int .i64 (t.2.2.1:Int),.int .i64 (t.2.2.2:Int)] 46)) (by kernel_rfl) ?_;obtain ⟨w5,hw,aC,ac⟩:=dj hp;clear hp;have hp:=aC;clear aC;replace HB:=kb HB ac;replace ae:=kr ac ae an;replace ah:=lx ae;replace av:=kr ac av bm;replace aD:=lx av;replace au:=nT au ac.size;rw [← hw.out];clear hw ac;have hS:=av.out;refine zdN 0 (some 23) hS 46 (w2.heap.size) 0 [.int .i64 (t.1:Int),.string (bs t.2.1),.int .i64 (t.2.2.1:Int),.int .i64 (t.2.2.2:Int)] (fun W hW=>bt hW) Tryz.underlying46 ?_
   try simp only [aPu,sA,sB,sC]
   refine zdA 1 (some 24) (.pointer (some ⟨g,0,none⟩)) hS ?_
   try simp only [aPu,sA,sB,sC]
   refine zdC 2 ?_;intro K hK;go_simp;cases hx:bA en f l d with
   | oof=>exact absurd (by rw [HX.out,hx];rfl) hne
   | bad er p =>
     refine ((IH l).bad hx hp).mono ?_;rintro e wb ⟨rfl,ac⟩;go_wp2_with fail;exact ⟨rfl,zdz (by rw [HX.out,hx] <;> rfl) (HB.out.trans ac)⟩
   | ok x r =>
     refine ((IH l).ok hx hp).mono ?_;rintro e w6 ⟨_,rfl,⟨ey,eC,eB,ez,bQ,eD,eA,rfl,hi,hh⟩,aC,ac⟩;clear hp;have hp:=aC;clear aC;have i_x:=hid hi;have hy:=hid (am.less (P':=fun b=>w.heap.size+1≤b) (fun b _ (hb:w5.heap.size≤b)=>(show w.heap.size+1≤b by omega)) hh);replace HB:=kb HB ac;replace ae:=kr ac ae an;replace ah:=lx ae;replace av:=kr ac av bm;replace aD:=lx av;replace au:=nT au ac.size;have bZ:=hy;clear hy hi hh ac;replace HX:=thk HX hx;clear hx;go_wp2_with fail;clear hS;have hS:=av.out;refine hK.out _ _ hS ?_;clear hK K
     try simp only [aPu,sA,sB,sC]
     refine zdC 3 ?_;intro K hK;go_simp;obtain ⟨w7,hw,aC,ac,rr,tl⟩:=aN hp (.cells #[.int .i64 ey,.string (bs eC),.int .i64 eB,.int .i64 ez,.slice eD bQ.length eA] 27);have eU:w6.heap.size≠g:=by have:=hp.lt;omega
     have jI:w.heap.size+1≤w6.heap.size:=au;clear hp;have hp:=aC;clear aC;have bG:=hid rr;clear rr;replace HB:=kb HB ac;replace ae:=kr ac ae an;replace ah:=lx ae;replace av:=kr ac av bm;replace aD:=lx av;replace bZ:=kh ac Pg bZ;replace au:=nT au ac.size;have dh:w6.heap.size<w7.heap.size:=tl;clear tl ac;rw [← hw.out];clear hw;clear hS;have hS:=av.out;refine hK.out _ _ hS ?_;clear hK K
     try simp only [aPu,sA,sB,sC]
     refine zdC 4 ?_;intro K hK;go_simp;refine (bW 15 t [] (some ⟨w6.heap.size,0,none⟩) 1 1 _).mono ?_;rintro e w8 ⟨rfl,ac⟩;replace hp:=hp.keep ac;replace ac:=obw g ac;replace HB:=kb HB ac;replace ae:=kr ac ae an;replace ah:=lx ae;replace av:=kr ac av bm;replace aD:=lx av;replace bG:=kr ac bG eU;replace dh:=lx bG;replace bZ:=kh ac Pg bZ;replace au:=nT au ac.size;clear ac;go_wp2_with fail;clear hS;have hS:=av.out;refine hK.out _ _ hS ?_;clear hK K
     try simp only [aPu,sA,sB,sC]
     have hzz:=hgl;have HW:=hid (cu hp HB.out ae.out (by omega) (by omega) (.int .i64 15) (.string (bs [])) (.int .i64 (t.2.2.1:Int)) (.int .i64 (t.2.2.2:Int)) (.slice (some ⟨w6.heap.size,0,none⟩) 1 1));obtain ⟨cT,cQ,cO,cN,cS,cR,cI,cJ,cH,cP⟩:=eV ae.out;refine zdC 5 ?_;intro K hK;go_simp;clear cT cR cQ cI cO cJ cN cH cS cP;obtain ⟨wz,hw,fl,fo,fu,hsz,dv⟩:=HW.out;rw [← hw];refine hK.out _ _ ((dv _ (by omega)).trans av.out) ?_;clear hK K
     try simp only [aPu,sA,sB,sC]
     refine zdH ?_;go_wp2_with fail;refine br Tryz.underlying27 (w.heap.size) fu (zdE HX.out ?_ fl fo);have S:d9 (w.heap.size+1≤·) w8 wz:=⟨by omega,fun k _ (hk:w.heap.size+1≤k)=>dv k (by omega)⟩;exact ⟨_,rfl,⟨_,_,_,_,[(NM.mk ey eC eB ez bQ eD eA)],_,_,rfl,eK (k:=15) (p:=(t.2.2.1,t.2.2.2)) (dF i_x.out) _ _,am.less (P:=fun b=>w.heap.size+1≤b) (fun b _ (hb:w.heap.size+1≤b)=>(show w.heap.size≤b by omega)) (ef ((dv _ (by omega)).trans bG.out) rfl (by simp) (by omega) (cm (am.keep S bZ.out)) _ _ _ _)⟩⟩
 | true =>
   cases b2 with
   | false =>
     replace HX:=hid (by have:=HX.out;rw [if_neg (c:=(true && false)=true) (by decide)] at this;exact this);refine (HS1.out _ hp).mono ?_;rintro e w9 ⟨rfl,ac⟩;replace hp:=hp.keep ac;replace ac:=obw g ac;replace HB:=kb HB ac;replace ae:=kr ac ae an;replace ah:=lx ae;replace av:=kr ac av bm;replace aD:=lx av;replace au:=nT au ac.size;clear ac;go_wp2_with fail;refine (HS2.out _ hp).mono ?_;rintro e w10 ⟨rfl,ac⟩;replace hp:=hp.keep ac;replace ac:=obw g ac;replace HB:=kb HB ac;replace ae:=kr ac ae an;replace ah:=lx ae;replace av:=kr ac av bm;replace aD:=lx av;replace au:=nT au ac.size;clear ac;go_wp2_with fail;clear HS1 HS2;refine aH (S:=fun W=>W.heap[w2.heap.size]? = some (.cells #[.int .i64 (t.1:Int),.string (bs t.2.1),.int .i64 (t.2.2.1:Int),.int .i64 (t.2.2.2:Int)] 46)) (by kernel_rfl) ?_;obtain ⟨w11,hw,aC,ac⟩:=dj hp;clear hp;have hp:=aC;clear aC;replace HB:=kb HB ac;replace ae:=kr ac ae an;replace ah:=lx ae;replace av:=kr ac av bm;replace aD:=lx av;replace au:=nT au ac.size;rw [← hw.out];clear hw ac;have hS:=av.out;refine zdN 0 (some 23) hS 46 (w2.heap.size) 0 [.int .i64 (t.1:Int),.string (bs t.2.1),.int .i64 (t.2.2.1:Int),.int .i64 (t.2.2.2:Int)] (fun W hW=>bt hW) Tryz.underlying46 ?_
     try simp only [aPu,sA,sB,sC]
     refine zdA 1 (some 24) (.pointer (some ⟨g,0,none⟩)) hS ?_
     try simp only [aPu,sA,sB,sC]
     refine zdC 2 ?_;intro K hK;go_simp;cases hx:bA en f l d with
     | oof=>exact absurd (by rw [HX.out,hx];rfl) hne
     | bad er p =>
       refine ((IH l).bad hx hp).mono ?_;rintro e wb ⟨rfl,ac⟩;go_wp2_with fail;exact ⟨rfl,zdz (by rw [HX.out,hx] <;> rfl) (HB.out.trans ac)⟩
     | ok x r =>
       refine ((IH l).ok hx hp).mono ?_;rintro e w12 ⟨_,rfl,⟨ey,eC,eB,ez,bQ,eD,eA,rfl,hi,hh⟩,aC,ac⟩;clear hp;have hp:=aC;clear aC;have i_x:=hid hi;have hy:=hid (am.less (P':=fun b=>w.heap.size+1≤b) (fun b _ (hb:w11.heap.size≤b)=>(show w.heap.size+1≤b by omega)) hh);replace HB:=kb HB ac;replace ae:=kr ac ae an;replace ah:=lx ae;replace av:=kr ac av bm;replace aD:=lx av;replace au:=nT au ac.size;have bZ:=hy;clear hy hi hh ac;replace HX:=thk HX hx;clear hx;go_wp2_with fail;clear hS;have hS:=av.out;refine hK.out _ _ hS ?_;clear hK K
       try simp only [aPu,sA,sB,sC]
       refine zdC 3 ?_;intro K hK;go_simp;obtain ⟨w13,hw,aC,ac,rr,tl⟩:=aN hp (.cells #[.int .i64 ey,.string (bs eC),.int .i64 eB,.int .i64 ez,.slice eD bQ.length eA] 27);have eU:w12.heap.size≠g:=by have:=hp.lt;omega
       have jI:w.heap.size+1≤w12.heap.size:=au;clear hp;have hp:=aC;clear aC;have bG:=hid rr;clear rr;replace HB:=kb HB ac;replace ae:=kr ac ae an;replace ah:=lx ae;replace av:=kr ac av bm;replace aD:=lx av;replace bZ:=kh ac Pg bZ;replace au:=nT au ac.size;have dh:w12.heap.size<w13.heap.size:=tl;clear tl ac;rw [← hw.out];clear hw;clear hS;have hS:=av.out;refine hK.out _ _ hS ?_;clear hK K
       try simp only [aPu,sA,sB,sC]
       refine zdC 4 ?_;intro K hK;go_simp;refine (bW 15 t [] (some ⟨w12.heap.size,0,none⟩) 1 1 _).mono ?_;rintro e w14 ⟨rfl,ac⟩;replace hp:=hp.keep ac;replace ac:=obw g ac;replace HB:=kb HB ac;replace ae:=kr ac ae an;replace ah:=lx ae;replace av:=kr ac av bm;replace aD:=lx av;replace bG:=kr ac bG eU;replace dh:=lx bG;replace bZ:=kh ac Pg bZ;replace au:=nT au ac.size;clear ac;go_wp2_with fail;clear hS;have hS:=av.out;refine hK.out _ _ hS ?_;clear hK K
       try simp only [aPu,sA,sB,sC]
       have hzz:=hgl;have HW:=hid (cu hp HB.out ae.out (by omega) (by omega) (.int .i64 15) (.string (bs [])) (.int .i64 (t.2.2.1:Int)) (.int .i64 (t.2.2.2:Int)) (.slice (some ⟨w12.heap.size,0,none⟩) 1 1));obtain ⟨cT,cQ,cO,cN,cS,cR,cI,cJ,cH,cP⟩:=eV ae.out;refine zdC 5 ?_;intro K hK;go_simp;clear cT cR cQ cI cO cJ cN cH cS cP;obtain ⟨wz,hw,fl,fo,fu,hsz,dv⟩:=HW.out;rw [← hw];refine hK.out _ _ ((dv _ (by omega)).trans av.out) ?_;clear hK K
       try simp only [aPu,sA,sB,sC]
       refine zdH ?_;go_wp2_with fail;refine br Tryz.underlying27 (w.heap.size) fu (zdE HX.out ?_ fl fo);have S:d9 (w.heap.size+1≤·) w14 wz:=⟨by omega,fun k _ (hk:w.heap.size+1≤k)=>dv k (by omega)⟩;exact ⟨_,rfl,⟨_,_,_,_,[(NM.mk ey eC eB ez bQ eD eA)],_,_,rfl,eK (k:=15) (p:=(t.2.2.1,t.2.2.2)) (dF i_x.out) _ _,am.less (P:=fun b=>w.heap.size+1≤b) (fun b _ (hb:w.heap.size+1≤b)=>(show w.heap.size≤b by omega)) (ef ((dv _ (by omega)).trans bG.out) rfl (by simp) (by omega) (cm (am.keep S bZ.out)) _ _ _ _)⟩⟩
   | true =>
     replace HX:=hid (by have:=HX.out;rw [if_pos (c:=(true && true)=true) rfl] at this;exact this);refine (HS1.out _ hp).mono ?_;rintro e w15 ⟨rfl,ac⟩;replace hp:=hp.keep ac;replace ac:=obw g ac;replace HB:=kb HB ac;replace ae:=kr ac ae an;replace ah:=lx ae;replace av:=kr ac av bm;replace aD:=lx av;replace au:=nT au ac.size;clear ac;go_wp2_with fail;refine (HS2.out _ hp).mono ?_;rintro e w16 ⟨rfl,ac⟩;replace hp:=hp.keep ac;replace ac:=obw g ac;replace HB:=kb HB ac;replace ae:=kr ac ae an;replace ah:=lx ae;replace av:=kr ac av bm;replace aD:=lx av;replace au:=nT au ac.size;clear ac;go_wp2_with fail;clear HS1 HS2;cases hx:bl en true l with
     | oof=>exact absurd (by rw [HX.out,hx];rfl) hne
     | bad er p =>
       refine (cc hx hp).mono ?_;rintro e wb ⟨rfl,ac⟩;go_wp2_with fail;exact ⟨rfl,zdz (by rw [HX.out,hx] <;> rfl) (HB.out.trans ac)⟩
     | ok t2 r =>
       refine (c9 hx hp).mono ?_;rintro e w17 ⟨rfl,aC,ac⟩;clear hp;have hp:=aC;clear aC;replace HB:=kb HB ac;replace ae:=kr ac ae an;replace ah:=lx ae;replace av:=kr ac av bm;replace aD:=lx av;replace au:=nT au ac.size;clear ac;replace HX:=thk HX hx;clear hx;go_wp2_with fail;cases hx:cB en [61] r with
       | oof=>exact absurd (by rw [HX.out,hx];rfl) hne
       | bad er p =>
         refine (eM hx hp).mono ?_;rintro e wb ⟨rfl,ac⟩;go_wp2_with fail;exact ⟨rfl,zdz (by rw [HX.out,hx] <;> rfl) (HB.out.trans ac)⟩
       | ok t3 r2 =>
         refine (fV hx hp).mono ?_;rintro e w18 ⟨rfl,aC,ac⟩;clear hp;have hp:=aC;clear aC;replace HB:=kb HB ac;replace ae:=kr ac ae an;replace ah:=lx ae;replace av:=kr ac av bm;replace aD:=lx av;replace au:=nT au ac.size;clear ac;replace HX:=thk HX hx;clear hx;go_wp2_with fail;refine aH (S:=fun W=>W.heap[w2.heap.size]? = some (.cells #[.int .i64 (t.1:Int),.string (bs t.2.1),.int .i64 (t.2.2.1:Int),.int .i64 (t.2.2.2:Int)] 46)) (by kernel_rfl) ?_;obtain ⟨w19,hw,aC,ac⟩:=dj hp;clear hp;have hp:=aC;clear aC;replace HB:=kb HB ac;replace ae:=kr ac ae an;replace ah:=lx ae;replace av:=kr ac av bm;replace aD:=lx av;replace au:=nT au ac.size;rw [← hw.out];clear hw ac;have hS:=av.out;refine zdN 0 (some 16) hS 46 (w2.heap.size) 0 [.int .i64 (t.1:Int),.string (bs t.2.1),.int .i64 (t.2.2.1:Int),.int .i64 (t.2.2.2:Int)] (fun W hW=>bt hW) Tryz.underlying46 ?_
         try simp only [aPu,sA,sB,sC]
         refine zdA 1 (some 17) (.pointer (some ⟨w2.heap.size,1,none⟩)) hS ?_
         try simp only [aPu,sA,sB,sC]
         refine zdD 2 (some 18) (.string (bs t.2.1)) hS ?_ (hv:=fun W hW=>by have q:W.cell? ⟨w2.heap.size,1,none⟩=some (.string (bs t.2.1)):=cRo W _ 1 _ _ _ hW;go_simp)
         try simp only [aPu,sA,sB,sC]
         refine zdA 3 (some 19) (.pointer (some ⟨g,0,none⟩)) hS ?_
         try simp only [aPu,sA,sB,sC]
         refine zdC 4 ?_;intro K hK;go_simp;cases hx:bA en f r2 d with
         | oof=>exact absurd (by rw [HX.out,hx];rfl) hne
         | bad er p =>
           refine ((IH r2).bad hx hp).mono ?_;rintro e wb ⟨rfl,ac⟩;go_wp2_with fail;exact ⟨rfl,zdz (by rw [HX.out,hx] <;> rfl) (HB.out.trans ac)⟩
         | ok x r3 =>
           refine ((IH r2).ok hx hp).mono ?_;rintro e w20 ⟨_,rfl,⟨ey,eC,eB,ez,bQ,eD,eA,rfl,hi,hh⟩,aC,ac⟩;clear hp;have hp:=aC;clear aC;have i_x:=hid hi;have hy:=hid (am.less (P':=fun b=>w.heap.size+1≤b) (fun b _ (hb:w19.heap.size≤b)=>(show w.heap.size+1≤b by omega)) hh);replace HB:=kb HB ac;replace ae:=kr ac ae an;replace ah:=lx ae;replace av:=kr ac av bm;replace aD:=lx av;replace au:=nT au ac.size;have bZ:=hy;clear hy hi hh ac;replace HX:=thk HX hx;clear hx;go_wp2_with fail;clear hS;have hS:=av.out;refine hK.out _ _ hS ?_;clear hK K
           try simp only [aPu,sA,sB,sC]
           refine zdC 5 ?_;intro K hK;go_simp;obtain ⟨w21,hw,aC,ac,rr,tl⟩:=aN hp (.cells #[.int .i64 ey,.string (bs eC),.int .i64 eB,.int .i64 ez,.slice eD bQ.length eA] 27);have eU:w20.heap.size≠g:=by have:=hp.lt;omega
           have jI:w.heap.size+1≤w20.heap.size:=au;clear hp;have hp:=aC;clear aC;have bG:=hid rr;clear rr;replace HB:=kb HB ac;replace ae:=kr ac ae an;replace ah:=lx ae;replace av:=kr ac av bm;replace aD:=lx av;replace bZ:=kh ac Pg bZ;replace au:=nT au ac.size;have dh:w20.heap.size<w21.heap.size:=tl;clear tl ac;rw [← hw.out];clear hw;clear hS;have hS:=av.out;refine hK.out _ _ hS ?_;clear hK K
           try simp only [aPu,sA,sB,sC]
           refine zdC 6 ?_;intro K hK;go_simp;refine (bW 15 t t.2.1 (some ⟨w20.heap.size,0,none⟩) 1 1 _).mono ?_;rintro e w22 ⟨rfl,ac⟩;replace hp:=hp.keep ac;replace ac:=obw g ac;replace HB:=kb HB ac;replace ae:=kr ac ae an;replace ah:=lx ae;replace av:=kr ac av bm;replace aD:=lx av;replace bG:=kr ac bG eU;replace dh:=lx bG;replace bZ:=kh ac Pg bZ;replace au:=nT au ac.size;clear ac;go_wp2_with fail;clear hS;have hS:=av.out;refine hK.out _ _ hS ?_;clear hK K
           try simp only [aPu,sA,sB,sC]
           have hzz:=hgl;have HW:=hid (cu hp HB.out ae.out (by omega) (by omega) (.int .i64 15) (.string (bs t.2.1)) (.int .i64 (t.2.2.1:Int)) (.int .i64 (t.2.2.2:Int)) (.slice (some ⟨w20.heap.size,0,none⟩) 1 1));obtain ⟨cT,cQ,cO,cN,cS,cR,cI,cJ,cH,cP⟩:=eV ae.out;refine zdC 7 ?_;intro K hK;go_simp;clear cT cR cQ cI cO cJ cN cH cS cP;obtain ⟨wz,hw,fl,fo,fu,hsz,dv⟩:=HW.out;rw [← hw];refine hK.out _ _ ((dv _ (by omega)).trans av.out) ?_;clear hK K
           try simp only [aPu,sA,sB,sC]
           refine zdH ?_;go_wp2_with fail;refine br Tryz.underlying27 (w.heap.size) fu (zdE HX.out ?_ fl fo);have S:d9 (w.heap.size+1≤·) w22 wz:=⟨by omega,fun k _ (hk:w.heap.size+1≤k)=>dv k (by omega)⟩;exact ⟨_,rfl,⟨_,_,_,_,[(NM.mk ey eC eB ez bQ eD eA)],_,_,rfl,eK (k:=15) (p:=(t.2.2.1,t.2.2.2)) (dF i_x.out) _ _,am.less (P:=fun b=>w.heap.size+1≤b) (fun b _ (hb:w.heap.size+1≤b)=>(show w.heap.size≤b by omega)) (ef ((dv _ (by omega)).trans bG.out) rfl (by simp) (by omega) (cm (am.keep S bZ.out)) _ _ _ _)⟩⟩
end Go.Proofs.YtfgiihpopngbkaaGreatDoor
