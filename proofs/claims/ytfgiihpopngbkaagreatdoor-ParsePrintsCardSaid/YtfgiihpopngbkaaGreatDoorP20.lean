/- Lemmas and walks that the statement needs: ParseStmtD, ParseStmt, ParseStmts, ParseWalk, ParseEnd, ParseCatch. -/
import Derived.Test.YtfgiihpopngbkaaGreatDoorP19
import Derived.Test.YtfgiihpopngbkaaGreatDoorP16
import Derived.Test.YtfgiihpopngbkaaGreatDoorP17
import Derived.Recover
namespace Go.Proofs.YtfgiihpopngbkaaGreatDoor
set_option maxRecDepth 100000
set_option maxHeartbeats 8000000
open Go.RowKit
open List renaming setIfInBounds_toArray→sA,set_cons_zero→sB,set_cons_succ→sC
open Nat renaming le_trans→nT
open Go.Act renaming put→aPu
open List renaming length_append→lAp
open Nat renaming le_refl→nRe
open Go.World renaming size_alloc→wSz
open _root_.Array renaming getElem?_eq_some_iff→aGe
open Go renaming cell_of_row→cRo,heap_alloc_new→hAn,heap_setCell_same→hSs,heap_setCell_other→hSo
theorem yD (f:Nat) (g:Nat) (en:Pl) (l:List Tok) (d:Nat) (iE:bL l [102,111,114]=false) (jn:bL l [105,102]=false) (lg:bL l [114,117,108,101]=false) (eL:cd l=true) (kP:aT l 1 [40]=false) (IE:∀ l d,cC 65 #[.pointer (some ⟨g,0,none⟩)] g en l d ca (bA en f l d)) :
  cC 34 #[.pointer (some ⟨g,0,none⟩)] g en l d ca (dc en (f+1) l d):=by
 intro w hp hne;obtain ⟨X,hX⟩:∃ X,X=dc en (f+1) l d:=⟨_,rfl⟩;rw [← hX] at hne ⊢;rw [dc] at hX;simp only [show i6=[102,111,114] from rfl,show wIf=[105,102] from rfl,show fO=[114,117,108,101] from rfl,show wIn=[105,110] from rfl,show fa=[101,108,115,101] from rfl] at hX;rw [iE,if_neg (c:=false=true) (by decide)] at hX;rw [jn,if_neg (c:=false=true) (by decide)] at hX;rw [lg,if_neg (c:=false=true) (by decide)] at hX;rw [show (cd l && aT l 1 [40])=false by rw [eL,kP];rfl,if_neg (c:=false=true) (by decide)] at hX;have HX:=hid hX;clear hX;have hgl:=hp.lt;have Pg:=hid (fun (b:Nat) (h:w.heap.size+1≤b)=>(show b≠g by omega));obtain ⟨w1,hw,hp1,hB,rr,au⟩:=aN hp (.cells #[.int .i64 0,.string ⟨#[]⟩,.int .i64 0,.int .i64 0,.slice none 0 0] 27);have ae:=hid rr;have an:w.heap.size≠g:=by omega
 have ah:w.heap.size<w1.heap.size:=au;clear hp rr;have hp:=hp1;clear hp1;have HB:=hid hB;clear hB;go_enter Tryz.func34,Tryz.ntmps34
 go_wp2_with fail;rw [← hw.out];clear hw;refine (eI 0 g en l d _ hp).mono ?_;rintro e w2 ⟨rfl,ac⟩;replace hp:=hp.keep ac;replace ac:=obw g ac;replace HB:=kb HB ac;replace ae:=kr ac ae an;replace ah:=lx ae;replace au:=nT au ac.size;clear ac;generalize atT en l 0=t at *;have S1:=hid (fun W (hW:PS W g en l d)=>by have h:=cX [102,111,114] g en l d W hW;rw [iE] at h;exact h);have S2:=hid (fun W (hW:PS W g en l d)=>by have h:=cX [105,102] g en l d W hW;rw [jn] at h;exact h);have S3:=hid (fun W (hW:PS W g en l d)=>by have h:=cX [114,117,108,101] g en l d W hW;rw [lg] at h;exact h);have S4:=hid (fun W (hW:PS W g en l d)=>by have h:=dk g en l d W hW;rw [eL] at h;exact h);have S5:=hid (fun W (hW:PS W g en l d)=>by have h:=ch 1 [40] g en l d W hW;rw [kP] at h;exact h);go_wp2_with fail;obtain ⟨w3,hw,aC,ac,rr,tl⟩:=aN hp (.cells #[.int .i64 (t.1:Int),.string (bs t.2.1),.int .i64 (t.2.2.1:Int),.int .i64 (t.2.2.2:Int)] 46);have bm:w2.heap.size≠g:=by have:=hp.lt;omega
 have om:w.heap.size+1≤w2.heap.size:=au;clear hp;have hp:=aC;clear aC;have av:=hid rr;clear rr;replace HB:=kb HB ac;replace ae:=kr ac ae an;replace ah:=lx ae;replace au:=nT au ac.size;have aD:w2.heap.size<w3.heap.size:=tl;clear tl ac;rw [← hw.out];clear hw;refine (S1.out _ hp).mono ?_;rintro e w4 ⟨rfl,ac⟩;replace hp:=hp.keep ac;replace ac:=obw g ac;replace HB:=kb HB ac;replace ae:=kr ac ae an;replace ah:=lx ae;replace av:=kr ac av bm;replace aD:=lx av;replace au:=nT au ac.size;clear ac;go_wp2_with fail;refine (S2.out _ hp).mono ?_;rintro e w5 ⟨rfl,ac⟩;replace hp:=hp.keep ac;replace ac:=obw g ac;replace HB:=kb HB ac;replace ae:=kr ac ae an;replace ah:=lx ae;replace av:=kr ac av bm;replace aD:=lx av;replace au:=nT au ac.size;clear ac;go_wp2_with fail;refine (S3.out _ hp).mono ?_;rintro e w6 ⟨rfl,ac⟩;replace hp:=hp.keep ac;replace ac:=obw g ac;replace HB:=kb HB ac;replace ae:=kr ac ae an;replace ah:=lx ae;replace av:=kr ac av bm;replace aD:=lx av;replace au:=nT au ac.size;clear ac;go_wp2_with fail;refine (S4.out _ hp).mono ?_;rintro e w7 ⟨rfl,ac⟩;replace hp:=hp.keep ac;replace ac:=obw g ac;replace HB:=kb HB ac;replace ae:=kr ac ae an;replace ah:=lx ae;replace av:=kr ac av bm;replace aD:=lx av;replace au:=nT au ac.size;clear ac;go_wp2_with fail;refine (S5.out _ hp).mono ?_;rintro e w8 ⟨rfl,ac⟩;replace hp:=hp.keep ac;replace ac:=obw g ac;replace HB:=kb HB ac;replace ae:=kr ac ae an;replace ah:=lx ae;replace av:=kr ac av bm;replace aD:=lx av;replace au:=nT au ac.size;clear ac;go_wp2_with fail;have hnm:cd l=true:=eL;rw [hnm] at HX;clear hnm iE jn lg eL kP;refine (S4.out _ hp).mono ?_;rintro e w9 ⟨rfl,ac⟩;replace hp:=hp.keep ac;replace ac:=obw g ac;replace HB:=kb HB ac;replace ae:=kr ac ae an;replace ah:=lx ae;replace av:=kr ac av bm;replace aD:=lx av;replace au:=nT au ac.size;clear ac;go_wp2_with fail;cases hx:bl en true l with
 | oof=>exact absurd (by rw [HX.out,hx] <;> rfl) hne
 | bad er p =>
   refine (cc hx hp).mono ?_;rintro e wb ⟨rfl,ac⟩;go_wp2_with fail;exact ⟨rfl,zdz (by rw [HX.out,hx] <;> rfl) (HB.out.trans ac)⟩
 | ok n r =>
   refine (c9 hx hp).mono ?_;rintro e w10 ⟨rfl,aC,ac⟩;clear hp;have hp:=aC;clear aC;replace HB:=kb HB ac;replace ae:=kr ac ae an;replace ah:=lx ae;replace av:=kr ac av bm;replace aD:=lx av;replace au:=nT au ac.size;clear ac;go_wp2_with fail;obtain ⟨w11,hw,aC,ac,rr,tl⟩:=aN hp (.cells #[.int .i64 (n.1:Int),.string (bs n.2.1),.int .i64 (n.2.2.1:Int),.int .i64 (n.2.2.2:Int)] 46);have cv:w10.heap.size≠g:=by have:=hp.lt;omega
   have g_n:w.heap.size+1≤w10.heap.size:=au;clear hp;have hp:=aC;clear aC;have aG:=hid rr;clear rr;replace HB:=kb HB ac;replace ae:=kr ac ae an;replace ah:=lx ae;replace av:=kr ac av bm;replace aD:=lx av;replace au:=nT au ac.size;have dM:w10.heap.size<w11.heap.size:=tl;clear tl ac;rw [← hw.out];clear hw;replace HX:=thk HX hx;clear hx;cases hx:cB en [61] r with
   | oof=>exact absurd (by rw [HX.out,hx] <;> rfl) hne
   | bad er p =>
     refine (eM hx hp).mono ?_;rintro e wb ⟨rfl,ac⟩;go_wp2_with fail;exact ⟨rfl,zdz (by rw [HX.out,hx] <;> rfl) (HB.out.trans ac)⟩
   | ok t3 r2 =>
     refine (fV hx hp).mono ?_;rintro e w12 ⟨rfl,aC,ac⟩;clear hp;have hp:=aC;clear aC;replace HB:=kb HB ac;replace ae:=kr ac ae an;replace ah:=lx ae;replace av:=kr ac av bm;replace aD:=lx av;replace aG:=kr ac aG cv;replace dM:=lx aG;replace au:=nT au ac.size;clear ac;replace HX:=thk HX hx;clear hx;go_wp2_with fail;cases hx:bA en f r2 d with
     | oof=>exact absurd (by rw [HX.out,hx] <;> rfl) hne
     | bad er p =>
       refine ((IE r2 d).bad hx hp).mono ?_;rintro e wb ⟨rfl,ac⟩;go_wp2_with fail;exact ⟨rfl,zdz (by rw [HX.out,hx] <;> rfl) (HB.out.trans ac)⟩
     | ok x r3 =>
       refine ((IE r2 d).ok hx hp).mono ?_;rintro e w13 ⟨_,rfl,⟨ey,eC,eB,ez,bQ,eD,eA,rfl,hi,hh⟩,aC,ac⟩;clear hp;have hp:=aC;clear aC;have i_x:=hid hi;have hy:=hid (am.less (P':=fun b=>w.heap.size+1≤b) (fun b _ (hb:w12.heap.size≤b)=>(show w.heap.size+1≤b by omega)) hh);replace HB:=kb HB ac;replace ae:=kr ac ae an;replace ah:=lx ae;replace av:=kr ac av bm;replace aD:=lx av;replace aG:=kr ac aG cv;replace dM:=lx aG;replace au:=nT au ac.size;have bZ:=hy;clear hy hi hh ac;go_wp2_with fail;obtain ⟨w14,hw,aC,ac,rr,tl⟩:=aN hp (.cells #[.int .i64 ey,.string (bs eC),.int .i64 eB,.int .i64 ez,.slice eD bQ.length eA] 27);have gq:w13.heap.size≠g:=by have:=hp.lt;omega
       have g_x:w.heap.size+1≤w13.heap.size:=au;clear hp;have hp:=aC;clear aC;have bu:=hid rr;clear rr;replace HB:=kb HB ac;replace ae:=kr ac ae an;replace ah:=lx ae;replace av:=kr ac av bm;replace aD:=lx av;replace aG:=kr ac aG cv;replace dM:=lx aG;replace bZ:=kh ac Pg bZ;replace au:=nT au ac.size;have cW:w13.heap.size<w14.heap.size:=tl;clear tl ac;rw [← hw.out];clear hw;replace HX:=thk HX hx;clear hx;cases hx:cB en [59] r3 with
       | oof=>exact absurd (by rw [HX.out,hx] <;> rfl) hne
       | bad er p =>
         refine (eM hx hp).mono ?_;rintro e wb ⟨rfl,ac⟩;go_wp2_with fail;exact ⟨rfl,zdz (by rw [HX.out,hx] <;> rfl) (HB.out.trans ac)⟩
       | ok t4 r4 =>
         refine (fV hx hp).mono ?_;rintro e w15 ⟨rfl,aC,ac⟩;clear hp;have hp:=aC;clear aC;replace HB:=kb HB ac;replace ae:=kr ac ae an;replace ah:=lx ae;replace av:=kr ac av bm;replace aD:=lx av;replace aG:=kr ac aG cv;replace dM:=lx aG;replace bu:=kr ac bu gq;replace cW:=lx bu;replace bZ:=kh ac Pg bZ;replace au:=nT au ac.size;clear ac;replace HX:=thk HX hx;clear hx;obtain ⟨gH,gz,gv,gF,gy,gG,gB,gI⟩:=hC av.out;obtain ⟨bJ,bI,bH,bK,uz,tH,uj,tV⟩:=hC aG.out;obtain ⟨jH,jE,jK,jM,jG,jC,jL,jF,jD,jJ⟩:=eV bu.out;go_wp2_with fail;clear gH gy gz gG gv gB gF gI bJ uz bI tH bH uj bK tV jH jC jE jL jK jF jM jD jG jJ;obtain ⟨w16,hw,aC,ac,rr,tl⟩:=aN hp (.cells #[.int .i64 ey,.string (bs eC),.int .i64 eB,.int .i64 ez,.slice eD bQ.length eA] 27);have eU:w15.heap.size≠g:=by have:=hp.lt;omega
         have jI:w.heap.size+1≤w15.heap.size:=au;clear hp;have hp:=aC;clear aC;have bG:=hid rr;clear rr;replace HB:=kb HB ac;replace ae:=kr ac ae an;replace ah:=lx ae;replace av:=kr ac av bm;replace aD:=lx av;replace aG:=kr ac aG cv;replace dM:=lx aG;replace bu:=kr ac bu gq;replace cW:=lx bu;replace bZ:=kh ac Pg bZ;replace au:=nT au ac.size;have dh:w15.heap.size<w16.heap.size:=tl;clear tl ac;rw [← hw.out];clear hw;refine (bW 2 t n.2.1 (some ⟨w15.heap.size,0,none⟩) 1 1 _).mono ?_;rintro e w17 ⟨rfl,ac⟩;replace hp:=hp.keep ac;replace ac:=obw g ac;replace HB:=kb HB ac;replace ae:=kr ac ae an;replace ah:=lx ae;replace av:=kr ac av bm;replace aD:=lx av;replace aG:=kr ac aG cv;replace dM:=lx aG;replace bu:=kr ac bu gq;replace cW:=lx bu;replace bG:=kr ac bG eU;replace dh:=lx bG;replace bZ:=kh ac Pg bZ;replace au:=nT au ac.size;clear ac;have hzz:=hgl;have HW:=hid (cu hp HB.out ae.out (by omega) (by omega) (.int .i64 2) (.string (bs n.2.1)) (.int .i64 (t.2.2.1:Int)) (.int .i64 (t.2.2.2:Int)) (.slice (some ⟨w15.heap.size,0,none⟩) 1 1));obtain ⟨cT,cQ,cO,cN,cS,cR,cI,cJ,cH,cP⟩:=eV ae.out;go_wp2_with fail;obtain ⟨wz,hw,fl,fo,fu,hsz,dv⟩:=HW.out;rw [← hw];refine br Tryz.underlying27 (w.heap.size) fu (zdE HX.out ?_ fl fo);have S:d9 (w.heap.size+1≤·) w17 wz:=⟨by omega,fun k _ (hk:w.heap.size+1≤k)=>dv k (by omega)⟩;exact ⟨_,_,_,_,[(NM.mk ey eC eB ez bQ eD eA)],_,_,rfl,eK (k:=2) (p:=(t.2.2.1,t.2.2.2)) (dF i_x.out) _ _,am.less (P:=fun b=>w.heap.size+1≤b) (fun b _ (hb:w.heap.size+1≤b)=>(show w.heap.size≤b by omega)) (ef ((dv _ (by omega)).trans bG.out) rfl (by simp) (by omega) (cm (am.keep S bZ.out)) _ _ _ _)⟩
theorem x9 (f:Nat) (g:Nat) (en:Pl) (l:List Tok) (d:Nat) (iE:bL l [102,111,114]=false) (jn:bL l [105,102]=false) (lg:bL l [114,117,108,101]=false) (eL:cd l=false) (IE:∀ l d,cC 65 #[.pointer (some ⟨g,0,none⟩)] g en l d ca (bA en f l d)) :
  cC 34 #[.pointer (some ⟨g,0,none⟩)] g en l d ca (dc en (f+1) l d):=by
 intro w hp hne;obtain ⟨X,hX⟩:∃ X,X=dc en (f+1) l d:=⟨_,rfl⟩;rw [← hX] at hne ⊢;rw [dc] at hX;simp only [show i6=[102,111,114] from rfl,show wIf=[105,102] from rfl,show fO=[114,117,108,101] from rfl,show wIn=[105,110] from rfl,show fa=[101,108,115,101] from rfl] at hX;rw [iE,if_neg (c:=false=true) (by decide)] at hX;rw [jn,if_neg (c:=false=true) (by decide)] at hX;rw [lg,if_neg (c:=false=true) (by decide)] at hX;rw [show (cd l && aT l 1 [40])=false by rw [eL];rfl,if_neg (c:=false=true) (by decide)] at hX;have HX:=hid hX;clear hX;have hgl:=hp.lt;have Pg:=hid (fun (b:Nat) (h:w.heap.size+1≤b)=>(show b≠g by omega));obtain ⟨w1,hw,hp1,hB,rr,au⟩:=aN hp (.cells #[.int .i64 0,.string ⟨#[]⟩,.int .i64 0,.int .i64 0,.slice none 0 0] 27);have ae:=hid rr;have an:w.heap.size≠g:=by omega
 have ah:w.heap.size<w1.heap.size:=au;clear hp rr;have hp:=hp1;clear hp1;have HB:=hid hB;clear hB;go_enter Tryz.func34,Tryz.ntmps34
 go_wp2_with fail;rw [← hw.out];clear hw;refine (eI 0 g en l d _ hp).mono ?_;rintro e w2 ⟨rfl,ac⟩;replace hp:=hp.keep ac;replace ac:=obw g ac;replace HB:=kb HB ac;replace ae:=kr ac ae an;replace ah:=lx ae;replace au:=nT au ac.size;clear ac;generalize atT en l 0=t at *;have S1:=hid (fun W (hW:PS W g en l d)=>by have h:=cX [102,111,114] g en l d W hW;rw [iE] at h;exact h);have S2:=hid (fun W (hW:PS W g en l d)=>by have h:=cX [105,102] g en l d W hW;rw [jn] at h;exact h);have S3:=hid (fun W (hW:PS W g en l d)=>by have h:=cX [114,117,108,101] g en l d W hW;rw [lg] at h;exact h);have S4:=hid (fun W (hW:PS W g en l d)=>by have h:=dk g en l d W hW;rw [eL] at h;exact h);go_wp2_with fail;obtain ⟨w3,hw,aC,ac,rr,tl⟩:=aN hp (.cells #[.int .i64 (t.1:Int),.string (bs t.2.1),.int .i64 (t.2.2.1:Int),.int .i64 (t.2.2.2:Int)] 46);have bm:w2.heap.size≠g:=by have:=hp.lt;omega
 have om:w.heap.size+1≤w2.heap.size:=au;clear hp;have hp:=aC;clear aC;have av:=hid rr;clear rr;replace HB:=kb HB ac;replace ae:=kr ac ae an;replace ah:=lx ae;replace au:=nT au ac.size;have aD:w2.heap.size<w3.heap.size:=tl;clear tl ac;rw [← hw.out];clear hw;refine (S1.out _ hp).mono ?_;rintro e w4 ⟨rfl,ac⟩;replace hp:=hp.keep ac;replace ac:=obw g ac;replace HB:=kb HB ac;replace ae:=kr ac ae an;replace ah:=lx ae;replace av:=kr ac av bm;replace aD:=lx av;replace au:=nT au ac.size;clear ac;go_wp2_with fail;refine (S2.out _ hp).mono ?_;rintro e w5 ⟨rfl,ac⟩;replace hp:=hp.keep ac;replace ac:=obw g ac;replace HB:=kb HB ac;replace ae:=kr ac ae an;replace ah:=lx ae;replace av:=kr ac av bm;replace aD:=lx av;replace au:=nT au ac.size;clear ac;go_wp2_with fail;refine (S3.out _ hp).mono ?_;rintro e w6 ⟨rfl,ac⟩;replace hp:=hp.keep ac;replace ac:=obw g ac;replace HB:=kb HB ac;replace ae:=kr ac ae an;replace ah:=lx ae;replace av:=kr ac av bm;replace aD:=lx av;replace au:=nT au ac.size;clear ac;go_wp2_with fail;refine (S4.out _ hp).mono ?_;rintro e w7 ⟨rfl,ac⟩;replace hp:=hp.keep ac;replace ac:=obw g ac;replace HB:=kb HB ac;replace ae:=kr ac ae an;replace ah:=lx ae;replace av:=kr ac av bm;replace aD:=lx av;replace au:=nT au ac.size;clear ac;go_wp2_with fail;have hnm:cd l=false:=eL;rw [hnm] at HX;clear hnm iE jn lg eL;refine (S4.out _ hp).mono ?_;rintro e w8 ⟨rfl,ac⟩;replace hp:=hp.keep ac;replace ac:=obw g ac;replace HB:=kb HB ac;replace ae:=kr ac ae an;replace ah:=lx ae;replace av:=kr ac av bm;replace aD:=lx av;replace au:=nT au ac.size;clear ac;go_wp2_with fail;cases hx:bl en false l with
 | oof=>exact absurd (by rw [HX.out,hx] <;> rfl) hne
 | bad er p =>
   refine (cc hx hp).mono ?_;rintro e wb ⟨rfl,ac⟩;go_wp2_with fail;exact ⟨rfl,zdz (by rw [HX.out,hx] <;> rfl) (HB.out.trans ac)⟩
 | ok n r =>
   refine (c9 hx hp).mono ?_;rintro e w9 ⟨rfl,aC,ac⟩;clear hp;have hp:=aC;clear aC;replace HB:=kb HB ac;replace ae:=kr ac ae an;replace ah:=lx ae;replace av:=kr ac av bm;replace aD:=lx av;replace au:=nT au ac.size;clear ac;go_wp2_with fail;obtain ⟨w10,hw,aC,ac,rr,tl⟩:=aN hp (.cells #[.int .i64 (n.1:Int),.string (bs n.2.1),.int .i64 (n.2.2.1:Int),.int .i64 (n.2.2.2:Int)] 46);have cv:w9.heap.size≠g:=by have:=hp.lt;omega
   have g_n:w.heap.size+1≤w9.heap.size:=au;clear hp;have hp:=aC;clear aC;have aG:=hid rr;clear rr;replace HB:=kb HB ac;replace ae:=kr ac ae an;replace ah:=lx ae;replace av:=kr ac av bm;replace aD:=lx av;replace au:=nT au ac.size;have dM:w9.heap.size<w10.heap.size:=tl;clear tl ac;rw [← hw.out];clear hw;replace HX:=thk HX hx;clear hx;cases hx:cB en [61] r with
   | oof=>exact absurd (by rw [HX.out,hx] <;> rfl) hne
   | bad er p =>
     refine (eM hx hp).mono ?_;rintro e wb ⟨rfl,ac⟩;go_wp2_with fail;exact ⟨rfl,zdz (by rw [HX.out,hx] <;> rfl) (HB.out.trans ac)⟩
   | ok t3 r2 =>
     refine (fV hx hp).mono ?_;rintro e w11 ⟨rfl,aC,ac⟩;clear hp;have hp:=aC;clear aC;replace HB:=kb HB ac;replace ae:=kr ac ae an;replace ah:=lx ae;replace av:=kr ac av bm;replace aD:=lx av;replace aG:=kr ac aG cv;replace dM:=lx aG;replace au:=nT au ac.size;clear ac;replace HX:=thk HX hx;clear hx;go_wp2_with fail;cases hx:bA en f r2 d with
     | oof=>exact absurd (by rw [HX.out,hx] <;> rfl) hne
     | bad er p =>
       refine ((IE r2 d).bad hx hp).mono ?_;rintro e wb ⟨rfl,ac⟩;go_wp2_with fail;exact ⟨rfl,zdz (by rw [HX.out,hx] <;> rfl) (HB.out.trans ac)⟩
     | ok x r3 =>
       refine ((IE r2 d).ok hx hp).mono ?_;rintro e w12 ⟨_,rfl,⟨ey,eC,eB,ez,bQ,eD,eA,rfl,hi,hh⟩,aC,ac⟩;clear hp;have hp:=aC;clear aC;have i_x:=hid hi;have hy:=hid (am.less (P':=fun b=>w.heap.size+1≤b) (fun b _ (hb:w11.heap.size≤b)=>(show w.heap.size+1≤b by omega)) hh);replace HB:=kb HB ac;replace ae:=kr ac ae an;replace ah:=lx ae;replace av:=kr ac av bm;replace aD:=lx av;replace aG:=kr ac aG cv;replace dM:=lx aG;replace au:=nT au ac.size;have bZ:=hy;clear hy hi hh ac;go_wp2_with fail;obtain ⟨w13,hw,aC,ac,rr,tl⟩:=aN hp (.cells #[.int .i64 ey,.string (bs eC),.int .i64 eB,.int .i64 ez,.slice eD bQ.length eA] 27);have gq:w12.heap.size≠g:=by have:=hp.lt;omega
       have g_x:w.heap.size+1≤w12.heap.size:=au;clear hp;have hp:=aC;clear aC;have bu:=hid rr;clear rr;replace HB:=kb HB ac;replace ae:=kr ac ae an;replace ah:=lx ae;replace av:=kr ac av bm;replace aD:=lx av;replace aG:=kr ac aG cv;replace dM:=lx aG;replace bZ:=kh ac Pg bZ;replace au:=nT au ac.size;have cW:w12.heap.size<w13.heap.size:=tl;clear tl ac;rw [← hw.out];clear hw;replace HX:=thk HX hx;clear hx;cases hx:cB en [59] r3 with
       | oof=>exact absurd (by rw [HX.out,hx] <;> rfl) hne
       | bad er p =>
         refine (eM hx hp).mono ?_;rintro e wb ⟨rfl,ac⟩;go_wp2_with fail;exact ⟨rfl,zdz (by rw [HX.out,hx] <;> rfl) (HB.out.trans ac)⟩
       | ok t4 r4 =>
         refine (fV hx hp).mono ?_;rintro e w14 ⟨rfl,aC,ac⟩;clear hp;have hp:=aC;clear aC;replace HB:=kb HB ac;replace ae:=kr ac ae an;replace ah:=lx ae;replace av:=kr ac av bm;replace aD:=lx av;replace aG:=kr ac aG cv;replace dM:=lx aG;replace bu:=kr ac bu gq;replace cW:=lx bu;replace bZ:=kh ac Pg bZ;replace au:=nT au ac.size;clear ac;replace HX:=thk HX hx;clear hx;obtain ⟨gH,gz,gv,gF,gy,gG,gB,gI⟩:=hC av.out;obtain ⟨bJ,bI,bH,bK,uz,tH,uj,tV⟩:=hC aG.out;obtain ⟨jH,jE,jK,jM,jG,jC,jL,jF,jD,jJ⟩:=eV bu.out;go_wp2_with fail;clear gH gy gz gG gv gB gF gI bJ uz bI tH bH uj bK tV jH jC jE jL jK jF jM jD jG jJ;obtain ⟨w15,hw,aC,ac,rr,tl⟩:=aN hp (.cells #[.int .i64 ey,.string (bs eC),.int .i64 eB,.int .i64 ez,.slice eD bQ.length eA] 27);have eU:w14.heap.size≠g:=by have:=hp.lt;omega
         have jI:w.heap.size+1≤w14.heap.size:=au;clear hp;have hp:=aC;clear aC;have bG:=hid rr;clear rr;replace HB:=kb HB ac;replace ae:=kr ac ae an;replace ah:=lx ae;replace av:=kr ac av bm;replace aD:=lx av;replace aG:=kr ac aG cv;replace dM:=lx aG;replace bu:=kr ac bu gq;replace cW:=lx bu;replace bZ:=kh ac Pg bZ;replace au:=nT au ac.size;have dh:w14.heap.size<w15.heap.size:=tl;clear tl ac;rw [← hw.out];clear hw;refine (bW 2 t n.2.1 (some ⟨w14.heap.size,0,none⟩) 1 1 _).mono ?_;rintro e w16 ⟨rfl,ac⟩;replace hp:=hp.keep ac;replace ac:=obw g ac;replace HB:=kb HB ac;replace ae:=kr ac ae an;replace ah:=lx ae;replace av:=kr ac av bm;replace aD:=lx av;replace aG:=kr ac aG cv;replace dM:=lx aG;replace bu:=kr ac bu gq;replace cW:=lx bu;replace bG:=kr ac bG eU;replace dh:=lx bG;replace bZ:=kh ac Pg bZ;replace au:=nT au ac.size;clear ac;have hzz:=hgl;have HW:=hid (cu hp HB.out ae.out (by omega) (by omega) (.int .i64 2) (.string (bs n.2.1)) (.int .i64 (t.2.2.1:Int)) (.int .i64 (t.2.2.2:Int)) (.slice (some ⟨w14.heap.size,0,none⟩) 1 1));obtain ⟨cT,cQ,cO,cN,cS,cR,cI,cJ,cH,cP⟩:=eV ae.out;go_wp2_with fail;obtain ⟨wz,hw,fl,fo,fu,hsz,dv⟩:=HW.out;rw [← hw];refine br Tryz.underlying27 (w.heap.size) fu (zdE HX.out ?_ fl fo);have S:d9 (w.heap.size+1≤·) w16 wz:=⟨by omega,fun k _ (hk:w.heap.size+1≤k)=>dv k (by omega)⟩;exact ⟨_,_,_,_,[(NM.mk ey eC eB ez bQ eD eA)],_,_,rfl,eK (k:=2) (p:=(t.2.2.1,t.2.2.2)) (dF i_x.out) _ _,am.less (P:=fun b=>w.heap.size+1≤b) (fun b _ (hb:w.heap.size+1≤b)=>(show w.heap.size≤b by omega)) (ef ((dv _ (by omega)).trans bG.out) rfl (by simp) (by omega) (cm (am.keep S bZ.out)) _ _ _ _)⟩
theorem wC (f:Nat) (g:Nat) (en:Pl) (l:List Tok) (d:Nat)
  (IE:∀ l d,cC 65 #[.pointer (some ⟨g,0,none⟩)] g en l d ca (bA en f l d))
  (IB:∀ l d,cC 66 #[.pointer (some ⟨g,0,none⟩)] g en l d ca (cM en f l d))
  (IR:∀ l d,cC 67 #[.pointer (some ⟨g,0,none⟩)] g en l d ca (oy en f l d))
  (IC:∀ l d,cC 68 #[.pointer (some ⟨g,0,none⟩)] g en l d ca (fq en f l d)) :
  cC 34 #[.pointer (some ⟨g,0,none⟩)] g en l d ca (dc en (f+1) l d):=by
 cases h1:bL l [102,111,114] with
 | true=>exact yh f g en l d h1 IE IB
 | false =>
 cases h2:bL l [105,102] with
 | true=>exact zaC f g en l d h1 h2 IE IB
 | false =>
 cases h3:bL l [114,117,108,101] with
 | true=>exact wY f g en l d h1 h2 h3 IR
 | false =>
 cases hn:cd l with
 | false=>exact x9 f g en l d h1 h2 h3 hn IE
 | true =>
 cases hq:aT l 1 [40] with
 | true=>exact zaE f g en l d h1 h2 h3 hn hq IC
 | false=>exact yD f g en l d h1 h2 h3 hn hq IE
theorem so {en:Pl} {f:Nat} {l:List Tok} {d:Nat} {a:Nd} {r:List Tok} (h:dc en f l d=.ok a r):r.length<l.length :=
 oa ((lN (R:=fun _ _=>True) (en:=en) (en':=en) trivial f (f+(10 * l.length+9)) (by omega)).stmt l l d (ki l)) ((iZ en _).stmt l d (by omega)) h
def vf (en:Pl) (g d:Nat) (tb:Bool) (X:PR (List Nd)) (f:Nat) (w:World) (out:Value) (wr:World):Prop :=
 ∃ (f':Nat) (acc:List NM) (accN:List Nd) (r:List Tok) (a:Option Addr) (cap:Nat),
   X=(bY en f' tb r d).then (fun b r=>.ok (accN++b) r)∧f'≤f∧out=.slice a acc.length cap∧dg w.heap.size wr out acc∧zdI acc accN∧PS wr g en r d∧aV g w wr∧acc.length+2 * r.length≤200000
theorem rO (f:Nat) (g:Nat) (en:Pl) (l:List Tok) (d:Nat)
  (IH:∀ f',f'<f→∀ l,cC 34 #[.pointer (some ⟨g,0,none⟩)] g en l d ca (dc en f' l d)) :
  cC 21 #[.pointer (some ⟨g,0,none⟩),.string (bs [])] g en l d fe (bY en f false l d):=by
 intro w hp hne;obtain ⟨X,hX⟩:∃ X,X=bY en f false l d:=⟨_,rfl⟩;rw [← hX] at hne ⊢;have HX:=hid hX;clear hX;have hgl:=hp.lt;obtain ⟨i0,hi0,iz0,iz1,iz2⟩:=info_parts fM;have hln:l.length≤100000:=by obtain ⟨_,_,_,_,_,_,_,h⟩:=hp;exact h
 have bC:=nb;have HI:=hid IH;have HP:=hid hp;clear IH hp;go_enter Tryz.func21,Tryz.ntmps21
 go_wp2_with fail;go_loopw [5] (fun out wr=>vf en g d false X f w out wr) (fun _ wr=>gY wr g)
 case atStart =>
  exact ⟨f,[],[],l,none,0,by rw [HX.out];exact (fL _).symm,nRe _,rfl,dg.nil _ _,gh,HP.out,aV.refl _ _,by simp;omega⟩
 case round =>
  clear HX HP hln;obtain ⟨f',acc,accN,r,a,cap,hX,hf,rfl,hG,hA,hp,hB,hle⟩:=hrel;have HX:=hid hX;have HG:=hid hG;have HA:=hid hA;have HB:=hid hB;have hLf:=hp.left;cases f' with
  | zero=>rw [bY] at hX;exact absurd hX hne
  | succ f' =>
  rw [bY] at hX;replace HX:=hid hX;clear hX hG hA hB;have HC:=hid (show ∃ a0 c0,wr.cell? ⟨g,0,none⟩=some (.slice a0 r.length c0) by obtain ⟨a0,c0,h,_⟩:=hp;exact ⟨a0,c0,cRo wr g 0 _ _ _ h⟩);obtain ⟨a0,c0,q0⟩:=HC.out;clear HC;cases r with
  | nil =>
    have q1:¬ ((0:Int)<(([]:List Tok).length:Int)):=by simp
    replace HX:=hid (by have:=HX.out;rw [if_pos (.inl rfl)] at this;exact this);go_wp2_with fail;go_ret;exact zdE HX.out ⟨acc,HG.out,by rw [List.append_nil];exact HA.out,by omega⟩ hp HB.out
  | cons t0 r0 =>
    obtain ⟨r,hr⟩:∃ r,r=t0::r0:=⟨_,rfl⟩;rw [← hr] at HX hp q0 hLf hle;have hrn:r≠[]:=by rw [hr];simp
    have q1:(0:Int)<(r.length:Int):=by rw [hr];simp
    clear hr;replace HX:=hid (by have:=HX.out;rw [if_neg (by simp [hrn])] at this;exact this);go_wp2_with fail;cases hx:dc en f' r d with
    | oof=>exact absurd (by rw [HX.out,hx];rfl) hne
    | bad er p =>
      refine ((HI.out f' (by omega) r).bad hx hp).mono ?_;rintro e wb ⟨rfl,ac⟩;go_wp2_with fail;exact ⟨rfl,zdz (by rw [HX.out,hx] <;> rfl) (HB.out.trans ac)⟩
    | ok x r2 =>
    refine ((HI.out f' (by omega) r).ok hx hp).mono ?_;rintro e w3 ⟨_,rfl,⟨ey,eC,eB,ez,bQ,eD,eA,rfl,hi,hh⟩,aC,ac⟩;have hxl:=so hx;clear hp;have hp:=aC;clear aC;have HBo:=HB;have HGo:=HG;replace HG:=hid (HG.out.keep ac (by omega));replace HB:=kb HB ac;replace HX:=hid (by have h:=HX.out;rw [hx,cU] at h;exact h);have i_x:=hid hi;have ay:=hid (am.less (P':=fun b=>w.heap.size≤b∧Value.ownBlock (.slice a acc.length cap)≠some b) (fun b _ (hb:wr.heap.size≤b)=>⟨by have:=HBo.out.size;omega,fun e=>by have:=(HGo.out.own.lt b e).2;omega⟩) hh);clear hx ac HBo HGo hi hh;obtain ⟨w4,hw,aC,ac,rr,tl⟩:=aN hp (.cells #[.int .i64 ey,.string (bs eC),.int .i64 eB,.int .i64 ez,.slice eD bQ.length eA] 27);clear hp;have hp:=aC;clear aC;have jO:=hid rr;clear rr;replace HG:=hid (HG.out.keep ac (by omega));replace HB:=kb HB ac;replace ay:=hid (am.keep (ac.same (fun b hb=>by have:=hb.1;omega)) ay.out);clear ac;have hown:=HG.out.own;have hwB:=HB.out.size;go_wp2_with (at_builtin;rw [← hw.out];refine wpList_append_own_at _ rfl _ _ 25 rfl w.heap.size 27 i0 (.agg #[.int .i64 0,.string ⟨#[]⟩,.int .i64 0,.int .i64 0,.slice none 0 0]) 5 64 Tryz.underlying25 hi0 iz0 iz1 iz2 rfl (by decide) _ _ _ rfl hown ⟨w3.heap.size,0,none⟩ 1 1 (aW [NM.mk ey eC eB ez bQ eD eA]) rfl (be _) (go jO.out rfl) (dd _) ?c1 ?c2 ?c3 ?_)
    case c1=>unfold maxLen;omega
    case c2=>omega
    case c3=>omega
    intro v' w5 hown' hgrow hnil hat;have hG4:=HG.out.app (cm ay.out) hown' (by simp) hgrow hat;have hp4:=hp.grown hown hgrow (by omega);have hB4:=HB.out.grown hown hgrow (nRe _);have hl4:=hp4.left;obtain ⟨a4,c4,rfl,-,-⟩:=hG4.shape;have HR:=hid (show vf en g d false X f w (.slice a4 (acc++[NM.mk ey eC eB ez bQ eD eA]).length c4) w5 from ⟨f',acc++[NM.mk ey eC eB ez bQ eD eA],accN++[x],r2,a4,c4,by
     have h:=HX.out;rw [h];exact fj (bY en f' false r2 d) accN [x],by omega,rfl,hG4,eN HA.out (dF i_x.out),hp4,hB4,by rw [lAp];simp;omega⟩)
    clear hG4 hp4 hB4 hown hown' hgrow hnil hat HG HX jO hw;go_wp2_with fail;exact ⟨HR.out,by omega⟩
theorem rU (f:Nat) (g:Nat) (en:Pl) (l:List Tok) (d:Nat)
  (IH:∀ f',f'<f→∀ l,cC 34 #[.pointer (some ⟨g,0,none⟩)] g en l d ca (dc en f' l d)) :
  cC 21 #[.pointer (some ⟨g,0,none⟩),.string (bs [125])] g en l d fe (bY en f true l d):=by
 intro w hp hne;obtain ⟨X,hX⟩:∃ X,X=bY en f true l d:=⟨_,rfl⟩;rw [← hX] at hne ⊢;have HX:=hid hX;clear hX;have hgl:=hp.lt;obtain ⟨i0,hi0,iz0,iz1,iz2⟩:=info_parts fM;have hln:l.length≤100000:=by obtain ⟨_,_,_,_,_,_,_,h⟩:=hp;exact h
 have bC:=nb;have HI:=hid IH;have HP:=hid hp;clear IH hp;go_enter Tryz.func21,Tryz.ntmps21
 go_wp2_with fail;go_loopw [5] (fun out wr=>vf en g d true X f w out wr) (fun _ wr=>gY wr g)
 case atStart =>
  exact ⟨f,[],[],l,none,0,by rw [HX.out];exact (fL _).symm,nRe _,rfl,dg.nil _ _,gh,HP.out,aV.refl _ _,by simp;omega⟩
 case round =>
  clear HX HP hln;obtain ⟨f',acc,accN,r,a,cap,hX,hf,rfl,hG,hA,hp,hB,hle⟩:=hrel;have HX:=hid hX;have HG:=hid hG;have HA:=hid hA;have HB:=hid hB;have hLf:=hp.left;cases f' with
  | zero=>rw [bY] at hX;exact absurd hX hne
  | succ f' =>
  rw [bY] at hX;replace HX:=hid hX;clear hX hG hA hB;have HC:=hid (show ∃ a0 c0,wr.cell? ⟨g,0,none⟩=some (.slice a0 r.length c0) by obtain ⟨a0,c0,h,_⟩:=hp;exact ⟨a0,c0,cRo wr g 0 _ _ _ h⟩);obtain ⟨a0,c0,q0⟩:=HC.out;clear HC;cases r with
  | nil =>
    have q1:¬ ((0:Int)<(([]:List Tok).length:Int)):=by simp
    replace HX:=hid (by have:=HX.out;rw [if_pos (.inl rfl)] at this;exact this);go_wp2_with fail;go_ret;exact zdE HX.out ⟨acc,HG.out,by rw [List.append_nil];exact HA.out,by omega⟩ hp HB.out
  | cons t0 r0 =>
    obtain ⟨r,hr⟩:∃ r,r=t0::r0:=⟨_,rfl⟩;rw [← hr] at HX hp q0 hLf hle;have hrn:r≠[]:=by rw [hr];simp
    have q1:(0:Int)<(r.length:Int):=by rw [hr];simp
    clear hr;cases hs:aT r 0 [125] with
    | true =>
      have HS1:=hid (fun W (hW:PS W g en r d)=>by have:=ch 0 [125] g en r d W hW;rw [hs] at this;exact this);replace HX:=hid (by have:=HX.out;rw [if_pos (.inr ⟨rfl,hs⟩)] at this;exact this);clear hs;go_wp2_with fail;refine (HS1.out _ hp).mono ?_;rintro e w1 ⟨rfl,ac⟩;replace hp:=hp.keep ac;replace ac:=obw g ac;replace HG:=hid (HG.out.keep ac (by omega));replace HB:=kb HB ac;have hB1:=ac.size;clear ac;go_wp2_with fail;go_ret;exact zdE HX.out ⟨acc,HG.out,by rw [List.append_nil];exact HA.out,by omega⟩ hp HB.out
    | false =>
      have HS1:=hid (fun W (hW:PS W g en r d)=>by have:=ch 0 [125] g en r d W hW;rw [hs] at this;exact this);replace HX:=hid (by have:=HX.out;rw [if_neg (by simp [hrn,hs])] at this;exact this);clear hs;go_wp2_with fail;refine (HS1.out _ hp).mono ?_;rintro e w1 ⟨rfl,ac⟩;replace hp:=hp.keep ac;replace ac:=obw g ac;replace HG:=hid (HG.out.keep ac (by omega));replace HB:=kb HB ac;have hB1:=ac.size;clear ac;clear HS1;go_wp2_with fail;cases hx:dc en f' r d with
      | oof=>exact absurd (by rw [HX.out,hx];rfl) hne
      | bad er p =>
        refine ((HI.out f' (by omega) r).bad hx hp).mono ?_;rintro e wb ⟨rfl,ac⟩;go_wp2_with fail;exact ⟨rfl,zdz (by rw [HX.out,hx] <;> rfl) (HB.out.trans ac)⟩
      | ok x r2 =>
      refine ((HI.out f' (by omega) r).ok hx hp).mono ?_;rintro e w3 ⟨_,rfl,⟨ey,eC,eB,ez,bQ,eD,eA,rfl,hi,hh⟩,aC,ac⟩;have hxl:=so hx;clear hp;have hp:=aC;clear aC;have HBo:=HB;have HGo:=HG;replace HG:=hid (HG.out.keep ac (by omega));replace HB:=kb HB ac;replace HX:=hid (by have h:=HX.out;rw [hx,cU] at h;exact h);have i_x:=hid hi;have ay:=hid (am.less (P':=fun b=>w.heap.size≤b∧Value.ownBlock (.slice a acc.length cap)≠some b) (fun b _ (hb:w1.heap.size≤b)=>⟨by have:=HBo.out.size;omega,fun e=>by have:=(HGo.out.own.lt b e).2;omega⟩) hh);clear hx ac HBo HGo hi hh;obtain ⟨w4,hw,aC,ac,rr,tl⟩:=aN hp (.cells #[.int .i64 ey,.string (bs eC),.int .i64 eB,.int .i64 ez,.slice eD bQ.length eA] 27);clear hp;have hp:=aC;clear aC;have jO:=hid rr;clear rr;replace HG:=hid (HG.out.keep ac (by omega));replace HB:=kb HB ac;replace ay:=hid (am.keep (ac.same (fun b hb=>by have:=hb.1;omega)) ay.out);clear ac;have hown:=HG.out.own;have hwB:=HB.out.size;go_wp2_with (at_builtin;rw [← hw.out];refine wpList_append_own_at _ rfl _ _ 25 rfl w.heap.size 27 i0 (.agg #[.int .i64 0,.string ⟨#[]⟩,.int .i64 0,.int .i64 0,.slice none 0 0]) 5 64 Tryz.underlying25 hi0 iz0 iz1 iz2 rfl (by decide) _ _ _ rfl hown ⟨w3.heap.size,0,none⟩ 1 1 (aW [NM.mk ey eC eB ez bQ eD eA]) rfl (be _) (go jO.out rfl) (dd _) ?c1 ?c2 ?c3 ?_)
      case c1=>unfold maxLen;omega
      case c2=>omega
      case c3=>omega
      intro v' w5 hown' hgrow hnil hat;have hG4:=HG.out.app (cm ay.out) hown' (by simp) hgrow hat;have hp4:=hp.grown hown hgrow (by omega);have hB4:=HB.out.grown hown hgrow (nRe _);have hl4:=hp4.left;obtain ⟨a4,c4,rfl,-,-⟩:=hG4.shape;have HR:=hid (show vf en g d true X f w (.slice a4 (acc++[NM.mk ey eC eB ez bQ eD eA]).length c4) w5 from ⟨f',acc++[NM.mk ey eC eB ez bQ eD eA],accN++[x],r2,a4,c4,by
       have h:=HX.out;rw [h];exact fj (bY en f' true r2 d) accN [x],by omega,rfl,hG4,eN HA.out (dF i_x.out),hp4,hB4,by rw [lAp];simp;omega⟩)
      clear hG4 hp4 hB4 hown hown' hgrow hnil hat HG HX jO hw;go_wp2_with fail;exact ⟨HR.out,by omega⟩
structure zaH (f g:Nat) (en:Pl):Prop where
 prim:∀ l d,cC 138 #[.pointer (some ⟨g,0,none⟩)] g en l d ca (bN en f l d)
 sum:∀ l d,cC 102 #[.pointer (some ⟨g,0,none⟩)] g en l d ca (gN en f l d)
 expr:∀ l d,cC 65 #[.pointer (some ⟨g,0,none⟩)] g en l d ca (bA en f l d)
 call:∀ l d,cC 68 #[.pointer (some ⟨g,0,none⟩)] g en l d ca (fq en f l d)
 param:∀ l d,cC 107 #[.pointer (some ⟨g,0,none⟩)] g en l d sc (ce en f 0 l d)
 arg:∀ l d,cC 109 #[.pointer (some ⟨g,0,none⟩)] g en l d sc (ce en f 1 l d)
 entry:∀ l d,cC 163 #[.pointer (some ⟨g,0,none⟩)] g en l d fe (ce en f 3 l d)
 rule1:∀ b l d,fK 106 b g en l d fe (ce en f 0 l d)
 call1:∀ b l d,fK 108 b g en l d fe (ce en f 1 l d)
 prim1:∀ b l d,fK 162 b g en l d fe (ce en f 2 l d)
 l0:∀ b l d,fI 106 0 [41] f b g en l d
 l1:∀ b l d,fI 108 1 [41] f b g en l d
 l2:∀ b l d,fI 162 2 [93] f b g en l d
 l3:∀ l d,iy f g en l d
 block:∀ l d,cC 66 #[.pointer (some ⟨g,0,none⟩)] g en l d ca (cM en f l d)
 stmt:∀ l d,cC 34 #[.pointer (some ⟨g,0,none⟩)] g en l d ca (dc en f l d)
 stmts0:∀ l d,cC 21 #[.pointer (some ⟨g,0,none⟩),.string (bs [])] g en l d fe (bY en f false l d)
 stmts1:∀ l d,cC 21 #[.pointer (some ⟨g,0,none⟩),.string (bs [125])] g en l d fe (bY en f true l d)
theorem xW (g:Nat) (en:Pl) (f:Nat):zaH f g en:=by
 induction f using Nat.strongRecOn with
 | _ f ih =>
 have hparam:∀ l d,cC 107 #[.pointer (some ⟨g,0,none⟩)] g en l d sc (ce en f 0 l d):=by
  intro l d;cases f with
  | zero=>intro w _ hne;exact absurd (by rw [ce]) hne
  | succ f=>exact ur f g en l d (fun l=>(ih f (by omega)).expr l d)
 have harg:∀ l d,cC 109 #[.pointer (some ⟨g,0,none⟩)] g en l d sc (ce en f 1 l d):=by
  intro l d;cases f with
  | zero=>intro w _ hne;exact absurd (by rw [ce]) hne
  | succ f=>exact ya f g en l d (fun l=>(ih f (by omega)).expr l d)
 refine ⟨?_,?_,?_,?_,hparam,harg,?_,fun b l d=>tS f b g en l d (hparam l d),fun b l d=>tP f b g en l d (harg l d),?_,?_,?_,?_,?_,?_,?_,?_,?_⟩
 ·intro l d;cases f with
  | zero=>intro w _ hne;exact absurd (by rw [bN]) hne
  | succ f=>exact vI f g en l d (ih f (by omega)).call (ih f (by omega)).prim (ih f (by omega)).expr (ih f (by omega)).l2 (ih f (by omega)).l3
 ·intro l d;cases f with
  | zero=>intro w _ hne;exact absurd (by rw [gN]) hne
  | succ f=>exact zy f g en l d (fun f' h l=>(ih f' (by omega)).prim l d)
 ·intro l d;cases f with
  | zero=>intro w _ hne;exact absurd (by rw [bA]) hne
  | succ f=>exact xf f g en l d (fun l=>(ih f (by omega)).sum l d)
 ·intro l d;cases f with
  | zero=>intro w _ hne;exact absurd (by rw [fq]) hne
  | succ f=>exact xA f g en l d (ih f (by omega)).l1
 ·intro l d;cases f with
  | zero=>intro w _ hne;exact absurd (by rw [ce]) hne
  | succ f=>exact tQ f g en l d (fun l=>(ih f (by omega)).expr l d)
 ·intro b l d;cases f with
  | zero=>intro w _ _ _ hne;exact absurd (by rw [ce]) hne
  | succ f=>exact tT f b g en l d ((ih f (by omega)).expr l d)
 ·intro b l d w hp hbg hbx hne;exact tg f b g en [41] l d w hp hbg hbx hne (fun f' h l=>(ih f' h).rule1 b l d)
 ·intro b l d w hp hbg hbx hne;exact un f b g en [41] l d w hp hbg hbx hne (fun f' h l=>(ih f' h).call1 b l d)
 ·intro b l d w hp hbg hbx hne;exact uH f b g en [93] l d w hp hbg hbx hne (fun f' h l=>(ih f' h).prim1 b l d)
 ·intro l d w hp hne;exact uG f g en [125] l d w hp hne (fun f' h l=>(ih f' h).entry l d)
 ·intro l d;cases f with
  | zero=>intro w _ hne;exact absurd (by rw [cM]) hne
  | succ f=>exact tm f g en l d (ih f (by omega)).stmts1
 ·intro l d;cases f with
  | zero=>intro w _ hne;exact absurd (by rw [dc]) hne
  | succ f=>exact wC f g en l d (ih f (by omega)).expr (ih f (by omega)).block (fun l d=>wX f g en l d (ih f (by omega)).l0 (ih f (by omega)).block) (ih f (by omega)).call
 ·intro l d;exact rO f g en l d (fun f' h l=>(ih f' h).stmt l d)
 ·intro l d;exact rU f g en l d (fun f' h l=>(ih f' h).stmt l d)
structure uQ (w:World) (p:Pl) (wr:World):Prop where
 res:wr.heap[w.heap.size]? = some (.cells #[.int .i64 0,.int .i64 0] 24 (0,0))
 row:wr.heap[w.heap.size+1]? = some (.cells #[.int .i64 (p.1:Int),.int .i64 (p.2:Int)] 24 (0,0))
 below:Below w.heap.size w wr
theorem pE {s:List UInt8} {k:Nat} (h:k<s.length):cA (1,1) (s.take (k+1))=adv (cA (1,1) (s.take k)) s[k]:=by
 rw [List.take_succ_eq_append_getElem h,hI];rfl
theorem zaT (s:List UInt8) (hs:s.length≤100000) (w:World) :
  Calls Tryz.prog 19 #[.string (bs s)] w fun e w'=>e=.returned (.agg #[.int .i64 ((cA (1,1) s).1:Int),.int .i64 ((cA (1,1) s).2:Int)])∧Below w.heap.size w w':=by
 have H0:=hid (show uQ w (1,1) ((w.alloc (.cells #[.int .i64 0,.int .i64 0] 24)).alloc (.cells #[.int .i64 1,.int .i64 1] 24)) from
  ⟨bz (hAn w _) _,by have:=hAn (w.alloc (.cells #[.int .i64 0,.int .i64 0] 24)) (.cells #[.int .i64 1,.int .i64 1] 24);rwa [wSz] at this,zdy (ag w _) (ag _ _)⟩)
 go_enter Tryz.func19,Tryz.ntmps19
 go_wp2_with fail;go_loopw [8] (fun i wr=>∃ k:Nat,k≤s.length∧i=.int .i64 k∧uQ w (cA (1,1) (s.take k)) wr) (fun i _=>s.length - (intOf i).toNat)
 case atStart=>exact ⟨0,by omega,rfl,H0.out⟩
 case round =>
  clear H0;obtain ⟨k,hk,rfl,HE⟩:=hrel;have hle:=qW (1,1) (s.take k);have aF:(s.take k).length≤100000:=by rw [List.length_take];omega
  obtain ⟨⟨a,b⟩,hp⟩:∃ p,p=cA (1,1) (s.take k):=⟨_,rfl⟩;rw [← hp] at HE hle;obtain ⟨ha,hb⟩:=hle;simp only at ha hb;have ha1:a≤200000:=by omega
  have hb1:b≤200000:=by omega
  clear ha hb;obtain ⟨r0,r1,hB⟩:=HE;have hR0:=hid r0;have hR1:=hid r1;have HB:=hid hB;have hlt1:w.heap.size+1<wr.heap.size:=(aGe.1 r1).1;have c0:=cRo wr (w.heap.size+1) 0 _ _ _ r1;have c1:=cRo wr (w.heap.size+1) 1 _ _ _ r1;have f0:=aw r1 0;have f1:=aw r1 1;clear r0 r1 hB;by_cases aL:k<s.length
  ·have hd:decide (k<s.length)=true:=decide_eq_true aL;cases hc:((s[k].toNat:Int) == 10) with
   | true =>
     have hc':s[k].toNat=10:=by have:=hc;simp at this;omega
     have HN:Hid (cA (1,1) (s.take (k+1))=(a+1,1)):=hid (by rw [pE aL,← hp];unfold adv;rw [if_pos hc']);clear hc' hp;have HW:=hid (show uQ w (a+1,1) (((wr.setCell ⟨w.heap.size+1,1,none⟩ (.int .i64 ((b:Int)+1))).setCell ⟨w.heap.size+1,0,none⟩ (.int .i64 ((a:Int)+1))).setCell ⟨w.heap.size+1,1,none⟩ (.int .i64 1)) from
      ⟨by rw [hSo _ _ _ _ (by show w.heap.size≠w.heap.size+1;omega),hSo _ _ _ _ (by show w.heap.size≠w.heap.size+1;omega),hSo _ _ _ _ (by show w.heap.size≠w.heap.size+1;omega)];exact hR0.out,
       hSs _ _ 1 _ _ _ (hSs _ _ 0 _ _ _ (hSs _ _ 1 _ _ _ hR1.out)),
       ((HB.out.setCell (p:=⟨w.heap.size+1,1,none⟩) (by show w.heap.size≤w.heap.size+1;omega) _).setCell (p:=⟨w.heap.size+1,0,none⟩) (by show w.heap.size≤w.heap.size+1;omega) _).setCell (p:=⟨w.heap.size+1,1,none⟩) (by show w.heap.size≤w.heap.size+1;omega) _⟩)
     clear hR0 hR1 HB;go_wp2_with fail
     go_round
     case rel=>exact ⟨k+1,by omega,by go_num,by rw [HN.out];exact HW.out⟩
     case measure=>simp [intOf];omega
   | false =>
     have hc':s[k].toNat≠10:=by have:=hc;simp at this;omega
     have HN:Hid (cA (1,1) (s.take (k+1))=(a,b+1)):=hid (by rw [pE aL,← hp];unfold adv;rw [if_neg hc']);clear hc' hp;have HW:=hid (show uQ w (a,b+1) (wr.setCell ⟨w.heap.size+1,1,none⟩ (.int .i64 ((b:Int)+1))) from
      ⟨by rw [hSo _ _ _ _ (by show w.heap.size≠w.heap.size+1;omega)];exact hR0.out,
       hSs _ _ 1 _ _ _ hR1.out,
       HB.out.setCell (p:=⟨w.heap.size+1,1,none⟩) (by show w.heap.size≤w.heap.size+1;omega) _⟩)
     clear hR0 hR1 HB;go_wp2_with fail
     go_round
     case rel=>exact ⟨k+1,by omega,by go_num,by rw [HN.out];exact HW.out⟩
     case measure=>simp [intOf];omega
  ·have hd:decide (k<s.length)=false:=decide_eq_false aL;have HN:Hid (cA (1,1) s=(a,b)):=hid (by rw [hp,show s.take k=s from List.take_of_length_le (by omega)]);clear hp;have d0:=cRo wr w.heap.size 0 _ _ _ hR0.out;have d1:=cRo wr w.heap.size 1 _ _ _ hR0.out;have g0:=aw hR0.out 0;have g1:=aw hR0.out 1;go_wp2_with fail;refine br Tryz.underlying24 w.heap.size (hSs _ _ 1 _ _ _ (hSs _ _ 0 _ _ _ hR0.out)) ⟨by rw [HN.out];rfl,(HB.out.setCell (p:=⟨w.heap.size,0,none⟩) (nRe _) _).setCell (p:=⟨w.heap.size,1,none⟩) (nRe _) _⟩
abbrev zch:Value:=.agg #[.int .i64 0,.int .i64 0,.int .i64 0]
theorem zb2 (w:World):(Instr.typeAssert .nilIface 20 51 true).run Tryz.prog w=.ok (.tuple #[zch,.bool false]) w:=by kernel_rfl
theorem yp (v:Value) (w:World):(Instr.typeAssert (.iface 51 v) 20 51 true).run Tryz.prog w=.ok (.tuple #[v,.bool true]) w:=by kernel_rfl
structure yr (a b c:Nat) (w w':World):Prop where
 os:w'.os=w.os
 tape:w'.tape=w.tape
 output:w'.output=w.output
 size:w.heap.size≤w'.heap.size
 block:∀ k,k<w.heap.size→k≠a→k≠b→k≠c→w'.heap[k]? = w.heap[k]?
theorem j5 (w:World) (p:Addr) (v:Value):(w.setCell p v).os=w.os:=rfl
theorem gZ (w:World) (p:Addr) (v:Value):(w.setCell p v).tape=w.tape:=rfl
theorem fE (w:World) (p:Addr) (v:Value):(w.setCell p v).output=w.output:=rfl
theorem hF (w:World) (p:Addr) (v:Value):(w.setCell p v).heap.size=w.heap.size:=by simp [World.setCell]
theorem yn {w:World} {z:Nat} {x0:Value} {T:TypeId} (h:w.heap[z]? = some (.cells #[x0] T (0,0))) (y0:Value) :
  ∃ W,W=(w.setCell ⟨z,0,none⟩ y0)∧W.heap[z]? = some (.cells #[y0] T (0,0))∧(∀ k,k≠z→W.heap[k]? = w.heap[k]?)∧W.heap.size=w.heap.size∧W.os=w.os∧W.tape=w.tape∧W.output=w.output :=
 ⟨_,rfl,hSs _ _ 0 _ _ _ h,fun k hk=>by rw [hSo _ _ _ _ hk],by rw [hF],by rw [j5],by rw [gZ],by rw [fE]⟩
theorem yG {w:World} {z:Nat} {x0 x1:Value} {T:TypeId} (h:w.heap[z]? = some (.cells #[x0,x1] T (0,0))) (y0 y1:Value) :
  ∃ W,W=((w.setCell ⟨z,0,none⟩ y0).setCell ⟨z,1,none⟩ y1)∧W.heap[z]? = some (.cells #[y0,y1] T (0,0))∧(∀ k,k≠z→W.heap[k]? = w.heap[k]?)∧W.heap.size=w.heap.size∧W.os=w.os∧W.tape=w.tape∧W.output=w.output :=
 ⟨_,rfl,hSs _ _ 1 _ _ _ (hSs _ _ 0 _ _ _ h),fun k hk=>by rw [hSo _ _ _ _ hk,hSo _ _ _ _ hk],by rw [hF,hF],by rw [j5,j5],by rw [gZ,gZ],by rw [fE,fE]⟩
theorem zb1 {w:World} {z:Nat} {x0 x1 x2 x3 x4:Value} {T:TypeId} (h:w.heap[z]? = some (.cells #[x0,x1,x2,x3,x4] T (0,0))) (y0 y1 y2 y3 y4:Value) :
  ∃ W,W=(((((w.setCell ⟨z,0,none⟩ y0).setCell ⟨z,1,none⟩ y1).setCell ⟨z,2,none⟩ y2).setCell ⟨z,3,none⟩ y3).setCell ⟨z,4,none⟩ y4)∧W.heap[z]? = some (.cells #[y0,y1,y2,y3,y4] T (0,0))∧(∀ k,k≠z→W.heap[k]? = w.heap[k]?)∧W.heap.size=w.heap.size∧W.os=w.os∧W.tape=w.tape∧W.output=w.output :=
 ⟨_,rfl,hSs _ _ 4 _ _ _ (hSs _ _ 3 _ _ _ (hSs _ _ 2 _ _ _ (hSs _ _ 1 _ _ _ (hSs _ _ 0 _ _ _ h)))),fun k hk=>by rw [hSo _ _ _ _ hk,hSo _ _ _ _ hk,hSo _ _ _ _ hk,hSo _ _ _ _ hk,hSo _ _ _ _ hk],by rw [hF,hF,hF,hF,hF],by rw [j5,j5,j5,j5,j5],by rw [gZ,gZ,gZ,gZ,gZ],by rw [fE,fE,fE,fE,fE]⟩
theorem ud (zn ze zp:Nat) (w:World) :
  CallsD Tryz.prog 18 #[.pointer (some ⟨zn,0,none⟩),.pointer (some ⟨ze,0,none⟩),.pointer (some ⟨zp,0,none⟩)] .returning w fun e u' w' =>
   e=.returned (.tuple #[])∧u'=.returning∧Below w.heap.size w w':=by
 have ha:=zb2;refine callsD_of_wpS Tryz.func18 rfl fun c₀ cs hu=>?_
 change Code.wpS _ _ _ { tmps:=#[.pointer (some ⟨zn,0,none⟩),.pointer (some ⟨ze,0,none⟩),.pointer (some ⟨zp,0,none⟩),undef,undef,undef,undef,undef,undef,undef,undef,undef,undef,undef,undef,undef,undef,undef,undef,undef,undef],defers:=[] } _ _;apply wpS_seq;apply wpS_region;simp [wpOpsS,go_sem,recoverD,hu,Exit.thenS];refine wpS_of_wp ?_;go_wp2_with fail;exact ⟨rfl,.returning,by rw [← hu],.tuple #[],by kernel_rfl,rfl,rfl,ag w _⟩
theorem sT (zn ze zp:Nat) (e l c:Int) (n0 n1 n2 n3 n4 x a b:Value) (older:List PanicEntry) (w:World) (h1:zn≠ze) (h2:zn≠zp) (h3:ze≠zp)
  (rn:w.heap[zn]? = some (.cells #[n0,n1,n2,n3,n4] 27 (0,0))) (re:w.heap[ze]? = some (.cells #[x] 28 (0,0))) (rp:w.heap[zp]? = some (.cells #[a,b] 24 (0,0))) :
  CallsD Tryz.prog 18 #[.pointer (some ⟨zn,0,none⟩),.pointer (some ⟨ze,0,none⟩),.pointer (some ⟨zp,0,none⟩)] (.panicking ({ v:=.iface 51 (.agg #[.int .i64 e,.int .i64 l,.int .i64 c]),recovered:=false }::older)) w fun E u' w' =>
   E=.returned (.tuple #[])∧u'=.panicking ({ v:=.iface 51 (.agg #[.int .i64 e,.int .i64 l,.int .i64 c]),recovered:=true }::older) ∧
   w'.heap[zn]? = some (.cells #[.int .i64 0,.string ⟨#[]⟩,.int .i64 0,.int .i64 0,.slice none 0 0] 27 (0,0))∧w'.heap[ze]? = some (.cells #[.int .i64 e] 28 (0,0))∧w'.heap[zp]? = some (.cells #[.int .i64 l,.int .i64 c] 24 (0,0))∧yr zn ze zp w w':=by
 have ha:=yp;obtain ⟨w1,hw,r_w,lt,hB⟩:∃ W,Hid (W=w.alloc (.cells #[.int .i64 e,.int .i64 l,.int .i64 c] 51))∧W.heap[w.heap.size]? = some (.cells #[.int .i64 e,.int .i64 l,.int .i64 c] 51 (0,0))∧w.heap.size<W.heap.size∧Below w.heap.size w W:=⟨_,hid rfl,hAn w _,by rw [wSz];omega,ag w _⟩;have hn:=(aGe.1 rn).1;have he:=(aGe.1 re).1;have hp:=(aGe.1 rp).1;have rn1:=hid ((hB.block _ hn).trans rn);have re1:=hid ((hB.block _ he).trans re);have rp1:=hid ((hB.block _ hp).trans rp);have HB:=hid hB;have HR:=hid r_w;clear rn re rp hB r_w;refine callsD_of_wpS Tryz.func18 rfl fun c₀ cs hu=>?_
 change Code.wpS _ _ _ { tmps:=#[.pointer (some ⟨zn,0,none⟩),.pointer (some ⟨ze,0,none⟩),.pointer (some ⟨zp,0,none⟩),undef,undef,undef,undef,undef,undef,undef,undef,undef,undef,undef,undef,undef,undef,undef,undef,undef,undef],defers:=[] } _ _;apply wpS_seq;apply wpS_region;simp [wpOpsS,go_sem,recoverD,hu,Exit.thenS];refine wpS_of_wp ?_;go_wp2_with fail;rw [← hw.out];clear hw;refine aH (S:=fun W=>W.heap[w.heap.size]? = some (.cells #[.int .i64 e,.int .i64 l,.int .i64 c] 51 (0,0))) (by kernel_rfl) ?_;obtain ⟨w2,hw,ac⟩:=dr1 w1;rw [← hw.out];clear hw;have rn2:=(ac.block _ (by omega)).trans rn1.out;have re2:=(ac.block _ (by omega)).trans re1.out;have rp2:=(ac.block _ (by omega)).trans rp1.out;have rw2:=(ac.block _ lt).trans HR.out;obtain ⟨w3,e3,a3,o3,s3,t3⟩:=zb1 rn2 (.int .i64 0) (.string ⟨#[]⟩) (.int .i64 0) (.int .i64 0) (.slice none 0 0);have re3:=(o3 ze (Ne.symm h1)).trans re2;have rp3:=(o3 zp (Ne.symm h2)).trans rp2;have rw3:=(o3 w.heap.size (by omega)).trans rw2;obtain ⟨w4,e4,a4,o4,s4,t4⟩:=yn re3 (.int .i64 e);have rp4:=(o4 zp (Ne.symm h3)).trans rp3;have rw4:=(o4 w.heap.size (by omega)).trans rw3;have rn4:=(o4 zn h1).trans a3;obtain ⟨w5,e5,a5,o5,s5,t5⟩:=yG rp4 (.int .i64 l) (.int .i64 c);have rw5:=(o5 w.heap.size (by omega)).trans rw4;have rn5:=(o5 zn h2).trans rn4;have re5:=(o5 ze h3).trans a4;have HT:=hid (show w5.heap[zn]? = some (.cells #[.int .i64 0,.string ⟨#[]⟩,.int .i64 0,.int .i64 0,.slice none 0 0] 27 (0,0))∧w5.heap[ze]? = some (.cells #[.int .i64 e] 28 (0,0))∧w5.heap[zp]? = some (.cells #[.int .i64 l,.int .i64 c] 24 (0,0))∧yr zn ze zp w w5 from
  ⟨rn5,re5,a5,t5.1.trans (t4.1.trans (t3.1.trans (ac.os.trans HB.out.os))),t5.2.1.trans (t4.2.1.trans (t3.2.1.trans (ac.tape.trans HB.out.tape))),t5.2.2.trans (t4.2.2.trans (t3.2.2.trans (ac.output.trans HB.out.output))),
   by have:=ac.size;have:=HB.out.size;omega,fun k hk k1 k2 k3=>(o5 k k3).trans ((o4 k k2).trans ((o3 k k1).trans ((ac.block k (by have:=HB.out.size;omega)).trans (HB.out.block k hk))))⟩)
 have E3:=hid e3;have E4:=hid e4;have E5:=hid e5;have Rn2:=hid rn2;have Re3:=hid re3;have Rp4:=hid rp4;have S3:=hid rw3;have S4:=hid rw4;have S5:=hid rw5;have hS:=rw2;clear rn5 re5 a5 o5 s5 t5 e5 rw5 rn4 a4 o4 s4 t4 e4 rw4 rp4 a3 o3 s3 t3 e3 rw3 re3 rp3 rn2 re2 rp2 rw2 rn1 re1 rp1 HB HR ac;refine zdD 0 (some 13) (.agg #[.int .i64 0,.string ⟨#[]⟩,.int .i64 0,.int .i64 0,.slice none 0 0]) hS ?_ (hv:=fun W _=>by kernel_rfl)
 try simp only [aPu,sA,sB,sC]
 refine zdA 1 (some 14) (.pointer (some ⟨w.heap.size,0,none⟩)) hS ?_
 try simp only [aPu,sA,sB,sC]
 refine zdD 2 (some 15) (.int .i64 e) hS ?_ (hv:=fun W hW=>by have q:W.cell? ⟨w.heap.size,0,none⟩=some (.int .i64 e):=cRo W _ 0 _ _ _ hW;go_simp)
 try simp only [aPu,sA,sB,sC]
 refine zdA 3 (some 16) (.pointer (some ⟨w.heap.size,1,none⟩)) hS ?_
 try simp only [aPu,sA,sB,sC]
 refine zdD 4 (some 17) (.agg #[.int .i64 l,.int .i64 c]) hS ?_ (hv:=fun W hW=>by have q:W.cell? ⟨w.heap.size,1,none⟩=some (.int .i64 l):=cRo W _ 1 _ _ _ hW;have q2:W.cell? ⟨w.heap.size,2,none⟩=some (.int .i64 c):=cRo W _ 2 _ _ _ hW;go_simp)
 try simp only [aPu,sA,sB,sC]
 have q0:=cRo _ zn 0 _ _ _ Rn2.out;have f0:=aw Rn2.out 0;have q1:=cRo _ zn 1 _ _ _ Rn2.out;have f1:=aw Rn2.out 1;have q2:=cRo _ zn 2 _ _ _ Rn2.out;have f2:=aw Rn2.out 2;have q3:=cRo _ zn 3 _ _ _ Rn2.out;have f3:=aw Rn2.out 3;have q4:=cRo _ zn 4 _ _ _ Rn2.out;have f4:=aw Rn2.out 4;refine zdC 5 ?_;intro K hK;go_simp;clear q0 f0 q1 f1 q2 f2 q3 f3 q4 f4;rw [← E3.out];refine hK.out _ _ S3.out ?_;clear hK K
 try simp only [aPu,sA,sB,sC]
 have q0:=cRo _ ze 0 _ _ _ Re3.out;have f0:=aw Re3.out 0;refine zdC 6 ?_;intro K hK;go_simp;clear q0 f0;rw [← E4.out];refine hK.out _ _ S4.out ?_;clear hK K
 try simp only [aPu,sA,sB,sC]
 have q0:=cRo _ zp 0 _ _ _ Rp4.out;have f0:=aw Rp4.out 0;have q1:=cRo _ zp 1 _ _ _ Rp4.out;have f1:=aw Rp4.out 1;refine zdC 7 ?_;intro K hK;go_simp;clear q0 f0 q1 f1;rw [← E5.out];refine hK.out _ _ S5.out ?_;clear hK K
 try simp only [aPu,sA,sB,sC]
 refine zdH ?_;go_wp2_with fail;exact ⟨rfl,_,rfl,.tuple #[],by kernel_rfl,rfl,rfl,HT.out⟩
end Go.Proofs.YtfgiihpopngbkaaGreatDoor
