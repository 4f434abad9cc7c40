/- Lemmas and walks that the statement needs: ParseStmtD, ParseStmt, ParseStmts, ParseWalk, ParseEnd. -/
import Derived.Test.YtfgiihpopngbkaaGreatDoorM23
import Derived.Test.YtfgiihpopngbkaaGreatDoorM24
import Derived.Test.YtfgiihpopngbkaaGreatDoorM19
import Derived.Test.YtfgiihpopngbkaaGreatDoorM18
import Derived.Test.YtfgiihpopngbkaaGreatDoorM20
import Derived.Test.YtfgiihpopngbkaaGreatDoorM21
import Derived.Test.YtfgiihpopngbkaaGreatDoorM22
import Derived.Test.YtfgiihpopngbkaaGreatDoorM06
namespace Go.Proofs.YtfgiihpopngbkaaGreatDoor
set_option maxRecDepth 100000
open Go.RowKit
open Nat renaming lt_of_lt_of_le→nL,le_trans→nT
set_option maxHeartbeats 8000000 in
theorem stmt_as1 (f:Nat) (g:Nat) (en:Pl) (l:List Tok) (d:Nat) (h_bf:wordB l [102,111,114]=false) (h_bi:wordB l [105,102]=false) (h_br:wordB l [114,117,108,101]=false) (h_bn:nameB l=true) (h_bp:signB l 1 [40]=false) (IE:∀ l d,Does 65 #[.pointer (some ⟨g,0,none⟩)] g en l d NodeN (pExpr en f l d)) :
  Does 34 #[.pointer (some ⟨g,0,none⟩)] g en l d NodeN (pStmt en (f+1) l d):=by
 intro w hp hne;obtain ⟨X,hX⟩:∃ X,X=pStmt en (f+1) l d:=⟨_,rfl⟩;rw [← hX] at hne ⊢;rw [pStmt] at hX;simp only [show wFor=[102,111,114] from rfl,show wIf=[105,102] from rfl,show wRule=[114,117,108,101] from rfl,show wIn=[105,110] from rfl,show wElse=[101,108,115,101] from rfl] at hX;rw [h_bf,if_neg (c:=false=true) (by decide)] at hX;rw [h_bi,if_neg (c:=false=true) (by decide)] at hX;rw [h_br,if_neg (c:=false=true) (by decide)] at hX;rw [show (nameB l && signB l 1 [40])=false by rw [h_bn,h_bp];rfl,if_neg (c:=false=true) (by decide)] at hX;have HX:=hid hX;clear hX;have hgl:=hp.lt;have Pg:=hid (fun (b:Nat) (h:w.heap.size+1≤b)=>(show b≠g by omega));obtain ⟨w1,hw,hp1,hB,rr,hgt⟩:=enter1 hp (.cells #[.int .i64 0,.string ⟨#[]⟩,.int .i64 0,.int .i64 0,.slice none 0 0] 27);have r_res:=hid rr;have n_res:w.heap.size≠g:=by omega
 have lt_res:w.heap.size<w1.heap.size:=hgt;clear hp rr;have hp:=hp1;clear hp1;have HB:=hid hB;clear hB;go_enter Tryz.func34,Tryz.ntmps34
 go_wp2_with fail;rw [← hw.out];clear hw;refine (at_any 0 g en l d _ hp).mono ?_;rintro e w2 ⟨rfl,hbb⟩;replace hp:=hp.keep hbb;replace hbb:=ButAt.of_below (g:=g) hbb;replace HB:=kb HB hbb;replace r_res:=kr hbb r_res n_res;replace lt_res:=nL lt_res hbb.size;replace hgt:=nT hgt hbb.size;clear hbb;generalize atT en l 0=t at *;have S1:=hid (fun W (hW:PS W g en l d)=>by have h:=word_any [102,111,114] g en l d W hW;rw [h_bf] at h;exact h);have S2:=hid (fun W (hW:PS W g en l d)=>by have h:=word_any [105,102] g en l d W hW;rw [h_bi] at h;exact h);have S3:=hid (fun W (hW:PS W g en l d)=>by have h:=word_any [114,117,108,101] g en l d W hW;rw [h_br] at h;exact h);have S4:=hid (fun W (hW:PS W g en l d)=>by have h:=name_any g en l d W hW;rw [h_bn] at h;exact h);have S5:=hid (fun W (hW:PS W g en l d)=>by have h:=sign_any 1 [40] g en l d W hW;rw [h_bp] at h;exact h);go_wp2_with fail;obtain ⟨w3,hw,hpn,hbb,rr,tl⟩:=enter1 hp (.cells #[.int .i64 (t.1:Int),.string (bs t.2.1),.int .i64 (t.2.2.1:Int),.int .i64 (t.2.2.2:Int)] 46);have n_t:w2.heap.size≠g:=by have:=hp.lt;omega
 have g_t:w.heap.size+1≤w2.heap.size:=hgt;clear hp;have hp:=hpn;clear hpn;have r_t:=hid rr;clear rr;replace HB:=kb HB hbb;replace r_res:=kr hbb r_res n_res;replace lt_res:=nL lt_res hbb.size;replace hgt:=nT hgt hbb.size;have lt_t:w2.heap.size<w3.heap.size:=tl;clear tl hbb;rw [← hw.out];clear hw;refine (S1.out _ hp).mono ?_;rintro e w4 ⟨rfl,hbb⟩;replace hp:=hp.keep hbb;replace hbb:=ButAt.of_below (g:=g) hbb;replace HB:=kb HB hbb;replace r_res:=kr hbb r_res n_res;replace lt_res:=nL lt_res hbb.size;replace r_t:=kr hbb r_t n_t;replace lt_t:=nL lt_t hbb.size;replace hgt:=nT hgt hbb.size;clear hbb;go_wp2_with fail;refine (S2.out _ hp).mono ?_;rintro e w5 ⟨rfl,hbb⟩;replace hp:=hp.keep hbb;replace hbb:=ButAt.of_below (g:=g) hbb;replace HB:=kb HB hbb;replace r_res:=kr hbb r_res n_res;replace lt_res:=nL lt_res hbb.size;replace r_t:=kr hbb r_t n_t;replace lt_t:=nL lt_t hbb.size;replace hgt:=nT hgt hbb.size;clear hbb;go_wp2_with fail;refine (S3.out _ hp).mono ?_;rintro e w6 ⟨rfl,hbb⟩;replace hp:=hp.keep hbb;replace hbb:=ButAt.of_below (g:=g) hbb;replace HB:=kb HB hbb;replace r_res:=kr hbb r_res n_res;replace lt_res:=nL lt_res hbb.size;replace r_t:=kr hbb r_t n_t;replace lt_t:=nL lt_t hbb.size;replace hgt:=nT hgt hbb.size;clear hbb;go_wp2_with fail;refine (S4.out _ hp).mono ?_;rintro e w7 ⟨rfl,hbb⟩;replace hp:=hp.keep hbb;replace hbb:=ButAt.of_below (g:=g) hbb;replace HB:=kb HB hbb;replace r_res:=kr hbb r_res n_res;replace lt_res:=nL lt_res hbb.size;replace r_t:=kr hbb r_t n_t;replace lt_t:=nL lt_t hbb.size;replace hgt:=nT hgt hbb.size;clear hbb;go_wp2_with fail;refine (S5.out _ hp).mono ?_;rintro e w8 ⟨rfl,hbb⟩;replace hp:=hp.keep hbb;replace hbb:=ButAt.of_below (g:=g) hbb;replace HB:=kb HB hbb;replace r_res:=kr hbb r_res n_res;replace lt_res:=nL lt_res hbb.size;replace r_t:=kr hbb r_t n_t;replace lt_t:=nL lt_t hbb.size;replace hgt:=nT hgt hbb.size;clear hbb;go_wp2_with fail;have hnm:nameB l=true:=h_bn;rw [hnm] at HX;clear hnm h_bf h_bi h_br h_bn h_bp;refine (S4.out _ hp).mono ?_;rintro e w9 ⟨rfl,hbb⟩;replace hp:=hp.keep hbb;replace hbb:=ButAt.of_below (g:=g) hbb;replace HB:=kb HB hbb;replace r_res:=kr hbb r_res n_res;replace lt_res:=nL lt_res hbb.size;replace r_t:=kr hbb r_t n_t;replace lt_t:=nL lt_t hbb.size;replace hgt:=nT hgt hbb.size;clear hbb;go_wp2_with fail;cases hx:pTake en true l with
 | oof=>exact absurd (by have h:=HX.out;rw [hx] at h;exact h) hne
 | bad er p =>
   refine (take_bad hx hp).mono ?_;rintro e wb ⟨rfl,hbb⟩;go_wp2_with fail;exact ⟨rfl,RetP.of_bad (by have h:=HX.out;rw [hx] at h;exact h) (HB.out.trans hbb)⟩
 | ok n r =>
   refine (take_ok hx hp).mono ?_;rintro e w10 ⟨rfl,hpn,hbb⟩;clear hp;have hp:=hpn;clear hpn;replace HB:=kb HB hbb;replace r_res:=kr hbb r_res n_res;replace lt_res:=nL lt_res hbb.size;replace r_t:=kr hbb r_t n_t;replace lt_t:=nL lt_t hbb.size;replace hgt:=nT hgt hbb.size;clear hbb;go_wp2_with fail;obtain ⟨w11,hw,hpn,hbb,rr,tl⟩:=enter1 hp (.cells #[.int .i64 (n.1:Int),.string (bs n.2.1),.int .i64 (n.2.2.1:Int),.int .i64 (n.2.2.2:Int)] 46);have n_n:w10.heap.size≠g:=by have:=hp.lt;omega
   have g_n:w.heap.size+1≤w10.heap.size:=hgt;clear hp;have hp:=hpn;clear hpn;have r_n:=hid rr;clear rr;replace HB:=kb HB hbb;replace r_res:=kr hbb r_res n_res;replace lt_res:=nL lt_res hbb.size;replace r_t:=kr hbb r_t n_t;replace lt_t:=nL lt_t hbb.size;replace hgt:=nT hgt hbb.size;have lt_n:w10.heap.size<w11.heap.size:=tl;clear tl hbb;rw [← hw.out];clear hw;replace HX:=thk HX hx;clear hx;cases hx:pEat en [61] r with
   | oof=>exact absurd (by have h:=HX.out;rw [hx] at h;exact h) hne
   | bad er p =>
     refine (eat_bad hx hp).mono ?_;rintro e wb ⟨rfl,hbb⟩;go_wp2_with fail;exact ⟨rfl,RetP.of_bad (by have h:=HX.out;rw [hx] at h;exact h) (HB.out.trans hbb)⟩
   | ok t3 r2 =>
     refine (eat_ok hx hp).mono ?_;rintro e w12 ⟨rfl,hpn,hbb⟩;clear hp;have hp:=hpn;clear hpn;replace HB:=kb HB hbb;replace r_res:=kr hbb r_res n_res;replace lt_res:=nL lt_res hbb.size;replace r_t:=kr hbb r_t n_t;replace lt_t:=nL lt_t hbb.size;replace r_n:=kr hbb r_n n_n;replace lt_n:=nL lt_n hbb.size;replace hgt:=nT hgt hbb.size;clear hbb;replace HX:=thk HX hx;clear hx;go_wp2_with fail;cases hx:pExpr en f r2 d with
     | oof=>exact absurd (by have h:=HX.out;rw [hx] at h;exact h) hne
     | bad er p =>
       refine ((IE r2 d).bad hx hp).mono ?_;rintro e wb ⟨rfl,hbb⟩;go_wp2_with fail;exact ⟨rfl,RetP.of_bad (by have h:=HX.out;rw [hx] at h;exact h) (HB.out.trans hbb)⟩
     | ok x r3 =>
       refine ((IE r2 d).ok hx hp).mono ?_;rintro e w13 ⟨_,rfl,⟨k_x,t_x,l_x,c_x,ks_x,a_x,m_x,rfl,hi,hh⟩,hpn,hbb⟩;clear hp;have hp:=hpn;clear hpn;have i_x:=hid hi;have hy:=hid (HeldN.less (P':=fun b=>w.heap.size+1≤b) (fun b _ (hb:w12.heap.size≤b)=>(show w.heap.size+1≤b by omega)) hh);replace HB:=kb HB hbb;replace r_res:=kr hbb r_res n_res;replace lt_res:=nL lt_res hbb.size;replace r_t:=kr hbb r_t n_t;replace lt_t:=nL lt_t hbb.size;replace r_n:=kr hbb r_n n_n;replace lt_n:=nL lt_n hbb.size;replace hgt:=nT hgt hbb.size;have h_x:=hy;clear hy hi hh hbb;go_wp2_with fail;obtain ⟨w14,hw,hpn,hbb,rr,tl⟩:=enter1 hp (.cells #[.int .i64 k_x,.string (bs t_x),.int .i64 l_x,.int .i64 c_x,.slice a_x ks_x.length m_x] 27);have n_x:w13.heap.size≠g:=by have:=hp.lt;omega
       have g_x:w.heap.size+1≤w13.heap.size:=hgt;clear hp;have hp:=hpn;clear hpn;have r_x:=hid rr;clear rr;replace HB:=kb HB hbb;replace r_res:=kr hbb r_res n_res;replace lt_res:=nL lt_res hbb.size;replace r_t:=kr hbb r_t n_t;replace lt_t:=nL lt_t hbb.size;replace r_n:=kr hbb r_n n_n;replace lt_n:=nL lt_n hbb.size;replace h_x:=kh hbb Pg h_x;replace hgt:=nT hgt hbb.size;have lt_x:w13.heap.size<w14.heap.size:=tl;clear tl hbb;rw [← hw.out];clear hw;replace HX:=thk HX hx;clear hx;cases hx:pEat en [59] r3 with
       | oof=>exact absurd (by have h:=HX.out;rw [hx] at h;exact h) hne
       | bad er p =>
         refine (eat_bad hx hp).mono ?_;rintro e wb ⟨rfl,hbb⟩;go_wp2_with fail;exact ⟨rfl,RetP.of_bad (by have h:=HX.out;rw [hx] at h;exact h) (HB.out.trans hbb)⟩
       | ok t4 r4 =>
         refine (eat_ok hx hp).mono ?_;rintro e w15 ⟨rfl,hpn,hbb⟩;clear hp;have hp:=hpn;clear hpn;replace HB:=kb HB hbb;replace r_res:=kr hbb r_res n_res;replace lt_res:=nL lt_res hbb.size;replace r_t:=kr hbb r_t n_t;replace lt_t:=nL lt_t hbb.size;replace r_n:=kr hbb r_n n_n;replace lt_n:=nL lt_n hbb.size;replace r_x:=kr hbb r_x n_x;replace lt_x:=nL lt_x hbb.size;replace h_x:=kh hbb Pg h_x;replace hgt:=nT hgt hbb.size;clear hbb;replace HX:=thk HX hx;clear hx;obtain ⟨q_t0,q_t1,q_t2,q_t3,f_t0,f_t1,f_t2,f_t3⟩:=row4 r_t.out;obtain ⟨q_n0,q_n1,q_n2,q_n3,f_n0,f_n1,f_n2,f_n3⟩:=row4 r_n.out;obtain ⟨q_x0,q_x1,q_x2,q_x3,q_x4,f_x0,f_x1,f_x2,f_x3,f_x4⟩:=row5 r_x.out;go_wp2_with fail;clear q_t0 f_t0 q_t1 f_t1 q_t2 f_t2 q_t3 f_t3 q_n0 f_n0 q_n1 f_n1 q_n2 f_n2 q_n3 f_n3 q_x0 f_x0 q_x1 f_x1 q_x2 f_x2 q_x3 f_x3 q_x4 f_x4;obtain ⟨w16,hw,hpn,hbb,rr,tl⟩:=enter1 hp (.cells #[.int .i64 k_x,.string (bs t_x),.int .i64 l_x,.int .i64 c_x,.slice a_x ks_x.length m_x] 27);have n_kd:w15.heap.size≠g:=by have:=hp.lt;omega
         have g_kd:w.heap.size+1≤w15.heap.size:=hgt;clear hp;have hp:=hpn;clear hpn;have r_kd:=hid rr;clear rr;replace HB:=kb HB hbb;replace r_res:=kr hbb r_res n_res;replace lt_res:=nL lt_res hbb.size;replace r_t:=kr hbb r_t n_t;replace lt_t:=nL lt_t hbb.size;replace r_n:=kr hbb r_n n_n;replace lt_n:=nL lt_n hbb.size;replace r_x:=kr hbb r_x n_x;replace lt_x:=nL lt_x hbb.size;replace h_x:=kh hbb Pg h_x;replace hgt:=nT hgt hbb.size;have lt_kd:w15.heap.size<w16.heap.size:=tl;clear tl hbb;rw [← hw.out];clear hw;refine (node_any 2 t n.2.1 (some ⟨w15.heap.size,0,none⟩) 1 1 _).mono ?_;rintro e w17 ⟨rfl,hbb⟩;replace hp:=hp.keep hbb;replace hbb:=ButAt.of_below (g:=g) hbb;replace HB:=kb HB hbb;replace r_res:=kr hbb r_res n_res;replace lt_res:=nL lt_res hbb.size;replace r_t:=kr hbb r_t n_t;replace lt_t:=nL lt_t hbb.size;replace r_n:=kr hbb r_n n_n;replace lt_n:=nL lt_n hbb.size;replace r_x:=kr hbb r_x n_x;replace lt_x:=nL lt_x hbb.size;replace r_kd:=kr hbb r_kd n_kd;replace lt_kd:=nL lt_kd hbb.size;replace h_x:=kh hbb Pg h_x;replace hgt:=nT hgt hbb.size;clear hbb;have hzz:=hgl;have HW:=hid (stored5 hp HB.out r_res.out (by omega) (by omega) (.int .i64 2) (.string (bs n.2.1)) (.int .i64 (t.2.2.1:Int)) (.int .i64 (t.2.2.2:Int)) (.slice (some ⟨w15.heap.size,0,none⟩) 1 1));obtain ⟨q_res0,q_res1,q_res2,q_res3,q_res4,f_res0,f_res1,f_res2,f_res3,f_res4⟩:=row5 r_res.out;go_wp2_with fail;obtain ⟨wz,hw,hpz,hbz,hrz,hsz,hoz⟩:=HW.out;rw [← hw];refine bodyPost_ret (results_cell_row rfl _ _ (w.heap.size) _ _ _ _ rfl hrz Tryz.underlying27 rfl (by kernel_rfl)) rfl (RetP.of_ok HX.out ?_ hpz hbz);have S:Same (w.heap.size+1≤·) w17 wz:=⟨by omega,fun k _ (hk:w.heap.size+1≤k)=>hoz k (by omega)⟩;exact ⟨_,_,_,_,[(NM.mk k_x t_x l_x c_x ks_x a_x m_x)],_,_,rfl,is_mk (k:=2) (p:=(t.2.2.1,t.2.2.2)) (are_one i_x.out) _ _,HeldN.less (P:=fun b=>w.heap.size+1≤b) (fun b _ (hb:w.heap.size+1≤b)=>(show w.heap.size≤b by omega)) (held_kids ((hoz _ (by omega)).trans r_kd.out) rfl (by simp) (by omega) (heldNs_one (HeldN.keep S h_x.out)) _ _ _ _)⟩
set_option maxHeartbeats 8000000 in
theorem stmt_as0 (f:Nat) (g:Nat) (en:Pl) (l:List Tok) (d:Nat) (h_bf:wordB l [102,111,114]=false) (h_bi:wordB l [105,102]=false) (h_br:wordB l [114,117,108,101]=false) (h_bn:nameB l=false) (IE:∀ l d,Does 65 #[.pointer (some ⟨g,0,none⟩)] g en l d NodeN (pExpr en f l d)) :
  Does 34 #[.pointer (some ⟨g,0,none⟩)] g en l d NodeN (pStmt en (f+1) l d):=by
 intro w hp hne;obtain ⟨X,hX⟩:∃ X,X=pStmt en (f+1) l d:=⟨_,rfl⟩;rw [← hX] at hne ⊢;rw [pStmt] at hX;simp only [show wFor=[102,111,114] from rfl,show wIf=[105,102] from rfl,show wRule=[114,117,108,101] from rfl,show wIn=[105,110] from rfl,show wElse=[101,108,115,101] from rfl] at hX;rw [h_bf,if_neg (c:=false=true) (by decide)] at hX;rw [h_bi,if_neg (c:=false=true) (by decide)] at hX;rw [h_br,if_neg (c:=false=true) (by decide)] at hX;rw [show (nameB l && signB l 1 [40])=false by rw [h_bn];rfl,if_neg (c:=false=true) (by decide)] at hX;have HX:=hid hX;clear hX;have hgl:=hp.lt;have Pg:=hid (fun (b:Nat) (h:w.heap.size+1≤b)=>(show b≠g by omega));obtain ⟨w1,hw,hp1,hB,rr,hgt⟩:=enter1 hp (.cells #[.int .i64 0,.string ⟨#[]⟩,.int .i64 0,.int .i64 0,.slice none 0 0] 27);have r_res:=hid rr;have n_res:w.heap.size≠g:=by omega
 have lt_res:w.heap.size<w1.heap.size:=hgt;clear hp rr;have hp:=hp1;clear hp1;have HB:=hid hB;clear hB;go_enter Tryz.func34,Tryz.ntmps34
 go_wp2_with fail;rw [← hw.out];clear hw;refine (at_any 0 g en l d _ hp).mono ?_;rintro e w2 ⟨rfl,hbb⟩;replace hp:=hp.keep hbb;replace hbb:=ButAt.of_below (g:=g) hbb;replace HB:=kb HB hbb;replace r_res:=kr hbb r_res n_res;replace lt_res:=nL lt_res hbb.size;replace hgt:=nT hgt hbb.size;clear hbb;generalize atT en l 0=t at *;have S1:=hid (fun W (hW:PS W g en l d)=>by have h:=word_any [102,111,114] g en l d W hW;rw [h_bf] at h;exact h);have S2:=hid (fun W (hW:PS W g en l d)=>by have h:=word_any [105,102] g en l d W hW;rw [h_bi] at h;exact h);have S3:=hid (fun W (hW:PS W g en l d)=>by have h:=word_any [114,117,108,101] g en l d W hW;rw [h_br] at h;exact h);have S4:=hid (fun W (hW:PS W g en l d)=>by have h:=name_any g en l d W hW;rw [h_bn] at h;exact h);go_wp2_with fail;obtain ⟨w3,hw,hpn,hbb,rr,tl⟩:=enter1 hp (.cells #[.int .i64 (t.1:Int),.string (bs t.2.1),.int .i64 (t.2.2.1:Int),.int .i64 (t.2.2.2:Int)] 46);have n_t:w2.heap.size≠g:=by have:=hp.lt;omega
 have g_t:w.heap.size+1≤w2.heap.size:=hgt;clear hp;have hp:=hpn;clear hpn;have r_t:=hid rr;clear rr;replace HB:=kb HB hbb;replace r_res:=kr hbb r_res n_res;replace lt_res:=nL lt_res hbb.size;replace hgt:=nT hgt hbb.size;have lt_t:w2.heap.size<w3.heap.size:=tl;clear tl hbb;rw [← hw.out];clear hw;refine (S1.out _ hp).mono ?_;rintro e w4 ⟨rfl,hbb⟩;replace hp:=hp.keep hbb;replace hbb:=ButAt.of_below (g:=g) hbb;replace HB:=kb HB hbb;replace r_res:=kr hbb r_res n_res;replace lt_res:=nL lt_res hbb.size;replace r_t:=kr hbb r_t n_t;replace lt_t:=nL lt_t hbb.size;replace hgt:=nT hgt hbb.size;clear hbb;go_wp2_with fail;refine (S2.out _ hp).mono ?_;rintro e w5 ⟨rfl,hbb⟩;replace hp:=hp.keep hbb;replace hbb:=ButAt.of_below (g:=g) hbb;replace HB:=kb HB hbb;replace r_res:=kr hbb r_res n_res;replace lt_res:=nL lt_res hbb.size;replace r_t:=kr hbb r_t n_t;replace lt_t:=nL lt_t hbb.size;replace hgt:=nT hgt hbb.size;clear hbb;go_wp2_with fail;refine (S3.out _ hp).mono ?_;rintro e w6 ⟨rfl,hbb⟩;replace hp:=hp.keep hbb;replace hbb:=ButAt.of_below (g:=g) hbb;replace HB:=kb HB hbb;replace r_res:=kr hbb r_res n_res;replace lt_res:=nL lt_res hbb.size;replace r_t:=kr hbb r_t n_t;replace lt_t:=nL lt_t hbb.size;replace hgt:=nT hgt hbb.size;clear hbb;go_wp2_with fail;refine (S4.out _ hp).mono ?_;rintro e w7 ⟨rfl,hbb⟩;replace hp:=hp.keep hbb;replace hbb:=ButAt.of_below (g:=g) hbb;replace HB:=kb HB hbb;replace r_res:=kr hbb r_res n_res;replace lt_res:=nL lt_res hbb.size;replace r_t:=kr hbb r_t n_t;replace lt_t:=nL lt_t hbb.size;replace hgt:=nT hgt hbb.size;clear hbb;go_wp2_with fail;have hnm:nameB l=false:=h_bn;rw [hnm] at HX;clear hnm h_bf h_bi h_br h_bn;refine (S4.out _ hp).mono ?_;rintro e w8 ⟨rfl,hbb⟩;replace hp:=hp.keep hbb;replace hbb:=ButAt.of_below (g:=g) hbb;replace HB:=kb HB hbb;replace r_res:=kr hbb r_res n_res;replace lt_res:=nL lt_res hbb.size;replace r_t:=kr hbb r_t n_t;replace lt_t:=nL lt_t hbb.size;replace hgt:=nT hgt hbb.size;clear hbb;go_wp2_with fail;cases hx:pTake en false l with
 | oof=>exact absurd (by have h:=HX.out;rw [hx] at h;exact h) hne
 | bad er p =>
   refine (take_bad hx hp).mono ?_;rintro e wb ⟨rfl,hbb⟩;go_wp2_with fail;exact ⟨rfl,RetP.of_bad (by have h:=HX.out;rw [hx] at h;exact h) (HB.out.trans hbb)⟩
 | ok n r =>
   refine (take_ok hx hp).mono ?_;rintro e w9 ⟨rfl,hpn,hbb⟩;clear hp;have hp:=hpn;clear hpn;replace HB:=kb HB hbb;replace r_res:=kr hbb r_res n_res;replace lt_res:=nL lt_res hbb.size;replace r_t:=kr hbb r_t n_t;replace lt_t:=nL lt_t hbb.size;replace hgt:=nT hgt hbb.size;clear hbb;go_wp2_with fail;obtain ⟨w10,hw,hpn,hbb,rr,tl⟩:=enter1 hp (.cells #[.int .i64 (n.1:Int),.string (bs n.2.1),.int .i64 (n.2.2.1:Int),.int .i64 (n.2.2.2:Int)] 46);have n_n:w9.heap.size≠g:=by have:=hp.lt;omega
   have g_n:w.heap.size+1≤w9.heap.size:=hgt;clear hp;have hp:=hpn;clear hpn;have r_n:=hid rr;clear rr;replace HB:=kb HB hbb;replace r_res:=kr hbb r_res n_res;replace lt_res:=nL lt_res hbb.size;replace r_t:=kr hbb r_t n_t;replace lt_t:=nL lt_t hbb.size;replace hgt:=nT hgt hbb.size;have lt_n:w9.heap.size<w10.heap.size:=tl;clear tl hbb;rw [← hw.out];clear hw;replace HX:=thk HX hx;clear hx;cases hx:pEat en [61] r with
   | oof=>exact absurd (by have h:=HX.out;rw [hx] at h;exact h) hne
   | bad er p =>
     refine (eat_bad hx hp).mono ?_;rintro e wb ⟨rfl,hbb⟩;go_wp2_with fail;exact ⟨rfl,RetP.of_bad (by have h:=HX.out;rw [hx] at h;exact h) (HB.out.trans hbb)⟩
   | ok t3 r2 =>
     refine (eat_ok hx hp).mono ?_;rintro e w11 ⟨rfl,hpn,hbb⟩;clear hp;have hp:=hpn;clear hpn;replace HB:=kb HB hbb;replace r_res:=kr hbb r_res n_res;replace lt_res:=nL lt_res hbb.size;replace r_t:=kr hbb r_t n_t;replace lt_t:=nL lt_t hbb.size;replace r_n:=kr hbb r_n n_n;replace lt_n:=nL lt_n hbb.size;replace hgt:=nT hgt hbb.size;clear hbb;replace HX:=thk HX hx;clear hx;go_wp2_with fail;cases hx:pExpr en f r2 d with
     | oof=>exact absurd (by have h:=HX.out;rw [hx] at h;exact h) hne
     | bad er p =>
       refine ((IE r2 d).bad hx hp).mono ?_;rintro e wb ⟨rfl,hbb⟩;go_wp2_with fail;exact ⟨rfl,RetP.of_bad (by have h:=HX.out;rw [hx] at h;exact h) (HB.out.trans hbb)⟩
     | ok x r3 =>
       refine ((IE r2 d).ok hx hp).mono ?_;rintro e w12 ⟨_,rfl,⟨k_x,t_x,l_x,c_x,ks_x,a_x,m_x,rfl,hi,hh⟩,hpn,hbb⟩;clear hp;have hp:=hpn;clear hpn;have i_x:=hid hi;have hy:=hid (HeldN.less (P':=fun b=>w.heap.size+1≤b) (fun b _ (hb:w11.heap.size≤b)=>(show w.heap.size+1≤b by omega)) hh);replace HB:=kb HB hbb;replace r_res:=kr hbb r_res n_res;replace lt_res:=nL lt_res hbb.size;replace r_t:=kr hbb r_t n_t;replace lt_t:=nL lt_t hbb.size;replace r_n:=kr hbb r_n n_n;replace lt_n:=nL lt_n hbb.size;replace hgt:=nT hgt hbb.size;have h_x:=hy;clear hy hi hh hbb;go_wp2_with fail;obtain ⟨w13,hw,hpn,hbb,rr,tl⟩:=enter1 hp (.cells #[.int .i64 k_x,.string (bs t_x),.int .i64 l_x,.int .i64 c_x,.slice a_x ks_x.length m_x] 27);have n_x:w12.heap.size≠g:=by have:=hp.lt;omega
       have g_x:w.heap.size+1≤w12.heap.size:=hgt;clear hp;have hp:=hpn;clear hpn;have r_x:=hid rr;clear rr;replace HB:=kb HB hbb;replace r_res:=kr hbb r_res n_res;replace lt_res:=nL lt_res hbb.size;replace r_t:=kr hbb r_t n_t;replace lt_t:=nL lt_t hbb.size;replace r_n:=kr hbb r_n n_n;replace lt_n:=nL lt_n hbb.size;replace h_x:=kh hbb Pg h_x;replace hgt:=nT hgt hbb.size;have lt_x:w12.heap.size<w13.heap.size:=tl;clear tl hbb;rw [← hw.out];clear hw;replace HX:=thk HX hx;clear hx;cases hx:pEat en [59] r3 with
       | oof=>exact absurd (by have h:=HX.out;rw [hx] at h;exact h) hne
       | bad er p =>
         refine (eat_bad hx hp).mono ?_;rintro e wb ⟨rfl,hbb⟩;go_wp2_with fail;exact ⟨rfl,RetP.of_bad (by have h:=HX.out;rw [hx] at h;exact h) (HB.out.trans hbb)⟩
       | ok t4 r4 =>
         refine (eat_ok hx hp).mono ?_;rintro e w14 ⟨rfl,hpn,hbb⟩;clear hp;have hp:=hpn;clear hpn;replace HB:=kb HB hbb;replace r_res:=kr hbb r_res n_res;replace lt_res:=nL lt_res hbb.size;replace r_t:=kr hbb r_t n_t;replace lt_t:=nL lt_t hbb.size;replace r_n:=kr hbb r_n n_n;replace lt_n:=nL lt_n hbb.size;replace r_x:=kr hbb r_x n_x;replace lt_x:=nL lt_x hbb.size;replace h_x:=kh hbb Pg h_x;replace hgt:=nT hgt hbb.size;clear hbb;replace HX:=thk HX hx;clear hx;obtain ⟨q_t0,q_t1,q_t2,q_t3,f_t0,f_t1,f_t2,f_t3⟩:=row4 r_t.out;obtain ⟨q_n0,q_n1,q_n2,q_n3,f_n0,f_n1,f_n2,f_n3⟩:=row4 r_n.out;obtain ⟨q_x0,q_x1,q_x2,q_x3,q_x4,f_x0,f_x1,f_x2,f_x3,f_x4⟩:=row5 r_x.out;go_wp2_with fail;clear q_t0 f_t0 q_t1 f_t1 q_t2 f_t2 q_t3 f_t3 q_n0 f_n0 q_n1 f_n1 q_n2 f_n2 q_n3 f_n3 q_x0 f_x0 q_x1 f_x1 q_x2 f_x2 q_x3 f_x3 q_x4 f_x4;obtain ⟨w15,hw,hpn,hbb,rr,tl⟩:=enter1 hp (.cells #[.int .i64 k_x,.string (bs t_x),.int .i64 l_x,.int .i64 c_x,.slice a_x ks_x.length m_x] 27);have n_kd:w14.heap.size≠g:=by have:=hp.lt;omega
         have g_kd:w.heap.size+1≤w14.heap.size:=hgt;clear hp;have hp:=hpn;clear hpn;have r_kd:=hid rr;clear rr;replace HB:=kb HB hbb;replace r_res:=kr hbb r_res n_res;replace lt_res:=nL lt_res hbb.size;replace r_t:=kr hbb r_t n_t;replace lt_t:=nL lt_t hbb.size;replace r_n:=kr hbb r_n n_n;replace lt_n:=nL lt_n hbb.size;replace r_x:=kr hbb r_x n_x;replace lt_x:=nL lt_x hbb.size;replace h_x:=kh hbb Pg h_x;replace hgt:=nT hgt hbb.size;have lt_kd:w14.heap.size<w15.heap.size:=tl;clear tl hbb;rw [← hw.out];clear hw;refine (node_any 2 t n.2.1 (some ⟨w14.heap.size,0,none⟩) 1 1 _).mono ?_;rintro e w16 ⟨rfl,hbb⟩;replace hp:=hp.keep hbb;replace hbb:=ButAt.of_below (g:=g) hbb;replace HB:=kb HB hbb;replace r_res:=kr hbb r_res n_res;replace lt_res:=nL lt_res hbb.size;replace r_t:=kr hbb r_t n_t;replace lt_t:=nL lt_t hbb.size;replace r_n:=kr hbb r_n n_n;replace lt_n:=nL lt_n hbb.size;replace r_x:=kr hbb r_x n_x;replace lt_x:=nL lt_x hbb.size;replace r_kd:=kr hbb r_kd n_kd;replace lt_kd:=nL lt_kd hbb.size;replace h_x:=kh hbb Pg h_x;replace hgt:=nT hgt hbb.size;clear hbb;have hzz:=hgl;have HW:=hid (stored5 hp HB.out r_res.out (by omega) (by omega) (.int .i64 2) (.string (bs n.2.1)) (.int .i64 (t.2.2.1:Int)) (.int .i64 (t.2.2.2:Int)) (.slice (some ⟨w14.heap.size,0,none⟩) 1 1));obtain ⟨q_res0,q_res1,q_res2,q_res3,q_res4,f_res0,f_res1,f_res2,f_res3,f_res4⟩:=row5 r_res.out;go_wp2_with fail;obtain ⟨wz,hw,hpz,hbz,hrz,hsz,hoz⟩:=HW.out;rw [← hw];refine bodyPost_ret (results_cell_row rfl _ _ (w.heap.size) _ _ _ _ rfl hrz Tryz.underlying27 rfl (by kernel_rfl)) rfl (RetP.of_ok HX.out ?_ hpz hbz);have S:Same (w.heap.size+1≤·) w16 wz:=⟨by omega,fun k _ (hk:w.heap.size+1≤k)=>hoz k (by omega)⟩;exact ⟨_,_,_,_,[(NM.mk k_x t_x l_x c_x ks_x a_x m_x)],_,_,rfl,is_mk (k:=2) (p:=(t.2.2.1,t.2.2.2)) (are_one i_x.out) _ _,HeldN.less (P:=fun b=>w.heap.size+1≤b) (fun b _ (hb:w.heap.size+1≤b)=>(show w.heap.size≤b by omega)) (held_kids ((hoz _ (by omega)).trans r_kd.out) rfl (by simp) (by omega) (heldNs_one (HeldN.keep S h_x.out)) _ _ _ _)⟩
theorem stmt_step (f:Nat) (g:Nat) (en:Pl) (l:List Tok) (d:Nat)
  (IE:∀ l d,Does 65 #[.pointer (some ⟨g,0,none⟩)] g en l d NodeN (pExpr en f l d))
  (IB:∀ l d,Does 66 #[.pointer (some ⟨g,0,none⟩)] g en l d NodeN (pBlock en f l d))
  (IR:∀ l d,Does 67 #[.pointer (some ⟨g,0,none⟩)] g en l d NodeN (pRule en f l d))
  (IC:∀ l d,Does 68 #[.pointer (some ⟨g,0,none⟩)] g en l d NodeN (pCall en f l d)) :
  Does 34 #[.pointer (some ⟨g,0,none⟩)] g en l d NodeN (pStmt en (f+1) l d):=by
 cases h1:wordB l [102,111,114] with
 | true=>exact stmt_for f g en l d h1 IE IB
 | false =>
 cases h2:wordB l [105,102] with
 | true=>exact stmt_if f g en l d h1 h2 IE IB
 | false =>
 cases h3:wordB l [114,117,108,101] with
 | true=>exact stmt_rule f g en l d h1 h2 h3 IR
 | false =>
 cases hn:nameB l with
 | false=>exact stmt_as0 f g en l d h1 h2 h3 hn IE
 | true =>
 cases hq:signB l 1 [40] with
 | true=>exact stmt_do f g en l d h1 h2 h3 hn hq IC
 | false=>exact stmt_as1 f g en l d h1 h2 h3 hn hq IE
theorem stmt_len {en:Pl} {f:Nat} {l:List Tok} {d:Nat} {a:Nd} {r:List Tok} (h:pStmt en f l d=.ok a r):r.length<l.length :=
 RelR_len ((stmt_rel (R:=fun _ _=>True) (en:=en) (en':=en) trivial f (f+(10 * l.length+9)) (by omega)).stmt l l d (relL_refl l)) ((stmt_fine en _).stmt l d (by omega)) h
def StRel (en:Pl) (g d:Nat) (tb:Bool) (X:PR (List Nd)) (f:Nat) (w:World) (out:Value) (wr:World):Prop :=
 ∃ (f':Nat) (acc:List NM) (accN:List Nd) (r:List Tok) (a:Option Addr) (cap:Nat),
   X=(pStmts en f' tb r d).then (fun b r=>.ok (accN++b) r)∧f'≤f∧out=.slice a acc.length cap∧Grows w.heap.size wr out acc∧NM.are acc accN∧PS wr g en r d∧ButAt g w wr∧acc.length+2 * r.length≤200000
set_option maxHeartbeats 4000000 in
theorem stmts_step0 (f:Nat) (g:Nat) (en:Pl) (l:List Tok) (d:Nat)
  (IH:∀ f',f'<f→∀ l,Does 34 #[.pointer (some ⟨g,0,none⟩)] g en l d NodeN (pStmt en f' l d)) :
  Does 21 #[.pointer (some ⟨g,0,none⟩),.string (bs [])] g en l d ListR (pStmts en f false l d):=by
 intro w hp hne;obtain ⟨X,hX⟩:∃ X,X=pStmts en f false l d:=⟨_,rfl⟩;rw [← hX] at hne ⊢;have HX:=hid hX;clear hX;have hgl:=hp.lt;obtain ⟨i0,hi0,iz0,iz1,iz2⟩:=info_parts node_info;have hln:l.length≤100000:=by obtain ⟨_,_,_,_,_,_,_,h⟩:=hp;exact h
 have hnot:∀ (x:Bool) (w:World),(Op.unary .not (.bool x)).run Tryz.prog w=.ok (.bool (!x)) w:=fun _ _=>rfl
 have HI:=hid IH;have HP:=hid hp;clear IH hp;go_enter Tryz.func21,Tryz.ntmps21
 go_wp2_with fail;go_loopw [5] (fun out wr=>StRel en g d false X f w out wr) (fun _ wr=>leftW wr g)
 case atStart =>
  exact ⟨f,[],[],l,none,0,by rw [HX.out];exact (then_app_nil _).symm,Nat.le_refl _,rfl,Grows.nil _ _,are_nil,HP.out,ButAt.refl _ _,by simp;omega⟩
 case round =>
  clear HX HP hln;obtain ⟨f',acc,accN,r,a,cap,hX,hf,rfl,hG,hA,hp,hB,hle⟩:=hrel;have HX:=hid hX;have HG:=hid hG;have HA:=hid hA;have HB:=hid hB;have hLf:=hp.left;cases f' with
  | zero=>rw [pStmts] at hX;exact absurd hX hne
  | succ f' =>
  rw [pStmts] at hX;replace HX:=hid hX;clear hX hG hA hB;have HC:=hid (show ∃ a0 c0,wr.cell? ⟨g,0,none⟩=some (.slice a0 r.length c0) by obtain ⟨a0,c0,h,_⟩:=hp;exact ⟨a0,c0,cell_of_row wr g 0 _ _ _ h⟩);obtain ⟨a0,c0,q0⟩:=HC.out;clear HC;cases r with
  | nil =>
    have q1:¬ ((0:Int)<(([]:List Tok).length:Int)):=by simp
    replace HX:=hid (by have:=HX.out;rw [if_pos (.inl rfl)] at this;exact this);go_wp2_with fail;go_ret;exact RetP.of_ok HX.out ⟨acc,HG.out,by rw [List.append_nil];exact HA.out,by omega⟩ hp HB.out
  | cons t0 r0 =>
    obtain ⟨r,hr⟩:∃ r,r=t0::r0:=⟨_,rfl⟩;rw [← hr] at HX hp q0 hLf hle;have hrn:r≠[]:=by rw [hr];simp
    have q1:(0:Int)<(r.length:Int):=by rw [hr];simp
    clear hr;replace HX:=hid (by have:=HX.out;rw [if_neg (by simp [hrn])] at this;exact this);go_wp2_with fail;cases hx:pStmt en f' r d with
    | oof=>exact absurd (by rw [HX.out,hx];rfl) hne
    | bad er p =>
      refine ((HI.out f' (by omega) r).bad hx hp).mono ?_;rintro e wb ⟨rfl,hbb⟩;go_wp2_with fail;exact ⟨rfl,RetP.of_bad (by have h:=HX.out;rw [hx] at h;exact h) (HB.out.trans hbb)⟩
    | ok x r2 =>
    refine ((HI.out f' (by omega) r).ok hx hp).mono ?_;rintro e w3 ⟨_,rfl,⟨k_x,t_x,l_x,c_x,ks_x,a_x,m_x,rfl,hi,hh⟩,hpn,hbb⟩;have hxl:=stmt_len hx;clear hp;have hp:=hpn;clear hpn;have HBo:=HB;have HGo:=HG;replace HG:=hid (HG.out.keep hbb (by omega));replace HB:=kb HB hbb;replace HX:=hid (by have h:=HX.out;rw [hx,then_ok] at h;exact h);have i_x:=hid hi;have ay:=hid (HeldN.less (P':=fun b=>w.heap.size≤b∧Value.ownBlock (.slice a acc.length cap)≠some b) (fun b _ (hb:wr.heap.size≤b)=>⟨by have:=HBo.out.size;omega,fun e=>by have:=(HGo.out.own.lt b e).2;omega⟩) hh);clear hx hbb HBo HGo hi hh;obtain ⟨w4,hw,hpn,hbb,rr,tl⟩:=enter1 hp (.cells #[.int .i64 k_x,.string (bs t_x),.int .i64 l_x,.int .i64 c_x,.slice a_x ks_x.length m_x] 27);clear hp;have hp:=hpn;clear hpn;have r_ka:=hid rr;clear rr;replace HG:=hid (HG.out.keep hbb (by omega));replace HB:=kb HB hbb;replace ay:=hid (HeldN.keep (hbb.same (fun b hb=>by have:=hb.1;omega)) ay.out);clear hbb;have hown:=HG.out.own;have hwB:=HB.out.size;go_wp2_with (at_builtin;rw [← hw.out];refine wpList_append_own_at _ rfl _ _ 25 rfl w.heap.size 27 i0 (.agg #[.int .i64 0,.string ⟨#[]⟩,.int .i64 0,.int .i64 0,.slice none 0 0]) 5 64 Tryz.underlying25 hi0 iz0 iz1 iz2 rfl (by decide) _ _ _ rfl hown ⟨w3.heap.size,0,none⟩ 1 1 (nmCells [NM.mk k_x t_x l_x c_x ks_x a_x m_x]) rfl (nmCells_len _) (news_of_row r_ka.out rfl) (nmCells_one _) ?c1 ?c2 ?c3 ?_)
    case c1=>unfold maxLen;omega
    case c2=>omega
    case c3=>omega
    intro v' w5 hown' hgrow hnil hat;have hG4:=HG.out.app (heldNs_one ay.out) hown' (by simp) hgrow hat;have hp4:=hp.grown hown hgrow (by omega);have hB4:=HB.out.grown hown hgrow (Nat.le_refl _);have hl4:=hp4.left;obtain ⟨a4,c4,rfl,-,-⟩:=hG4.shape;have HR:=hid (show StRel en g d false X f w (.slice a4 (acc++[NM.mk k_x t_x l_x c_x ks_x a_x m_x]).length c4) w5 from ⟨f',acc++[NM.mk k_x t_x l_x c_x ks_x a_x m_x],accN++[x],r2,a4,c4,by
     have h:=HX.out;rw [h];exact then_app3 (pStmts en f' false r2 d) accN [x],by omega,rfl,hG4,are_app HA.out (are_one i_x.out),hp4,hB4,by rw [List.length_append];simp;omega⟩)
    clear hG4 hp4 hB4 hown hown' hgrow hnil hat HG HX r_ka hw;go_wp2_with fail;exact ⟨HR.out,by omega⟩
set_option maxHeartbeats 4000000 in
theorem stmts_step1 (f:Nat) (g:Nat) (en:Pl) (l:List Tok) (d:Nat)
  (IH:∀ f',f'<f→∀ l,Does 34 #[.pointer (some ⟨g,0,none⟩)] g en l d NodeN (pStmt en f' l d)) :
  Does 21 #[.pointer (some ⟨g,0,none⟩),.string (bs [125])] g en l d ListR (pStmts en f true l d):=by
 intro w hp hne;obtain ⟨X,hX⟩:∃ X,X=pStmts en f true l d:=⟨_,rfl⟩;rw [← hX] at hne ⊢;have HX:=hid hX;clear hX;have hgl:=hp.lt;obtain ⟨i0,hi0,iz0,iz1,iz2⟩:=info_parts node_info;have hln:l.length≤100000:=by obtain ⟨_,_,_,_,_,_,_,h⟩:=hp;exact h
 have hnot:∀ (x:Bool) (w:World),(Op.unary .not (.bool x)).run Tryz.prog w=.ok (.bool (!x)) w:=fun _ _=>rfl
 have HI:=hid IH;have HP:=hid hp;clear IH hp;go_enter Tryz.func21,Tryz.ntmps21
 go_wp2_with fail;go_loopw [5] (fun out wr=>StRel en g d true X f w out wr) (fun _ wr=>leftW wr g)
 case atStart =>
  exact ⟨f,[],[],l,none,0,by rw [HX.out];exact (then_app_nil _).symm,Nat.le_refl _,rfl,Grows.nil _ _,are_nil,HP.out,ButAt.refl _ _,by simp;omega⟩
 case round =>
  clear HX HP hln;obtain ⟨f',acc,accN,r,a,cap,hX,hf,rfl,hG,hA,hp,hB,hle⟩:=hrel;have HX:=hid hX;have HG:=hid hG;have HA:=hid hA;have HB:=hid hB;have hLf:=hp.left;cases f' with
  | zero=>rw [pStmts] at hX;exact absurd hX hne
  | succ f' =>
  rw [pStmts] at hX;replace HX:=hid hX;clear hX hG hA hB;have HC:=hid (show ∃ a0 c0,wr.cell? ⟨g,0,none⟩=some (.slice a0 r.length c0) by obtain ⟨a0,c0,h,_⟩:=hp;exact ⟨a0,c0,cell_of_row wr g 0 _ _ _ h⟩);obtain ⟨a0,c0,q0⟩:=HC.out;clear HC;cases r with
  | nil =>
    have q1:¬ ((0:Int)<(([]:List Tok).length:Int)):=by simp
    replace HX:=hid (by have:=HX.out;rw [if_pos (.inl rfl)] at this;exact this);go_wp2_with fail;go_ret;exact RetP.of_ok HX.out ⟨acc,HG.out,by rw [List.append_nil];exact HA.out,by omega⟩ hp HB.out
  | cons t0 r0 =>
    obtain ⟨r,hr⟩:∃ r,r=t0::r0:=⟨_,rfl⟩;rw [← hr] at HX hp q0 hLf hle;have hrn:r≠[]:=by rw [hr];simp
    have q1:(0:Int)<(r.length:Int):=by rw [hr];simp
    clear hr;cases hs:signB r 0 [125] with
    | true =>
      have HS1:=hid (fun W (hW:PS W g en r d)=>by have:=sign_any 0 [125] g en r d W hW;rw [hs] at this;exact this);replace HX:=hid (by have:=HX.out;rw [if_pos (.inr ⟨rfl,hs⟩)] at this;exact this);clear hs;go_wp2_with fail;refine (HS1.out _ hp).mono ?_;rintro e w1 ⟨rfl,hbb⟩;replace hp:=hp.keep hbb;replace hbb:=ButAt.of_below (g:=g) hbb;replace HG:=hid (HG.out.keep hbb (by omega));replace HB:=kb HB hbb;have hB1:=hbb.size;clear hbb;go_wp2_with fail;go_ret;exact RetP.of_ok HX.out ⟨acc,HG.out,by rw [List.append_nil];exact HA.out,by omega⟩ hp HB.out
    | false =>
      have HS1:=hid (fun W (hW:PS W g en r d)=>by have:=sign_any 0 [125] g en r d W hW;rw [hs] at this;exact this);replace HX:=hid (by have:=HX.out;rw [if_neg (by simp [hrn,hs])] at this;exact this);clear hs;go_wp2_with fail;refine (HS1.out _ hp).mono ?_;rintro e w1 ⟨rfl,hbb⟩;replace hp:=hp.keep hbb;replace hbb:=ButAt.of_below (g:=g) hbb;replace HG:=hid (HG.out.keep hbb (by omega));replace HB:=kb HB hbb;have hB1:=hbb.size;clear hbb;clear HS1;go_wp2_with fail;cases hx:pStmt en f' r d with
      | oof=>exact absurd (by rw [HX.out,hx];rfl) hne
      | bad er p =>
        refine ((HI.out f' (by omega) r).bad hx hp).mono ?_;rintro e wb ⟨rfl,hbb⟩;go_wp2_with fail;exact ⟨rfl,RetP.of_bad (by have h:=HX.out;rw [hx] at h;exact h) (HB.out.trans hbb)⟩
      | ok x r2 =>
      refine ((HI.out f' (by omega) r).ok hx hp).mono ?_;rintro e w3 ⟨_,rfl,⟨k_x,t_x,l_x,c_x,ks_x,a_x,m_x,rfl,hi,hh⟩,hpn,hbb⟩;have hxl:=stmt_len hx;clear hp;have hp:=hpn;clear hpn;have HBo:=HB;have HGo:=HG;replace HG:=hid (HG.out.keep hbb (by omega));replace HB:=kb HB hbb;replace HX:=hid (by have h:=HX.out;rw [hx,then_ok] at h;exact h);have i_x:=hid hi;have ay:=hid (HeldN.less (P':=fun b=>w.heap.size≤b∧Value.ownBlock (.slice a acc.length cap)≠some b) (fun b _ (hb:w1.heap.size≤b)=>⟨by have:=HBo.out.size;omega,fun e=>by have:=(HGo.out.own.lt b e).2;omega⟩) hh);clear hx hbb HBo HGo hi hh;obtain ⟨w4,hw,hpn,hbb,rr,tl⟩:=enter1 hp (.cells #[.int .i64 k_x,.string (bs t_x),.int .i64 l_x,.int .i64 c_x,.slice a_x ks_x.length m_x] 27);clear hp;have hp:=hpn;clear hpn;have r_ka:=hid rr;clear rr;replace HG:=hid (HG.out.keep hbb (by omega));replace HB:=kb HB hbb;replace ay:=hid (HeldN.keep (hbb.same (fun b hb=>by have:=hb.1;omega)) ay.out);clear hbb;have hown:=HG.out.own;have hwB:=HB.out.size;go_wp2_with (at_builtin;rw [← hw.out];refine wpList_append_own_at _ rfl _ _ 25 rfl w.heap.size 27 i0 (.agg #[.int .i64 0,.string ⟨#[]⟩,.int .i64 0,.int .i64 0,.slice none 0 0]) 5 64 Tryz.underlying25 hi0 iz0 iz1 iz2 rfl (by decide) _ _ _ rfl hown ⟨w3.heap.size,0,none⟩ 1 1 (nmCells [NM.mk k_x t_x l_x c_x ks_x a_x m_x]) rfl (nmCells_len _) (news_of_row r_ka.out rfl) (nmCells_one _) ?c1 ?c2 ?c3 ?_)
      case c1=>unfold maxLen;omega
      case c2=>omega
      case c3=>omega
      intro v' w5 hown' hgrow hnil hat;have hG4:=HG.out.app (heldNs_one ay.out) hown' (by simp) hgrow hat;have hp4:=hp.grown hown hgrow (by omega);have hB4:=HB.out.grown hown hgrow (Nat.le_refl _);have hl4:=hp4.left;obtain ⟨a4,c4,rfl,-,-⟩:=hG4.shape;have HR:=hid (show StRel en g d true X f w (.slice a4 (acc++[NM.mk k_x t_x l_x c_x ks_x a_x m_x]).length c4) w5 from ⟨f',acc++[NM.mk k_x t_x l_x c_x ks_x a_x m_x],accN++[x],r2,a4,c4,by
       have h:=HX.out;rw [h];exact then_app3 (pStmts en f' true r2 d) accN [x],by omega,rfl,hG4,are_app HA.out (are_one i_x.out),hp4,hB4,by rw [List.length_append];simp;omega⟩)
      clear hG4 hp4 hB4 hown hown' hgrow hnil hat HG HX r_ka hw;go_wp2_with fail;exact ⟨HR.out,by omega⟩
structure AllDoes (f g:Nat) (en:Pl):Prop where
 prim:∀ l d,Does 138 #[.pointer (some ⟨g,0,none⟩)] g en l d NodeN (pPrim en f l d)
 sum:∀ l d,Does 102 #[.pointer (some ⟨g,0,none⟩)] g en l d NodeN (pSum en f l d)
 expr:∀ l d,Does 65 #[.pointer (some ⟨g,0,none⟩)] g en l d NodeN (pExpr en f l d)
 call:∀ l d,Does 68 #[.pointer (some ⟨g,0,none⟩)] g en l d NodeN (pCall en f l d)
 param:∀ l d,Does 107 #[.pointer (some ⟨g,0,none⟩)] g en l d OneN (pOne en f 0 l d)
 arg:∀ l d,Does 109 #[.pointer (some ⟨g,0,none⟩)] g en l d OneN (pOne en f 1 l d)
 entry:∀ l d,Does 163 #[.pointer (some ⟨g,0,none⟩)] g en l d ListR (pOne en f 3 l d)
 rule1:∀ b l d,DoesBox 106 b g en l d ListR (pOne en f 0 l d)
 call1:∀ b l d,DoesBox 108 b g en l d ListR (pOne en f 1 l d)
 prim1:∀ b l d,DoesBox 162 b g en l d ListR (pOne en f 2 l d)
 l0:∀ b l d,DoesList 106 0 [41] f b g en l d
 l1:∀ b l d,DoesList 108 1 [41] f b g en l d
 l2:∀ b l d,DoesList 162 2 [93] f b g en l d
 l3:∀ l d,DoesDict f g en l d
 block:∀ l d,Does 66 #[.pointer (some ⟨g,0,none⟩)] g en l d NodeN (pBlock en f l d)
 stmt:∀ l d,Does 34 #[.pointer (some ⟨g,0,none⟩)] g en l d NodeN (pStmt en f l d)
 stmts0:∀ l d,Does 21 #[.pointer (some ⟨g,0,none⟩),.string (bs [])] g en l d ListR (pStmts en f false l d)
 stmts1:∀ l d,Does 21 #[.pointer (some ⟨g,0,none⟩),.string (bs [125])] g en l d ListR (pStmts en f true l d)
theorem all_does (g:Nat) (en:Pl) (f:Nat):AllDoes f g en:=by
 induction f using Nat.strongRecOn with
 | _ f ih =>
 have hparam:∀ l d,Does 107 #[.pointer (some ⟨g,0,none⟩)] g en l d OneN (pOne en f 0 l d):=by
  intro l d;cases f with
  | zero=>intro w _ hne;exact absurd (by rw [pOne]) hne
  | succ f=>exact param_step f g en l d (fun l=>(ih f (by omega)).expr l d)
 have harg:∀ l d,Does 109 #[.pointer (some ⟨g,0,none⟩)] g en l d OneN (pOne en f 1 l d):=by
  intro l d;cases f with
  | zero=>intro w _ hne;exact absurd (by rw [pOne]) hne
  | succ f=>exact arg_step f g en l d (fun l=>(ih f (by omega)).expr l d)
 refine ⟨?_,?_,?_,?_,hparam,harg,?_,fun b l d=>rule1_step f b g en l d (hparam l d),fun b l d=>call1_step f b g en l d (harg l d),?_,?_,?_,?_,?_,?_,?_,?_,?_⟩
 ·intro l d;cases f with
  | zero=>intro w _ hne;exact absurd (by rw [pPrim]) hne
  | succ f=>exact prim_step f g en l d (ih f (by omega)).call (ih f (by omega)).prim (ih f (by omega)).expr (ih f (by omega)).l2 (ih f (by omega)).l3
 ·intro l d;cases f with
  | zero=>intro w _ hne;exact absurd (by rw [pSum]) hne
  | succ f=>exact sum_step f g en l d (fun f' h l=>(ih f' (by omega)).prim l d)
 ·intro l d;cases f with
  | zero=>intro w _ hne;exact absurd (by rw [pExpr]) hne
  | succ f=>exact expr_step f g en l d (fun l=>(ih f (by omega)).sum l d)
 ·intro l d;cases f with
  | zero=>intro w _ hne;exact absurd (by rw [pCall]) hne
  | succ f=>exact call_step f g en l d (ih f (by omega)).l1
 ·intro l d;cases f with
  | zero=>intro w _ hne;exact absurd (by rw [pOne]) hne
  | succ f=>exact entry_step f g en l d (fun l=>(ih f (by omega)).expr l d)
 ·intro b l d;cases f with
  | zero=>intro w _ _ _ hne;exact absurd (by rw [pOne]) hne
  | succ f=>exact prim1_step f b g en l d ((ih f (by omega)).expr l d)
 ·intro b l d w hp hbg hbx hne;exact list_step0 f b g en [41] l d w hp hbg hbx hne (fun f' h l=>(ih f' h).rule1 b l d)
 ·intro b l d w hp hbg hbx hne;exact list_step1 f b g en [41] l d w hp hbg hbx hne (fun f' h l=>(ih f' h).call1 b l d)
 ·intro b l d w hp hbg hbx hne;exact list_step2 f b g en [93] l d w hp hbg hbx hne (fun f' h l=>(ih f' h).prim1 b l d)
 ·intro l d w hp hne;exact list_step3 f g en [125] l d w hp hne (fun f' h l=>(ih f' h).entry l d)
 ·intro l d;cases f with
  | zero=>intro w _ hne;exact absurd (by rw [pBlock]) hne
  | succ f=>exact block_step f g en l d (ih f (by omega)).stmts1
 ·intro l d;cases f with
  | zero=>intro w _ hne;exact absurd (by rw [pStmt]) hne
  | succ f=>exact stmt_step f g en l d (ih f (by omega)).expr (ih f (by omega)).block (fun l d=>rule_step f g en l d (ih f (by omega)).l0 (ih f (by omega)).block) (ih f (by omega)).call
 ·intro l d;exact stmts_step0 f g en l d (fun f' h l=>(ih f' h).stmt l d)
 ·intro l d;exact stmts_step1 f g en l d (fun f' h l=>(ih f' h).stmt l d)
structure EndAt (w:World) (p:Pl) (wr:World):Prop where
 res:wr.heap[w.heap.size]? = some (.cells #[.int .i64 0,.int .i64 0] 24 (0,0))
 row:wr.heap[w.heap.size+1]? = some (.cells #[.int .i64 (p.1:Int),.int .i64 (p.2:Int)] 24 (0,0))
 below:Below w.heap.size w wr
theorem advs_take {s:List UInt8} {k:Nat} (h:k<s.length):advs (1,1) (s.take (k+1))=adv (advs (1,1) (s.take k)) s[k]:=by
 rw [List.take_succ_eq_append_getElem h,advs_append];rfl
set_option maxHeartbeats 1000000 in
theorem end_any (s:List UInt8) (hs:s.length≤100000) (w:World) :
  Calls Tryz.prog 19 #[.string (bs s)] w fun e w'=>e=.returned (.agg #[.int .i64 ((advs (1,1) s).1:Int),.int .i64 ((advs (1,1) s).2:Int)])∧Below w.heap.size w w':=by
 have H0:=hid (show EndAt w (1,1) ((w.alloc (.cells #[.int .i64 0,.int .i64 0] 24)).alloc (.cells #[.int .i64 1,.int .i64 1] 24)) from
  ⟨alloc_row (heap_alloc_new w _) _,by have:=heap_alloc_new (w.alloc (.cells #[.int .i64 0,.int .i64 0] 24)) (.cells #[.int .i64 1,.int .i64 1] 24);rwa [World.size_alloc] at this,Below.chain (below_new w _) (below_new _ _)⟩)
 go_enter Tryz.func19,Tryz.ntmps19
 go_wp2_with fail;go_loopw [8] (fun i wr=>∃ k:Nat,k≤s.length∧i=.int .i64 k∧EndAt w (advs (1,1) (s.take k)) wr) (fun i _=>s.length - (intOf i).toNat)
 case atStart=>exact ⟨0,by omega,rfl,H0.out⟩
 case round =>
  clear H0;obtain ⟨k,hk,rfl,HE⟩:=hrel;have hle:=advs_le (1,1) (s.take k);have hlen:(s.take k).length≤100000:=by rw [List.length_take];omega
  obtain ⟨⟨a,b⟩,hp⟩:∃ p,p=advs (1,1) (s.take k):=⟨_,rfl⟩;rw [← hp] at HE hle;obtain ⟨ha,hb⟩:=hle;simp only at ha hb;have ha1:a≤200000:=by omega
  have hb1:b≤200000:=by omega
  clear ha hb;obtain ⟨r0,r1,hB⟩:=HE;have hR0:=hid r0;have hR1:=hid r1;have HB:=hid hB;have hlt1:w.heap.size+1<wr.heap.size:=(Array.getElem?_eq_some_iff.1 r1).1;have c0:=cell_of_row wr (w.heap.size+1) 0 _ _ _ r1;have c1:=cell_of_row wr (w.heap.size+1) 1 _ _ _ r1;have f0:=frozen_of_row r1 0;have f1:=frozen_of_row r1 1;clear r0 r1 hB;by_cases hlt:k<s.length
  ·have hd:decide (k<s.length)=true:=decide_eq_true hlt;cases hc:((s[k].toNat:Int) == 10) with
   | true =>
     have hc':s[k].toNat=10:=by have:=hc;simp at this;omega
     have HN:Hid (advs (1,1) (s.take (k+1))=(a+1,1)):=hid (by rw [advs_take hlt,← hp];unfold adv;rw [if_pos hc']);clear hc' hp;have HW:=hid (show EndAt w (a+1,1) (((wr.setCell ⟨w.heap.size+1,1,none⟩ (.int .i64 ((b:Int)+1))).setCell ⟨w.heap.size+1,0,none⟩ (.int .i64 ((a:Int)+1))).setCell ⟨w.heap.size+1,1,none⟩ (.int .i64 1)) from
      ⟨by rw [heap_setCell_other _ _ _ _ (by show w.heap.size≠w.heap.size+1;omega),heap_setCell_other _ _ _ _ (by show w.heap.size≠w.heap.size+1;omega),heap_setCell_other _ _ _ _ (by show w.heap.size≠w.heap.size+1;omega)];exact hR0.out,
       heap_setCell_same _ _ 1 _ _ _ (heap_setCell_same _ _ 0 _ _ _ (heap_setCell_same _ _ 1 _ _ _ hR1.out)),
       ((HB.out.setCell (p:=⟨w.heap.size+1,1,none⟩) (by show w.heap.size≤w.heap.size+1;omega) _).setCell (p:=⟨w.heap.size+1,0,none⟩) (by show w.heap.size≤w.heap.size+1;omega) _).setCell (p:=⟨w.heap.size+1,1,none⟩) (by show w.heap.size≤w.heap.size+1;omega) _⟩)
     clear hR0 hR1 HB;go_wp2_with fail
     go_round
     case rel=>exact ⟨k+1,by omega,by go_num,by rw [HN.out];exact HW.out⟩
     case measure=>simp [intOf];omega
   | false =>
     have hc':s[k].toNat≠10:=by have:=hc;simp at this;omega
     have HN:Hid (advs (1,1) (s.take (k+1))=(a,b+1)):=hid (by rw [advs_take hlt,← hp];unfold adv;rw [if_neg hc']);clear hc' hp;have HW:=hid (show EndAt w (a,b+1) (wr.setCell ⟨w.heap.size+1,1,none⟩ (.int .i64 ((b:Int)+1))) from
      ⟨by rw [heap_setCell_other _ _ _ _ (by show w.heap.size≠w.heap.size+1;omega)];exact hR0.out,
       heap_setCell_same _ _ 1 _ _ _ hR1.out,
       HB.out.setCell (p:=⟨w.heap.size+1,1,none⟩) (by show w.heap.size≤w.heap.size+1;omega) _⟩)
     clear hR0 hR1 HB;go_wp2_with fail
     go_round
     case rel=>exact ⟨k+1,by omega,by go_num,by rw [HN.out];exact HW.out⟩
     case measure=>simp [intOf];omega
  ·have hd:decide (k<s.length)=false:=decide_eq_false hlt;have HN:Hid (advs (1,1) s=(a,b)):=hid (by rw [hp,show s.take k=s from List.take_of_length_le (by omega)]);clear hp;have d0:=cell_of_row wr w.heap.size 0 _ _ _ hR0.out;have d1:=cell_of_row wr w.heap.size 1 _ _ _ hR0.out;have g0:=frozen_of_row hR0.out 0;have g1:=frozen_of_row hR0.out 1;go_wp2_with fail;refine bodyPost_ret (results_cell_row rfl _ _ w.heap.size _ _ _ _ rfl (heap_setCell_same _ _ 1 _ _ _ (heap_setCell_same _ _ 0 _ _ _ hR0.out)) Tryz.underlying24 rfl (by kernel_rfl)) rfl ⟨by rw [HN.out];rfl,(HB.out.setCell (p:=⟨w.heap.size,0,none⟩) (Nat.le_refl _) _).setCell (p:=⟨w.heap.size,1,none⟩) (Nat.le_refl _) _⟩
end Go.Proofs.YtfgiihpopngbkaaGreatDoor
