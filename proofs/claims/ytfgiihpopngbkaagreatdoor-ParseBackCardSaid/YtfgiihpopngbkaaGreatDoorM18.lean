/- Lemmas and walks that the statement needs: ParsePrimD, ParsePrim, ParseClose. -/
import Derived.Test.YtfgiihpopngbkaaGreatDoorM16
import Derived.Test.YtfgiihpopngbkaaGreatDoorM17
import Derived.Test.YtfgiihpopngbkaaGreatDoorM06
namespace Go.Proofs.YtfgiihpopngbkaaGreatDoor
set_option maxRecDepth 100000
open Go.RowKit
open List renaming setIfInBounds_toArray→sA,set_cons_zero→sB,set_cons_succ→sC
open Nat renaming lt_of_lt_of_le→nL,le_trans→nT
set_option maxHeartbeats 8000000 in
theorem prim_else (f:Nat) (g:Nat) (en:Pl) (l:List Tok) (d:Nat) (h_b3:kindB l 3=false) (h_b2:kindB l 2=false) (h_bn:nameB l=false) (h_bw:wordB l wNot=false) (h_bl:signB l 0 [91]=false) (h_bd:signB l 0 [123]=false) (IE:∀ l d,Does 65 #[.pointer (some ⟨g,0,none⟩)] g en l d NodeN (pExpr en f l d)) :
  Does 138 #[.pointer (some ⟨g,0,none⟩)] g en l d NodeN (pPrim en (f+1) l d):=by
 intro w hp hne;obtain ⟨X,hX⟩:∃ X,X=pPrim en (f+1) l d:=⟨_,rfl⟩;rw [← hX] at hne ⊢;rw [pPrim] at hX;rw [h_b3,if_neg (c:=false=true) (by decide)] at hX;rw [h_b2,if_neg (c:=false=true) (by decide)] at hX;rw [show (nameB l && signB l 1 [40])=false by rw [h_bn];rfl,if_neg (c:=false=true) (by decide)] at hX;rw [h_bn,if_neg (c:=false=true) (by decide)] at hX;rw [h_bw,if_neg (c:=false=true) (by decide)] at hX;rw [h_bl,if_neg (c:=false=true) (by decide)] at hX;rw [h_bd,if_neg (c:=false=true) (by decide)] at hX;have HX:=hid hX;clear hX;have hgl:=hp.lt;have hmf:∀ (fn:Fn) (first cap:Array Value) (w:World),(Instr.makeFunc fn first cap).run Tryz.prog w=.ok (.func fn first cap) w:=fun _ _ _ _=>rfl
 have hk3:=kind_at en l 3;have hk2:=kind_at en l 2;have Pg:=hid (fun (b:Nat) (h:w.heap.size+2≤b)=>(show b≠g by omega));obtain ⟨w1,hw,hp1,hB,rb,rr,hgt⟩:=enter2 hp (.cells #[.pointer (some ⟨g,0,none⟩)] 53) (.cells #[.int .i64 0,.string ⟨#[]⟩,.int .i64 0,.int .i64 0,.slice none 0 0] 27);have r_bx:=hid rb;have r_res:=hid rr;have n_bx:w.heap.size≠g:=by omega
 have n_res:w.heap.size+1≠g:=by omega
 have lt_bx:w.heap.size<w1.heap.size:=by omega
 have lt_res:w.heap.size+1<w1.heap.size:=hgt;clear hp rb rr;have hp:=hp1;clear hp1;have HB:=hid hB;clear hB;go_enter Tryz.func138,Tryz.ntmps138
 go_wp2_with fail;rw [← hw.out];clear hw;refine (at_any 0 g en l d _ hp).mono ?_;rintro e w2 ⟨rfl,hbb⟩;replace hp:=hp.keep hbb;replace hbb:=ButAt.of_below (g:=g) hbb;replace HB:=kb HB hbb;replace r_bx:=kr hbb r_bx n_bx;replace lt_bx:=nL lt_bx hbb.size;replace r_res:=kr hbb r_res n_res;replace lt_res:=nL lt_res hbb.size;replace hgt:=nT hgt hbb.size;clear hbb;generalize atT en l 0=t at *;have q3:((t.1:Int) == 3)=false:=by rw [h_b3] at hk3;have:=hk3.symm;rw [Bool.eq_iff_iff] at this ⊢;simp at this ⊢;omega
 have q2:((t.1:Int) == 2)=false:=by rw [h_b2] at hk2;have:=hk2.symm;rw [Bool.eq_iff_iff] at this ⊢;simp at this ⊢;omega
 clear hk3 hk2;have S1:=hid (fun W (hW:PS W g en l d)=>by have h:=name_any g en l d W hW;rw [h_bn] at h;exact h);have S3:=hid (fun W (hW:PS W g en l d)=>by have h:=word_any wNot g en l d W hW;rw [h_bw] at h;exact h);have S4:=hid (fun W (hW:PS W g en l d)=>by have h:=sign_any 0 [91] g en l d W hW;rw [h_bl] at h;exact h);have S5:=hid (fun W (hW:PS W g en l d)=>by have h:=sign_any 0 [123] g en l d W hW;rw [h_bd] at h;exact h);clear h_b3 h_b2 h_bn h_bw h_bl h_bd;have S6:=hid (fun W (hW:PS W g en l d)=>sign_any 0 [40] g en l d W hW);generalize signB l 0 [40]=bo at *;obtain ⟨q_bx0,f_bx0⟩:=row1 r_bx.out;go_wp2_with fail;clear q_bx0 f_bx0;obtain ⟨w3,hw,hpn,hbb,rr,tl⟩:=enter1 hp (.cells #[.int .i64 (t.1:Int),.string (bs t.2.1),.int .i64 (t.2.2.1:Int),.int .i64 (t.2.2.2:Int)] 46);have n_t:w2.heap.size≠g:=by have:=hp.lt;omega
 have g_t:w.heap.size+2≤w2.heap.size:=hgt;clear hp;have hp:=hpn;clear hpn;have r_t:=hid rr;clear rr;replace HB:=kb HB hbb;replace r_bx:=kr hbb r_bx n_bx;replace lt_bx:=nL lt_bx hbb.size;replace r_res:=kr hbb r_res n_res;replace lt_res:=nL lt_res hbb.size;replace hgt:=nT hgt hbb.size;have lt_t:w2.heap.size<w3.heap.size:=tl;clear tl hbb;rw [← hw.out];clear hw;refine (S1.out _ hp).mono ?_;rintro e w4 ⟨rfl,hbb⟩;replace hp:=hp.keep hbb;replace hbb:=ButAt.of_below (g:=g) hbb;replace HB:=kb HB hbb;replace r_bx:=kr hbb r_bx n_bx;replace lt_bx:=nL lt_bx hbb.size;replace r_res:=kr hbb r_res n_res;replace lt_res:=nL lt_res hbb.size;replace r_t:=kr hbb r_t n_t;replace lt_t:=nL lt_t hbb.size;replace hgt:=nT hgt hbb.size;clear hbb;obtain ⟨q_bx0,f_bx0⟩:=row1 r_bx.out;go_wp2_with fail;clear q_bx0 f_bx0;refine (S1.out _ hp).mono ?_;rintro e w5 ⟨rfl,hbb⟩;replace hp:=hp.keep hbb;replace hbb:=ButAt.of_below (g:=g) hbb;replace HB:=kb HB hbb;replace r_bx:=kr hbb r_bx n_bx;replace lt_bx:=nL lt_bx hbb.size;replace r_res:=kr hbb r_res n_res;replace lt_res:=nL lt_res hbb.size;replace r_t:=kr hbb r_t n_t;replace lt_t:=nL lt_t hbb.size;replace hgt:=nT hgt hbb.size;clear hbb;obtain ⟨q_bx0,f_bx0⟩:=row1 r_bx.out;go_wp2_with fail;clear q_bx0 f_bx0;refine (S3.out _ hp).mono ?_;rintro e w6 ⟨rfl,hbb⟩;replace hp:=hp.keep hbb;replace hbb:=ButAt.of_below (g:=g) hbb;replace HB:=kb HB hbb;replace r_bx:=kr hbb r_bx n_bx;replace lt_bx:=nL lt_bx hbb.size;replace r_res:=kr hbb r_res n_res;replace lt_res:=nL lt_res hbb.size;replace r_t:=kr hbb r_t n_t;replace lt_t:=nL lt_t hbb.size;replace hgt:=nT hgt hbb.size;clear hbb;obtain ⟨q_bx0,f_bx0⟩:=row1 r_bx.out;go_wp2_with fail;clear q_bx0 f_bx0;refine (S4.out _ hp).mono ?_;rintro e w7 ⟨rfl,hbb⟩;replace hp:=hp.keep hbb;replace hbb:=ButAt.of_below (g:=g) hbb;replace HB:=kb HB hbb;replace r_bx:=kr hbb r_bx n_bx;replace lt_bx:=nL lt_bx hbb.size;replace r_res:=kr hbb r_res n_res;replace lt_res:=nL lt_res hbb.size;replace r_t:=kr hbb r_t n_t;replace lt_t:=nL lt_t hbb.size;replace hgt:=nT hgt hbb.size;clear hbb;obtain ⟨q_bx0,f_bx0⟩:=row1 r_bx.out;go_wp2_with fail;clear q_bx0 f_bx0;refine (S5.out _ hp).mono ?_;rintro e w8 ⟨rfl,hbb⟩;replace hp:=hp.keep hbb;replace hbb:=ButAt.of_below (g:=g) hbb;replace HB:=kb HB hbb;replace r_bx:=kr hbb r_bx n_bx;replace lt_bx:=nL lt_bx hbb.size;replace r_res:=kr hbb r_res n_res;replace lt_res:=nL lt_res hbb.size;replace r_t:=kr hbb r_t n_t;replace lt_t:=nL lt_t hbb.size;replace hgt:=nT hgt hbb.size;clear hbb;go_wp2_with fail;refine wp_region_wh (S:=fun W=>W.heap[w.heap.size]? = some (.cells #[.pointer (some ⟨g,0,none⟩)] 53)) (by kernel_rfl) ?_;obtain ⟨w9,hw,hpn,hbb⟩:=enter_drew hp;clear hp;have hp:=hpn;clear hpn;replace HB:=kb HB hbb;replace r_bx:=kr hbb r_bx n_bx;replace lt_bx:=nL lt_bx hbb.size;replace r_res:=kr hbb r_res n_res;replace lt_res:=nL lt_res hbb.size;replace r_t:=kr hbb r_t n_t;replace lt_t:=nL lt_t hbb.size;replace hgt:=nT hgt hbb.size;rw [← hw.out];clear hw hbb;have hS:=r_bx.out;refine WH.take 0 (some 93) rfl rfl (by kernel_rfl) (by kernel_rfl) (by kernel_rfl) (fun _ _ _ _ h=>h) hS ⟨.pointer (some ⟨g,0,none⟩),⟨by kernel_rfl,fun W hW=>by have q:W.cell? ⟨w.heap.size,0,none⟩=some (.pointer (some ⟨g,0,none⟩)):=cell_of_row W _ 0 _ _ _ hW;go_simp⟩,?_⟩;(try simp only [Act.put,sA,sB,sC]);refine WH.take 1 (some 94) rfl rfl (by kernel_rfl) (by kernel_rfl) (by kernel_rfl) (fun _ _ _ _ h=>h) hS ⟨.pointer (some ⟨g,0,none⟩),⟨by kernel_rfl,fun W hW=>by have q:W.cell? ⟨w.heap.size,0,none⟩=some (.pointer (some ⟨g,0,none⟩)):=cell_of_row W _ 0 _ _ _ hW;go_simp⟩,?_⟩;(try simp only [Act.put,sA,sB,sC]);refine WH.one 2 (by kernel_rfl) rfl (by kernel_rfl) ?_;intro K hK;go_simp;refine (S6.out _ hp).mono ?_;rintro e w10 ⟨rfl,hbb⟩;replace hp:=hp.keep hbb;replace hbb:=ButAt.of_below (g:=g) hbb;replace HB:=kb HB hbb;replace r_bx:=kr hbb r_bx n_bx;replace lt_bx:=nL lt_bx hbb.size;replace r_res:=kr hbb r_res n_res;replace lt_res:=nL lt_res hbb.size;replace r_t:=kr hbb r_t n_t;replace lt_t:=nL lt_t hbb.size;replace hgt:=nT hgt hbb.size;clear hbb;go_wp2_with fail;clear hS;have hS:=r_bx.out;refine hK.out _ _ hS ?_;clear hK K;(try simp only [Act.put,sA,sB,sC]);refine WH.one 3 (by kernel_rfl) rfl (by kernel_rfl) ?_;intro K hK;go_simp;cases hx:pOpen en bo d l with
 | oof=>exact absurd (by have h:=HX.out;rw [hx] at h;exact h) hne
 | bad er p =>
   refine (open_bad hx hp).mono ?_;rintro e wb ⟨rfl,hbb⟩;go_wp2_with fail;exact ⟨rfl,RetP.of_bad (by have h:=HX.out;rw [hx] at h;exact h) (HB.out.trans hbb)⟩
 | ok t2 r =>
   refine (open_ok hx hp).mono ?_;rintro e w11 ⟨rfl,hpn,hbb⟩;clear hp;have hp:=hpn;clear hpn;replace HB:=kb HB hbb;replace r_bx:=kr hbb r_bx n_bx;replace lt_bx:=nL lt_bx hbb.size;replace r_res:=kr hbb r_res n_res;replace lt_res:=nL lt_res hbb.size;replace r_t:=kr hbb r_t n_t;replace lt_t:=nL lt_t hbb.size;replace hgt:=nT hgt hbb.size;clear hbb;replace HX:=thk HX hx;clear hx;go_wp2_with fail;clear hS;have hS:=r_bx.out;refine hK.out _ _ hS ?_;clear hK K;(try simp only [Act.put,sA,sB,sC]);refine WH.done (by kernel_rfl) ?_;clear hS;obtain ⟨q_bx0,f_bx0⟩:=row1 r_bx.out;go_wp2_with fail;clear q_bx0 f_bx0;cases hx:pExpr en f r (d+1) with
   | oof=>exact absurd (by have h:=HX.out;rw [hx] at h;exact h) hne
   | bad er p =>
     refine ((IE r (d+1)).bad hx hp).mono ?_;rintro e wb ⟨rfl,hbb⟩;go_wp2_with fail;exact ⟨rfl,RetP.of_bad (by have h:=HX.out;rw [hx] at h;exact h) (HB.out.trans hbb)⟩
   | ok x r2 =>
     refine ((IE r (d+1)).ok hx hp).mono ?_;rintro e w12 ⟨_,rfl,⟨k_x,t_x,l_x,c_x,ks_x,a_x,m_x,rfl,hi,hh⟩,hpn,hbb⟩;clear hp;have hp:=hpn;clear hpn;have i_x:=hid hi;have hy:=hid (HeldN.less (P':=fun b=>w.heap.size+2≤b) (fun b _ (hb:w11.heap.size≤b)=>(show w.heap.size+2≤b by omega)) hh);replace HB:=kb HB hbb;replace r_bx:=kr hbb r_bx n_bx;replace lt_bx:=nL lt_bx hbb.size;replace r_res:=kr hbb r_res n_res;replace lt_res:=nL lt_res hbb.size;replace r_t:=kr hbb r_t n_t;replace lt_t:=nL lt_t hbb.size;replace hgt:=nT hgt hbb.size;have h_x:=hy;clear hy hi hh hbb;replace HX:=thk HX hx;clear hx;go_upto_region 30 with fail
     obtain ⟨w13,hw,hpn,hbb,rr,tl⟩:=enter1 hp (.cells #[.int .i64 k_x,.string (bs t_x),.int .i64 l_x,.int .i64 c_x,.slice a_x ks_x.length m_x] 27);have n_x:w12.heap.size≠g:=by have:=hp.lt;omega
     have g_x:w.heap.size+2≤w12.heap.size:=hgt;clear hp;have hp:=hpn;clear hpn;have r_x:=hid rr;clear rr;replace HB:=kb HB hbb;replace r_bx:=kr hbb r_bx n_bx;replace lt_bx:=nL lt_bx hbb.size;replace r_res:=kr hbb r_res n_res;replace lt_res:=nL lt_res hbb.size;replace r_t:=kr hbb r_t n_t;replace lt_t:=nL lt_t hbb.size;replace h_x:=kh hbb Pg h_x;replace hgt:=nT hgt hbb.size;have lt_x:w12.heap.size<w13.heap.size:=tl;clear tl hbb;rw [← hw.out];clear hw;obtain ⟨q_bx0,f_bx0⟩:=row1 r_bx.out;go_wp2_with fail;clear q_bx0 f_bx0;cases hx:pEat en [41] r2 with
     | oof=>exact absurd (by have h:=HX.out;rw [hx] at h;exact h) hne
     | bad er p =>
       refine (close_bad hx hp).mono ?_;rintro e wb ⟨rfl,hbb⟩;go_wp2_with fail;exact ⟨rfl,RetP.of_bad (by have h:=HX.out;rw [hx] at h;exact h) (HB.out.trans hbb)⟩
     | ok t3 r3 =>
       refine (close_ok hx hp).mono ?_;rintro e w14 ⟨rfl,hpn,hbb⟩;clear hp;have hp:=hpn;clear hpn;replace HB:=kb HB hbb;replace r_bx:=kr hbb r_bx n_bx;replace lt_bx:=nL lt_bx hbb.size;replace r_res:=kr hbb r_res n_res;replace lt_res:=nL lt_res hbb.size;replace r_t:=kr hbb r_t n_t;replace lt_t:=nL lt_t hbb.size;replace r_x:=kr hbb r_x n_x;replace lt_x:=nL lt_x hbb.size;replace h_x:=kh hbb Pg h_x;replace hgt:=nT hgt hbb.size;clear hbb;replace HX:=thk HX hx;clear hx;obtain ⟨q_x0,q_x1,q_x2,q_x3,q_x4,f_x0,f_x1,f_x2,f_x3,f_x4⟩:=row5 r_x.out;have hzz:=hgl;have HW:=hid (stored5 hp HB.out r_res.out (by omega) (by omega) (.int .i64 k_x) (.string (bs t_x)) (.int .i64 l_x) (.int .i64 c_x) (.slice a_x ks_x.length m_x));obtain ⟨q_res0,q_res1,q_res2,q_res3,q_res4,f_res0,f_res1,f_res2,f_res3,f_res4⟩:=row5 r_res.out;go_wp2_with fail;obtain ⟨wz,hw,hpz,hbz,hrz,hsz,hoz⟩:=HW.out;rw [← hw];refine bodyPost_ret (results_cell_row rfl _ _ (w.heap.size+1) _ _ _ _ rfl hrz Tryz.underlying27 rfl (by kernel_rfl)) rfl (RetP.of_ok HX.out ?_ hpz hbz);have S:Same (w.heap.size+2≤·) w14 wz:=⟨by omega,fun k _ (hk:w.heap.size+2≤k)=>hoz k (by omega)⟩;exact ⟨k_x,t_x,l_x,c_x,ks_x,a_x,m_x,rfl,i_x.out,HeldN.less (P:=fun b=>w.heap.size+2≤b) (fun b _ (hb:w.heap.size+2≤b)=>(show w.heap.size≤b by omega)) (HeldN.keep S h_x.out)⟩
theorem prim_step (f:Nat) (g:Nat) (en:Pl) (l:List Tok) (d:Nat)
  (IC:∀ l d,Does 68 #[.pointer (some ⟨g,0,none⟩)] g en l d NodeN (pCall en f l d))
  (IP:∀ l d,Does 138 #[.pointer (some ⟨g,0,none⟩)] g en l d NodeN (pPrim en f l d))
  (IE:∀ l d,Does 65 #[.pointer (some ⟨g,0,none⟩)] g en l d NodeN (pExpr en f l d))
  (IL:∀ b l d,DoesList 162 2 [93] f b g en l d)
  (ID:∀ l d,DoesDict f g en l d) :
  Does 138 #[.pointer (some ⟨g,0,none⟩)] g en l d NodeN (pPrim en (f+1) l d):=by
 cases h3:kindB l 3 with
 | true=>exact prim_text f g en l d h3
 | false =>
 cases h2:kindB l 2 with
 | true=>exact prim_num f g en l d h3 h2
 | false =>
 cases hn:nameB l with
 | true =>
   cases hq:signB l 1 [40] with
   | true=>exact prim_call f g en l d h3 h2 hn hq IC
   | false=>exact prim_name f g en l d h3 h2 hn hq
 | false =>
 cases hw:wordB l wNot with
 | true=>exact prim_not f g en l d h3 h2 hn hw IP
 | false =>
 cases hl:signB l 0 [91] with
 | true=>exact prim_list f g en l d h3 h2 hn hw hl IL
 | false =>
 cases hd:signB l 0 [123] with
 | true=>exact prim_dict f g en l d h3 h2 hn hw hl hd ID
 | false=>exact prim_else f g en l d h3 h2 hn hw hl hd IE
def DoesBox {α:Type} (F:FuncId) (b:Nat) (g:Nat) (en:Pl) (l:List Tok) (d:Nat) (R:Nat→World→Value→α→Prop) (x:PR α):Prop :=
 ∀ w,PS w g en l d→b≠g→w.heap[b]? = some (.cells #[.pointer (some ⟨g,0,none⟩)] 53 (0,0))→x≠.oof→Calls Tryz.prog F #[.pointer (some ⟨b,0,none⟩)] w (RetP g en d w R x)
theorem DoesBox.ok {α:Type} {F:FuncId} {b:Nat} {g:Nat} {en:Pl} {l:List Tok} {d:Nat} {R:Nat→World→Value→α→Prop} {x:PR α} (h:DoesBox F b g en l d R x) {a:α} {r:List Tok} (hx:x=.ok a r) {w:World} (hp:PS w g en l d) (hn:b≠g) (hb:w.heap[b]? = some (.cells #[.pointer (some ⟨g,0,none⟩)] 53 (0,0))) :
  Calls Tryz.prog F #[.pointer (some ⟨b,0,none⟩)] w fun e w'=>∃ v,e=.returned v∧R w.heap.size w' v a∧PS w' g en r d∧ButAt g w w':=by
 subst hx;exact h w hp hn hb nofun
theorem DoesBox.bad {α:Type} {F:FuncId} {b:Nat} {g:Nat} {en:Pl} {l:List Tok} {d:Nat} {R:Nat→World→Value→α→Prop} {x:PR α} (h:DoesBox F b g en l d R x) {er:Nat} {p:Pl} (hx:x=.bad er p) {w:World} (hp:PS w g en l d) (hn:b≠g) (hb:w.heap[b]? = some (.cells #[.pointer (some ⟨g,0,none⟩)] 53 (0,0))) :
  Calls Tryz.prog F #[.pointer (some ⟨b,0,none⟩)] w fun e w'=>e=.panicked [wrongV er p]∧ButAt g w w':=by
 subst hx;exact h w hp hn hb nofun
theorem pOne_expr (en:Pl) (f:Nat) (l:List Tok) (d:Nat):pOne en (f+1) 2 l d=(pExpr en f l d).then fun x r=>.ok [x] r:=by
 rw [pOne,if_neg (by decide),if_neg (by decide),if_pos rfl]
set_option maxHeartbeats 4000000 in
theorem rule1_step (f:Nat) (b g:Nat) (en:Pl) (l:List Tok) (d:Nat)
  (IH:Does 107 #[.pointer (some ⟨g,0,none⟩)] g en l d OneN (pOne en f 0 l d)) :
  DoesBox 106 b g en l d ListR (pOne en f 0 l d):=by
 intro w hp hbg hbx hne;obtain ⟨q,f0⟩:=row1 hbx;clear hbx;obtain ⟨X,hX⟩:∃ X,X=pOne en f 0 l d:=⟨_,rfl⟩;rw [← hX] at hne ⊢;have HX:=hid hX;clear hX;have hgl:=hp.lt;have Pg:=hid (fun (b:Nat) (h:w.heap.size≤b)=>(show b≠g by omega));have HB:=hid (ButAt.refl g w);have hgt:=Nat.le_refl w.heap.size;go_enter Tryz.func106,Tryz.ntmps106
 go_wp2_with fail;clear q;cases hx:pOne en f 0 l d with
 | oof=>exact absurd (by rw [HX.out,hx]) hne
 | bad er p =>
   refine (IH.bad hx hp).mono ?_;rintro e wb ⟨rfl,hbb⟩;go_wp2_with fail;exact ⟨rfl,RetP.of_bad (by have h:=HX.out;rw [hx] at h;exact h) (HB.out.trans hbb)⟩
 | ok xs r =>
   refine (IH.ok hx hp).mono ?_;rintro e w2 ⟨_,rfl,⟨x,rfl,⟨k_x,t_x,l_x,c_x,ks_x,a_x,m_x,rfl,hi,hh⟩⟩,hpn,hbb⟩;clear hp;have hp:=hpn;clear hpn;have i_x:=hid hi;have h_x:=hid hh;replace HB:=kb HB hbb;replace hgt:=nT hgt hbb.size;clear hi hh hbb;replace HX:=hid (by have:=HX.out;rw [hx] at this;exact this);clear hx;go_wp2_with fail;obtain ⟨w3,hw,hpn,hbb,rr,tl⟩:=enter1 hp (.cells #[.int .i64 k_x,.string (bs t_x),.int .i64 l_x,.int .i64 c_x,.slice a_x ks_x.length m_x] 27);have n_kd:w2.heap.size≠g:=by have:=hp.lt;omega
   have g_kd:w.heap.size≤w2.heap.size:=hgt;clear hp;have hp:=hpn;clear hpn;have G_kd:=hid (Grow2.laid (B:=w.heap.size) (ns:=[(NM.mk k_x t_x l_x c_x ks_x a_x m_x)]) rr rfl (by simp) hgt (heldNs_one h_x.out) (hbb.same Pg.out));have hl_kd:1≤200000:=by omega
   have r_kd:=hid rr;clear rr;replace HB:=kb HB hbb;replace h_x:=kh hbb Pg h_x;replace hgt:=nT hgt hbb.size;have lt_kd:w2.heap.size<w3.heap.size:=tl;clear tl hbb;rw [← hw.out];clear hw;go_wp2_with fail;go_ret;refine RetP.of_ok HX.out ?_ hp HB.out;exact ⟨_,G_kd.out.one (by omega),are_one i_x.out,by simp⟩
set_option maxHeartbeats 4000000 in
theorem call1_step (f:Nat) (b g:Nat) (en:Pl) (l:List Tok) (d:Nat)
  (IH:Does 109 #[.pointer (some ⟨g,0,none⟩)] g en l d OneN (pOne en f 1 l d)) :
  DoesBox 108 b g en l d ListR (pOne en f 1 l d):=by
 intro w hp hbg hbx hne;obtain ⟨q,f0⟩:=row1 hbx;clear hbx;obtain ⟨X,hX⟩:∃ X,X=pOne en f 1 l d:=⟨_,rfl⟩;rw [← hX] at hne ⊢;have HX:=hid hX;clear hX;have hgl:=hp.lt;have Pg:=hid (fun (b:Nat) (h:w.heap.size≤b)=>(show b≠g by omega));have HB:=hid (ButAt.refl g w);have hgt:=Nat.le_refl w.heap.size;go_enter Tryz.func108,Tryz.ntmps108
 go_wp2_with fail;clear q;cases hx:pOne en f 1 l d with
 | oof=>exact absurd (by rw [HX.out,hx]) hne
 | bad er p =>
   refine (IH.bad hx hp).mono ?_;rintro e wb ⟨rfl,hbb⟩;go_wp2_with fail;exact ⟨rfl,RetP.of_bad (by have h:=HX.out;rw [hx] at h;exact h) (HB.out.trans hbb)⟩
 | ok xs r =>
   refine (IH.ok hx hp).mono ?_;rintro e w2 ⟨_,rfl,⟨x,rfl,⟨k_x,t_x,l_x,c_x,ks_x,a_x,m_x,rfl,hi,hh⟩⟩,hpn,hbb⟩;clear hp;have hp:=hpn;clear hpn;have i_x:=hid hi;have h_x:=hid hh;replace HB:=kb HB hbb;replace hgt:=nT hgt hbb.size;clear hi hh hbb;replace HX:=hid (by have:=HX.out;rw [hx] at this;exact this);clear hx;go_wp2_with fail;obtain ⟨w3,hw,hpn,hbb,rr,tl⟩:=enter1 hp (.cells #[.int .i64 k_x,.string (bs t_x),.int .i64 l_x,.int .i64 c_x,.slice a_x ks_x.length m_x] 27);have n_kd:w2.heap.size≠g:=by have:=hp.lt;omega
   have g_kd:w.heap.size≤w2.heap.size:=hgt;clear hp;have hp:=hpn;clear hpn;have G_kd:=hid (Grow2.laid (B:=w.heap.size) (ns:=[(NM.mk k_x t_x l_x c_x ks_x a_x m_x)]) rr rfl (by simp) hgt (heldNs_one h_x.out) (hbb.same Pg.out));have hl_kd:1≤200000:=by omega
   have r_kd:=hid rr;clear rr;replace HB:=kb HB hbb;replace h_x:=kh hbb Pg h_x;replace hgt:=nT hgt hbb.size;have lt_kd:w2.heap.size<w3.heap.size:=tl;clear tl hbb;rw [← hw.out];clear hw;go_wp2_with fail;go_ret;refine RetP.of_ok HX.out ?_ hp HB.out;exact ⟨_,G_kd.out.one (by omega),are_one i_x.out,by simp⟩
set_option maxHeartbeats 4000000 in
theorem prim1_step (f:Nat) (b g:Nat) (en:Pl) (l:List Tok) (d:Nat)
  (IH:Does 65 #[.pointer (some ⟨g,0,none⟩)] g en l d NodeN (pExpr en f l d)) :
  DoesBox 162 b g en l d ListR (pOne en (f+1) 2 l d):=by
 intro w hp hbg hbx hne;obtain ⟨q,f0⟩:=row1 hbx;clear hbx;obtain ⟨X,hX⟩:∃ X,X=pOne en (f+1) 2 l d:=⟨_,rfl⟩;rw [← hX] at hne ⊢;rw [pOne_expr] at hX;have HX:=hid hX;clear hX;have hgl:=hp.lt;have Pg:=hid (fun (b:Nat) (h:w.heap.size≤b)=>(show b≠g by omega));have HB:=hid (ButAt.refl g w);have hgt:=Nat.le_refl w.heap.size;go_enter Tryz.func162,Tryz.ntmps162
 go_wp2_with fail;clear q;cases hx:pExpr en f l d with
 | oof=>exact absurd (by rw [HX.out,hx];rfl) hne
 | bad er p =>
   refine (IH.bad hx hp).mono ?_;rintro e wb ⟨rfl,hbb⟩;go_wp2_with fail;exact ⟨rfl,RetP.of_bad (by have h:=HX.out;rw [hx] at h;exact h) (HB.out.trans hbb)⟩
 | ok x r =>
   refine (IH.ok hx hp).mono ?_;rintro e w2 ⟨_,rfl,⟨k_x,t_x,l_x,c_x,ks_x,a_x,m_x,rfl,hi,hh⟩,hpn,hbb⟩;clear hp;have hp:=hpn;clear hpn;have i_x:=hid hi;have hy:=hid (HeldN.less (P':=fun b=>w.heap.size≤b) (fun b _ (hb:w.heap.size≤b)=>(show w.heap.size≤b by omega)) hh);replace HB:=kb HB hbb;replace hgt:=nT hgt hbb.size;have h_x:=hy;clear hy hi hh hbb;replace HX:=thk HX hx;clear hx;go_wp2_with fail;obtain ⟨w3,hw,hpn,hbb,rr,tl⟩:=enter1 hp (.cells #[.int .i64 k_x,.string (bs t_x),.int .i64 l_x,.int .i64 c_x,.slice a_x ks_x.length m_x] 27);have n_kd:w2.heap.size≠g:=by have:=hp.lt;omega
   have g_kd:w.heap.size≤w2.heap.size:=hgt;clear hp;have hp:=hpn;clear hpn;have G_kd:=hid (Grow2.laid (B:=w.heap.size) (ns:=[(NM.mk k_x t_x l_x c_x ks_x a_x m_x)]) rr rfl (by simp) hgt (heldNs_one h_x.out) (hbb.same Pg.out));have hl_kd:1≤200000:=by omega
   have r_kd:=hid rr;clear rr;replace HB:=kb HB hbb;replace h_x:=kh hbb Pg h_x;replace hgt:=nT hgt hbb.size;have lt_kd:w2.heap.size<w3.heap.size:=tl;clear tl hbb;rw [← hw.out];clear hw;go_wp2_with fail;go_ret;refine RetP.of_ok HX.out ?_ hp HB.out;exact ⟨_,G_kd.out.one (by omega),are_one i_x.out,by simp⟩
end Go.Proofs.YtfgiihpopngbkaaGreatDoor
