/- Lemmas and walks that the statement needs: BackE, BackS, BackLen. -/
import Derived.Test.YtfgiihpopngbkaaGreatDoorM33
import Derived.Test.YtfgiihpopngbkaaGreatDoorM27
import Derived.Test.YtfgiihpopngbkaaGreatDoorM26
namespace Go.Proofs.YtfgiihpopngbkaaGreatDoor
set_option maxRecDepth 100000
open Go.RowKit
open Nat renaming lt_of_lt_of_le→nL,le_trans→nT
theorem esc_len:∀ s:List UInt8,s.length≤(s.flatMap escB).length
 | []=>Nat.le_refl _
 | c::s=>by
   rw [List.flatMap_cons,List.length_append,List.length_cons];have h1:=esc_len s;have h2:1≤(escB c).length:=by unfold escB;split <;> (try split) <;> simp
   omega
theorem text_w {s:List UInt8} (h:s.any badQ=false) {p:Pl}:s.length+2≤wT (3,s,p):=by
 show s.length+2≤(quoteL s).length;rw [quote_len h];have:=esc_len s;omega
theorem back_text {t:Tok} {r:List Tok} {d:Nat} (hd:d≤60) (hl:OkT (t::r)) (h:kindB (t::r) 3=true):BkE (twoT (Nd.mk 11 t.2.1 t.2.2 []).tr.top) (Nd.mk 11 t.2.1 t.2.2 []) (t::r) r d:=by
 have e:=kind_is h;obtain ⟨k,s,p⟩:=t;simp only at e;subst e;have hb:s.any badQ=false:=by
  have:=hl.head.1;cases this with
  | text h=>exact h
 show BkE (twoT (Nd.mk 11 s p []).tr.top) (Nd.mk 11 s p []) ((3,s,p)::r) r d;refine leaf_bk hd (by rw [show ((11:Nat):Int)=11 from rfl,mE_11,hb];rfl) (by rw [oD_mk,oDs_nil];rfl) rfl (fun n=>?_) hl.tail (by rw [wL_cons];have:=text_w hb (p:=p);omega);rw [oP_mk];show lenP [(3,s)]+wL r≤wL ((3,s,p)::r);rw [lenP_cons,lenP_nil,wL_cons];show (writ 3 s).length+0+wL r≤(writ 3 s).length+wL r;omega
theorem back_num {t:Tok} {r:List Tok} {d:Nat} (hd:d≤60) (hl:OkT (t::r)) (h:kindB (t::r) 2=true):BkE (twoT (Nd.mk 10 t.2.1 t.2.2 []).tr.top) (Nd.mk 10 t.2.1 t.2.2 []) (t::r) r d:=by
 have e:=kind_is h;obtain ⟨k,s,p⟩:=t;simp only at e;subst e;have hb:oneT 2 s=true:=tok_oneT hl.head.1 (.inr rfl) hl.head.2;show BkE (twoT (Nd.mk 10 s p []).tr.top) (Nd.mk 10 s p []) ((2,s,p)::r) r d;refine leaf_bk hd (by rw [show ((10:Nat):Int)=10 from rfl,mE_10,hb];rfl) (by rw [oD_mk,oDs_nil];rfl) rfl (fun n=>?_) hl.tail (by rw [wL_cons];have h1:=wT_pos hl.head.1;have h2:wT (2,s,p)=s.length:=wT_same (by decide);omega);rw [oP_mk];show lenP [(2,s)]+wL r≤wL ((2,s,p)::r);rw [lenP_cons,lenP_nil,wL_cons];show (writ 2 s).length+0+wL r≤(writ 2 s).length+wL r;omega
theorem back_name {t:Tok} {r:List Tok} {d:Nat} (hd:d≤60) (hl:OkT (t::r)) (h:nameB (t::r)=true):BkE (twoT (Nd.mk 9 t.2.1 t.2.2 []).tr.top) (Nd.mk 9 t.2.1 t.2.2 []) (t::r) r d:=by
 obtain ⟨h1,h2,h3⟩:=name_ok hl h;refine leaf_bk hd (by rw [show ((9:Nat):Int)=9 from rfl,mE_9,h1];rfl) (by rw [oD_mk,oDs_nil];rfl) rfl (fun n=>?_) hl.tail (by rw [wL_cons];omega);rw [oP_mk];show lenP [(1,t.2.1)]+wL r≤wL (t::r);rw [lenP_word,lenP_nil,wL_cons];omega
theorem in_back {k:Nat} {a:List Nd} {x:Nd} {l l1 r1 r:List Tok} {d w:Nat} (h:BkL k true a l1 r1 (d+1)) (hd:oD x.tr=maxL (oDs (Nd.trs a))+1) (h2:twoT x.tr.top=false) (hok:mE x.tr=true)
  (hl:∀ n,lenP (oP n x.tr)=lenP (joinP k (oPs n (Nd.trs a)))+w+1) (h1:wL l=w+wL l1) (hr1:wL r1=1+wL r) (hr:OkT r) (hz:sz x.tr≤w+1+szs (Nd.trs a)) (hw:1≤w):BkE (twoT x.tr.top) x l r d:=by
 rw [h2];refine ⟨hok,?_,fun n=>?_,hr,by have:=h.size;omega⟩
 ·have:=h.deep;show oD x.tr+d≤60;omega
 ·have:=h.len n;rw [if_pos rfl] at this;rw [brk_false,hl];omega
theorem plus_back {x y:Nd} {p:Pl} {l0 l1 l2 r:List Tok} {d:Nat} (hx:BkE (cmpT x.tr.top) x l0 l1 d) (h1:wL l1=1+wL l2) (hy:BkE (twoT y.tr.top) y l2 r d) :
  BkE (cmpT (Nd.mk 16 [43] p [x,y]).tr.top) (Nd.mk 16 [43] p [x,y]) l0 r d:=by
 have hne:([43]:List UInt8)≠wNot:=by decide
 have e:cmpT (Nd.mk 16 [43] p [x,y]).tr.top=false:=by rw [node_tr];rfl
 rw [e];refine ⟨?_,?_,fun n=>?_,hy.good,by
  rw [node_tr,trs_two,sz_mk,szs_two];have:=hx.size;have:=hy.size;have:([43]:List UInt8).length=1:=rfl;omega⟩
 ·rw [node_tr,trs_two];exact mE_two (by decide) hx.ok hy.ok
 ·rw [node_tr,trs_two];show oD (Tr.mk 16 [43] [x.tr,y.tr])+d≤60;rw [oD_two hne,brk1_plus];have:=hx.deep;have:=hy.deep;omega
 ·rw [node_tr,trs_two,brk_false];show lenP (oP n (Tr.mk 16 [43] [x.tr,y.tr]))+3 * wL r≤_;rw [oP_two hne,brk1_plus,lenP_app,lenP_sp,lenP_op,lenP_sp];have:=hx.len n;have:=hy.len n;show lenP _+(1+(1+(1+lenP _)))+_≤_;omega
theorem cmp_back {x y:Nd} {t:List UInt8} {p:Pl} {l l1 l2 r:List Tok} {d:Nat} (ht:t=[61,61]∨t=[33,61]∨t=wIn) (hx:BkE (cmpT x.tr.top) x l l1 d) (h1:wL l1=t.length+wL l2) (hy:BkE (cmpT y.tr.top) y l2 r d) :
  BkE false (Nd.mk 16 t p [x,y]) l r d:=by
 have hop:opB t=true:=by rcases ht with rfl | rfl | rfl <;> decide
 have hne:t≠wNot:=by rcases ht with rfl | rfl | rfl <;> decide
 have hnp:t≠[43]:=by rcases ht with rfl | rfl | rfl <;> decide
 have hlen:t.length=2:=by rcases ht with rfl | rfl | rfl <;> rfl
 refine ⟨?_,?_,fun n=>?_,hy.good,by
  rw [node_tr,trs_two,sz_mk,szs_two];have:=hx.size;have:=hy.size;omega⟩
 ·rw [node_tr,trs_two];exact mE_two hop hx.ok hy.ok
 ·rw [node_tr,trs_two];show oD (Tr.mk 16 t [x.tr,y.tr])+d≤60;rw [oD_two hne,brk1_cmp hnp];have:=hx.deep;have:=hy.deep;omega
 ·rw [node_tr,trs_two,brk_false];show lenP (oP n (Tr.mk 16 t [x.tr,y.tr]))+3 * wL r≤_;rw [oP_two hne,brk1_cmp hnp,lenP_app,lenP_sp,lenP_op,lenP_sp];have:=hx.len n;have:=hy.len n;omega
theorem sign_w {t:Tok} {r:List Tok} {s:List UInt8} (h:signB (t::r) 0 s=true):wL (t::r)=s.length+wL r:=by
 obtain ⟨e1,e2⟩:=sign_is h;obtain ⟨k,u,p⟩:=t;simp only at e1 e2;subst e1 e2;rw [wL_cons,wT_same (by decide)]
theorem word_w {t:Tok} {r:List Tok} {s:List UInt8} (h:wordB (t::r) s=true):wL (t::r)=s.length+wL r:=by
 obtain ⟨e1,e2⟩:=word_is h;obtain ⟨k,u,p⟩:=t;simp only at e1 e2;subst e1 e2;rw [wL_cons,wT_same (by decide)]
theorem all_of_kind {k:Nat} {l:List Tr} (h:kindOk k l=true):(k=0→l.all mP=true)∧(k=1→l.all mA=true)∧(k=2→l.all mE=true)∧(k=3→dictE l=true):=by
 refine ⟨?_,?_,?_,?_⟩ <;> rintro rfl <;> exact h
theorem one_kind {k:Nat} (h:k≤3):k=0∨k=1∨k=2∨k=3:=by omega
theorem oD_one (k:Int) (hk:¬ (k=12∨k=13∨k=14∨k=8)) (h16:k≠16) (t:List UInt8) (l:List Tr):oD (.mk k t l)=maxL (oDs l):=by
 rw [oD_mk];unfold putD;rw [if_neg hk,if_neg h16]
theorem arg_back {t:List UInt8} {p:Pl} {x:Nd} {l l1 r:List Tok} {d w:Nat} (ht:t=[]∧w=0∨nameS t=true∧w=t.length+1∧1≤t.length) (hx:BkE false x l1 r d) (h1:wL l=w+wL l1):BkO 1 [.mk 15 t p [x]] l r d:=by
 refine ⟨?_,by rw [if_neg (by decide)];exact ⟨_,rfl⟩,?_,fun n=>?_,hx.good,by
  rw [trs_one,szs_one,node_tr,trs_one,sz_mk,szs_one];have:=hx.size;rcases ht with ⟨rfl,rfl⟩ | ⟨h,rfl,hn⟩
  ·simp only [List.length_nil];omega
  ·omega⟩
 ·rw [trs_one,node_tr,trs_one];show ([(Tr.mk 15 t [x.tr])].all mA)=true;rw [List.all_cons,List.all_nil,mA_15];rcases ht with ⟨rfl,-⟩ | ⟨h,-⟩
  ·simp [oneM,hx.ok]
  ·simp [oneM,hx.ok,h]
 ·rw [trs_one,node_tr,trs_one,oDs_cons,oDs_nil];show max (oD (Tr.mk 15 t [x.tr])) 0+d≤60;rw [oD_one 15 (by decide) (by decide),oDs_cons,oDs_nil];have:oD x.tr+d≤60:=hx.deep;show max (max (oD x.tr) 0) 0+d≤60;omega
 ·rw [trs_one,node_tr,trs_one,oPs_cons,oPs_nil];show lenP (oP n (Tr.mk 15 t [x.tr]))+_≤_;rw [oP_mk,oPs_cons,oPs_nil];show lenP (if t=[] then oP n x.tr else (1,t)::sp::sg 61::sp::oP n x.tr)+_≤_;have:=hx.len n;rw [brk_false] at this;rcases ht with ⟨rfl,rfl⟩ | ⟨h,rfl,hn⟩
  ·rw [if_pos rfl];omega
  ·rw [if_neg (by rintro rfl;simp at hn),lenP_word,lenP_sp,lenP_sg,lenP_sp];omega
theorem expr_one {x:Nd} {l r:List Tok} {d:Nat} (hx:BkE false x l r d):BkO 2 [x] l r d:=by
 refine ⟨?_,by rw [if_neg (by decide)];exact ⟨_,rfl⟩,?_,fun n=>?_,hx.good,by rw [trs_one,szs_one];have:=hx.size;omega⟩
 ·rw [trs_one];show ([x.tr].all mE)=true;rw [List.all_cons,List.all_nil,hx.ok];rfl
 ·rw [trs_one,oDs_cons,oDs_nil];have:oD x.tr+d≤60:=hx.deep;show max (oD x.tr) 0+d≤60;omega
 ·rw [trs_one,oPs_cons,oPs_nil];exact hx.len n
theorem entry_back {s:List UInt8} {p:Pl} {x:Nd} {l l1 r:List Tok} {d:Nat} (hb:s.any badQ=false) (hx:BkE false x l1 r d) (h1:wL l=(writ 3 s).length+1+wL l1):BkO 3 [.mk 11 s p [],x] l r d:=by
 have e11:∀ n,oP n (Tr.mk (11:Nat) s [])=[(3,s)]:=fun n=>by rw [oP_mk];rfl
 have eD:oD (Tr.mk (11:Nat) s [])=0:=by rw [oD_mk,oDs_nil];rfl
 refine ⟨?_,by rw [if_pos rfl];exact ⟨_,_,rfl⟩,?_,fun n=>?_,hx.good,by
  rw [trs_two,szs_two,node_tr,trs_nil,sz_mk,szs_nil];have:=hx.size;have h2:s.length+2≤(writ 3 s).length:=text_w hb (p:=p);omega⟩
 ·rw [trs_two,node_tr,trs_nil];show ((11:Int) == 11 && mE (Tr.mk 11 s []) && mE x.tr && true)=true;rw [mE_11,hb,hx.ok];rfl
 ·rw [trs_two,node_tr,trs_nil,oDs_cons,oDs_cons,oDs_nil,eD];have:oD x.tr+d≤60:=hx.deep;show max 0 (max (oD x.tr) 0)+d≤60;omega
 ·rw [trs_two,node_tr,trs_nil,oPs_cons,oPs_cons,oPs_nil,e11];show lenP ([(3,s)]++sg 58::sp::oP n x.tr)+_≤_;have:=hx.len n;rw [brk_false] at this;rw [lenP_app,lenP_cons,lenP_nil,lenP_sg,lenP_sp];show (writ 3 s).length+0+_+_≤_;omega
theorem param_back {t ty:List UInt8} {p q:Pl} {u:List Nd} {l l1 r:List Tok} {d _w:Nat} (hn:nameS t=true) (ht:typeB ty=true) (hd:d≤60) (h1:wL l=t.length+1+ty.length+wL l1) (hu:u=[]∧l1=r∧OkT r∨∃ x l2,u=[x]∧wL l1=1+wL l2∧BkE false x l2 r d) :
  BkO 0 [.mk 7 t p (.mk 9 ty q []::u)] l r d:=by
 have e9:∀ n,oP n (Tr.mk (9:Nat) ty [])=[(1,ty)]:=fun n=>by rw [oP_mk];rfl
 have eD:oD (Tr.mk (9:Nat) ty [])=0:=by rw [oD_mk,oDs_nil];rfl
 have hty:typeM (Tr.mk (9:Nat) ty [])=true:=by
  show ((9:Int) == 9 && typeB ty && true)=true;rw [ht];rfl
 have hty1:1≤ty.length:=by
  unfold typeB at ht;simp only [Bool.or_eq_true,beq_iff_eq] at ht;rcases ht with ((((rfl | rfl) | rfl) | rfl) | rfl) | rfl <;> decide
 rcases hu with ⟨rfl,rfl,hr⟩ | ⟨x,l2,rfl,h2,hx⟩
 ·refine ⟨?_,by rw [if_neg (by decide)];exact ⟨_,rfl⟩,?_,fun n=>?_,hr,by
   rw [trs_one,szs_one,node_tr,trs_one,node_tr,trs_nil,sz_mk,szs_one,sz_mk,szs_nil];omega⟩
  ·rw [trs_one,node_tr,trs_one,node_tr,trs_nil];show ([(Tr.mk 7 t [Tr.mk (9:Nat) ty []])].all mP)=true;rw [List.all_cons,List.all_nil,mP_7,hn];show (true && typeM _ && true)=true;rw [hty];rfl
  ·rw [trs_one,node_tr,trs_one,node_tr,trs_nil,oDs_cons,oDs_nil];show max (oD (Tr.mk 7 t [Tr.mk (9:Nat) ty []])) 0+d≤60;rw [oD_one 7 (by decide) (by decide),oDs_cons,oDs_nil,eD];show max (max 0 0) 0+d≤60;omega
  ·rw [trs_one,node_tr,trs_one,node_tr,trs_nil,oPs_cons,oPs_nil];show lenP (oP n (Tr.mk 7 t [Tr.mk (9:Nat) ty []]))+_≤_;rw [oP_mk,oPs_cons,oPs_nil];show lenP ((1,t)::sg 58::sp::[(1,ty)])+_≤_;rw [lenP_word,lenP_sg,lenP_sp,lenP_word,lenP_nil];omega
 ·refine ⟨?_,by rw [if_neg (by decide)];exact ⟨_,rfl⟩,?_,fun n=>?_,hx.good,by
   rw [trs_one,szs_one,node_tr,trs_two,node_tr,trs_nil,sz_mk,szs_two,sz_mk,szs_nil];have:=hx.size;omega⟩
  ·rw [trs_one,node_tr,trs_two,node_tr,trs_nil];show ([(Tr.mk 7 t [Tr.mk (9:Nat) ty [],x.tr])].all mP)=true;rw [List.all_cons,List.all_nil,mP_7,hn];show (true && (typeM _ && mE x.tr) && true)=true;rw [hty,hx.ok];rfl
  ·rw [trs_one,node_tr,trs_two,node_tr,trs_nil,oDs_cons,oDs_nil];show max (oD (Tr.mk 7 t [Tr.mk (9:Nat) ty [],x.tr])) 0+d≤60;rw [oD_one 7 (by decide) (by decide),oDs_cons,oDs_cons,oDs_nil,eD];have:oD x.tr+d≤60:=hx.deep;show max (max 0 (max (oD x.tr) 0)) 0+d≤60;omega
  ·rw [trs_one,node_tr,trs_two,node_tr,trs_nil,oPs_cons,oPs_nil];show lenP (oP n (Tr.mk 7 t [Tr.mk (9:Nat) ty [],x.tr]))+_≤_;rw [oP_mk,oPs_cons,oPs_cons,oPs_nil];show lenP ((1,t)::sg 58::sp::(1,ty)::sp::sg 61::sp::oP n x.tr)+_≤_;rw [lenP_word,lenP_sg,lenP_sp,lenP_word,lenP_sp,lenP_sg,lenP_sp];have:=hx.len n;rw [brk_false] at this;omega
theorem type_is {t:Tok} {r:List Tok} (h:typeAt (t::r)=true):t.1=1∧typeB t.2.1=true:=by
 unfold typeAt at h;simp only [Bool.and_eq_true] at h;exact ⟨kind_is h.1,h.2⟩
theorem list_back {k:Nat} {a b:List Nd} {l l1 l2 r:List Tok} {d:Nat} {first:Bool} (hk:k≤3) (ha:BkO k a l1 l2 d) (hb:BkL k false b l2 r d) (h1:wL l=(if first=true then 0 else 1)+wL l1):BkL k first (a++b) l r d:=by
 refine ⟨ok_app ha.form ha.ok hb.ok,?_,fun n=>?_,hb.good,by
  rw [trs_app,szs_app];have:=ha.size;have:=hb.size;omega⟩
 ·rw [trs_app,oDs_app,maxL_app];have:=ha.deep;have:=hb.deep;omega
 ·have e:=join_app hk (n:=n) (b:=b) ha.form;have h2:=ha.len n;have h3:=hb.len n;rw [if_neg (by simp)] at h3;cases first with
  | true=>rw [if_pos rfl] at h1 ⊢;omega
  | false =>
    rw [if_neg (by simp)] at h1 ⊢;have:tailN k (oPs n (Nd.trs (a++b)))≤2+lenP (joinP k (oPs n (Nd.trs (a++b)))):=by unfold tailN;split <;> omega
    omega
theorem expr_back (en:Pl):∀ f,ExprQ en f
 | 0=>⟨fun _ _ _ _=>by rw [pPrim];trivial,fun _ _ _ _ _ _=>by rw [pSumGo];trivial,fun _ _ _ _=>by rw [pSum];trivial,fun _ _ _ _=>by rw [pExpr];trivial,fun _ _ _ _=>by rw [pCall];trivial,fun _ _ _ _ _ _=>by rw [pOne];trivial,fun _ _ _ _ _ _ _ _=>by rw [pList];trivial⟩
 | f+1=>by
   have ih:=expr_back en f;refine ⟨?_,?_,?_,?_,?_,?_,?_⟩
   ·intro l d hd hl;rw [pPrim];split
    ·rename_i h;exact (take_post en true l).then fun t r ⟨_,e⟩=>by subst e;exact back_text hd hl h
    split
    ·rename_i h;exact (take_post en true l).then fun t r ⟨_,e⟩=>by subst e;exact back_num hd hl h
    split
    ·refine (ih.call l d hd hl).mono fun x r ⟨h1,h2,_⟩=>?_
     have:twoT x.tr.top=false:=by
      unfold twoT;rw [← kd_top,h1];rfl
     rw [this];exact h2
    split
    ·rename_i h;exact (take_post en true l).then fun t r ⟨_,e⟩=>by subst e;exact back_name hd hl h
    split
    ·rename_i h;refine (open_post en true d l).then fun t r ⟨_,h6,e⟩=>?_
     subst e;refine (ih.prim r (d+1) (by omega) hl.tail).then fun x r1 hx=>?_
     have hw:=word_w h;have e2:(Nd.mk 16 wNot (atT en (t::r) 0).2.2 [x]).tr=.mk 16 wNot [x.tr]:=by rw [node_tr,trs_one];rfl
     have e3:twoT (Nd.mk 16 wNot (atT en (t::r) 0).2.2 [x]).tr.top=false:=by rw [e2];rfl
     show BkE _ _ _ _ _;rw [e3];refine ⟨?_,?_,fun n=>?_,hx.good,by
      rw [e2,sz_mk,szs_one];have:=hx.size;have:wNot.length=3:=rfl;omega⟩
     ·rw [e2,mE_16];simp [hx.ok]
     ·rw [e2];show oD (.mk 16 wNot [x.tr])+d≤60;have:oD (.mk 16 wNot [x.tr])=brkD (twoT x.tr.top) (oD x.tr)+1:=by rw [oD_mk,oDs_cons,oDs_nil];rfl
      rw [this];have:=hx.deep;omega
     ·rw [e2,brk_false];have:oP n (.mk 16 wNot [x.tr])=(1,wNot)::sp::brk (twoT x.tr.top) (oP n x.tr):=by rw [oP_mk,oPs_cons,oPs_nil];rfl
      rw [this,lenP_word,lenP_sp];have:=hx.len n;have:wNot.length=3:=rfl;omega
    split
    ·rename_i h;refine (open_post en true d l).then fun t r ⟨_,h6,e⟩=>?_
     subst e;refine (ih.list 2 [93] true r (d+1) (by omega) (by omega) hl.tail).then fun a r1 ha=>?_
     refine (eat_post en 93 ha.good).then fun _ r2 ⟨hr2,hw2⟩=>?_
     have hw:=sign_w h;have e2:(Nd.mk 12 [] (atT en (t::r) 0).2.2 a).tr=.mk 12 [] (Nd.trs a):=node_tr 12 _ _ _;refine in_back (w:=1) ha (by rw [e2,oD_mk];rfl) (by rw [e2];rfl) (by rw [e2,mE_12];have:=(all_of_kind ha.ok).2.2.1 rfl;rw [this];rfl) (fun n=>?_) hw hw2 hr2 (by rw [e2,sz_mk];simp only [List.length_nil];omega) (by omega);rw [e2,oP_mk];show lenP (sg 91::(commaJ (oPs n (Nd.trs a))++[sg 93]))=_;rw [lenP_sg,lenP_app,lenP_sg,lenP_nil];show _=lenP (commaJ (oPs n (Nd.trs a)))+1+1;omega
    split
    ·rename_i h;refine (open_post en true d l).then fun t r ⟨_,h6,e⟩=>?_
     subst e;refine (ih.list 3 [125] true r (d+1) (by omega) (by omega) hl.tail).then fun a r1 ha=>?_
     refine (eat_post en 125 ha.good).then fun _ r2 ⟨hr2,hw2⟩=>?_
     have hw:=sign_w h;have e2:(Nd.mk 13 [] (atT en (t::r) 0).2.2 a).tr=.mk 13 [] (Nd.trs a):=node_tr 13 _ _ _;refine in_back (w:=1) ha (by rw [e2,oD_mk];rfl) (by rw [e2];rfl) (by rw [e2,mE_13];have:=(all_of_kind ha.ok).2.2.2 rfl;rw [this];rfl) (fun n=>?_) hw hw2 hr2 (by rw [e2,sz_mk];simp only [List.length_nil];omega) (by omega);rw [e2,oP_mk];show lenP (sg 123::(dictJ (oPs n (Nd.trs a))++[sg 125]))=_;rw [lenP_sg,lenP_app,lenP_sg,lenP_nil];show _=lenP (dictJ (oPs n (Nd.trs a)))+1+1;omega
    refine (open_post en _ d l).then fun t r ⟨h,h6,e⟩=>?_
    subst e;refine (ih.expr r (d+1) (by omega) hl.tail).then fun x r1 hx=>?_
    refine (eat_post en 41 hx.good).then fun _ r2 ⟨hr2,hw2⟩=>?_
    exact hx.inb (sign_w h) hw2 hr2 _
   ·intro l0 x l d hd hx;rw [pSumGo];split
    ·rename_i h;refine (take_post en true l).then fun t r ⟨_,e⟩=>?_
     subst e;refine (ih.prim r d hd hx.good.tail).then fun y r1 hy=>?_
     exact ih.sumGo l0 _ r1 d hd (plus_back hx (sign_w h) hy)
    ·exact hx
   ·intro l d hd hl;rw [pSum];exact (ih.prim l d hd hl).then fun x r hx=>ih.sumGo l x r d hd hx.cmp
   ·intro l d hd hl;rw [pExpr];refine (ih.sum l d hd hl).then fun x r hx=>?_
    split
    ·rename_i h;refine (take_post en true r).then fun t r1 ⟨_,e⟩=>?_
     subst e;refine (ih.sum r1 d hd hx.good.tail).then fun y r2 hy=>?_
     have hh:(t.2.1=[61,61]∨t.2.1=[33,61]∨t.2.1=wIn)∧wL (t::r1)=t.2.1.length+wL r1:=by
      simp only [Bool.or_eq_true] at h;rcases h with (h | h) | h
      ·exact ⟨.inl (sign_is h).2,by rw [sign_w h,(sign_is h).2]⟩
      ·exact ⟨.inr (.inl (sign_is h).2),by rw [sign_w h,(sign_is h).2]⟩
      ·exact ⟨.inr (.inr (word_is h).2),by rw [word_w h,(word_is h).2]⟩
     exact cmp_back hh.1 hx hh.2 hy
    ·exact hx.weak
   ·intro l d hd hl;rw [pCall];refine (take_post en _ l).then fun t r ⟨h,e⟩=>?_
    subst e;refine (open_post en _ d r).then fun t1 r1 ⟨h1,h6,e⟩=>?_
    subst e;refine (ih.list 1 [41] true r1 (d+1) (by omega) (by omega) hl.tail.tail).then fun a r2 ha=>?_
    refine (eat_post en 41 ha.good).then fun _ r3 ⟨hr3,hw3⟩=>?_
    obtain ⟨n1,n2,n3⟩:=name_ok hl h;have hw1:=sign_w h1;have hw:wL (t::t1::r1)=t.2.1.length+1+wL r1:=by rw [wL_cons,n2,hw1];show _+(1+_)=_;omega
    have e2:(Nd.mk 14 t.2.1 t.2.2 a).tr=.mk 14 t.2.1 (Nd.trs a):=node_tr 14 _ _ _;have hlen:∀ n,lenP (oP n (Nd.mk 14 t.2.1 t.2.2 a).tr)=lenP (joinP 1 (oPs n (Nd.trs a)))+(t.2.1.length+1)+1:=fun n=>by
     rw [e2,oP_mk];show lenP ((1,t.2.1)::sg 40::(commaJ (oPs n (Nd.trs a))++[sg 41]))=_;rw [lenP_word,lenP_sg,lenP_app,lenP_sg,lenP_nil];show _=lenP (commaJ (oPs n (Nd.trs a)))+(t.2.1.length+1)+1;omega
    have hb:=in_back (x:=Nd.mk 14 t.2.1 t.2.2 a) (w:=t.2.1.length+1) ha (by rw [e2,oD_mk];rfl) (by rw [e2];rfl) (by rw [e2,mE_14,n1];have:=(all_of_kind ha.ok).2.1 rfl;rw [this];rfl) hlen hw hw3 hr3 (by rw [e2,sz_mk];omega) (by omega);refine ⟨by rw [e2];rfl,?_,fun n=>?_⟩
    ·have e3:twoT (Nd.mk 14 t.2.1 t.2.2 a).tr.top=false:=by rw [e2];rfl
     rw [e3] at hb;exact hb
    ·have:=ha.len n;rw [if_pos rfl] at this;rw [hlen];omega
   ·intro k l d hk hd hl;rw [pOne];rcases one_kind hk with rfl | rfl | rfl | rfl
    ·rw [if_pos rfl];refine (take_post en _ l).then fun t r ⟨h,e⟩=>?_
     subst e;obtain ⟨n1,n2,n3⟩:=name_ok hl h;refine (eat_post en 58 hl.tail).then fun _ r1 ⟨hr1,hw1⟩=>?_
     refine (take_post en _ r1).then fun ty r2 ⟨h2,e⟩=>?_
     subst e;obtain ⟨ty1,ty2⟩:=type_is h2;have hwt:wT ty=ty.2.1.length:=by
      obtain ⟨k,s,p⟩:=ty;simp only at ty1;subst ty1;exact wT_same (by decide)
     have hw:wL (t::r)=t.2.1.length+1+ty.2.1.length+wL r2:=by rw [wL_cons,n2,hw1,wL_cons,hwt];omega
     split
     ·refine (eat_post en 61 hr1.tail).then fun _ r3 ⟨hr3,hw3⟩=>?_
      refine (ih.expr r3 d hd hr3).then fun x r4 hx=>?_
      exact param_back (_w:=0) n1 ty2 hd hw (.inr ⟨x,r3,rfl,hw3,hx⟩)
     ·exact param_back (_w:=0) n1 ty2 hd hw (.inl ⟨rfl,rfl,hr1.tail⟩)
    ·rw [if_neg (by decide),if_pos rfl];split
     ·rename_i h;simp only [Bool.and_eq_true] at h;refine (take_post en true l).then fun t r ⟨_,e⟩=>?_
      subst e;obtain ⟨n1,n2,n3⟩:=name_ok hl h.1;refine (eat_post en 61 hl.tail).then fun _ r1 ⟨hr1,hw1⟩=>?_
      refine (ih.expr r1 d hd hr1).then fun x r2 hx=>?_
      exact arg_back (w:=t.2.1.length+1) (.inr ⟨n1,rfl,n3⟩) hx (by rw [wL_cons,n2,hw1];omega)
     ·refine (ih.expr l d hd hl).then fun x r hx=>?_
      exact arg_back (w:=0) (.inl ⟨rfl,rfl⟩) hx (by omega)
    ·rw [if_neg (by decide),if_neg (by decide),if_pos rfl];exact (ih.expr l d hd hl).then fun x r hx=>expr_one hx
    ·rw [if_neg (by decide),if_neg (by decide),if_neg (by decide)];refine (take_post en _ l).then fun t r ⟨h,e⟩=>?_
     subst e;refine (eat_post en 58 hl.tail).then fun _ r1 ⟨hr1,hw1⟩=>?_
     refine (ih.expr r1 d hd hr1).then fun x r2 hx=>?_
     have e:=kind_is h;obtain ⟨k,s,p⟩:=t;simp only at e;subst e;have hb:s.any badQ=false:=by
      have:=hl.head.1;cases this with
      | text h=>exact h
     exact entry_back hb hx (by rw [wL_cons,hw1];show (writ 3 s).length+(1+wL r1)=(writ 3 s).length+1+wL r1;omega)
   ·intro k up first l d hk hd hl
    rw [pList];split
    ·refine ⟨?_,?_,fun n=>?_,hl,by rw [trs_nil,szs_nil];omega⟩
     ·rw [trs_nil];unfold kindOk;rcases one_kind hk with rfl | rfl | rfl | rfl <;> rfl
     ·rw [trs_nil,oDs_nil];show 0+d≤60;omega
     ·rw [trs_nil,oPs_nil];have:lenP (joinP k [])=0:=by unfold joinP;split <;> rfl
      have h2:tailN k []=0:=rfl;rw [this,h2];split <;> omega
    ·have hc:Post (fun (_:Tok) r=>OkT r∧wL l=(if first=true then 0 else 1)+wL r) (if first=true then PR.ok (zeroT en) l else pEat en [44] l):=by
      split
      ·exact ⟨hl,by omega⟩
      ·exact eat_post en 44 hl
     refine hc.then fun _ r ⟨hr,hw⟩=>?_
     refine (ih.one k r d hk hd hr).then fun a r1 ha=>?_
     refine (ih.list k up false r1 d hk hd ha.good).then fun b r2 hb=>?_
     exact list_back hk ha hb hw
structure BkS (x:Nd) (l r:List Tok) (d:Nat):Prop where
 ok:mS x.tr=true
 deep:oD x.tr+d≤60
 len:∀ n,n≤d→lenP (oP n x.tr)+61+32 * wL r≤32 * wL l
 good:OkT r
 size:sz x.tr+4 * wL r≤4 * wL l
structure BkB (x:Nd) (l r:List Tok) (d:Nat):Prop where
 ok:mB x.tr=true
 deep:oD x.tr+d≤60
 len:∀ n,n≤d→lenP (oP n x.tr)+1+32 * wL r≤32 * wL l
 good:OkT r
 size:sz x.tr+4 * wL r≤4 * wL l
structure BkSs (a:List Nd) (l r:List Tok) (d:Nat):Prop where
 ok:(Nd.trs a).all mS=true
 deep:maxL (oDs (Nd.trs a))+d≤60
 len:∀ n,n≤d→lenP (linesJ n (oPs n (Nd.trs a)))+32 * wL r≤32 * wL l
 good:OkT r
 size:szs (Nd.trs a)+4 * wL r≤4 * wL l
theorem lenP_line (n:Nat) (a:List Piece) (s:List (List Piece)):lenP (linesJ n (a::s))≤n+lenP a+1+lenP (linesJ n s):=by
 show lenP (tabsP n++(a++nl::linesJ n s))≤_;have:=lenP_tabs n (a++nl::linesJ n s);rw [lenP_app a,lenP_nl] at this;omega
structure StmtQ (en:Pl) (f:Nat):Prop where
 block:∀ l d,d≤60→OkT l→Post (fun x r=>BkB x l r d) (pBlock en f l d)
 stmt:∀ l d,d≤60→OkT l→Post (fun x r=>BkS x l r d) (pStmt en f l d)
 stmts:∀ up l d,d≤60→OkT l→Post (fun a r=>BkSs a l r d) (pStmts en f up l d)
theorem mx2 (x y:Tr):maxL (oDs [x,y])=max (oD x) (oD y):=by
 rw [oDs_cons,oDs_cons,oDs_nil];show max (oD x) (max (oD y) 0)=_;omega
theorem mx3 (x y z:Tr):maxL (oDs [x,y,z])=max (oD x) (max (oD y) (oD z)):=by
 rw [oDs_cons,oDs_cons,oDs_cons,oDs_nil];show max (oD x) (max (oD y) (max (oD z) 0))=_;omega
theorem mx1 (x:Tr):maxL (oDs [x])=oD x:=by
 rw [oDs_cons,oDs_nil];show max (oD x) 0=_;omega
theorem for_back {t:List UInt8} {p:Pl} {x y:Nd} {l l1 l2 r:List Tok} {d:Nat} (ht:nameS t=true) (h1:wL l=5+t.length+wL l1) (hx:BkE false x l1 l2 d) (hy:BkB y l2 r d):BkS (.mk 4 t p [x,y]) l r d:=by
 have e:(Nd.mk 4 t p [x,y]).tr=.mk 4 t [x.tr,y.tr]:=by rw [node_tr,trs_two];rfl
 have hxd:oD x.tr+d≤60:=hx.deep;refine ⟨?_,?_,fun n hn=>?_,hy.good,by rw [e,sz_mk,szs_two];have:=hx.size;have:=hy.size;omega⟩
 ·rw [e,mS_4,ht];show (true && (mE x.tr && mB y.tr))=true;rw [hx.ok,hy.ok];rfl
 ·rw [e,oD_one 4 (by decide) (by decide),mx2];have:=hy.deep;omega
 ·rw [e,oP_mk,oPs_cons,oPs_cons,oPs_nil];show lenP ((1,wFor)::sp::(1,t)::sp::(1,wIn)::sp::(oP n x.tr++sp::oP n y.tr))+_+_≤_;rw [lenP_word,lenP_sp,lenP_word,lenP_sp,lenP_word,lenP_sp,lenP_app,lenP_sp];have h2:=hx.len n;rw [brk_false] at h2;have h3:=hy.len n hn;have:wFor.length=3:=rfl;have:wIn.length=2:=rfl;omega
theorem if_back {p:Pl} {x y:Nd} {u:List Nd} {l l1 l2 l3 r:List Tok} {d:Nat} (h1:wL l=2+wL l1) (hx:BkE false x l1 l2 d) (hy:BkB y l2 l3 d) (hu:u=[]∧l3=r∨∃ z l4,u=[z]∧wL l3=4+wL l4∧BkB z l4 r d):BkS (.mk 5 [] p (x::y::u)) l r d:=by
 have hxd:oD x.tr+d≤60:=hx.deep;rcases hu with ⟨rfl,rfl⟩ | ⟨z,l4,rfl,h4,hz⟩
 ·have e:(Nd.mk 5 [] p [x,y]).tr=.mk 5 [] [x.tr,y.tr]:=by rw [node_tr,trs_two];rfl
  refine ⟨?_,?_,fun n hn=>?_,hy.good,by rw [e,sz_mk,szs_two];have:=hx.size;have:=hy.size;simp only [List.length_nil];omega⟩
  ·rw [e,mS_5];show (true && (mE x.tr && mB y.tr))=true;rw [hx.ok,hy.ok];rfl
  ·rw [e,oD_one 5 (by decide) (by decide),mx2];have:=hy.deep;omega
  ·rw [e,oP_mk,oPs_cons,oPs_cons,oPs_nil];show lenP ((1,wIf)::sp::(oP n x.tr++sp::(oP n y.tr++[])))+_+_≤_;rw [lenP_word,lenP_sp,lenP_app,lenP_sp,List.append_nil];have h2:=hx.len n;rw [brk_false] at h2;have h3:=hy.len n hn;have:wIf.length=2:=rfl;omega
 ·have e:(Nd.mk 5 [] p [x,y,z]).tr=.mk 5 [] [x.tr,y.tr,z.tr]:=by rw [node_tr,trs_cons,trs_two];rfl
  refine ⟨?_,?_,fun n hn=>?_,hz.good,by rw [e,sz_mk,szs_cons,szs_two];have:=hx.size;have:=hy.size;have:=hz.size;simp only [List.length_nil];omega⟩
  ·rw [e,mS_5];show (true && (mE x.tr && mB y.tr && mB z.tr))=true;rw [hx.ok,hy.ok,hz.ok];rfl
  ·rw [e,oD_one 5 (by decide) (by decide),mx3];have:=hy.deep;have:=hz.deep;omega
  ·rw [e,oP_mk,oPs_cons,oPs_cons,oPs_cons,oPs_nil];show lenP ((1,wIf)::sp::(oP n x.tr++sp::(oP n y.tr++(sp::(1,wElse)::sp::oP n z.tr))))+_+_≤_;rw [lenP_word,lenP_sp,lenP_app,lenP_sp,lenP_app,lenP_sp,lenP_word,lenP_sp];have h2:=hx.len n;rw [brk_false] at h2;have h3:=hy.len n hn;have h4:=hz.len n hn;have:wIf.length=2:=rfl;have:wElse.length=4:=rfl;omega
theorem ruleM_app {ps:List Tr} {b:Tr} (h1:ps.all mP=true) (h2:mB b=true):ruleM (ps++[b])=true:=by
 unfold ruleM;rw [List.getLast?_concat,List.dropLast_concat];simp only;rw [h1,h2];rfl
theorem rule_back {t:List UInt8} {p:Pl} {a:List Nd} {y:Nd} {l l1 l2 l3 r:List Tok} {d:Nat} (ht:nameS t=true) (h1:wL l=5+t.length+wL l1) (ha:BkL 0 true a l1 l2 d) (h2:wL l2=1+wL l3) (hy:BkB y l3 r d):BkS (.mk 6 t p (a++[y])) l r d:=by
 have e:(Nd.mk 6 t p (a++[y])).tr=.mk 6 t (Nd.trs a++[y.tr]):=by rw [node_tr,trs_app,trs_one];rfl
 refine ⟨?_,?_,fun n hn=>?_,hy.good,by rw [e,sz_mk,szs_app,szs_one];have:=ha.size;have:=hy.size;omega⟩
 ·rw [e,mS_6,ht,ruleM_app ((all_of_kind ha.ok).1 rfl) hy.ok];rfl
 ·rw [e,oD_one 6 (by decide) (by decide),oDs_app,maxL_app,mx1];have:=ha.deep;have:=hy.deep;omega
 ·rw [e,oP_mk];show lenP ((1,wRule)::sp::(1,t)::sg 40::(commaJ (oPs n (Nd.trs a++[y.tr])).dropLast++sg 41::sp::(oPs n (Nd.trs a++[y.tr])).getLastD []))+_+_≤_;rw [oPs_app,oPs_cons,oPs_nil,List.dropLast_concat];have e2:(oPs n (Nd.trs a)++[oP n y.tr]).getLastD []=oP n y.tr:=by simp [List.getLastD_eq_getLast?]
  rw [e2,lenP_word,lenP_sp,lenP_word,lenP_sg,lenP_app,lenP_sg,lenP_sp];have h3:=ha.len n;rw [if_pos rfl] at h3;have h3:lenP (commaJ (oPs n (Nd.trs a)))+3 * wL l2≤3 * wL l1:=h3;have h4:=hy.len n hn;have:wRule.length=4:=rfl;omega
theorem assign_back {t:List UInt8} {p:Pl} {x:Nd} {l l1 l2 r:List Tok} {d:Nat} (ht:nameS t=true) (hn:1≤t.length) (h1:wL l=t.length+1+wL l1) (hx:BkE false x l1 l2 d) (h2:wL l2=1+wL r) (hr:OkT r):BkS (.mk 2 t p [x]) l r d:=by
 have e:(Nd.mk 2 t p [x]).tr=.mk 2 t [x.tr]:=by rw [node_tr,trs_one];rfl
 have hxd:oD x.tr+d≤60:=hx.deep;refine ⟨?_,?_,fun n hn=>?_,hr,by rw [e,sz_mk,szs_one];have:=hx.size;omega⟩
 ·rw [e,mS_2,ht];show (true && mE x.tr)=true;rw [hx.ok];rfl
 ·rw [e,oD_one 2 (by decide) (by decide),mx1];exact hxd
 ·rw [e,oP_mk,oPs_cons,oPs_nil];show lenP ((1,t)::sp::sg 61::sp::(oP n x.tr++[sg 59]))+_+_≤_;rw [lenP_word,lenP_sp,lenP_sg,lenP_sp,lenP_app,lenP_sg,lenP_nil];have h3:=hx.len n;rw [brk_false] at h3;omega
theorem do_back {p:Pl} {x:Nd} {l l2 r:List Tok} {d:Nat} (hk:x.tr.kd=14) (hx:BkE false x l l2 d) (h3:∀ n,lenP (oP n x.tr)+6+3 * wL l2≤3 * wL l) (h2:wL l2=1+wL r) (hr:OkT r):BkS (.mk 3 [] p [x]) l r d:=by
 have e:(Nd.mk 3 [] p [x]).tr=.mk 3 [] [x.tr]:=by rw [node_tr,trs_one];rfl
 have hxd:oD x.tr+d≤60:=hx.deep;refine ⟨?_,?_,fun n hn=>?_,hr,by rw [e,sz_mk,szs_one];have:=hx.size;simp only [List.length_nil];omega⟩
 ·rw [e,mS_3];show (true && (x.tr.kd == 14 && mE x.tr))=true;rw [hx.ok,hk];rfl
 ·rw [e,oD_one 3 (by decide) (by decide),mx1];exact hxd
 ·rw [e,oP_mk,oPs_cons,oPs_nil];show lenP (oP n x.tr++[sg 59])+_+_≤_;rw [lenP_app,lenP_sg,lenP_nil];have:=h3 n;omega
theorem stmt_back (en:Pl):∀ f,StmtQ en f
 | 0=>⟨fun _ _ _ _=>by rw [pBlock];trivial,fun _ _ _ _=>by rw [pStmt];trivial,fun _ _ _ _ _=>by rw [pStmts];trivial⟩
 | f+1=>by
   have ih:=stmt_back en f;have ie:=expr_back en f;refine ⟨?_,?_,?_⟩
   ·intro l d hd hl;rw [pBlock];refine (open_post en _ d l).then fun t r ⟨h,h6,e⟩=>?_
    subst e;refine (ih.stmts true r (d+1) (by omega) hl.tail).then fun a r1 ha=>?_
    refine (eat_post en 125 ha.good).then fun _ r2 ⟨hr2,hw2⟩=>?_
    have hw:wL (t::r)=1+wL r:=sign_w h;have e:(Nd.mk 8 [] t.2.2 a).tr=.mk 8 [] (Nd.trs a):=node_tr 8 _ _ _;refine ⟨?_,?_,fun n hn=>?_,hr2,by rw [e,sz_mk];have:=ha.size;simp only [List.length_nil];omega⟩
    ·rw [e,mB_8,ha.ok];rfl
    ·have e2:oD (.mk 8 [] (Nd.trs a))=maxL (oDs (Nd.trs a))+1:=by rw [oD_mk];rfl
     rw [e,e2];have:=ha.deep;omega
    ·rw [e,oP_mk];show lenP (sg 123::nl::(linesJ (n+1) (oPs (n+1) (Nd.trs a))++(tabsP n++[sg 125])))+_+_≤_;rw [lenP_sg,lenP_nl,lenP_app];have h1:=lenP_tabs n [sg 125];have h2:lenP [sg 125]=1:=rfl;have:=ha.len (n+1) (by omega);omega
   ·intro l d hd hl;rw [pStmt];split
    ·rename_i h;refine (take_post en true l).then fun t r ⟨_,e⟩=>?_
     subst e;have hw:wL (t::r)=3+wL r:=word_w h;refine (take_post en _ r).then fun n r1 ⟨h1,e⟩=>?_
     subst e;obtain ⟨n1,n2,n3⟩:=name_ok hl.tail h1;refine (take_post en _ r1).then fun t2 r2 ⟨h2,e⟩=>?_
     subst e;have hw2:wL (t2::r2)=2+wL r2:=word_w h2;refine (ie.expr r2 d hd hl.tail.tail.tail).then fun x r3 hx=>?_
     refine (ih.block r3 d hd hx.good).then fun y r4 hy=>?_
     exact for_back n1 (by rw [hw,wL_cons,n2,hw2];omega) hx hy
    split
    ·rename_i h;refine (take_post en true l).then fun t r ⟨_,e⟩=>?_
     subst e;have hw:wL (t::r)=2+wL r:=word_w h;refine (ie.expr r d hd hl.tail).then fun x r1 hx=>?_
     refine (ih.block r1 d hd hx.good).then fun y r2 hy=>?_
     split
     ·rename_i h3;refine (take_post en true r2).then fun t3 r3 ⟨_,e⟩=>?_
      subst e;have hw3:wL (t3::r3)=4+wL r3:=word_w h3;refine (ih.block r3 d hd hy.good.tail).then fun z r4 hz=>?_
      exact if_back hw hx hy (.inr ⟨z,r3,rfl,hw3,hz⟩)
     ·exact if_back hw hx hy (.inl ⟨rfl,rfl⟩)
    split
    ·rename_i h;refine (take_post en true l).then fun t r ⟨_,e⟩=>?_
     subst e;have hw:wL (t::r)=4+wL r:=word_w h;refine (take_post en _ r).then fun n r1 ⟨h1,e⟩=>?_
     subst e;obtain ⟨n1,n2,n3⟩:=name_ok hl.tail h1;refine (eat_post en 40 hl.tail.tail).then fun _ r2 ⟨hr2,hw2⟩=>?_
     refine (ie.list 0 [41] true r2 d (by omega) hd hr2).then fun a r3 ha=>?_
     refine (eat_post en 41 ha.good).then fun _ r4 ⟨hr4,hw4⟩=>?_
     refine (ih.block r4 d hd hr4).then fun y r5 hy=>?_
     exact rule_back n1 (by rw [hw,wL_cons,n2,hw2];omega) ha hw4 hy
    split
    ·refine (ie.call l d hd hl).then fun x r ⟨hk,hx,hlen⟩=>?_
     refine (eat_post en 59 hx.good).then fun _ r1 ⟨hr1,hw1⟩=>?_
     exact do_back hk hx hlen hw1 hr1
    ·refine (take_post en _ l).then fun t r ⟨h,e⟩=>?_
     subst e;obtain ⟨n1,n2,n3⟩:=name_ok hl h;refine (eat_post en 61 hl.tail).then fun _ r1 ⟨hr1,hw1⟩=>?_
     refine (ie.expr r1 d hd hr1).then fun x r2 hx=>?_
     refine (eat_post en 59 hx.good).then fun _ r3 ⟨hr3,hw3⟩=>?_
     exact assign_back n1 n3 (by rw [wL_cons,n2,hw1];omega) hx hw3 hr3
   ·intro up l d hd hl;rw [pStmts];split
    ·refine ⟨by rw [trs_nil];rfl,by rw [trs_nil,oDs_nil];show 0+d≤60;omega,fun n _=>by rw [trs_nil,oPs_nil];show 0+_≤_;omega,hl,by rw [trs_nil,szs_nil];omega⟩
    ·refine (ih.stmt l d hd hl).then fun x r hx=>?_
     refine (ih.stmts up r d hd hx.good).then fun b r1 hb=>?_
     refine ⟨?_,?_,fun n hn=>?_,hb.good,by rw [trs_cons,szs_cons];have:=hx.size;have:=hb.size;omega⟩
     ·rw [trs_cons,List.all_cons,hx.ok,hb.ok];rfl
     ·rw [trs_cons,oDs_cons];have:=hx.deep;have:=hb.deep;show max _ _+d≤60;omega
     ·rw [trs_cons,oPs_cons];have h1:=lenP_line n (oP n x.tr) (oPs n (Nd.trs b));have h2:=hx.len n hn;have h3:=hb.len n hn;omega
theorem lex_bytes:∀ (k:Nat) (s:List UInt8) (p:Pl),s.length≤k→wL (lexL p s).1≤s.length
 | _,[],p,_=>by rw [lex_nil];exact Nat.zero_le _
 | 0,c::r,p,hk=>by simp at hk
 | k+1,c::r,p,hk=>by
   obtain ⟨kd,t,n,e,hp⟩:∃ kd t n,∃ e,pieceL (c::r)=(kd,t,n,e):=⟨_,_,_,_,rfl⟩;by_cases he:e=0
   ·subst he;have hs:=piece_size hp;rw [lex_piece hp];have ih:=lex_bytes k ((c::r).drop n) (advs p ((c::r).take n)) (by simp at hk ⊢;omega);have hdl:((c::r).drop n).length=(c::r).length - n:=List.length_drop ..;unfold finT;split
    ·by_cases hkd:kd=0
     ·rw [if_pos hkd];show wL (lexL _ _).1≤_;omega
     ·rw [if_neg hkd];have:=(piece_again hp hkd []).2.1;show wL ((kd,t,p)::(lexL _ _).1)≤_;rw [wL_cons];show (writ kd t).length+_≤_;omega
    ·exact Nat.zero_le _
   ·rw [lex_bad hp he];exact Nat.zero_le _
theorem read_back {s:List UInt8} (h:s.length≤2000) {x:List Nd} {r:List Tok} (hx:readL s=.ok x r) :
  okTs (Nd.trs x)=true∧(tops (Nd.trs x)).all (fun x=>isS x.1)=true∧fileD (Nd.trs x)≤60∧(render (fileP (Nd.trs x))).length≤65536∧szs (Nd.trs x)≤8000:=by
 have ga:=all_good (s:=s) (by omega);unfold readL at hx;rw [ga] at hx;by_cases e:(lexL (1,1) s).2.1=0
 ·rw [if_pos e] at hx;have ht:OkT (lexL (1,1) s).1:=fun t ht=>⟨lex_toks s.length s (1,1) (Nat.le_refl _) t ht,by have:=lex_short s.length s (1,1) (Nat.le_refl _) t ht;omega⟩
  have hb:=(stmt_back (advs (1,1) s) (10 * (lexL (1,1) s).1.length+20)).stmts false (lexL (1,1) s).1 0 (by omega) ht;rw [hx] at hb;have hb:BkSs x (lexL (1,1) s).1 r 0:=hb;have hall:=all_ok isS (Nd.trs x);have h2:((tops (Nd.trs x)).all (fun x=>isS x.1) && okTs (Nd.trs x))=true:=by rw [hall];exact hb.ok
  simp only [Bool.and_eq_true] at h2;refine ⟨h2.2,h2.1,by have:=hb.deep;unfold fileD;omega,?_⟩;have h3:=hb.len 0 (Nat.le_refl _);have h4:=lex_bytes s.length s (1,1) (Nat.le_refl _);have h5:(render (fileP (Nd.trs x))).length=lenP (linesJ 0 (oPs 0 (Nd.trs x))):=rfl;have h6:=hb.size;exact ⟨by omega,by omega⟩
 ·rw [if_neg e] at hx;cases hx
def sumL:List Nat→Nat
 | []=>0
 | a::r=>a+sumL r
theorem sumL_app:∀ a b:List Nat,sumL (a++b)=sumL a+sumL b
 | [],b=>by show sumL b=0+sumL b;omega
 | x::a,b=>by show x+sumL (a++b)=x+sumL a+sumL b;rw [sumL_app a b];omega
def tot (n:Nat) (s:List (List Piece)):Nat:=sumL (s.map fun a=>lenP a+n+2)
theorem tot_cons (n:Nat) (a:List Piece) (s:List (List Piece)):tot n (a::s)=lenP a+n+2+tot n s:=rfl
theorem tot_nil (n:Nat):tot n []=0:=rfl
theorem tot_app (n:Nat) (a b:List (List Piece)):tot n (a++b)=tot n a+tot n b:=by unfold tot;rw [List.map_append,sumL_app]
theorem comma_len (n:Nat):∀ s:List (List Piece),lenP (commaJ s)≤tot n s
 | []=>Nat.zero_le _
 | [a]=>by show lenP a≤_;rw [tot_cons];omega
 | a::b::r=>by
   have:=comma_len n (b::r);show lenP (a++sg 44::sp::commaJ (b::r))≤_;rw [tot_cons,lenP_app,lenP_sg,lenP_sp];omega
theorem dict_len (n:Nat):∀ s:List (List Piece),lenP (dictJ s)≤tot n s
 | []=>Nat.zero_le _
 | [a]=>by show lenP a≤_;rw [tot_cons];omega
 | [a,b]=>by
   show lenP (a++sg 58::sp::b)≤_;rw [tot_cons,tot_cons,tot_nil,lenP_app,lenP_sg,lenP_sp];omega
 | a::b::c::r=>by
   have:=dict_len n (c::r);show lenP (a++sg 58::sp::(b++sg 44::sp::dictJ (c::r)))≤_;rw [tot_cons,tot_cons,lenP_app,lenP_sg,lenP_sp,lenP_app,lenP_sg,lenP_sp];omega
theorem lines_len (n:Nat):∀ s:List (List Piece),lenP (linesJ n s)≤tot n s
 | []=>Nat.zero_le _
 | a::r=>by
   have:=lines_len n r;have:=lenP_line n a r;rw [tot_cons];omega
theorem get3_len (n:Nat) (s:List (List Piece)):lenP (s.getD 0 [])+lenP (s.getD 1 [])+lenP (s.getD 2 [])≤tot n s:=by
 match s with
 | []=>exact Nat.zero_le _
 | [a]=>show lenP a+0+0≤_;rw [tot_cons];omega
 | [a,b]=>show lenP a+lenP b+0≤_;rw [tot_cons,tot_cons];omega
 | a::b::c::r=>show lenP a+lenP b+lenP c≤_;rw [tot_cons,tot_cons,tot_cons];omega
theorem last_len (n:Nat) (s:List (List Piece)):lenP (commaJ s.dropLast)+lenP (s.getLastD [])≤tot n s:=by
 by_cases h:s=[]
 ·subst h;exact Nat.zero_le _
 ·have e:s=s.dropLast++[s.getLast h]:=(List.dropLast_concat_getLast h).symm;have h1:=comma_len n s.dropLast;have h2:s.getLastD []=s.getLast h:=by
   rw [List.getLastD_eq_getLast?,List.getLast?_eq_some_getLast h];rfl
  have h3:tot n s=tot n s.dropLast+(lenP (s.getLast h)+n+2):=by
   have:=tot_app n s.dropLast [s.getLast h];rw [← e] at this;rw [this];rfl
  rw [h2];omega
theorem quote_le (t:List UInt8):(writ 3 t).length≤2 * t.length+2:=by
 show (quoteL t).length≤_;unfold quoteL;split
 ·exact Nat.zero_le _
 ·have:∀ t:List UInt8,(t.flatMap escB).length≤2 * t.length:=by
   intro t;induction t with
   | nil=>exact Nat.le_refl _
   | cons c t ih =>
     rw [List.flatMap_cons,List.length_append,List.length_cons];have h2:(escB c).length≤2:=by unfold escB;split <;> (try split) <;> simp
     omega
  have:=this t;simp only [List.length_cons,List.length_append,List.length_nil];omega
theorem put_len (n:Nat) (k:Int) (t:List UInt8) (l:List Top) (s:List (List Piece)) (h7:k=7→(l.getD 0 top0).2.length≤lenP (s.getD 0 [])):lenP (putP n k t l s)≤2 * t.length+n+30+tot (n+1) s:=by
 have h3:=get3_len (n+1) s;have hc:=comma_len (n+1) s;have hd:=dict_len (n+1) s;have hl:=lines_len (n+1) s;have hr:=last_len (n+1) s;have b0:=lenP_brk;unfold putP;by_cases e11:k=11
 ·rw [if_pos e11];rw [lenP_cons,lenP_nil];have:=quote_le t;show (writ 3 t).length+0≤_;omega
 rw [if_neg e11];by_cases e12:k=12
 ·rw [if_pos e12];rw [lenP_sg,lenP_app,lenP_sg,lenP_nil];omega
 rw [if_neg e12];by_cases e13:k=13
 ·rw [if_pos e13];rw [lenP_sg,lenP_app,lenP_sg,lenP_nil];omega
 rw [if_neg e13];by_cases e14:k=14
 ·rw [if_pos e14];rw [lenP_word,lenP_sg,lenP_app,lenP_sg,lenP_nil];omega
 rw [if_neg e14];by_cases e15:k=15
 ·rw [if_pos e15];split
  ·omega
  ·rw [lenP_word,lenP_sp,lenP_sg,lenP_sp];omega
 rw [if_neg e15];by_cases e16:k=16
 ·rw [if_pos e16];split
  ·have:=b0 (twoT (l.getD 0 top0)) (s.getD 0 []);rw [lenP_word,lenP_sp];show 3+_≤_;omega
  ·have:=b0 (brk0 (l.getD 0 top0)) (s.getD 0 []);have:=b0 (brk1 t (l.getD 1 top0)) (s.getD 1 []);rw [lenP_app,lenP_sp,lenP_op,lenP_sp];omega
 rw [if_neg e16];by_cases e7:k=7
 ·rw [if_pos e7];have h7:=h7 e7;rw [lenP_word,lenP_sg,lenP_sp,lenP_word];split
  ·rw [lenP_sp,lenP_sg,lenP_sp];omega
  ·rw [lenP_nil];omega
 rw [if_neg e7];by_cases e8:k=8
 ·rw [if_pos e8];rw [lenP_sg,lenP_nl,lenP_app];have:=lenP_tabs n [sg 125];have h2:lenP [sg 125]=1:=rfl;omega
 rw [if_neg e8];by_cases e2:k=2
 ·rw [if_pos e2];rw [lenP_word,lenP_sp,lenP_sg,lenP_sp,lenP_app,lenP_sg,lenP_nil];omega
 rw [if_neg e2];by_cases e3:k=3
 ·rw [if_pos e3];rw [lenP_app,lenP_sg,lenP_nil];omega
 rw [if_neg e3];by_cases e4:k=4
 ·rw [if_pos e4];rw [lenP_word,lenP_sp,lenP_word,lenP_sp,lenP_word,lenP_sp,lenP_app,lenP_sp];show 3+(1+(_+(1+(2+_))))≤_;omega
 rw [if_neg e4];by_cases e5:k=5
 ·rw [if_pos e5];rw [lenP_word,lenP_sp,lenP_app,lenP_sp,lenP_app];show 2+_≤_;split
  ·rw [lenP_sp,lenP_word,lenP_sp];show 2+(1+(_+(1+(_+(1+(4+_))))))≤_;omega
  ·rw [lenP_nil];omega
 rw [if_neg e5];by_cases e6:k=6
 ·rw [if_pos e6];rw [lenP_word,lenP_sp,lenP_word,lenP_sg,lenP_app,lenP_sg,lenP_sp];show 4+_≤_;omega
 rw [if_neg e6];by_cases e10:k=10
 ·rw [if_pos e10];rw [lenP_cons,lenP_nil];show t.length+0≤_;omega
 rw [if_neg e10];rw [lenP_word,lenP_nil];omega
theorem par_first {t:List UInt8} {l:List Tr} (h:shape 7 t (tops l)=true) (hok:okTs l=true) (n:Nat):((tops l).getD 0 top0).2.length≤lenP ((oPs n l).getD 0 []):=by
 have h':(nameS t && paramB (tops l))=true:=h;simp only [Bool.and_eq_true] at h';cases l with
 | nil=>exact absurd h'.2 (by decide)
 | cons a u =>
   have ha:a.kd=9:=by
    have h2:=h'.2;rcases u with _ | ⟨b,u⟩
    ·have h2:(a.kd == 9 && typeB a.tx)=true:=h2;simp only [Bool.and_eq_true,beq_iff_eq] at h2;exact h2.1
    ·rcases u with _ | ⟨c,u⟩
     ·have h2:(a.kd == 9 && typeB a.tx && isE b.kd)=true:=h2;simp only [Bool.and_eq_true,beq_iff_eq] at h2;exact h2.1.1
     ·cases h2
   cases a with
   | mk k ty al =>
     have ha:k=9:=ha;subst ha;rw [oPs_cons,oP_mk];show ty.length≤lenP [(1,ty)];rw [lenP_word];omega
mutual
theorem oP_len:∀ (x:Tr) (n K:Nat),okT x=true→n+sz x+40≤K→lenP (oP n x)+K≤2 * K * sz x
 | .mk k t l,n,K,h,hK=>by
   rw [okT_mk] at h;simp only [Bool.and_eq_true] at h;rw [sz_mk] at hK ⊢;have h1:=put_len n k t (tops l) (oPs (if k=8 then n+1 else n) l) (fun e=>by subst e;exact par_first h.1 h.2 _);have h2:=oPs_len l (if k=8 then n+1 else n) (n+1) K h.2 (by split <;> omega) (by omega);rw [oP_mk,Nat.mul_add,Nat.mul_add];have h3:t.length≤K * t.length:=Nat.le_mul_of_pos_left _ (by omega);have h4:2 * K * t.length=2 * (K * t.length):=Nat.mul_assoc ..;omega
theorem oPs_len:∀ (l:List Tr) (n m K:Nat),okTs l=true→n+szs l+40≤K→m+3≤K→tot m (oPs n l)≤2 * K * szs l
 | [],n,m,K,_,_,_=>by rw [oPs_nil];exact Nat.zero_le _
 | x::r,n,m,K,h,hK,hm=>by
   rw [okTs_cons] at h;simp only [Bool.and_eq_true] at h;rw [szs_cons] at hK ⊢;have h1:=oP_len x n K h.1 (by omega);have h2:=oPs_len r n m K h.2 (by omega) hm;rw [oPs_cons,tot_cons,Nat.mul_add];omega
end
theorem file_len {l:List Tr} (h:okTs l=true) (hs:szs l≤10000):(render (fileP l)).length≤140737488351232:=by
 have h1:=lines_len 0 (oPs 0 l);have h2:=oPs_len l 0 0 20000 h (by omega) (by omega);have h3:(render (fileP l)).length=lenP (linesJ 0 (oPs 0 l)):=rfl;omega
mutual
theorem weight_sz:∀ (x:Tr) (d:Nat),weightN x d≤4000→sz x≤4000
 | .mk k t l,d,h=>by
   rw [weightN_mk] at h;split at h
   ·omega
   ·have:=weights_sz l d _ h;rw [sz_mk];omega
theorem weights_sz:∀ (l:List Tr) (d s:Nat),weightNs l d s≤4000→s+szs l≤4000
 | [],d,s,h=>by rw [weightNs_nil] at h;rw [szs_nil];omega
 | x::r,d,s,h=>by
   rw [weightNs_cons] at h;split at h
   ·omega
   ·have h1:=weightNs_ge h;have h2:=weight_sz1 x (d+1) (s+weightN x (d+1)) (by omega);have h3:=weights_sz r d _ h;rw [szs_cons];omega
theorem weight_sz1:∀ (x:Tr) (d _s:Nat),weightN x d≤4000→sz x≤weightN x d
 | .mk k t l,d,_s,h=>by
   rw [weightN_mk] at h ⊢;split at h
   ·omega
   ·rename_i hn;rw [if_neg hn];have:=weights_sz1 l d (1+t.length) h;rw [sz_mk];omega
theorem weights_sz1:∀ (l:List Tr) (d s:Nat),weightNs l d s≤4000→s+szs l≤weightNs l d s
 | [],d,s,h=>by rw [weightNs_nil,szs_nil];omega
 | x::r,d,s,h=>by
   rw [weightNs_cons] at h ⊢;split at h
   ·omega
   ·rename_i hn;rw [if_neg hn];have h1:=weightNs_ge h;have h2:=weight_sz1 x (d+1) 0 (by omega);have h3:=weights_sz1 r d _ h;rw [szs_cons];omega
end
mutual
theorem sz_fit:∀ (x:NM),sz x.tr≤90000→x.fit∧x.hi≤sz x.tr
 | .mk k t l c ks a m,h=>by
   rw [ntr_mk,sz_mk] at h ⊢;have h1:=szs_fit ks (by omega);unfold NM.fit;rw [hi_mk];have h2:=szs_ge ks;exact ⟨⟨by omega,by omega,h1.1⟩,by have:=h1.2;omega⟩
theorem szs_fit:∀ (ks:List NM),szs (NM.trs ks)≤90000→NM.fits ks∧NM.his ks≤szs (NM.trs ks)
 | [],_=>by unfold NM.fits;rw [NM.his];exact ⟨trivial,Nat.zero_le _⟩
 | x::r,h=>by
   rw [ntrs_cons,szs_cons] at h ⊢;have h1:=sz_fit x (by omega);have h2:=szs_fit r (by omega);unfold NM.fits;rw [NM.his];exact ⟨⟨h1.1,h2.1⟩,by have:=h1.2;have:=h2.2;omega⟩
theorem szs_ge:∀ (ks:List NM),ks.length≤szs (NM.trs ks)
 | []=>Nat.zero_le _
 | x::r=>by
   rw [ntrs_cons,szs_cons,List.length_cons];have:=szs_ge r;have:1≤sz x.tr:=by cases x with | mk k t l c ks a m=>rw [ntr_mk,sz_mk];omega
   omega
end
theorem print_is {l:List Tr} (hk:(tops l).all (fun x=>isS x.1)=true) (h:okTs l=true) :
  printL (.mk 1 [] l)=if fileD l≤60∧(render (fileP l)).length≤65536 then (render (fileP l),0) else ([],6):=by
 have hok:okFile (.mk 1 [] l)=true:=by show (decide ((1:Int)=1) && true && (tops l).all (fun x=>isS x.1) && okTs l)=true;rw [hk,h];rfl
 unfold printL;rw [if_pos hok];show (match readL (render (fileP l)) with | .bad e _=>if e=0 then (render (fileP l),0) else ([],e) | _=>(render (fileP l),0))=_;have ht:=read_there hk h;by_cases hc:fileD l≤60∧(render (fileP l)).length≤65536
 ·obtain ⟨z,r,e,_⟩:=ht.1 hc;rw [e,if_pos hc]
 ·obtain ⟨p,e⟩:=ht.2 hc;rw [e,if_neg hc];rfl
theorem print_back {x:Tr} (h:(printL x).2=0):∃ l z r,x=.mk 1 [] l∧okTs l=true∧(tops l).all (fun x=>isS x.1)=true∧readL (printL x).1=.ok z r∧Nd.trs z=l∧(printL x).1.length≤65536:=by
 cases hok:okFile x with
 | false =>
   unfold printL at h;rw [hok] at h;simp at h
 | true =>
   cases x with
   | mk k t l =>
     have h':(decide (k=1) && t.isEmpty && (tops l).all (fun x=>isS x.1) && okTs l)=true:=hok;simp only [Bool.and_eq_true,decide_eq_true_eq,List.isEmpty_iff] at h';obtain ⟨⟨⟨rfl,rfl⟩,h3⟩,h4⟩:=h';rw [print_is h3 h4] at h ⊢;by_cases hc:fileD l≤60∧(render (fileP l)).length≤65536
     ·rw [if_pos hc];obtain ⟨z,r,e,hz⟩:=(read_there h3 h4).1 hc;exact ⟨l,z,r,rfl,h4,h3,e,hz,hc.2⟩
     ·rw [if_neg hc] at h;simp at h
end Go.Proofs.YtfgiihpopngbkaaGreatDoor
