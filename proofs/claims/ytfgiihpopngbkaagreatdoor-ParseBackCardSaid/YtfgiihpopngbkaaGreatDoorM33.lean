/- Lemmas and walks that the statement needs: ThereS, Back. -/
import Derived.Test.YtfgiihpopngbkaaGreatDoorM32
namespace Go.Proofs.YtfgiihpopngbkaaGreatDoor
set_option maxRecDepth 100000
open Go.RowKit
open Nat renaming lt_of_lt_of_le→nL,le_trans→nT
structure AllS (x:Tr):Prop where
 block:x.kd=8→∀ n r d,d≤60→Ev (fun f=>pBlock O2 f (zt (oP n x)++r) d) (res (oD x+d) (.ok (nd x) r))
 blockh:x.kd=8→∀ n r,Fol (zt (oP n x)++r)
 stmt:isS x.kd=true→∀ n r d,d≤60→wordB r wElse=false→Ev (fun f=>pStmt O2 f (zt (oP n x)++r) d) (res (oD x+d) (.ok (nd x) r))
 head:isS x.kd=true→∀ n,∃ t u,zt (oP n x)=(1,t,(0,0))::u∧t≠wElse
theorem sign_word {r:List Tok} {_n:Nat} {s t:List UInt8} (h:signB r 0 s=true):wordB r t=false:=by
 unfold signB at h;simp only [Bool.and_eq_true,beq_iff_eq] at h;unfold wordB;rw [h.1];rfl
theorem lines_toks (n:Nat) (a:List Piece) (s:List (List Piece)):zt (linesJ n (a::s))=zt a++zt (linesJ n s):=by
 show zt (tabsP n++(a++nl::linesJ n s))=_;rw [zt_tabs,zt_app,zt_nl]
theorem stmts_ev {up:Bool} {r:List Tok} (hr:r=[]∨(up=true∧signB r 0 [125]=true)) {d:Nat} (hd:d≤60) (n:Nat):∀ l:List Tr,(∀ a ∈ l,isS a.kd=true∧AllS a) →
  Ev (fun f=>pStmts O2 f up (zt (linesJ n (oPs n l))++r) d) (res (maxL (oDs l)+d) (.ok (nds l) r))
 | [],_=>by
   rw [oPs_nil,oDs_nil,nds_nil,res_pos (by simpa [maxL] using hd)];refine Ev.step (g:=fun _=>.ok [] r) (fun f=>?_) (Ev.const _);show pStmts O2 (f+1) up r d=_;rw [pStmts,if_pos hr]
 | a::l,h=>by
   obtain ⟨ha,hA⟩:=h a (List.mem_cons_self ..);have ih:=stmts_ev hr hd n l fun b hb=>h b (List.mem_cons_of_mem _ hb)
   rw [oPs_cons,oDs_cons,nds_cons,lines_toks,List.append_assoc];have hm:maxL (oD a::oDs l)=max (oD a) (maxL (oDs l)):=rfl;rw [hm];obtain ⟨t,u,e,he⟩:=hA.head ha n;have hw:wordB (zt (linesJ n (oPs n l))++r) wElse=false:=by
    cases l with
    | nil =>
      rw [oPs_nil];show wordB r wElse=false;rcases hr with rfl | ⟨_,h2⟩
      ·rfl
      ·exact sign_word (_n:=0) h2
    | cons b l =>
      obtain ⟨hb,hB⟩:=h b (by simp);obtain ⟨t2,u2,e2,he2⟩:=hB.head hb n;rw [oPs_cons,lines_toks,e2];show wordB ((1,t2,(0,0))::_) wElse=false;rw [wrd0];simpa using he2
   refine Ev.step (g:=fun f=>(pStmt O2 f (zt (oP n a)++(zt (linesJ n (oPs n l))++r)) d).then fun a r=>(pStmts O2 f up r d).then fun b r=>.ok (a::b) r) (fun f=>?_) ?_
   ·rw [pStmts,if_neg];rw [e];rintro (h | ⟨_,h⟩)
    ·cases h
    ·rw [List.cons_append,sgn0] at h;cases h
   ·refine Ev.fit (hA.stmt ha n _ d hd hw) (fun h1=>?_) fun h1=>res_neg (by omega)
    refine Ev.fit ih (fun h2=>?_) fun h2=>res_neg (by omega)
    rw [res_pos (by omega)];exact Ev.const _
theorem s_block (t:List UInt8) (l:List Tr) (h:shape 8 t (tops l)=true) (hl:∀ a ∈ l,AllS a):AllS (.mk 8 t l):=by
 have h':(t.isEmpty && (tops l).all (fun x=>isS x.1))=true:=h;simp only [Bool.and_eq_true] at h';obtain ⟨h1,h2⟩:=h';obtain rfl:=nil_of h1;have hk:=kd_all h2;have e:∀ n r,zt (oP n (.mk 8 [] l))++r=(4,[123],(0,0))::(zt (linesJ (n+1) (oPs (n+1) l))++(4,[125],(0,0))::r):=fun n r=>by
  rw [oP_mk];show zt (sg 123::nl::(linesJ (n+1) (oPs (n+1) l)++(tabsP n++[sg 125])))++r=_;rw [zt_sg,zt_nl,zt_app,zt_tabs,zt_sg,zt_nil];simp
 have hn:nd (.mk 8 [] l)=.mk 8 [] (0,0) (nds l):=by rw [nd_mk];rfl
 have hD:oD (.mk 8 [] l)=maxL (oDs l)+1:=by rw [oD_mk];rfl
 refine ⟨fun _ n r d hd=>?_,fun _ n r=>by rw [e];exact fol_sign (by simp) _ _,fun h=>(by first | exact kno h (by decide) | exact knoE h (by decide) | exact knoS h (by decide)),fun h=>(by first | exact kno h (by decide) | exact knoE h (by decide) | exact knoS h (by decide))⟩;rw [e,hn,hD];refine Ev.step (g:=fun f=>(pOpen O2 true d ((4,[123],(0,0))::(zt (linesJ (n+1) (oPs (n+1) l))++(4,[125],(0,0))::r))).then fun _ _=>(pStmts O2 f true (zt (linesJ (n+1) (oPs (n+1) l))++(4,[125],(0,0))::r) (d+1)).then fun k r=>(pEat O2 [125] r).then fun _ r=>.ok (.mk 8 [] (0,0) k) r) (fun f=>?_) ?_
 ·rw [pBlock,sgn0];show (pOpen O2 true d _).then _=_;rw [open_eq];by_cases h6:60≤d
  ·rw [if_pos h6];rfl
  ·rw [if_neg h6];rfl
 ·exact in_ev fun h6=>stmts_ev (.inr ⟨rfl,rfl⟩) h6 (n+1) l (fun a ha=>⟨hk a ha,hl a ha⟩)
theorem one_of {l:List Tr} (h:oneE (tops l)=true):∃ a,l=[a]∧isE a.kd=true:=by
 match l,h with
 | [a],h=>exact ⟨a,rfl,h⟩
theorem res_words {t:List UInt8} (h:reservedB t=false):(t == wFor)=false∧(t == wIf)=false∧(t == wRule)=false∧t≠wElse:=by
 unfold reservedB at h;simp only [Bool.or_eq_false_iff] at h;obtain ⟨⟨⟨⟨⟨h1,h2⟩,h3⟩,h4⟩,h5⟩,h6⟩:=h;exact ⟨h1,h3,h5,by simpa using h4⟩
theorem s_assign (t:List UInt8) (l:List Tr) (h:shape 2 t (tops l)=true) (he:∀ a ∈ l,AllE a):AllS (.mk 2 t l):=by
 have h':(nameS t && oneE (tops l))=true:=h;simp only [Bool.and_eq_true] at h';obtain ⟨h1,h2⟩:=h';obtain ⟨a,rfl,hk⟩:=one_of h2;have hres:=name_res h1;obtain ⟨w1,w2,w3,w4⟩:=res_words hres;have ha:=he a (List.mem_cons_self ..);have e:∀ n,zt (oP n (.mk 2 t [a]))=(1,t,(0,0))::(4,[61],(0,0))::(zt (oP n a)++[(4,[59],(0,0))]):=fun n=>by
  rw [oP_mk,oPs_cons,oPs_nil];show zt ((1,t)::sp::sg 61::sp::(oP n a++[sg 59]))=_;rw [zt_tok _ (by decide),zt_sp,zt_sg,zt_sp,zt_app];rfl
 have hn:nd (.mk 2 t [a])=.mk 2 t (0,0) [nd a]:=by rw [nd_mk,nds_cons,nds_nil];rfl
 have hD:oD (.mk 2 t [a])=oD a:=by
  rw [oD_mk,oDs_cons,oDs_nil];show max (oD a) 0=_;omega
 refine ⟨fun h=>(by first | exact kno h (by decide) | exact knoE h (by decide) | exact knoS h (by decide)),fun h=>(by first | exact kno h (by decide) | exact knoE h (by decide) | exact knoS h (by decide)),fun _ n r d hd hr=>?_,fun _ n=>⟨_,_,e n,w4⟩⟩;rw [e,hn,hD];have e2:(1,t,(0,0))::(4,[61],(0,0))::(zt (oP n a)++[(4,[59],(0,0))])++r=(1,t,(0,0))::(4,[61],(0,0))::(zt (oP n a)++(4,[59],(0,0))::r):=by simp
 rw [e2];refine Ev.step (g:=fun f=>(pExpr O2 f (zt (oP n a)++(4,[59],(0,0))::r) d).then fun x r=>(pEat O2 [59] r).then fun _ r=>.ok (.mk 2 t (0,0) [x]) r) (fun f=>?_) ?_
 ·rw [pStmt];simp only [wrd0,nam0,sgn1,sgn0,hres,w1,w2,w3];rfl
 ·refine Ev.fit (ha.e hk n _ d hd (fol_sign (by simp) _ _)) (fun h1=>?_) fun h1=>res_neg h1
  rw [eat_eq,res_pos h1];exact Ev.const _
theorem s_do (t:List UInt8) (l:List Tr) (h:shape 3 t (tops l)=true) (he:∀ a ∈ l,AllE a):AllS (.mk 3 t l):=by
 have h':(t.isEmpty && (match tops l with | [a]=>a.1 == 14 | _=>false))=true:=h;simp only [Bool.and_eq_true] at h';obtain ⟨h1,h2⟩:=h';obtain rfl:=nil_of h1;obtain ⟨a,rfl,hk⟩:∃ a,l=[a]∧a.kd=14:=by
  match l,h2 with
  | [a],h=>exact ⟨a,rfl,by have h:(a.kd == 14)=true:=h;simpa using h⟩
 have ha:=he a (List.mem_cons_self ..);have e:∀ n,zt (oP n (.mk 3 [] [a]))=zt (oP n a)++[(4,[59],(0,0))]:=fun n=>by
  rw [oP_mk,oPs_cons,oPs_nil];show zt (oP n a++[sg 59])=_;rw [zt_app];rfl
 have hn:nd (.mk 3 [] [a])=.mk 3 [] (0,0) [nd a]:=by rw [nd_mk,nds_cons,nds_nil];rfl
 have hD:oD (.mk 3 [] [a])=oD a:=by
  rw [oD_mk,oDs_cons,oDs_nil];show max (oD a) 0=_;omega
 refine ⟨fun h=>(by first | exact kno h (by decide) | exact knoE h (by decide) | exact knoS h (by decide)),fun h=>(by first | exact kno h (by decide) | exact knoE h (by decide) | exact knoS h (by decide)),fun _ n r d hd hr=>?_,fun _ n=>?_⟩
 ·rw [e,hn,hD,List.append_assoc];refine Ev.step (g:=fun f=>(pCall O2 f (zt (oP n a)++(4,[59],(0,0))::r) d).then fun x r=>(pEat O2 [59] r).then fun _ r=>.ok (.mk 3 [] (0,0) [x]) r) (fun f=>?_) ?_
  ·obtain ⟨t',u,e3,hres⟩:=ha.callh hk n;obtain ⟨w1,w2,w3,w4⟩:=res_words hres;show pStmt O2 (f+1) (zt (oP n a)++(4,[59],(0,0))::r) d=_;rw [e3,List.cons_append,pStmt];simp only [wrd0,nam0,sgn1,hres,w1,w2,w3,List.cons_append,sgn0];rfl
  ·refine Ev.fit (ha.call hk n _ d hd) (fun h1=>?_) fun h1=>res_neg h1
   rw [eat_eq,res_pos h1];exact Ev.const _
 ·obtain ⟨t',u,e3,hres⟩:=ha.callh hk n;exact ⟨t',_,by rw [e,e3];rfl,(res_words hres).2.2.2⟩
theorem s_for (t:List UInt8) (l:List Tr) (h:shape 4 t (tops l)=true) (he:∀ a ∈ l,AllE a) (hs:∀ a ∈ l,AllS a):AllS (.mk 4 t l):=by
 have h':(nameS t && forB (tops l))=true:=h;simp only [Bool.and_eq_true] at h';obtain ⟨h1,h2⟩:=h';obtain ⟨a,b,rfl,hk,hb8⟩:∃ a b,l=[a,b]∧isE a.kd=true∧b.kd=8:=by
  match l,h2 with
  | [a,b],h =>
    have h:(isE a.kd && b.kd == 8)=true:=h;simp only [Bool.and_eq_true,beq_iff_eq] at h;exact ⟨a,b,rfl,h.1,h.2⟩
 have hres:=name_res h1;have ha:=he a (by simp);have hb:=hs b (by simp);have e:∀ n r,zt (oP n (.mk 4 t [a,b]))++r=(1,wFor,(0,0))::(1,t,(0,0))::(1,wIn,(0,0))::(zt (oP n a)++(zt (oP n b)++r)):=fun n r=>by
  rw [oP_mk,oPs_cons,oPs_cons,oPs_nil];show zt ((1,wFor)::sp::(1,t)::sp::(1,wIn)::sp::(oP n a++sp::oP n b))++r=_;rw [zt_tok _ (by decide),zt_sp,zt_tok _ (by decide),zt_sp,zt_tok _ (by decide),zt_sp,zt_app,zt_sp];simp
 have hn:nd (.mk 4 t [a,b])=.mk 4 t (0,0) [nd a,nd b]:=by rw [nd_mk,nds_cons,nds_cons,nds_nil];rfl
 have hD:oD (.mk 4 t [a,b])=max (oD a) (oD b):=by
  rw [oD_mk,oDs_cons,oDs_cons,oDs_nil];show max (oD a) (max (oD b) 0)=_;omega
 refine ⟨fun h=>(by first | exact kno h (by decide) | exact knoE h (by decide) | exact knoS h (by decide)),fun h=>(by first | exact kno h (by decide) | exact knoE h (by decide) | exact knoS h (by decide)),fun _ n r d hd hr=>?_,fun _ n=>⟨wFor,_,by have:=e n [];rw [List.append_nil] at this;exact this,by decide⟩⟩;rw [e,hn,hD];refine Ev.step (g:=fun f=>(pExpr O2 f (zt (oP n a)++(zt (oP n b)++r)) d).then fun x r=>(pBlock O2 f r d).then fun y r=>.ok (.mk 4 t (0,0) [x,y]) r) (fun f=>?_) ?_
 ·rw [pStmt];have q:wordB ((1,wFor,(0,0))::(1,t,(0,0))::(1,wIn,(0,0))::(zt (oP n a)++(zt (oP n b)++r))) wFor=true:=rfl;rw [q,if_pos rfl];show (pTake O2 (nameB ((1,t,(0,0))::(1,wIn,(0,0))::(zt (oP n a)++(zt (oP n b)++r)))) ((1,t,(0,0))::(1,wIn,(0,0))::(zt (oP n a)++(zt (oP n b)++r)))).then _=_;rw [nam0,hres];rfl
 ·refine Ev.fit (ha.e hk n _ d hd (hb.blockh hb8 n r)) (fun h1=>?_) fun h1=>res_neg (by omega)
  refine Ev.fit (hb.block hb8 n r d hd) (fun h2=>?_) fun h2=>res_neg (by omega)
  rw [res_pos (by omega)];exact Ev.const _
theorem s_if (t:List UInt8) (l:List Tr) (h:shape 5 t (tops l)=true) (he:∀ a ∈ l,AllE a) (hs:∀ a ∈ l,AllS a):AllS (.mk 5 t l):=by
 have h':(t.isEmpty && ifB (tops l))=true:=h;simp only [Bool.and_eq_true] at h';obtain ⟨h1,h2⟩:=h';obtain rfl:=nil_of h1;obtain ⟨a,b,u,rfl,hk,hb8,hu⟩:∃ a b u,l=a::b::u∧isE a.kd=true∧b.kd=8∧(u=[]∨∃ c,u=[c]∧c.kd=8):=by
  match l,h2 with
  | [a,b],h =>
    have h:(isE a.kd && b.kd == 8)=true:=h;simp only [Bool.and_eq_true,beq_iff_eq] at h;exact ⟨a,b,[],rfl,h.1,h.2,.inl rfl⟩
  | [a,b,c],h =>
    have h:(isE a.kd && b.kd == 8 && c.kd == 8)=true:=h;simp only [Bool.and_eq_true,beq_iff_eq] at h;exact ⟨a,b,[c],rfl,h.1.1,h.1.2,.inr ⟨c,rfl,h.2⟩⟩
 have ha:=he a (by simp);have hb:=hs b (by simp);rcases hu with rfl | ⟨c,rfl,hc8⟩
 ·have e:∀ n r,zt (oP n (.mk 5 [] [a,b]))++r=(1,wIf,(0,0))::(zt (oP n a)++(zt (oP n b)++r)):=fun n r=>by
   rw [oP_mk,oPs_cons,oPs_cons,oPs_nil];show zt ((1,wIf)::sp::(oP n a++sp::(oP n b++[])))++r=_;rw [zt_tok _ (by decide),zt_sp,zt_app,zt_sp];simp
  have hn:nd (.mk 5 [] [a,b])=.mk 5 [] (0,0) [nd a,nd b]:=by rw [nd_mk,nds_cons,nds_cons,nds_nil];rfl
  have hD:oD (.mk 5 [] [a,b])=max (oD a) (oD b):=by
   rw [oD_mk,oDs_cons,oDs_cons,oDs_nil];show max (oD a) (max (oD b) 0)=_;omega
  refine ⟨fun h=>(by first | exact kno h (by decide) | exact knoE h (by decide) | exact knoS h (by decide)),fun h=>(by first | exact kno h (by decide) | exact knoE h (by decide) | exact knoS h (by decide)),fun _ n r d hd hr=>?_,fun _ n=>⟨wIf,_,by have:=e n [];rw [List.append_nil] at this;exact this,by decide⟩⟩;rw [e,hn,hD];refine Ev.step (g:=fun f=>(pExpr O2 f (zt (oP n a)++(zt (oP n b)++r)) d).then fun x r=>(pBlock O2 f r d).then fun y r =>
   if wordB r wElse=true then (pTake O2 true r).then fun _ r=>(pBlock O2 f r d).then fun z r=>.ok (.mk 5 [] (0,0) [x,y,z]) r
   else .ok (.mk 5 [] (0,0) [x,y]) r) (fun f=>?_) ?_
  ·rw [pStmt];rfl
  ·refine Ev.fit (ha.e hk n _ d hd (hb.blockh hb8 n r)) (fun h1=>?_) fun h1=>res_neg (by omega)
   refine Ev.fit (hb.block hb8 n r d hd) (fun h2=>?_) fun h2=>res_neg (by omega)
   simp only [hr,Bool.false_eq_true,if_false];rw [res_pos (by omega)];exact Ev.const _
 ·have hc:=hs c (by simp);have e:∀ n r,zt (oP n (.mk 5 [] [a,b,c]))++r=(1,wIf,(0,0))::(zt (oP n a)++(zt (oP n b)++(1,wElse,(0,0))::(zt (oP n c)++r))):=fun n r=>by
   rw [oP_mk,oPs_cons,oPs_cons,oPs_cons,oPs_nil];show zt ((1,wIf)::sp::(oP n a++sp::(oP n b++(sp::(1,wElse)::sp::oP n c))))++r=_;rw [zt_tok _ (by decide),zt_sp,zt_app,zt_sp,zt_app,zt_sp,zt_tok _ (by decide),zt_sp];simp
  have hn:nd (.mk 5 [] [a,b,c])=.mk 5 [] (0,0) [nd a,nd b,nd c]:=by rw [nd_mk,nds_cons,nds_cons,nds_cons,nds_nil];rfl
  have hD:oD (.mk 5 [] [a,b,c])=max (oD a) (max (oD b) (oD c)):=by
   rw [oD_mk,oDs_cons,oDs_cons,oDs_cons,oDs_nil];show max (oD a) (max (oD b) (max (oD c) 0))=_;omega
  refine ⟨fun h=>(by first | exact kno h (by decide) | exact knoE h (by decide) | exact knoS h (by decide)),fun h=>(by first | exact kno h (by decide) | exact knoE h (by decide) | exact knoS h (by decide)),fun _ n r d hd hr=>?_,fun _ n=>⟨wIf,_,by have:=e n [];rw [List.append_nil] at this;exact this,by decide⟩⟩;rw [e,hn,hD];refine Ev.step (g:=fun f=>(pExpr O2 f (zt (oP n a)++(zt (oP n b)++(1,wElse,(0,0))::(zt (oP n c)++r))) d).then fun x r=>(pBlock O2 f r d).then fun y r =>
   if wordB r wElse=true then (pTake O2 true r).then fun _ r=>(pBlock O2 f r d).then fun z r=>.ok (.mk 5 [] (0,0) [x,y,z]) r
   else .ok (.mk 5 [] (0,0) [x,y]) r) (fun f=>?_) ?_
  ·rw [pStmt];rfl
  ·refine Ev.fit (ha.e hk n _ d hd (hb.blockh hb8 n _)) (fun h1=>?_) fun h1=>res_neg (by omega)
   refine Ev.fit (hb.block hb8 n _ d hd) (fun h2=>?_) fun h2=>res_neg (by omega)
   show Ev (fun f=>(pBlock O2 f (zt (oP n c)++r) d).then fun z r=>PR.ok (Nd.mk 5 [] (0,0) [nd a,nd b,z]) r) _;refine Ev.fit (hc.block hc8 n r d hd) (fun h3=>?_) fun h3=>res_neg (by omega)
   rw [res_pos (by omega)];exact Ev.const _
theorem rule_of:∀ {l:List Tr},ruleB (tops l)=true→∃ ps b,l=ps++[b]∧(∀ p ∈ ps,p.kd=7)∧b.kd=8
 | [],h=>by cases h
 | [a],h=>⟨[],a,rfl,(fun _ h=>by cases h),by have h:(a.kd == 8)=true:=h;simpa using h⟩
 | a::b::r,h=>by
   have h:(a.kd == 7 && ruleB (tops (b::r)))=true:=h;simp only [Bool.and_eq_true,beq_iff_eq] at h;obtain ⟨ps,c,e,h1,h2⟩:=rule_of h.2;refine ⟨a::ps,c,by rw [e];rfl,fun p hp=>?_,h2⟩;rcases List.mem_cons.1 hp with rfl | hp
   ·exact h.1
   ·exact h1 p hp
theorem oPs_app (n:Nat) (a b:List Tr):oPs n (a++b)=oPs n a++oPs n b:=by rw [oPs_map,oPs_map,oPs_map,List.map_append]
theorem oDs_app (a b:List Tr):oDs (a++b)=oDs a++oDs b:=by rw [oDs_map,oDs_map,oDs_map,List.map_append]
theorem maxL_app:∀ a b:List Nat,maxL (a++b)=max (maxL a) (maxL b)
 | [],b=>by show maxL b=max 0 (maxL b);omega
 | x::a,b=>by
   show max x (maxL (a++b))=max (max x (maxL a)) (maxL b);rw [maxL_app a b];omega
theorem s_rule (t:List UInt8) (l:List Tr) (h:shape 6 t (tops l)=true) (he:∀ a ∈ l,AllE a) (hs:∀ a ∈ l,AllS a):AllS (.mk 6 t l):=by
 have h':(nameS t && ruleB (tops l))=true:=h;simp only [Bool.and_eq_true] at h';obtain ⟨h1,h2⟩:=h';obtain ⟨ps,b,rfl,hps,hb8⟩:=rule_of h2;have hres:=name_res h1;have hb:=hs b (by simp);have e:∀ n r,zt (oP n (.mk 6 t (ps++[b])))++r=(1,wRule,(0,0))::(1,t,(0,0))::(4,[40],(0,0))::(zt (commaJ (oPs n ps))++(4,[41],(0,0))::(zt (oP n b)++r)):=fun n r=>by
  rw [oP_mk];show zt ((1,wRule)::sp::(1,t)::sg 40::(commaJ (oPs n (ps++[b])).dropLast++sg 41::sp::(oPs n (ps++[b])).getLastD []))++r=_;rw [oPs_app,oPs_cons,oPs_nil,List.dropLast_concat,zt_tok _ (by decide),zt_sp,zt_tok _ (by decide),zt_sg,zt_app,zt_sg,zt_sp];have:(oPs n ps++[oP n b]).getLastD []=oP n b:=by simp [List.getLastD_eq_getLast?]
  rw [this];simp
 have hn:nd (.mk 6 t (ps++[b]))=.mk 6 t (0,0) (nds ps++[nd b]):=by rw [nd_mk,nds_app,nds_cons,nds_nil];rfl
 have hD:oD (.mk 6 t (ps++[b]))=max (maxL (oDs ps)) (oD b):=by
  rw [oD_mk,oDs_app,oDs_cons,oDs_nil];show maxL (oDs ps++[oD b])=_;rw [maxL_app];show max _ (max (oD b) 0)=_;omega
 refine ⟨fun h=>(by first | exact kno h (by decide) | exact knoE h (by decide) | exact knoS h (by decide)),fun h=>(by first | exact kno h (by decide) | exact knoE h (by decide) | exact knoS h (by decide)),fun _ n r d hd hr=>?_,fun _ n=>⟨wRule,_,by have:=e n [];rw [List.append_nil] at this;exact this,by decide⟩⟩;rw [e,hn,hD];refine Ev.step (g:=fun f=>(pList O2 f 0 [41] true (zt (commaJ (oPs n ps))++(4,[41],(0,0))::(zt (oP n b)++r)) d).then fun k r=>(pEat O2 [41] r).then fun _ r=>(pBlock O2 f r d).then fun y r=>.ok (.mk 6 t (0,0) (k++[y])) r) (fun f=>?_) ?_
 ·rw [pStmt];have q1:wordB ((1,wRule,(0,0))::(1,t,(0,0))::(4,[40],(0,0))::(zt (commaJ (oPs n ps))++(4,[41],(0,0))::(zt (oP n b)++r))) wFor=false:=rfl;have q2:wordB ((1,wRule,(0,0))::(1,t,(0,0))::(4,[40],(0,0))::(zt (commaJ (oPs n ps))++(4,[41],(0,0))::(zt (oP n b)++r))) wIf=false:=rfl;have q3:wordB ((1,wRule,(0,0))::(1,t,(0,0))::(4,[40],(0,0))::(zt (commaJ (oPs n ps))++(4,[41],(0,0))::(zt (oP n b)++r))) wRule=true:=rfl;simp only [q1,q2,q3,Bool.false_eq_true,if_false,if_true];show (pTake O2 (nameB ((1,t,(0,0))::(4,[40],(0,0))::(zt (commaJ (oPs n ps))++(4,[41],(0,0))::(zt (oP n b)++r)))) ((1,t,(0,0))::(4,[40],(0,0))::(zt (commaJ (oPs n ps))++(4,[41],(0,0))::(zt (oP n b)++r)))).then _=_;rw [nam0,hres];rfl
 ·refine Ev.fit (comma_ev (by simp) hd (fun a ha=>?_) _) (fun h1=>?_) fun h1=>res_neg (by omega)
  ·have hka:=hps a ha;have hA:=he a (by simp [ha]);exact ⟨fun r hr=>hA.par hka n r _ hd hr,fun r=>hA.parh hka n r 41 (by simp)⟩
  ·rw [eat_eq];show Ev (fun f=>(pBlock O2 f (zt (oP n b)++r) d).then fun y r=>PR.ok (Nd.mk 6 t (0,0) (nds ps++[y])) r) _;refine Ev.fit (hb.block hb8 n r d hd) (fun h3=>?_) fun h3=>res_neg (by omega)
   rw [res_pos (by omega)];exact Ev.const _
theorem s_none {x:Tr} (h:isS x.kd=false) (h8:x.kd≠8):AllS x :=
 ⟨fun e=>absurd e h8,fun e=>absurd e h8,fun e=>absurd (h.symm.trans e) (by decide),fun e=>absurd (h.symm.trans e) (by decide)⟩
theorem s_step (k:Int) (t:List UInt8) (l:List Tr) (h:okT (.mk k t l)=true) (hl:∀ a ∈ l,AllS a):AllS (.mk k t l):=by
 rw [okT_mk] at h;simp only [Bool.and_eq_true] at h;obtain ⟨h1,h2⟩:=h;have he:=all_exprs l h2;by_cases e8:k=8
 ·subst e8;exact s_block t l h1 hl
 by_cases e2:k=2
 ·subst e2;exact s_assign t l h1 he
 by_cases e3:k=3
 ·subst e3;exact s_do t l h1 he
 by_cases e4:k=4
 ·subst e4;exact s_for t l h1 he hl
 by_cases e5:k=5
 ·subst e5;exact s_if t l h1 he hl
 by_cases e6:k=6
 ·subst e6;exact s_rule t l h1 he hl
 refine s_none ?_ e8;rw [kd_mk];unfold isS;simp [e2,e3,e4,e5,e6]
mutual
theorem all_stmt:∀ x:Tr,okT x=true→AllS x
 | .mk k t l,h=>s_step k t l h (all_stmts l (by rw [okT_mk] at h;simp only [Bool.and_eq_true] at h;exact h.2))
theorem all_stmts:∀ l:List Tr,okTs l=true→∀ a ∈ l,AllS a
 | [],_,_,ha=>by cases ha
 | x::r,h,a,ha=>by
   rw [okTs_cons] at h;simp only [Bool.and_eq_true] at h;rcases List.mem_cons.1 ha with e | ha
   ·rw [e];exact all_stmt x h.1
   ·exact all_stmts r h.2 a ha
end
theorem file_ev {l:List Tr} (hk:(tops l).all (fun x=>isS x.1)=true) (h:okTs l=true):Ev (fun f=>pStmts O2 f false (zt (fileP l)) 0) (res (fileD l) (.ok (nds l) [])):=by
 have:=stmts_ev (up:=false) (r:=[]) (.inl rfl) (d:=0) (by omega) 0 l fun a ha=>⟨kd_all hk a ha,all_stmts l h a ha⟩
 rw [List.append_nil] at this;exact this
theorem bare_zt (l:List Piece):bare (zt l)=toks l:=by
 unfold bare zt;rw [List.map_map];exact List.map_id _
theorem read_there {l:List Tr} (hk:(tops l).all (fun x=>isS x.1)=true) (h:okTs l=true) :
  (fileD l≤60∧(render (fileP l)).length≤65536→∃ z r,readL (render (fileP l))=.ok z r∧Nd.trs z=l) ∧
  (¬ (fileD l≤60∧(render (fileP l)).length≤65536)→∃ p,readL (render (fileP l))=.bad 6 p):=by
 by_cases hlen:(render (fileP l)).length≤65536
 ·obtain ⟨g1,g2⟩:=lex_render (fileP l) (1,1) (file_gd h);have ga:=all_good hlen;obtain ⟨N,hN⟩:=file_ev hk h;have hrel:RelL Any2 (allT (render (fileP l))).1 (zt (fileP l)):=rel_bare (by rw [ga,g2,bare_zt]);have hm:=stmts_more (advs (1,1) (render (fileP l))) O2 (f:=10 * (allT (render (fileP l))).1.length+20) (f':=(10 * (allT (render (fileP l))).1.length+20)+N) (d:=0) false hrel (by omega) (by omega);have hN':∀ f,N≤f→pStmts O2 f false (zt (fileP l)) 0=res (fileD l) (.ok (nds l) []):=hN;rw [hN' ((10 * (allT (render (fileP l))).1.length+20)+N) (by omega)] at hm;have e:readL (render (fileP l))=pStmts (advs (1,1) (render (fileP l))) (10 * (allT (render (fileP l))).1.length+20) false (allT (render (fileP l))).1 0:=by
   unfold readL;rw [if_pos (by rw [ga];exact g1)]
  have hfine:=read_fine (render (fileP l));rw [← e] at hm;constructor
  ·rintro ⟨h1,-⟩;rw [res_pos h1] at hm;cases hx:readL (render (fileP l)) with
   | oof=>exact absurd hx hfine
   | bad e p=>rw [hx] at hm;exact hm.elim
   | ok z r =>
     rw [hx] at hm;exact ⟨z,r,rfl,by rw [rel_trs hm.1,nds_tr h]⟩
  ·intro h1;rw [res_neg (fun h2=>h1 ⟨h2,hlen⟩)] at hm;cases hx:readL (render (fileP l)) with
   | oof=>exact absurd hx hfine
   | ok z r=>rw [hx] at hm;exact hm.elim
   | bad e p =>
     rw [hx] at hm;obtain ⟨h2,-⟩:=hm;exact ⟨p,by rw [h2]⟩
 ·refine ⟨fun h1=>absurd h1.2 hlen,fun _=>?_⟩;have ga:allT (render (fileP l))=([],6,(1,1)):=by unfold allT;rw [if_pos (by omega)]
  refine ⟨(1,1),?_⟩;unfold readL;rw [ga,if_neg (by decide)]
def Post {α:Type} (q:α→List Tok→Prop):PR α→Prop
 | .ok a r=>q a r
 | _=>True
theorem Post.then {α β:Type} {q:α→List Tok→Prop} {q':β→List Tok→Prop} {x:PR α} {k:α→List Tok→PR β} (h:Post q x) (hk:∀ a r,q a r→Post q' (k a r)):Post q' (x.then k):=by
 cases x with
 | ok a r=>exact hk a r h
 | bad e p=>trivial
 | oof=>trivial
theorem Post.mono {α:Type} {q q':α→List Tok→Prop} {x:PR α} (h:Post q x) (hk:∀ a r,q a r→q' a r):Post q' x:=by
 cases x with
 | ok a r=>exact hk a r h
 | bad e p=>trivial
 | oof=>trivial
def wT (t:Tok):Nat:=(writ t.1 t.2.1).length
def wL:List Tok→Nat
 | []=>0
 | t::r=>wT t+wL r
theorem wL_cons (t:Tok) (r:List Tok):wL (t::r)=wT t+wL r:=rfl
def OkT (l:List Tok):Prop:=∀ t ∈ l,TokK t.1 t.2.1∧t.2.1.length≤65536
theorem OkT.tail {t:Tok} {r:List Tok} (h:OkT (t::r)):OkT r:=fun x hx=>h x (List.mem_cons_of_mem _ hx)
theorem OkT.head {t:Tok} {r:List Tok} (h:OkT (t::r)):TokK t.1 t.2.1∧t.2.1.length≤65536:=h t (List.mem_cons_self ..)
theorem wT_pos {t:Tok} (h:TokK t.1 t.2.1):1≤wT t:=by
 unfold wT;have:=tok_writ h;cases e:writ t.1 t.2.1 with
 | nil=>exact absurd e this
 | cons _ _=>simp
theorem wT_same {k:Nat} {s:List UInt8} {p:Pl} (h:k≠3):wT (k,s,p)=s.length:=by unfold wT writ;rw [if_neg h]
theorem take_post (en:Pl) (is:Bool) (l:List Tok):Post (fun t r=>is=true∧l=t::r) (pTake en is l):=by
 unfold pTake;cases is with
 | false=>trivial
 | true=>cases l with
   | nil=>trivial
   | cons t r=>exact ⟨rfl,rfl⟩
theorem open_post (en:Pl) (is:Bool) (d:Nat) (l:List Tok):Post (fun t r=>is=true∧d<60∧l=t::r) (pOpen en is d l):=by
 unfold pOpen;split
 ·trivial
 ·rename_i h;exact (take_post en is l).mono fun t r ⟨h1,h2⟩=>⟨h1,by
   by_cases h3:60≤d
   ·exact absurd ⟨h1,h3⟩ h
   ·omega,h2⟩
theorem sign_is {t:Tok} {r:List Tok} {s:List UInt8} (h:signB (t::r) 0 s=true):t.1=4∧t.2.1=s:=by
 unfold signB at h;simp only [Bool.and_eq_true,beq_iff_eq] at h;exact h
theorem word_is {t:Tok} {r:List Tok} {s:List UInt8} (h:wordB (t::r) s=true):t.1=1∧t.2.1=s:=by
 unfold wordB at h;simp only [Bool.and_eq_true,beq_iff_eq] at h;exact h
theorem name_is {t:Tok} {r:List Tok} (h:nameB (t::r)=true):t.1=1∧reservedB t.2.1=false:=by
 unfold nameB at h;simp only [Bool.and_eq_true,beq_iff_eq,Bool.not_eq_true'] at h;exact h
theorem kind_is {t:Tok} {r:List Tok} {k:Nat} (h:kindB (t::r) k=true):t.1=k:=by
 unfold kindB at h;simp only [beq_iff_eq] at h;exact h
theorem eat_post (en:Pl) (c:UInt8) {l:List Tok} (hl:OkT l):Post (fun _ r=>OkT r∧wL l=1+wL r) (pEat en [c] l):=by
 unfold pEat;refine (take_post en _ l).mono fun t r ⟨h1,h2⟩=>?_
 subst h2;obtain ⟨e1,e2⟩:=sign_is h1;refine ⟨hl.tail,?_⟩;obtain ⟨k,s,p⟩:=t;simp only at e1 e2;subst e1 e2;rw [wL_cons,wT_same (by decide)];rfl
theorem name_ok {t:Tok} {r:List Tok} (hl:OkT (t::r)) (h:nameB (t::r)=true):nameS t.2.1=true∧wT t=t.2.1.length∧1≤t.2.1.length:=by
 obtain ⟨e1,e2⟩:=name_is h;obtain ⟨h1,h2⟩:=hl.head;have hp:=wT_pos h1;obtain ⟨k,s,p⟩:=t;simp only at e1 e2 h1 h2 ⊢;subst e1;have hw:wT (1,s,p)=s.length:=wT_same (by decide);refine ⟨?_,hw,by omega⟩;unfold nameS;rw [tok_oneT h1 (.inl rfl) h2,e2];rfl
def lenP (l:List Piece):Nat:=(render l).length
theorem lenP_nil:lenP []=0:=rfl
theorem lenP_cons (p:Piece) (l:List Piece):lenP (p::l)=(writ p.1 p.2).length+lenP l:=by unfold lenP;rw [render_cons,List.length_append]
theorem lenP_app (a b:List Piece):lenP (a++b)=lenP a+lenP b:=by unfold lenP;rw [render_app,List.length_append]
theorem lenP_sg (c:UInt8) (l:List Piece):lenP (sg c::l)=1+lenP l:=by rw [lenP_cons];rfl
theorem lenP_sp (l:List Piece):lenP (sp::l)=1+lenP l:=by rw [lenP_cons];rfl
theorem lenP_nl (l:List Piece):lenP (nl::l)=1+lenP l:=by rw [lenP_cons];rfl
theorem lenP_word (t:List UInt8) (l:List Piece):lenP ((1,t)::l)=t.length+lenP l:=by rw [lenP_cons];rfl
theorem lenP_op (t:List UInt8) (l:List Piece):lenP (opP t::l)=t.length+lenP l:=by
 rw [lenP_cons];unfold opP writ;rw [if_neg (by simp only;split <;> decide)]
theorem lenP_tabs (n:Nat) (l:List Piece):lenP (tabsP n++l)≤n+lenP l:=by
 rw [lenP_app];unfold tabsP;split
 ·rw [lenP_nil];omega
 ·rw [lenP_cons,lenP_nil];show (List.replicate n (9:UInt8)).length+0+_≤_;rw [List.length_replicate];omega
theorem brk_false (l:List Piece):brk false l=l:=rfl
theorem lenP_brk (b:Bool) (l:List Piece):lenP l≤lenP (brk b l)∧lenP (brk b l)≤lenP l+2:=by
 cases b with
 | false=>rw [brk_false];omega
 | true =>
   show lenP l≤lenP (sg 40::(l++[sg 41]))∧lenP (sg 40::(l++[sg 41]))≤_;rw [lenP_sg,lenP_app,lenP_sg,lenP_nil];omega
theorem brkD_le (b:Bool) (d:Nat):d≤brkD b d∧brkD b d≤d+1:=by cases b <;> simp [brkD]
mutual
def sz:Tr→Nat
 | .mk _ t l=>1+t.length+szs l
def szs:List Tr→Nat
 | []=>0
 | x::r=>sz x+szs r
end
theorem sz_mk (k:Int) (t:List UInt8) (l:List Tr):sz (.mk k t l)=1+t.length+szs l:=by rw [sz]
theorem szs_nil:szs []=0:=by rw [szs]
theorem szs_cons (x:Tr) (r:List Tr):szs (x::r)=sz x+szs r:=by rw [szs]
theorem szs_app:∀ a b:List Tr,szs (a++b)=szs a+szs b
 | [],b=>by rw [szs_nil,List.nil_append];omega
 | x::r,b=>by rw [List.cons_append,szs_cons,szs_cons,szs_app r b];omega
theorem szs_one (x:Tr):szs [x]=sz x:=by rw [szs_cons,szs_nil];omega
theorem szs_two (x y:Tr):szs [x,y]=sz x+sz y:=by rw [szs_cons,szs_one]
structure BkE (b:Bool) (x:Nd) (l r:List Tok) (d:Nat):Prop where
 ok:mE x.tr=true
 deep:brkD b (oD x.tr)+d≤60
 len:∀ n,lenP (brk b (oP n x.tr))+3 * wL r≤3 * wL l
 good:OkT r
 size:sz x.tr+1+4 * wL r≤4 * wL l
theorem BkE.weak {b:Bool} {x:Nd} {l r:List Tok} {d:Nat} (h:BkE b x l r d):BkE false x l r d :=
 ⟨h.ok,by have:=h.deep;have:=brkD_le b (oD x.tr);show oD x.tr+d≤60;omega,fun n=>by have:=h.len n;have:=lenP_brk b (oP n x.tr);rw [brk_false];omega,h.good,h.size⟩
theorem BkE.cmp {x:Nd} {l r:List Tok} {d:Nat} (h:BkE (twoT x.tr.top) x l r d):BkE (cmpT x.tr.top) x l r d:=by
 cases hc:cmpT x.tr.top with
 | false=>exact h.weak
 | true =>
   have:twoT x.tr.top=true:=by unfold cmpT at hc;simp only [Bool.and_eq_true] at hc;exact hc.1
   rw [this] at h;exact h
theorem BkE.inb {x:Nd} {l l' r r':List Tok} {d:Nat} (h:BkE false x l' r' (d+1)) (h1:wL l=1+wL l') (h2:wL r'=1+wL r) (hr:OkT r) (b:Bool):BkE b x l r d :=
 ⟨h.ok,by have:=h.deep;have:=brkD_le b (oD x.tr);have:brkD false (oD x.tr)=oD x.tr:=rfl;omega,fun n=>by have:=h.len n;rw [brk_false] at this;have:=lenP_brk b (oP n x.tr);omega,hr,by have:=h.size;omega⟩
def kindOk (k:Nat) (l:List Tr):Bool:=if k=0 then l.all mP else if k=1 then l.all mA else if k=2 then l.all mE else dictE l
def joinP (k:Nat) (s:List (List Piece)):List Piece:=if k=3 then dictJ s else commaJ s
structure BkO (k:Nat) (a:List Nd) (l r:List Tok) (d:Nat):Prop where
 ok:kindOk k (Nd.trs a)=true
 form:if k=3 then ∃ x y,a=[x,y] else ∃ x,a=[x]
 deep:maxL (oDs (Nd.trs a))+d≤60
 len:∀ n,lenP (joinP k (oPs n (Nd.trs a)))+3 * wL r≤3 * wL l
 good:OkT r
 size:szs (Nd.trs a)+4 * wL r≤4 * wL l
def tailN (k:Nat) (s:List (List Piece)):Nat:=if s=[] then 0 else 2+lenP (joinP k s)
structure BkL (k:Nat) (first:Bool) (a:List Nd) (l r:List Tok) (d:Nat):Prop where
 ok:kindOk k (Nd.trs a)=true
 deep:maxL (oDs (Nd.trs a))+d≤60
 len:∀ n,(if first=true then lenP (joinP k (oPs n (Nd.trs a))) else tailN k (oPs n (Nd.trs a)))+3 * wL r≤3 * wL l
 good:OkT r
 size:szs (Nd.trs a)+4 * wL r≤4 * wL l
theorem join_app {k:Nat} (hk:k≤3) {n:Nat} {a b:List Nd} (ha:if k=3 then ∃ x y,a=[x,y] else ∃ x,a=[x]):lenP (joinP k (oPs n (Nd.trs (a++b))))=lenP (joinP k (oPs n (Nd.trs a)))+tailN k (oPs n (Nd.trs b)):=by
 by_cases h3:k=3
 ·subst h3;rw [if_pos rfl] at ha;obtain ⟨x,y,rfl⟩:=ha;unfold tailN;cases b with
  | nil=>rw [List.append_nil,trs_nil,oPs_nil,if_pos rfl];rfl
  | cons z b =>
    rw [if_neg (by rw [trs_cons,oPs_cons];simp)];show lenP (joinP 3 (oPs n (Nd.trs (x::y::z::b))))=_;simp only [trs_cons,trs_nil,oPs_cons,oPs_nil];show lenP (oP n x.tr++sg 58::sp::(oP n y.tr++sg 44::sp::dictJ (oP n z.tr::oPs n (Nd.trs b))))=lenP (oP n x.tr++sg 58::sp::oP n y.tr)+(2+lenP (dictJ (oP n z.tr::oPs n (Nd.trs b))));rw [lenP_app,lenP_sg,lenP_sp,lenP_app,lenP_sg,lenP_sp,lenP_app,lenP_sg,lenP_sp];omega
 ·rw [if_neg h3] at ha;obtain ⟨x,rfl⟩:=ha;unfold tailN;have hj:∀ s,joinP k s=commaJ s:=fun s=>if_neg h3
  rw [hj,hj,hj];cases b with
  | nil=>rw [List.append_nil,trs_nil,oPs_nil,if_pos rfl];rfl
  | cons z b =>
    rw [if_neg (by rw [trs_cons,oPs_cons];simp)];show lenP (commaJ (oPs n (Nd.trs (x::z::b))))=_;simp only [trs_cons,trs_nil,oPs_cons,oPs_nil];show lenP (oP n x.tr++sg 44::sp::commaJ (oP n z.tr::oPs n (Nd.trs b)))=lenP (oP n x.tr)+(2+lenP (commaJ (oP n z.tr::oPs n (Nd.trs b))));rw [lenP_app,lenP_sg,lenP_sp];omega
theorem ok_app {k:Nat} {a b:List Nd} (hf:if k=3 then ∃ x y,a=[x,y] else ∃ x,a=[x]) (ha:kindOk k (Nd.trs a)=true) (hb:kindOk k (Nd.trs b)=true):kindOk k (Nd.trs (a++b))=true:=by
 rw [trs_app];unfold kindOk at *;by_cases h0:k=0
 ·rw [if_pos h0] at *;rw [List.all_append,ha,hb];rfl
 rw [if_neg h0] at *;by_cases h1:k=1
 ·rw [if_pos h1] at *;rw [List.all_append,ha,hb];rfl
 rw [if_neg h1] at *;by_cases h2:k=2
 ·rw [if_pos h2] at *;rw [List.all_append,ha,hb];rfl
 rw [if_neg h2] at *;by_cases h3:k=3
 ·rw [if_pos h3] at hf;obtain ⟨x,y,rfl⟩:=hf;rw [trs_cons,trs_cons,trs_nil] at *;unfold dictE at ha;simp only [Bool.and_eq_true] at ha;show dictE (x.tr::y.tr::Nd.trs b)=true;unfold dictE;simp only [Bool.and_eq_true];exact ⟨ha.1,hb⟩
 ·rw [if_neg h3] at hf;obtain ⟨x,rfl⟩:=hf;rw [trs_cons,trs_nil] at *;unfold dictE at ha;cases ha
structure ExprQ (en:Pl) (f:Nat):Prop where
 prim:∀ l d,d≤60→OkT l→Post (fun x r=>BkE (twoT x.tr.top) x l r d) (pPrim en f l d)
 sumGo:∀ l0 x l d,d≤60→BkE (cmpT x.tr.top) x l0 l d→Post (fun y r=>BkE (cmpT y.tr.top) y l0 r d) (pSumGo en f x l d)
 sum:∀ l d,d≤60→OkT l→Post (fun x r=>BkE (cmpT x.tr.top) x l r d) (pSum en f l d)
 expr:∀ l d,d≤60→OkT l→Post (fun x r=>BkE false x l r d) (pExpr en f l d)
 call:∀ l d,d≤60→OkT l→Post (fun x r=>x.tr.kd=14∧BkE false x l r d∧∀ n,lenP (oP n x.tr)+6+3 * wL r≤3 * wL l) (pCall en f l d)
 one:∀ k l d,k≤3→d≤60→OkT l→Post (fun a r=>BkO k a l r d) (pOne en f k l d)
 list:∀ k up first l d,k≤3→d≤60→OkT l→Post (fun a r=>BkL k first a l r d) (pList en f k up first l d)
theorem oD_two {t:List UInt8} (ht:t≠wNot) (a b:Tr):oD (.mk 16 t [a,b])=max (brkD (cmpT a.top) (oD a)) (brkD (brk1 t b.top) (oD b)):=by
 rw [oD_mk,oDs_cons,oDs_cons,oDs_nil];show (if t=wNot then _ else _)=_;rw [if_neg ht];rfl
theorem oP_two {t:List UInt8} (ht:t≠wNot) (n:Nat) (a b:Tr):oP n (.mk 16 t [a,b])=brk (cmpT a.top) (oP n a)++sp::opP t::sp::brk (brk1 t b.top) (oP n b):=by
 rw [oP_mk,oPs_cons,oPs_cons,oPs_nil];show (if t=wNot then _ else _)=_;rw [if_neg ht];rfl
theorem brk1_plus (b:Tr):brk1 [43] b.top=twoT b.top:=by
 show (cmpT b.top || (true && twoT b.top))=_;rw [Bool.true_and];cases h5:twoT b.top with
 | false=>rw [cmp_two h5];rfl
 | true=>rw [Bool.or_true]
theorem brk1_cmp {t:List UInt8} (h:t≠[43]) (b:Tr):brk1 t b.top=cmpT b.top:=by
 show (cmpT b.top || (t == [43] && twoT b.top))=_;rw [show (t == [43])=false by simpa using h];simp
theorem mE_two {t:List UInt8} (h:opB t=true) {a b:Tr} (ha:mE a=true) (hb:mE b=true):mE (.mk 16 t [a,b])=true:=by
 have ht:t≠wNot:=by rintro rfl;exact absurd h (by decide)
 rw [mE_16,if_neg ht,h];simp [ha,hb]
theorem node_tr (k:Nat) (t:List UInt8) (p:Pl) (l:List Nd):(Nd.mk k t p l).tr=.mk k t (Nd.trs l):=tr_mk k t p l
theorem trs_one (x:Nd):Nd.trs [x]=[x.tr]:=by rw [trs_cons,trs_nil]
theorem trs_two (x y:Nd):Nd.trs [x,y]=[x.tr,y.tr]:=by rw [trs_cons,trs_cons,trs_nil]
theorem leaf_bk {k:Nat} {t:List UInt8} {p:Pl} {l r:List Tok} {d:Nat} (hd:d≤60) (h:mE (.mk k t [])=true) (hD:oD (.mk k t [])=0) (h2:twoT (Tr.mk k t []).top=false) (hl:∀ n,lenP (oP n (.mk k t []))+wL r≤wL l) (hr:OkT r) (hz:t.length+2+4 * wL r≤4 * wL l) :
  BkE (twoT (Nd.mk k t p []).tr.top) (Nd.mk k t p []) l r d:=by
 rw [node_tr,trs_nil,h2];exact ⟨by rw [node_tr,trs_nil];exact h,by rw [node_tr,trs_nil,hD];show 0+d≤60;omega,fun n=>by rw [node_tr,trs_nil,brk_false];have:=hl n;omega,hr,by rw [node_tr,trs_nil,sz_mk,szs_nil];omega⟩
end Go.Proofs.YtfgiihpopngbkaaGreatDoor
