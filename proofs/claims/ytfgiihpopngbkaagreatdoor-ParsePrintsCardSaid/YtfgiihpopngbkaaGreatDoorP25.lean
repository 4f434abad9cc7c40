/- Lemmas and walks that the statement needs: ThereS, Back, BackE, BackS, NodeSame, Weight, WeightLaw, BackLen, RpPrint, AlivePlain, Alive. -/
import Derived.Test.YtfgiihpopngbkaaGreatDoorP24
namespace Go.Proofs.YtfgiihpopngbkaaGreatDoor
set_option maxRecDepth 100000
set_option maxHeartbeats 8000000
open Go.RowKit
open Nat renaming le_trans→nT
open List renaming length_append→lAp,length_cons→lCo,length_nil→lNi
open Nat renaming le_refl→nRe
open _root_.Bool renaming and_eq_true→bAe
open _root_.Array renaming getElem?_eq_some_iff→aGe
open Go renaming heap_alloc_new→hAn
structure kB (x:Tr):Prop where
 block:x.kd=8→∀ n r d,d≤60→Ev (fun f=>cM O2 f (zt (oP n x)++r) d) (res (oD x+d) (.ok (nd x) r))
 blockh:x.kd=8→∀ n r,Fol (zt (oP n x)++r)
 stmt:isS x.kd=true→∀ n r d,d≤60→bL r fa=false→Ev (fun f=>dc O2 f (zt (oP n x)++r) d) (res (oD x+d) (.ok (nd x) r))
 head:isS x.kd=true→∀ n,∃ t u,zt (oP n x)=(1,t,(0,0))::u∧t≠fa
theorem xx {r:List Tok} {_n:Nat} {s t:List UInt8} (h:aT r 0 s=true):bL r t=false:=by
 unfold aT at h;simp only [bAe,beq_iff_eq] at h;unfold bL;rw [h.1];rfl
theorem oA (n:Nat) (a:List aJ) (s:List (List aJ)):zt (aX n (a::s))=zt a++zt (aX n s):=by
 show zt (fB n++(a++nl::aX n s))=_;rw [vF,fm,zbr]
theorem oV {up:Bool} {r:List Tok} (hr:r=[]∨(up=true∧aT r 0 [125]=true)) {d:Nat} (hd:d≤60) (n:Nat):∀ l:List Tr,(∀ a ∈ l,isS a.kd=true∧kB a) →
  Ev (fun f=>bY O2 f up (zt (aX n (oPs n l))++r) d) (res (b9 (oDs l)+d) (.ok (nds l) r))
 | [],_=>by
   rw [dH,co,dQ,cF (by simpa [b9] using hd)];refine Ev.step (g:=fun _=>.ok [] r) (fun f=>?_) (zdF _);show bY O2 (f+1) up r d=_;rw [bY,if_pos hr]
 | a::l,h=>by
   obtain ⟨ha,hA⟩:=h a (List.mem_cons_self ..);have ih:=oV hr hd n l fun b hb=>h b (List.mem_cons_of_mem _ hb)
   rw [aY,bj,cD,oA,List.append_assoc];have hm:b9 (oD a::oDs l)=max (oD a) (b9 (oDs l)):=rfl;rw [hm];obtain ⟨t,u,e,he⟩:=hA.head ha n;have hw:bL (zt (aX n (oPs n l))++r) fa=false:=by
    cases l with
    | nil =>
      rw [dH];show bL r fa=false;rcases hr with rfl | ⟨_,h2⟩
      ·rfl
      ·exact xx (_n:=0) h2
    | cons b l =>
      obtain ⟨hb,hB⟩:=h b (by simp);obtain ⟨t2,u2,e2,he2⟩:=hB.head hb n;rw [aY,oA,e2];show bL ((1,t2,(0,0))::_) fa=false;rw [rF];simpa using he2
   refine Ev.step (g:=fun f=>(dc O2 f (zt (oP n a)++(zt (aX n (oPs n l))++r)) d).then fun a r=>(bY O2 f up r d).then fun b r=>.ok (a::b) r) (fun f=>?_) ?_
   ·rw [bY,if_neg];rw [e];rintro (h | ⟨_,h⟩)
    ·cases h
    ·rw [List.cons_append,iU] at h;cases h
   ·refine Ev.fit (hA.stmt ha n _ d hd hw) (fun h1=>?_) fun h1=>bV (by omega)
    refine Ev.fit ih (fun h2=>?_) fun h2=>bV (by omega)
    rw [cF (by omega)];exact zdF _
theorem zaN (t:List UInt8) (l:List Tr) (h:fH 8 t (bD l)=true) (hl:∀ a ∈ l,kB a):kB (.mk 8 t l):=by
 have h':(t.isEmpty && (bD l).all (fun x=>isS x.1))=true:=h;simp only [bAe] at h';obtain ⟨h1,h2⟩:=h';obtain rfl:=nP h1;have hk:=qE h2;have e:∀ n r,zt (oP n (.mk 8 [] l))++r=(4,[123],(0,0))::(zt (aX (n+1) (oPs (n+1) l))++(4,[125],(0,0))::r):=fun n r=>by
  rw [bP];show zt (sg 123::nl::(aX (n+1) (oPs (n+1) l)++(fB n++[sg 125])))++r=_;rw [gL,zbr,fm,vF,gL,yX];simp
 have hn:nd (.mk 8 [] l)=.mk 8 [] (0,0) (nds l):=by rw [gb];rfl
 have hD:oD (.mk 8 [] l)=b9 (oDs l)+1:=by rw [di];rfl
 refine ⟨fun _ n r d hd=>?_,fun _ n r=>by rw [e];exact jU (by simp) _ _,fun h=>(by first | exact kno h (by decide) | exact bE h (by decide) | exact bF h (by decide)),fun h=>(by first | exact kno h (by decide) | exact bE h (by decide) | exact bF h (by decide))⟩;rw [e,hn,hD];refine Ev.step (g:=fun f=>(dW O2 true d ((4,[123],(0,0))::(zt (aX (n+1) (oPs (n+1) l))++(4,[125],(0,0))::r))).then fun _ _=>(bY O2 f true (zt (aX (n+1) (oPs (n+1) l))++(4,[125],(0,0))::r) (d+1)).then fun k r=>(cB O2 [125] r).then fun _ r=>.ok (.mk 8 [] (0,0) k) r) (fun f=>?_) ?_
 ·rw [cM,iU];show (dW O2 true d _).then _=_;rw [iN];by_cases h6:60≤d
  ·rw [if_pos h6];rfl
  ·rw [if_neg h6];rfl
 ·exact uR fun h6=>oV (.inr ⟨rfl,rfl⟩) h6 (n+1) l (fun a ha=>⟨hk a ha,hl a ha⟩)
theorem zbR {l:List Tr} (h:lq (bD l)=true):∃ a,l=[a]∧isE a.kd=true:=by
 match l,h with
 | [a],h=>exact ⟨a,rfl,h⟩
theorem mp {t:List UInt8} (h:ed t=false):(t == i6)=false∧(t == wIf)=false∧(t == fO)=false∧t≠fa:=by
 unfold ed at h;simp only [Bool.or_eq_false_iff] at h;obtain ⟨⟨⟨⟨⟨h1,h2⟩,h3⟩,h4⟩,h5⟩,h6⟩:=h;exact ⟨h1,h3,h5,by simpa using h4⟩
theorem yT (t:List UInt8) (l:List Tr) (h:fH 2 t (bD l)=true) (he:∀ a ∈ l,gD a):kB (.mk 2 t l):=by
 have h':(aM t && lq (bD l))=true:=h;simp only [bAe] at h';obtain ⟨h1,h2⟩:=h';obtain ⟨a,rfl,hk⟩:=zbR h2;have hres:=jf h1;obtain ⟨w1,w2,w3,w4⟩:=mp hres;have ha:=he a (List.mem_cons_self ..);have e:∀ n,zt (oP n (.mk 2 t [a]))=(1,t,(0,0))::(4,[61],(0,0))::(zt (oP n a)++[(4,[59],(0,0))]):=fun n=>by
  rw [bP,aY,dH];show zt ((1,t)::sp::sg 61::sp::(oP n a++[sg 59]))=_;rw [fU _ (by decide),eX,gL,eX,fm];rfl
 have hn:nd (.mk 2 t [a])=.mk 2 t (0,0) [nd a]:=by rw [gb,cD,dQ];rfl
 have hD:oD (.mk 2 t [a])=oD a:=by
  rw [di,bj,co];show max (oD a) 0=_;omega
 refine ⟨fun h=>(by first | exact kno h (by decide) | exact bE h (by decide) | exact bF h (by decide)),fun h=>(by first | exact kno h (by decide) | exact bE h (by decide) | exact bF h (by decide)),fun _ n r d hd hr=>?_,fun _ n=>⟨_,_,e n,w4⟩⟩;rw [e,hn,hD];have e2:(1,t,(0,0))::(4,[61],(0,0))::(zt (oP n a)++[(4,[59],(0,0))])++r=(1,t,(0,0))::(4,[61],(0,0))::(zt (oP n a)++(4,[59],(0,0))::r):=by simp
 rw [e2];refine Ev.step (g:=fun f=>(bA O2 f (zt (oP n a)++(4,[59],(0,0))::r) d).then fun x r=>(cB O2 [59] r).then fun _ r=>.ok (.mk 2 t (0,0) [x]) r) (fun f=>?_) ?_
 ·rw [dc];simp only [rF,kA,tj,iU,hres,w1,w2,w3];rfl
 ·refine Ev.fit (ha.e hk n _ d hd (jU (by simp) _ _)) (fun h1=>?_) fun h1=>bV h1
  rw [mT,cF h1];exact zdF _
theorem zdq (t:List UInt8) (l:List Tr) (h:fH 3 t (bD l)=true) (he:∀ a ∈ l,gD a):kB (.mk 3 t l):=by
 have h':(t.isEmpty && (match bD l with | [a]=>a.1 == 14 | _=>false))=true:=h;simp only [bAe] at h';obtain ⟨h1,h2⟩:=h';obtain rfl:=nP h1;obtain ⟨a,rfl,hk⟩:∃ a,l=[a]∧a.kd=14:=by
  match l,h2 with
  | [a],h=>exact ⟨a,rfl,by have h:(a.kd == 14)=true:=h;simpa using h⟩
 have ha:=he a (List.mem_cons_self ..);have e:∀ n,zt (oP n (.mk 3 [] [a]))=zt (oP n a)++[(4,[59],(0,0))]:=fun n=>by
  rw [bP,aY,dH];show zt (oP n a++[sg 59])=_;rw [fm];rfl
 have hn:nd (.mk 3 [] [a])=.mk 3 [] (0,0) [nd a]:=by rw [gb,cD,dQ];rfl
 have hD:oD (.mk 3 [] [a])=oD a:=by
  rw [di,bj,co];show max (oD a) 0=_;omega
 refine ⟨fun h=>(by first | exact kno h (by decide) | exact bE h (by decide) | exact bF h (by decide)),fun h=>(by first | exact kno h (by decide) | exact bE h (by decide) | exact bF h (by decide)),fun _ n r d hd hr=>?_,fun _ n=>?_⟩
 ·rw [e,hn,hD,List.append_assoc];refine Ev.step (g:=fun f=>(fq O2 f (zt (oP n a)++(4,[59],(0,0))::r) d).then fun x r=>(cB O2 [59] r).then fun _ r=>.ok (.mk 3 [] (0,0) [x]) r) (fun f=>?_) ?_
  ·obtain ⟨t',u,e3,hres⟩:=ha.callh hk n;obtain ⟨w1,w2,w3,w4⟩:=mp hres;show dc O2 (f+1) (zt (oP n a)++(4,[59],(0,0))::r) d=_;rw [e3,List.cons_append,dc];simp only [rF,kA,tj,hres,w1,w2,w3,List.cons_append,iU];rfl
  ·refine Ev.fit (ha.call hk n _ d hd) (fun h1=>?_) fun h1=>bV h1
   rw [mT,cF h1];exact zdF _
 ·obtain ⟨t',u,e3,hres⟩:=ha.callh hk n;exact ⟨t',_,by rw [e,e3];rfl,(mp hres).2.2.2⟩
theorem zc1 (t:List UInt8) (l:List Tr) (h:fH 4 t (bD l)=true) (he:∀ a ∈ l,gD a) (hs:∀ a ∈ l,kB a):kB (.mk 4 t l):=by
 have h':(aM t && zaa (bD l))=true:=h;simp only [bAe] at h';obtain ⟨h1,h2⟩:=h';obtain ⟨a,b,rfl,hk,hb8⟩:∃ a b,l=[a,b]∧isE a.kd=true∧b.kd=8:=by
  match l,h2 with
  | [a,b],h =>
    have h:(isE a.kd && b.kd == 8)=true:=h;simp only [bAe,beq_iff_eq] at h;exact ⟨a,b,rfl,h.1,h.2⟩
 have hres:=jf h1;have ha:=he a (by simp);have hb:=hs b (by simp);have e:∀ n r,zt (oP n (.mk 4 t [a,b]))++r=(1,i6,(0,0))::(1,t,(0,0))::(1,wIn,(0,0))::(zt (oP n a)++(zt (oP n b)++r)):=fun n r=>by
  rw [bP,aY,aY,dH];show zt ((1,i6)::sp::(1,t)::sp::(1,wIn)::sp::(oP n a++sp::oP n b))++r=_;rw [fU _ (by decide),eX,fU _ (by decide),eX,fU _ (by decide),eX,fm,eX];simp
 have hn:nd (.mk 4 t [a,b])=.mk 4 t (0,0) [nd a,nd b]:=by rw [gb,cD,cD,dQ];rfl
 have hD:oD (.mk 4 t [a,b])=max (oD a) (oD b):=by
  rw [di,bj,bj,co];show max (oD a) (max (oD b) 0)=_;omega
 refine ⟨fun h=>(by first | exact kno h (by decide) | exact bE h (by decide) | exact bF h (by decide)),fun h=>(by first | exact kno h (by decide) | exact bE h (by decide) | exact bF h (by decide)),fun _ n r d hd hr=>?_,fun _ n=>⟨i6,_,by have:=e n [];rw [List.append_nil] at this;exact this,by decide⟩⟩;rw [e,hn,hD];refine Ev.step (g:=fun f=>(bA O2 f (zt (oP n a)++(zt (oP n b)++r)) d).then fun x r=>(cM O2 f r d).then fun y r=>.ok (.mk 4 t (0,0) [x,y]) r) (fun f=>?_) ?_
 ·rw [dc];have q:bL ((1,i6,(0,0))::(1,t,(0,0))::(1,wIn,(0,0))::(zt (oP n a)++(zt (oP n b)++r))) i6=true:=rfl;rw [q,if_pos rfl];show (bl O2 (cd ((1,t,(0,0))::(1,wIn,(0,0))::(zt (oP n a)++(zt (oP n b)++r)))) ((1,t,(0,0))::(1,wIn,(0,0))::(zt (oP n a)++(zt (oP n b)++r)))).then _=_;rw [kA,hres];rfl
 ·refine Ev.fit (ha.e hk n _ d hd (hb.blockh hb8 n r)) (fun h1=>?_) fun h1=>bV (by omega)
  refine Ev.fit (hb.block hb8 n r d hd) (fun h2=>?_) fun h2=>bV (by omega)
  rw [cF (by omega)];exact zdF _
theorem zdr (t:List UInt8) (l:List Tr) (h:fH 5 t (bD l)=true) (he:∀ a ∈ l,gD a) (hs:∀ a ∈ l,kB a):kB (.mk 5 t l):=by
 have h':(t.isEmpty && ifB (bD l))=true:=h;simp only [bAe] at h';obtain ⟨h1,h2⟩:=h';obtain rfl:=nP h1;obtain ⟨a,b,u,rfl,hk,hb8,hu⟩:∃ a b u,l=a::b::u∧isE a.kd=true∧b.kd=8∧(u=[]∨∃ c,u=[c]∧c.kd=8):=by
  match l,h2 with
  | [a,b],h =>
    have h:(isE a.kd && b.kd == 8)=true:=h;simp only [bAe,beq_iff_eq] at h;exact ⟨a,b,[],rfl,h.1,h.2,.inl rfl⟩
  | [a,b,c],h =>
    have h:(isE a.kd && b.kd == 8 && c.kd == 8)=true:=h;simp only [bAe,beq_iff_eq] at h;exact ⟨a,b,[c],rfl,h.1.1,h.1.2,.inr ⟨c,rfl,h.2⟩⟩
 have ha:=he a (by simp);have hb:=hs b (by simp);rcases hu with rfl | ⟨c,rfl,hc8⟩
 ·have e:∀ n r,zt (oP n (.mk 5 [] [a,b]))++r=(1,wIf,(0,0))::(zt (oP n a)++(zt (oP n b)++r)):=fun n r=>by
   rw [bP,aY,aY,dH];show zt ((1,wIf)::sp::(oP n a++sp::(oP n b++[])))++r=_;rw [fU _ (by decide),eX,fm,eX];simp
  have hn:nd (.mk 5 [] [a,b])=.mk 5 [] (0,0) [nd a,nd b]:=by rw [gb,cD,cD,dQ];rfl
  have hD:oD (.mk 5 [] [a,b])=max (oD a) (oD b):=by
   rw [di,bj,bj,co];show max (oD a) (max (oD b) 0)=_;omega
  refine ⟨fun h=>(by first | exact kno h (by decide) | exact bE h (by decide) | exact bF h (by decide)),fun h=>(by first | exact kno h (by decide) | exact bE h (by decide) | exact bF h (by decide)),fun _ n r d hd hr=>?_,fun _ n=>⟨wIf,_,by have:=e n [];rw [List.append_nil] at this;exact this,by decide⟩⟩;rw [e,hn,hD];refine Ev.step (g:=fun f=>(bA O2 f (zt (oP n a)++(zt (oP n b)++r)) d).then fun x r=>(cM O2 f r d).then fun y r =>
   if bL r fa=true then (bl O2 true r).then fun _ r=>(cM O2 f r d).then fun z r=>.ok (.mk 5 [] (0,0) [x,y,z]) r
   else .ok (.mk 5 [] (0,0) [x,y]) r) (fun f=>?_) ?_
  ·rw [dc];rfl
  ·refine Ev.fit (ha.e hk n _ d hd (hb.blockh hb8 n r)) (fun h1=>?_) fun h1=>bV (by omega)
   refine Ev.fit (hb.block hb8 n r d hd) (fun h2=>?_) fun h2=>bV (by omega)
   simp only [hr,Bool.false_eq_true,if_false];rw [cF (by omega)];exact zdF _
 ·have hc:=hs c (by simp);have e:∀ n r,zt (oP n (.mk 5 [] [a,b,c]))++r=(1,wIf,(0,0))::(zt (oP n a)++(zt (oP n b)++(1,fa,(0,0))::(zt (oP n c)++r))):=fun n r=>by
   rw [bP,aY,aY,aY,dH];show zt ((1,wIf)::sp::(oP n a++sp::(oP n b++(sp::(1,fa)::sp::oP n c))))++r=_;rw [fU _ (by decide),eX,fm,eX,fm,eX,fU _ (by decide),eX];simp
  have hn:nd (.mk 5 [] [a,b,c])=.mk 5 [] (0,0) [nd a,nd b,nd c]:=by rw [gb,cD,cD,cD,dQ];rfl
  have hD:oD (.mk 5 [] [a,b,c])=max (oD a) (max (oD b) (oD c)):=by
   rw [di,bj,bj,bj,co];show max (oD a) (max (oD b) (max (oD c) 0))=_;omega
  refine ⟨fun h=>(by first | exact kno h (by decide) | exact bE h (by decide) | exact bF h (by decide)),fun h=>(by first | exact kno h (by decide) | exact bE h (by decide) | exact bF h (by decide)),fun _ n r d hd hr=>?_,fun _ n=>⟨wIf,_,by have:=e n [];rw [List.append_nil] at this;exact this,by decide⟩⟩;rw [e,hn,hD];refine Ev.step (g:=fun f=>(bA O2 f (zt (oP n a)++(zt (oP n b)++(1,fa,(0,0))::(zt (oP n c)++r))) d).then fun x r=>(cM O2 f r d).then fun y r =>
   if bL r fa=true then (bl O2 true r).then fun _ r=>(cM O2 f r d).then fun z r=>.ok (.mk 5 [] (0,0) [x,y,z]) r
   else .ok (.mk 5 [] (0,0) [x,y]) r) (fun f=>?_) ?_
  ·rw [dc];rfl
  ·refine Ev.fit (ha.e hk n _ d hd (hb.blockh hb8 n _)) (fun h1=>?_) fun h1=>bV (by omega)
   refine Ev.fit (hb.block hb8 n _ d hd) (fun h2=>?_) fun h2=>bV (by omega)
   show Ev (fun f=>(cM O2 f (zt (oP n c)++r) d).then fun z r=>PR.ok (Nd.mk 5 [] (0,0) [nd a,nd b,z]) r) _;refine Ev.fit (hc.block hc8 n r d hd) (fun h3=>?_) fun h3=>bV (by omega)
   rw [cF (by omega)];exact zdF _
theorem vG:∀ {l:List Tr},m9 (bD l)=true→∃ ps b,l=ps++[b]∧(∀ p ∈ ps,p.kd=7)∧b.kd=8
 | [],h=>by cases h
 | [a],h=>⟨[],a,rfl,(fun _ h=>by cases h),by have h:(a.kd == 8)=true:=h;simpa using h⟩
 | a::b::r,h=>by
   have h:(a.kd == 7 && m9 (bD (b::r)))=true:=h;simp only [bAe,beq_iff_eq] at h;obtain ⟨ps,c,e,h1,h2⟩:=vG h.2;refine ⟨a::ps,c,by rw [e];rfl,fun p hp=>?_,h2⟩;rcases List.mem_cons.1 hp with rfl | hp
   ·exact h.1
   ·exact h1 p hp
theorem zbj (n:Nat) (a b:List Tr):oPs n (a++b)=oPs n a++oPs n b:=by rw [c8,c8,c8,List.map_append]
theorem z9 (a b:List Tr):oDs (a++b)=oDs a++oDs b:=by rw [gX,gX,gX,List.map_append]
theorem sI:∀ a b:List Nat,b9 (a++b)=max (b9 a) (b9 b)
 | [],b=>by show b9 b=max 0 (b9 b);omega
 | x::a,b=>by
   show max x (b9 (a++b))=max (max x (b9 a)) (b9 b);rw [sI a b];omega
theorem zbI (t:List UInt8) (l:List Tr) (h:fH 6 t (bD l)=true) (he:∀ a ∈ l,gD a) (hs:∀ a ∈ l,kB a):kB (.mk 6 t l):=by
 have h':(aM t && m9 (bD l))=true:=h;simp only [bAe] at h';obtain ⟨h1,h2⟩:=h';obtain ⟨ps,b,rfl,hps,hb8⟩:=vG h2;have hres:=jf h1;have hb:=hs b (by simp);have e:∀ n r,zt (oP n (.mk 6 t (ps++[b])))++r=(1,fO,(0,0))::(1,t,(0,0))::(4,[40],(0,0))::(zt (aE (oPs n ps))++(4,[41],(0,0))::(zt (oP n b)++r)):=fun n r=>by
  rw [bP];show zt ((1,fO)::sp::(1,t)::sg 40::(aE (oPs n (ps++[b])).dropLast++sg 41::sp::(oPs n (ps++[b])).getLastD []))++r=_;rw [zbj,aY,dH,List.dropLast_concat,fU _ (by decide),eX,fU _ (by decide),gL,fm,gL,eX];have:(oPs n ps++[oP n b]).getLastD []=oP n b:=by simp [List.getLastD_eq_getLast?]
  rw [this];simp
 have hn:nd (.mk 6 t (ps++[b]))=.mk 6 t (0,0) (nds ps++[nd b]):=by rw [gb,vD,cD,dQ];rfl
 have hD:oD (.mk 6 t (ps++[b]))=max (b9 (oDs ps)) (oD b):=by
  rw [di,z9,bj,co];show b9 (oDs ps++[oD b])=_;rw [sI];show max _ (max (oD b) 0)=_;omega
 refine ⟨fun h=>(by first | exact kno h (by decide) | exact bE h (by decide) | exact bF h (by decide)),fun h=>(by first | exact kno h (by decide) | exact bE h (by decide) | exact bF h (by decide)),fun _ n r d hd hr=>?_,fun _ n=>⟨fO,_,by have:=e n [];rw [List.append_nil] at this;exact this,by decide⟩⟩;rw [e,hn,hD];refine Ev.step (g:=fun f=>(bw O2 f 0 [41] true (zt (aE (oPs n ps))++(4,[41],(0,0))::(zt (oP n b)++r)) d).then fun k r=>(cB O2 [41] r).then fun _ r=>(cM O2 f r d).then fun y r=>.ok (.mk 6 t (0,0) (k++[y])) r) (fun f=>?_) ?_
 ·rw [dc];have q1:bL ((1,fO,(0,0))::(1,t,(0,0))::(4,[40],(0,0))::(zt (aE (oPs n ps))++(4,[41],(0,0))::(zt (oP n b)++r))) i6=false:=rfl;have q2:bL ((1,fO,(0,0))::(1,t,(0,0))::(4,[40],(0,0))::(zt (aE (oPs n ps))++(4,[41],(0,0))::(zt (oP n b)++r))) wIf=false:=rfl;have q3:bL ((1,fO,(0,0))::(1,t,(0,0))::(4,[40],(0,0))::(zt (aE (oPs n ps))++(4,[41],(0,0))::(zt (oP n b)++r))) fO=true:=rfl;simp only [q1,q2,q3,Bool.false_eq_true,if_false,if_true];show (bl O2 (cd ((1,t,(0,0))::(4,[40],(0,0))::(zt (aE (oPs n ps))++(4,[41],(0,0))::(zt (oP n b)++r)))) ((1,t,(0,0))::(4,[40],(0,0))::(zt (aE (oPs n ps))++(4,[41],(0,0))::(zt (oP n b)++r)))).then _=_;rw [kA,hres];rfl
 ·refine Ev.fit (oz (by simp) hd (fun a ha=>?_) _) (fun h1=>?_) fun h1=>bV (by omega)
  ·have hka:=hps a ha;have hA:=he a (by simp [ha]);exact ⟨fun r hr=>hA.par hka n r _ hd hr,fun r=>hA.parh hka n r 41 (by simp)⟩
  ·rw [mT];show Ev (fun f=>(cM O2 f (zt (oP n b)++r) d).then fun y r=>PR.ok (Nd.mk 6 t (0,0) (nds ps++[y])) r) _;refine Ev.fit (hb.block hb8 n r d hd) (fun h3=>?_) fun h3=>bV (by omega)
   rw [cF (by omega)];exact zdF _
theorem zb7 {x:Tr} (h:isS x.kd=false) (h8:x.kd≠8):kB x :=
 ⟨fun e=>absurd e h8,fun e=>absurd e h8,fun e=>absurd (h.symm.trans e) (by decide),fun e=>absurd (h.symm.trans e) (by decide)⟩
theorem zb8 (k:Int) (t:List UInt8) (l:List Tr) (h:okT (.mk k t l)=true) (hl:∀ a ∈ l,kB a):kB (.mk k t l):=by
 rw [d7] at h;simp only [bAe] at h;obtain ⟨h1,h2⟩:=h;have he:=mL l h2;by_cases e8:k=8
 ·subst e8;exact zaN t l h1 hl
 by_cases e2:k=2
 ·subst e2;exact yT t l h1 he
 by_cases e3:k=3
 ·subst e3;exact zdq t l h1 he
 by_cases e4:k=4
 ·subst e4;exact zc1 t l h1 he hl
 by_cases e5:k=5
 ·subst e5;exact zdr t l h1 he hl
 by_cases e6:k=6
 ·subst e6;exact zbI t l h1 he hl
 refine zb7 ?_ e8;rw [bX];unfold isS;simp [e2,e3,e4,e5,e6]
mutual
theorem yM:∀ x:Tr,okT x=true→kB x
 | .mk k t l,h=>zb8 k t l h (mu l (by rw [d7] at h;simp only [bAe] at h;exact h.2))
theorem mu:∀ l:List Tr,ee l=true→∀ a ∈ l,kB a
 | [],_,_,ha=>by cases ha
 | x::r,h,a,ha=>by
   rw [bM] at h;simp only [bAe] at h;rcases List.mem_cons.1 ha with e | ha
   ·rw [e];exact yM x h.1
   ·exact mu r h.2 a ha
end
theorem zao {l:List Tr} (hk:(bD l).all (fun x=>isS x.1)=true) (h:ee l=true):Ev (fun f=>bY O2 f false (zt (cr l)) 0) (res (oY l) (.ok (nds l) [])):=by
 have:=oV (up:=false) (r:=[]) (.inl rfl) (d:=0) (by omega) 0 l fun a ha=>⟨qE hk a ha,mu l h a ha⟩
 rw [List.append_nil] at this;exact this
theorem zaI (l:List aJ):ip (zt l)=et l:=by
 unfold ip zt;rw [List.map_map];exact List.map_id _
theorem uB {l:List Tr} (hk:(bD l).all (fun x=>isS x.1)=true) (h:ee l=true) :
  (oY l≤60∧(af (cr l)).length≤65536→∃ z r,eE (af (cr l))=.ok z r∧Nd.trs z=l) ∧
  (¬ (oY l≤60∧(af (cr l)).length≤65536)→∃ p,eE (af (cr l))=.bad 6 p):=by
 by_cases aF:(af (cr l)).length≤65536
 ·obtain ⟨g1,g2⟩:=kX (cr l) (1,1) (zV h);have ga:=yd aF;obtain ⟨N,hN⟩:=zao hk h;have hrel:ea iH (eg (af (cr l))).1 (zt (cr l)):=rG (by rw [ga,g2,zaI]);have hm:=uf (cA (1,1) (af (cr l))) O2 (f:=10 * (eg (af (cr l))).1.length+20) (f':=(10 * (eg (af (cr l))).1.length+20)+N) (d:=0) false hrel (by omega) (by omega);have hN':∀ f,N≤f→bY O2 f false (zt (cr l)) 0=res (oY l) (.ok (nds l) []):=hN;rw [hN' ((10 * (eg (af (cr l))).1.length+20)+N) (by omega)] at hm;have e:eE (af (cr l))=bY (cA (1,1) (af (cr l))) (10 * (eg (af (cr l))).1.length+20) false (eg (af (cr l))).1 0:=by
   unfold eE;rw [if_pos (by rw [ga];exact g1)]
  have hfine:=vU (af (cr l));rw [← e] at hm;constructor
  ·rintro ⟨h1,-⟩;rw [cF h1] at hm;cases hx:eE (af (cr l)) with
   | oof=>exact absurd hx hfine
   | bad e p=>rw [hx] at hm;exact hm.elim
   | ok z r =>
     rw [hx] at hm;exact ⟨z,r,rfl,by rw [qZ hm.1,tB h]⟩
  ·intro h1;rw [bV (fun h2=>h1 ⟨h2,aF⟩)] at hm;cases hx:eE (af (cr l)) with
   | oof=>exact absurd hx hfine
   | ok z r=>rw [hx] at hm;exact hm.elim
   | bad e p =>
     rw [hx] at hm;obtain ⟨h2,-⟩:=hm;exact ⟨p,by rw [h2]⟩
 ·refine ⟨fun h1=>absurd h1.2 aF,fun _=>?_⟩;have ga:eg (af (cr l))=([],6,(1,1)):=by unfold eg;rw [if_pos (by omega)]
  refine ⟨(1,1),?_⟩;unfold eE;rw [ga,if_neg (by decide)]
def tR {α:Type} (q:α→List Tok→Prop):PR α→Prop
 | .ok a r=>q a r
 | _=>True
theorem tR.then {α β:Type} {q:α→List Tok→Prop} {q':β→List Tok→Prop} {x:PR α} {k:α→List Tok→PR β} (h:tR q x) (hk:∀ a r,q a r→tR q' (k a r)):tR q' (x.then k):=by
 cases x with
 | ok a r=>exact hk a r h
 | bad e p=>trivial
 | oof=>trivial
theorem tR.mono {α:Type} {q q':α→List Tok→Prop} {x:PR α} (h:tR q x) (hk:∀ a r,q a r→q' a r):tR q' x:=by
 cases x with
 | ok a r=>exact hk a r h
 | bad e p=>trivial
 | oof=>trivial
def OkT (l:List Tok):Prop:=∀ t ∈ l,jy t.1 t.2.1∧t.2.1.length≤65536
theorem OkT.tail {t:Tok} {r:List Tok} (h:OkT (t::r)):OkT r:=fun x hx=>h x (List.mem_cons_of_mem _ hx)
theorem OkT.head {t:Tok} {r:List Tok} (h:OkT (t::r)):jy t.1 t.2.1∧t.2.1.length≤65536:=h t (List.mem_cons_self ..)
def dr (l:List aJ):Nat:=(af l).length
theorem eR:dr []=0:=rfl
theorem gn (p:aJ) (l:List aJ):dr (p::l)=(df p.1 p.2).length+dr l:=by unfold dr;rw [aA,lAp]
theorem dI (a b:List aJ):dr (a++b)=dr a+dr b:=by unfold dr;rw [aQ,lAp]
theorem dP (c:UInt8) (l:List aJ):dr (sg c::l)=1+dr l:=by rw [gn];rfl
theorem dq (l:List aJ):dr (sp::l)=1+dr l:=by rw [gn];rfl
theorem vj (l:List aJ):dr (nl::l)=1+dr l:=by rw [gn];rfl
theorem dL (t:List UInt8) (l:List aJ):dr ((1,t)::l)=t.length+dr l:=by rw [gn];rfl
theorem zaw (t:List UInt8) (l:List aJ):dr (opP t::l)=t.length+dr l:=by
 rw [gn];unfold opP df;rw [if_neg (by simp only;split <;> decide)]
theorem qf (n:Nat) (l:List aJ):dr (fB n++l)≤n+dr l:=by
 rw [dI];unfold fB;split
 ·rw [eR];omega
 ·rw [gn,eR];show (List.replicate n (9:UInt8)).length+0+_≤_;rw [List.length_replicate];omega
theorem ws (l:List aJ):brk false l=l:=rfl
theorem yC (b:Bool) (l:List aJ):dr l≤dr (brk b l)∧dr (brk b l)≤dr l+2:=by
 cases b with
 | false=>rw [ws];omega
 | true =>
   show dr l≤dr (sg 40::(l++[sg 41]))∧dr (sg 40::(l++[sg 41]))≤_;rw [dP,dI,dP,eR];omega
mutual
def sz:Tr→Nat
 | .mk _ t l=>1+t.length+szs l
def szs:List Tr→Nat
 | []=>0
 | x::r=>sz x+szs r
end
theorem uW (k:Int) (t:List UInt8) (l:List Tr):sz (.mk k t l)=1+t.length+szs l:=by rw [sz]
theorem vw:szs []=0:=by rw [szs]
theorem oM (x:Tr) (r:List Tr):szs (x::r)=sz x+szs r:=by rw [szs]
theorem vV (n:Nat) (a:List aJ) (s:List (List aJ)):dr (aX n (a::s))≤n+dr a+1+dr (aX n s):=by
 show dr (fB n++(a++nl::aX n s))≤_;have:=qf n (a++nl::aX n s);rw [dI a,vj] at this;omega
mutual
def gJ:Tr→Tr→Bool
 | .mk k t l,.mk k' t' l'=>decide (k=k') && decide (t=t') && dU l l'
def dU:List Tr→List Tr→Bool
 | [],[]=>true
 | x::r,y::s=>gJ x y && dU r s
 | [],_::_=>false
 | _::_,[]=>false
end
theorem o9 (k:Int) (t:List UInt8) (l:List Tr) (k':Int) (t':List UInt8) (l':List Tr):gJ (.mk k t l) (.mk k' t' l')=(decide (k=k') && decide (t=t') && dU l l'):=by rw [gJ]
theorem kV:dU [] []=true:=by rw [dU]
theorem rS (x y:Tr) (r s:List Tr):dU (x::r) (y::s)=(gJ x y && dU r s):=by rw [dU]
theorem wh (y:Tr) (s:List Tr):dU [] (y::s)=false:=by rw [dU]
theorem xr (y:Tr) (s:List Tr):dU (y::s) []=false:=by rw [dU]
mutual
theorem lF:∀ {x y:Tr},gJ x y=true ↔ x=y
 | .mk k t l,.mk k' t' l'=>by
   rw [o9,bAe,bAe,decide_eq_true_eq,decide_eq_true_eq,ja (x:=l) (y:=l')];constructor
   ·rintro ⟨⟨rfl,rfl⟩,rfl⟩;rfl
   ·intro h;cases h;exact ⟨⟨rfl,rfl⟩,rfl⟩
theorem ja:∀ {x y:List Tr},dU x y=true ↔ x=y
 | [],[]=>by rw [kV];simp
 | x::r,y::s=>by
   rw [rS,bAe,lF (x:=x) (y:=y),ja (x:=r) (y:=s)];constructor
   ·rintro ⟨rfl,rfl⟩;rfl
   ·intro h;cases h;exact ⟨rfl,rfl⟩
 | [],_::_=>by rw [wh];simp
 | _::_,[]=>by rw [xr];simp
end
theorem ol:∀ {l l':List NM} (j:Nat) (h:j<l.length) (h':j<l'.length),gJ l[j].tr l'[j].tr=false→dU (NM.trs l) (NM.trs l')=false:=by
 intro l l' j h h' hs;cases e:dU (NM.trs l) (NM.trs l') with
 | false=>rfl
 | true =>
   have q:=ja.1 e;rw [bR,bR] at q;have q1:(l.map NM.tr)[j]? = (l'.map NM.tr)[j]?:=by rw [q]
   rw [List.getElem?_map,List.getElem?_map,List.getElem?_eq_getElem h,List.getElem?_eq_getElem h'] at q1;simp only [Option.map_some,Option.some.injEq] at q1;rw [lF.2 q1] at hs;cases hs
theorem m7 {l l':List NM} (j:Nat) (h:j<l.length) (h':j<l'.length) (ht:dU (NM.trs (l.take j)) (NM.trs (l'.take j))=true) (hs:gJ l[j].tr l'[j].tr=true):dU (NM.trs (l.take (j+1))) (NM.trs (l'.take (j+1)))=true:=by
 rw [ja] at ht ⊢;rw [bR,bR] at ht ⊢;rw [List.take_add_one,List.take_add_one,List.map_append,List.map_append,ht,List.getElem?_eq_getElem h,List.getElem?_eq_getElem h'];simp only [Option.toList_some,List.map_cons,List.map_nil];rw [lF.1 hs]
theorem oX {l l':List NM} (h:l.length≠l'.length):dU (NM.trs l) (NM.trs l')=false:=by
 cases e:dU (NM.trs l) (NM.trs l') with
 | false=>rfl
 | true=>exact absurd (by rw [← cK l,← cK l',ja.1 e]) h
theorem jz (w:World) (o o':Obj):Below w.heap.size w ((w.alloc o).alloc o'):=(ag w o).alloc (by simp) _
structure rm (w:World) (b:Nat) (k:Int) (t:List UInt8) (l c:Int) (sl:Value):Prop where
 c0:w.cell? ⟨b,0,none⟩=some (.int .i64 k)
 c1:w.cell? ⟨b,1,none⟩=some (.string (bs t))
 c2:w.cell? ⟨b,2,none⟩=some (.int .i64 l)
 c3:w.cell? ⟨b,3,none⟩=some (.int .i64 c)
 c4:w.cell? ⟨b,4,none⟩=some sl
theorem ou (w:World) (k:Int) (t:List UInt8) (l c:Int) (sl:Value) (e:TypeId) (fr:Nat × Nat):rm (w.alloc (.cells #[.int .i64 k,.string (bs t),.int .i64 l,.int .i64 c,sl] e fr)) w.heap.size k t l c sl :=
 ⟨by rw [World.cell?_alloc_mark];rfl,by rw [World.cell?_alloc_mark];rfl,by rw [World.cell?_alloc_mark];rfl,by rw [World.cell?_alloc_mark];rfl,by rw [World.cell?_alloc_mark];rfl⟩
theorem rm.keeps {w w':World} {b:Nat} {k l c:Int} {t:List UInt8} {sl:Value} (h:rm w b k t l c sl) (hb:Below w.heap.size w w'):rm w' b k t l c sl :=
 ⟨gd hb h.c0,gd hb h.c1,gd hb h.c2,gd hb h.c3,gd hb h.c4⟩
theorem lG (w:World) (k:Int) (t:List UInt8) (l c:Int) (sl:Value) (o:Obj) (e:TypeId) (fr:Nat × Nat):rm ((w.alloc (.cells #[.int .i64 k,.string (bs t),.int .i64 l,.int .i64 c,sl] e fr)).alloc o) w.heap.size k t l c sl :=
 (ou w k t l c sl e fr).keeps (ag _ o)
theorem mN (w:World) (k:Int) (t:List UInt8) (l c:Int) (sl:Value) (o:Obj) (e:TypeId) (fr:Nat × Nat):rm ((w.alloc o).alloc (.cells #[.int .i64 k,.string (bs t),.int .i64 l,.int .i64 c,sl] e fr)) (w.heap.size+1) k t l c sl:=by
 have:=ou (w.alloc o) k t l c sl e fr;simpa using this
def tF (N:Nat):Prop:=∀ (k:Int) (t:List UInt8) (l c:Int) (ks:List NM) (a:Option Addr) (m:Nat) (k':Int) (t':List UInt8) (l' c':Int) (ks':List NM) (a':Option Addr) (m':Nat),(NM.mk k t l c ks a m).hi≤N→∀ w,am aR w (.mk k t l c ks a m)→am aR w (.mk k' t' l' c' ks' a' m') →
    Calls Tryz.prog 14 #[aB k t l c (.slice a ks.length m),aB k' t' l' c' (.slice a' ks'.length m')] w fun e w'=>e=.returned (.bool (gJ (NM.mk k t l c ks a m).tr (NM.mk k' t' l' c' ks' a' m').tr))∧Below w.heap.size w w'
theorem sU (l l':List NM) (lv lv':Value) (w:World) (hl:cn w lv l) (hl':cn w lv' l') 
  (HC:Hid (∀ j (hj:j<l.length) (hj':j<l'.length) W,Below w.heap.size w W→Calls Tryz.prog 14 #[aB l[j].k l[j].t l[j].l l[j].c l[j].sl,aB l'[j].k l'[j].t l'[j].l l'[j].c l'[j].sl] W fun e w'=>e=.returned (.bool (gJ l[j].tr l'[j].tr))∧Below W.heap.size W w')) :
  Calls Tryz.prog 28 #[lv,lv',.func (.func 14) #[] #[]] w fun e w'=>e=.returned (.bool (dU (NM.trs l) (NM.trs l')))∧Below w.heap.size w w':=by
 have HS:=hid (fun W (hW:Below w.heap.size w W)=>hl.below hW);have HS':=hid (fun W (hW:Below w.heap.size w W)=>hl'.below hW);obtain ⟨la,lc,rfl,iI,hlm,-⟩:=hl.nodes;obtain ⟨la',lc',rfl,hlc',hlm',-⟩:=hl'.nodes;unfold maxLen at hlm hlm';clear hl hl';by_cases hc:l.length=l'.length
 case neg =>
  have HF:Hid (dU (NM.trs l) (NM.trs l')=false):=hid (oX hc);have q:((l.length:Int) != (l'.length:Int))=true:=neT (by omega);clear hc;go_enter Tryz.func28,Tryz.ntmps28
  go_wp2_with fail;go_ret;exact ⟨by rw [HF.out];rfl,Below.refl _ _⟩
 have hll:=hid hc;have u1:((l.length:Int) != (l'.length:Int))=false:=neF (by omega);have hll1:l.length≤l'.length:=by omega
 clear hc;obtain ⟨bb,HE⟩:∃ bb,Hid (bb=dU (NM.trs l) (NM.trs l')):=⟨_,hid rfl⟩;rw [← HE.out];go_enter Tryz.func28,Tryz.ntmps28
 go_wp2_with fail;go_loopw [17] (fun i wr=>∃ j:Nat,j≤l.length∧i=.int .i64 j∧Hid (dU (NM.trs (l.take j)) (NM.trs (l'.take j))=true)∧Below w.heap.size w wr) (fun i _=>l.length - (intOf i).toNat)
 case atStart=>exact ⟨0,by omega,rfl,hid (by simp [ar,kV]),Below.refl _ _⟩
 case round =>
  obtain ⟨j,hj,rfl,HA,hbw⟩:=hrel;by_cases aL:j<l.length
  ·have hlt':j<l'.length:=by omega
   obtain ⟨la2,lc2,hv,-,-,hx⟩:=(HS.out _ hbw).nodes;obtain ⟨lb,lo,rfl,hlb,cw⟩:=hx j aL;obtain ⟨rfl,rfl⟩:la=some ⟨lb,lo,none⟩∧lc=lc2:=by simpa using hv
   obtain ⟨p0,p1,p2,p3,p4⟩:=cw j aL;clear hx hv cw;obtain ⟨la2',lc2',hv,-,-,hx⟩:=(HS'.out _ hbw).nodes;obtain ⟨lb',lo',rfl,hlb',cw⟩:=hx j hlt';obtain ⟨rfl,rfl⟩:la'=some ⟨lb',lo',none⟩∧lc'=lc2':=by simpa using hv
   obtain ⟨r0,r1,r2,r3,r4⟩:=cw j hlt';clear hx hv cw;have HCj:=hid (fun W hW=>HC.out j aL hlt' W (zdy hbw hW));have HBad:=hid (fun h=>ol (l:=l) (l':=l') j aL hlt' h);have HNx:=hid (fun h=>m7 (l:=l) (l':=l') j aL hlt' HA.out h);have hs1:∃ a n m,l[j].sl=.slice a n m:=by cases l[j];exact ⟨_,_,_,rfl⟩
   have hs1':∃ a n m,l'[j].sl=.slice a n m:=by cases l'[j];exact ⟨_,_,_,rfl⟩
   generalize gJ l[j].tr l'[j].tr=sb at *;generalize l[j].k=xk at *;generalize l[j].t=xt at *;generalize l[j].l=xl at *;generalize l[j].c=xc at *;generalize l[j].sl=xs at *;generalize l'[j].k=yk at *;generalize l'[j].t=yt at *;generalize l'[j].l=yl at *;generalize l'[j].c=yc at *;generalize l'[j].sl=ys at *;obtain ⟨la3,ln3,lc3,rfl⟩:=hs1;obtain ⟨la4,ln4,lc4,rfl⟩:=hs1';have hbA:=ag wr (.cells #[.int .i64 xk,.string (bs xt),.int .i64 xl,.int .i64 xc,.slice la3 ln3 lc3] 27 (0,0));have k0:=gd hbA r0;have k1:=gd hbA r1;have k2:=gd hbA r2;have k3:=gd hbA r3;have k4:=gd hbA r4;have hbB:=jz wr (.cells #[.int .i64 xk,.string (bs xt),.int .i64 xl,.int .i64 xc,.slice la3 ln3 lc3] 27 (0,0)) (.cells #[.int .i64 yk,.string (bs yt),.int .i64 yl,.int .i64 yc,.slice la4 ln4 lc4] 27 (0,0));have hbx:=lG wr xk xt xl xc (.slice la3 ln3 lc3) (.cells #[.int .i64 yk,.string (bs yt),.int .i64 yl,.int .i64 yc,.slice la4 ln4 lc4] 27 (0,0)) 27 (0,0);have hby:=mN wr yk yt yl yc (.slice la4 ln4 lc4) (.cells #[.int .i64 xk,.string (bs xt),.int .i64 xl,.int .i64 xc,.slice la3 ln3 lc3] 27 (0,0)) 27 (0,0);obtain ⟨a0,a1,a2,a3,a4⟩:=hbx;obtain ⟨b0,b1,b2,b3,b4⟩:=hby;go_wp2_with fail;refine (HCj.out _ hbB).mono ?_;rintro e w1 ⟨rfl,hb1⟩;have hbq:=zdy hbw (zdy hbB hb1);cases sb with
   | true =>
     have HN:=hid (HNx.out rfl);go_wp2_with fail;exact ⟨⟨j+1,by omega,by go_num,HN,hbq⟩,by simp [intOf];omega⟩
   | false =>
     have HF:Hid (bb=false):=hid (by rw [HE.out];exact HBad.out rfl);go_wp2_with fail;go_ret;exact ⟨by rw [HF.out];rfl,hbq⟩
  ·obtain rfl:j=l.length:=by omega
   have HF:Hid (bb=true):=hid (by rw [HE.out];have:=HA.out;rwa [List.take_length,hll.out,List.take_length] at this);go_wp2_with fail;go_ret;exact ⟨by rw [HF.out];rfl,hbw⟩
theorem uA (N:Nat) (IH:tF N):tF (N+1):=by
 intro k t l c ks a m k' t' l' c' ks' a' m' hN w hH hH';have hl:=hH.kidsAt;have hl':=hH'.kidsAt;rw [ij] at hN;have CF:=hid (fun W0 (hW0:Below w.heap.size w W0)=>sU ks ks' (.slice a ks.length m) (.slice a' ks'.length m') W0 (hl.below hW0) (hl'.below hW0) (hid (fun j hj hj' W hW=>by
  have hWW:=zdy hW0 hW;have h1:=(hl.below hWW).get j hj;have h1':=(hl'.below hWW).get j hj';have h2:=iq (ks:=ks) (N:=N) (by omega) j hj;generalize ks[j]=x at *;generalize ks'[j]=y at *;cases x with
  | mk p q r s u v z =>
  cases y with
  | mk p' q' r' s' u' v' z'=>exact IH p q r s u v z p' q' r' s' u' v' z' h2 W h1 h1')))
 have HBA:=hid (lG w k t l c (.slice a ks.length m) (.cells #[.int .i64 k',.string (bs t'),.int .i64 l',.int .i64 c',.slice a' ks'.length m'] 27 (0,0)) 27 (0,0));have HBB:=hid (mN w k' t' l' c' (.slice a' ks'.length m') (.cells #[.int .i64 k,.string (bs t),.int .i64 l,.int .i64 c,.slice a ks.length m] 27 (0,0)) 27 (0,0));have hb2n:=jz w (.cells #[.int .i64 k,.string (bs t),.int .i64 l,.int .i64 c,.slice a ks.length m] 27 (0,0)) (.cells #[.int .i64 k',.string (bs t'),.int .i64 l',.int .i64 c',.slice a' ks'.length m'] 27 (0,0));have hba:=HBA.out;have ac:=HBB.out;obtain ⟨a0,a1,a2,a3,a4⟩:=hba;obtain ⟨b0,b1,b2,b3,b4⟩:=ac;have HE:=hid (o9 k t (NM.trs ks) k' t' (NM.trs ks'));rw [aq,aq];clear hl hl' hH hH' hN IH;generalize gJ (.mk k t (NM.trs ks)) (.mk k' t' (NM.trs ks'))=bb at *;generalize dU (NM.trs ks) (NM.trs ks')=sb at *;by_cases hc:k=k'
 case neg =>
  have HF:Hid (bb=false):=hid (by rw [HE.out];rw [decide_eq_false hc];rfl);have q:(k == k')=false:=eqF hc;clear hc;go_enter Tryz.func14,Tryz.ntmps14
  go_wp2_with fail;go_ret;exact ⟨by rw [HF.out];rfl,hb2n⟩
 subst hc;by_cases hc:t=t'
 case neg =>
  have HF:Hid (bb=false):=hid (by rw [HE.out];rw [decide_eq_false hc];simp);have q:(t == t')=false:=beq_eq_false_iff_ne.2 hc;clear hc;go_enter Tryz.func14,Tryz.ntmps14
  go_wp2_with fail;go_ret;exact ⟨by rw [HF.out];rfl,hb2n⟩
 subst hc;have HF:Hid (bb=sb):=hid (by rw [HE.out];simp);go_enter Tryz.func14,Tryz.ntmps14
 go_wp2_with fail;refine (CF.out _ hb2n).mono ?_;rintro e w2 ⟨rfl,hb2⟩;go_wp2_with fail;go_ret;exact ⟨by rw [HF.out];rfl,zdy hb2n hb2⟩
theorem pL:∀ N,tF N
 | 0=>by
   intro k t l c ks a m k' t' l' c' ks' a' m' hN;rw [ij] at hN;omega
 | N+1=>uA N (pL N)
theorem rD (k:Int) (t:List UInt8) (l c:Int) (ks:List NM) (a:Option Addr) (m:Nat) (k':Int) (t':List UInt8) (l' c':Int) (ks':List NM) (a':Option Addr) (m':Nat) (w:World) (h:am aR w (.mk k t l c ks a m)) (h':am aR w (.mk k' t' l' c' ks' a' m')) :
  Calls Tryz.prog 14 #[aB k t l c (.slice a ks.length m),aB k' t' l' c' (.slice a' ks'.length m')] w fun e w'=>e=.returned (.bool (gJ (NM.mk k t l c ks a m).tr (NM.mk k' t' l' c' ks' a' m').tr))∧Below w.heap.size w w' :=
 pL _ k t l c ks a m k' t' l' c' ks' a' m' (nRe _) w h h'
mutual
def cE:Tr→Nat→Nat
 | .mk _ t l,d=>if 500<d∨5000<l.length then 100000 else dD l d (1+t.length)
def dD:List Tr→Nat→Nat→Nat
 | [],_,s=>s
 | x::r,d,s=>if 20000<s+cE x (d+1) then 100000 else dD r d (s+cE x (d+1))
end
theorem gP (k:Int) (t:List UInt8) (l:List Tr) (d:Nat):cE (.mk k t l) d=if 500<d∨5000<l.length then 100000 else dD l d (1+t.length):=by rw [cE]
theorem gA (d s:Nat):dD [] d s=s:=by rw [dD]
theorem fi (x:Tr) (r:List Tr) (d s:Nat):dD (x::r) d s=if 20000<s+cE x (d+1) then 100000 else dD r d (s+cE x (d+1)):=by rw [dD]
mutual
def NM.small:NM→Prop
 | .mk _ t _ _ ks _ _=>t.length≤140737488351232∧zdL ks
def zdL:List NM→Prop
 | []=>True
 | x::r=>x.small∧zdL r
end
theorem rK {k l c:Int} {t:List UInt8} {ks:List NM} {a:Option Addr} {m:Nat} (h:(NM.mk k t l c ks a m).small):t.length≤140737488351232∧zdL ks:=by unfold NM.small at h;exact h
theorem kR:∀ {ks:List NM},zdL ks→∀ k (h:k<ks.length),ks[k].small
 | [],_,k,h=>by simp at h
 | x::r,hf,k,h=>by
   unfold zdL at hf;cases k with
   | zero=>exact hf.1
   | succ k=>exact kR hf.2 k (by simpa using h)
theorem j7:∀ (l:List Tr) (d s:Nat),s≤140737488351233→dD l d s≤140737488351233
 | [],d,s,h=>by rw [gA];exact h
 | x::r,d,s,h=>by
   rw [fi];split
   ·omega
   ·exact j7 r d _ (by omega)
theorem qI (x:NM) (h:x.small) (d:Nat):cE x.tr d≤140737488351233:=by
 cases x with
 | mk k t l c ks a m =>
 have:=(rK h).1;rw [aq,gP];split
 ·omega
 ·exact j7 _ _ _ (by omega)
theorem rZ (ks:List NM) (d s j:Nat) (h:j<ks.length):dD (NM.trs (ks.drop j)) d s=if 20000<s+cE ks[j].tr (d+1) then 100000 else dD (NM.trs (ks.drop (j+1))) d (s+cE ks[j].tr (d+1)):=by
 rw [List.drop_eq_getElem_cons h,ai,fi]
def qG (N:Nat):Prop:=∀ (k:Int) (t:List UInt8) (l c:Int) (ks:List NM) (a:Option Addr) (m:Nat) (d:Nat),501≤d+N→d≤501→(NM.mk k t l c ks a m).small→∀ w,am aR w (.mk k t l c ks a m) →
    Calls Tryz.prog 11 #[aB k t l c (.slice a ks.length m),.int .i64 (d:Int)] w fun e w'=>e=.returned (.int .i64 (cE (NM.mk k t l c ks a m).tr d:Nat))∧Below w.heap.size w w'
theorem na (k:Int) (t:List UInt8) (l c:Int) (ks:List NM) (a:Option Addr) (m:Nat) (d:Nat) (w:World) (hd:d≤501) (hm:ks.length≤maxLen) (h:500<d∨5000<ks.length) :
  Calls Tryz.prog 11 #[aB k t l c (.slice a ks.length m),.int .i64 (d:Int)] w fun e w'=>e=.returned (.int .i64 (cE (NM.mk k t l c ks a m).tr d:Nat))∧Below w.heap.size w w':=by
 have HF:=hid (show cE (NM.mk k t l c ks a m).tr d=100000 by rw [aq,gP,cK,if_pos h]);unfold maxLen at hm;rw [HF.out];have hb:=ag w (.cells #[.int .i64 k,.string (bs t),.int .i64 l,.int .i64 c,.slice a ks.length m] 27);by_cases hc:500<d
 ·have q:decide ((500:Int)<(d:Int))=true:=decide_eq_true (by omega);have q2:(500:Int)<(d:Int):=by omega
  clear h;go_enter Tryz.func11,Tryz.ntmps11
  go_wp2_with fail;go_ret;exact ⟨rfl,hb⟩
 ·have h2:=h.resolve_left hc;have q:decide ((500:Int)<(d:Int))=false:=decide_eq_false (by omega);have q2:¬ (500:Int)<(d:Int):=by omega
  have q3:decide ((5000:Int)<(ks.length:Int))=true:=decide_eq_true (by omega);have q4:(5000:Int)<(ks.length:Int):=by omega
  clear h;go_enter Tryz.func11,Tryz.ntmps11
  go_wp2_with fail;go_ret;exact ⟨rfl,hb⟩
theorem rT (N:Nat) (IH:qG N):qG (N+1):=by
 intro k t l c ks a m d hN hd hs w hH;obtain ⟨ht,hks⟩:=rK hs;have hl:=hH.kidsAt;have hln:ks.length≤m∧m≤maxLen:=by obtain ⟨_,_,e,h1,h2,-⟩:=hl.nodes;simp only [Value.slice.injEq] at e;obtain ⟨-,-,rfl⟩:=e;exact ⟨h1,h2⟩
 have hmx:=nT hln.1 hln.2;unfold maxLen at hln;obtain ⟨iI,hlm⟩:=hln;by_cases hbig:500<d∨5000<ks.length
 ·exact na k t l c ks a m d w hd hmx hbig
 obtain ⟨h500,h5000⟩:d≤500∧ks.length≤5000:=by omega
 have HC:=hid (fun j (hj:j<ks.length) W (hW:Below w.heap.size w W)=>show Calls Tryz.prog 11 #[aB ks[j].k ks[j].t ks[j].l ks[j].c ks[j].sl,.int .i64 ((d+1:Nat):Int)] W (fun e w'=>e=.returned (.int .i64 (cE ks[j].tr (d+1):Nat))∧Below W.heap.size W w') by
  have h1:=(hl.below hW).get j hj;have h2:=kR hks j hj;generalize ks[j]=x at *;cases x with
  | mk p q r s u v z=>exact IH p q r s u v z (d+1) (by omega) (by omega) h2 W h1)
 have HWS:=hid (fun j (hj:j<ks.length)=>qI ks[j] (kR hks j hj) (d+1));have HS:=hid (fun W (hW:Below w.heap.size w W)=>hl.below hW);obtain ⟨R,hR⟩:∃ R,R=cE (NM.mk k t l c ks a m).tr d:=⟨_,rfl⟩;have HR:Hid (dD (NM.trs (ks.drop 0)) d (1+t.length)=R):=hid (by rw [hR,aq,gP,cK,if_neg hbig];rfl);rw [← hR];have q1:decide ((500:Int)<(d:Int))=false:=decide_eq_false (by omega);have q2:¬ (500:Int)<(d:Int):=by omega
 have q3:decide ((5000:Int)<(ks.length:Int))=false:=decide_eq_false (by omega);have q4:¬ (5000:Int)<(ks.length:Int):=by omega
 clear hmx hR hbig hN hs hks hH hl IH hd;have hb:=ag w (.cells #[.int .i64 k,.string (bs t),.int .i64 l,.int .i64 c,.slice a ks.length m] 27);go_enter Tryz.func11,Tryz.ntmps11
 go_wp2_with fail;go_loopw [5,23] (fun s i wr=>∃ (j n:Nat),j≤ks.length∧i=.int .i64 j∧s=.int .i64 (n:Int)∧n≤140737488351233∧Hid (dD (NM.trs (ks.drop j)) d n=R)∧Below w.heap.size w wr) (fun _ i _=>ks.length - (intOf i).toNat)
 case atStart=>exact ⟨0,1+t.length,by omega,rfl,by go_num,by omega,HR,hb⟩
 case round =>
  obtain ⟨j,n,hj,rfl,rfl,hn,HA,hbw⟩:=hrel;by_cases aL:j<ks.length
  ·obtain ⟨la2,lc2,hv,-,-,hx⟩:=(HS.out _ hbw).nodes;obtain ⟨lb,lo,rfl,hlb,cw⟩:=hx j aL;obtain ⟨rfl,rfl⟩:a=some ⟨lb,lo,none⟩∧m=lc2:=by simpa using hv
   obtain ⟨p0,p1,p2,p3,p4⟩:=cw j aL;clear hx hv cw;have HCj:=hid (fun W hW=>HC.out j aL W (zdy hbw hW));have HNx:=hid (rZ ks d n j aL);have hws:=HWS.out j aL;have hs1:∃ a n m,ks[j].sl=.slice a n m:=by cases ks[j];exact ⟨_,_,_,rfl⟩
   generalize cE ks[j].tr (d+1)=g at *;generalize ks[j].k=xk at *;generalize ks[j].t=xt at *;generalize ks[j].l=xl at *;generalize ks[j].c=xc at *;generalize ks[j].sl=xs at *;obtain ⟨la3,ln3,lc3,rfl⟩:=hs1;have hbA:=ag wr (.cells #[.int .i64 xk,.string (bs xt),.int .i64 xl,.int .i64 xc,.slice la3 ln3 lc3] 27 (0,0));obtain ⟨a0,a1,a2,a3,a4⟩:=ou wr xk xt xl xc (.slice la3 ln3 lc3) 27 (0,0);go_wp2_with fail;refine (HCj.out _ hbA).mono ?_;rintro e w1 ⟨rfl,hb1⟩;have hbq:=zdy hbw (zdy hbA hb1);by_cases hc:20000<n+g
   ·have HF:Hid (R=100000):=hid (by rw [← HA.out,HNx.out,if_pos hc]);have q5:(20000:Int)<(n:Int)+(g:Int):=by omega
    go_wp2_with fail;go_ret;exact ⟨by rw [HF.out];rfl,hbq⟩
   ·have HN:Hid (dD (NM.trs (ks.drop (j+1))) d (n+g)=R):=hid (by rw [← HA.out,HNx.out,if_neg hc]);have q5:¬ (20000:Int)<(n:Int)+(g:Int):=by omega
    go_wp2_with fail;exact ⟨⟨j+1,n+g,by omega,by go_num,by go_num,by omega,HN,hbq⟩,by simp [intOf];omega⟩
  ·obtain rfl:j=ks.length:=by omega
   have HF:Hid (R=n):=hid (by rw [← HA.out,List.drop_length,ar,gA]);go_wp2_with fail;go_ret;exact ⟨by rw [HF.out];rfl,hbw⟩
theorem n5:∀ N,qG N
 | 0=>by
   intro k t l c ks a m d hN hd hs w hH;have hl:=hH.kidsAt;have hln:ks.length≤m∧m≤maxLen:=by obtain ⟨_,_,e,h1,h2,-⟩:=hl.nodes;simp only [Value.slice.injEq] at e;obtain ⟨-,-,rfl⟩:=e;exact ⟨h1,h2⟩
   exact na k t l c ks a m d w hd (nT hln.1 hln.2) (.inl (by omega))
 | N+1=>rT N (n5 N)
theorem nX (k:Int) (t:List UInt8) (l c:Int) (ks:List NM) (a:Option Addr) (m:Nat) (hs:(NM.mk k t l c ks a m).small) (w:World) (hH:am aR w (.mk k t l c ks a m)) :
  Calls Tryz.prog 11 #[aB k t l c (.slice a ks.length m),.int .i64 0] w fun e w'=>e=.returned (.int .i64 (cE (NM.mk k t l c ks a m).tr 0:Nat))∧Below w.heap.size w w' :=
 n5 501 k t l c ks a m 0 (by omega) (by omega) hs w hH
theorem g8:∀ {l:List Tr} {d s:Nat},dD l d s≤4000→s≤4000
 | [],d,s,h=>by rw [gA] at h;exact h
 | x::r,d,s,h=>by
   rw [fi] at h;split at h
   ·omega
   ·have:=g8 h;omega
mutual
theorem ll:∀ (x:NM) (d:Nat),cE x.tr d≤4000→x.fit∧d+x.hi≤501
 | .mk k t l c ks a m,d,h=>by
   rw [aq,gP] at h;split at h
   ·omega
   ·rename_i hn;rw [cK] at hn;have h1:=g8 h;have h2:=ni ks d (1+t.length) h;unfold NM.fit;rw [ij];exact ⟨⟨by omega,by omega,h2.1⟩,by
     rcases h2.2 with rfl | h3
     ·rw [zdP];omega
     ·omega⟩
theorem ni:∀ (ks:List NM) (d s:Nat),dD (NM.trs ks) d s≤4000→zdQ ks∧(ks=[]∨d+1+zdP ks≤501)
 | [],d,s,_=>by unfold zdQ;exact ⟨trivial,.inl rfl⟩
 | x::r,d,s,h=>by
   rw [ai,fi] at h;split at h
   ·omega
   ·have h1:=g8 h;have h2:=ll x (d+1) (by omega);have h3:=ni r d _ h;unfold zdQ;refine ⟨⟨h2.1,h3.1⟩,.inr ?_⟩;rw [zdP];have h4:=h2.2;rcases h3.2 with rfl | h5
    ·rw [zdP];omega
    ·omega
end
def pt:List Nat→Nat
 | []=>0
 | a::r=>a+pt r
theorem sM:∀ a b:List Nat,pt (a++b)=pt a+pt b
 | [],b=>by show pt b=0+pt b;omega
 | x::a,b=>by show x+pt (a++b)=x+pt a+pt b;rw [sM a b];omega
def tot (n:Nat) (s:List (List aJ)):Nat:=pt (s.map fun a=>dr a+n+2)
theorem ek (n:Nat) (a:List aJ) (s:List (List aJ)):tot n (a::s)=dr a+n+2+tot n s:=rfl
theorem zam (n:Nat):tot n []=0:=rfl
theorem zaW (n:Nat) (a b:List (List aJ)):tot n (a++b)=tot n a+tot n b:=by unfold tot;rw [List.map_append,sM]
theorem mD (n:Nat):∀ s:List (List aJ),dr (aE s)≤tot n s
 | []=>Nat.zero_le _
 | [a]=>by show dr a≤_;rw [ek];omega
 | a::b::r=>by
   have:=mD n (b::r);show dr (a++sg 44::sp::aE (b::r))≤_;rw [ek,dI,dP,dq];omega
theorem rV (n:Nat):∀ s:List (List aJ),dr (b7 s)≤tot n s
 | []=>Nat.zero_le _
 | [a]=>by show dr a≤_;rw [ek];omega
 | [a,b]=>by
   show dr (a++sg 58::sp::b)≤_;rw [ek,ek,zam,dI,dP,dq];omega
 | a::b::c::r=>by
   have:=rV n (c::r);show dr (a++sg 58::sp::(b++sg 44::sp::b7 (c::r)))≤_;rw [ek,ek,dI,dP,dq,dI,dP,dq];omega
theorem mR (n:Nat):∀ s:List (List aJ),dr (aX n s)≤tot n s
 | []=>Nat.zero_le _
 | a::r=>by
   have:=mR n r;have:=vV n a r;rw [ek];omega
theorem zr (n:Nat) (s:List (List aJ)):dr (s.getD 0 [])+dr (s.getD 1 [])+dr (s.getD 2 [])≤tot n s:=by
 match s with
 | []=>exact Nat.zero_le _
 | [a]=>show dr a+0+0≤_;rw [ek];omega
 | [a,b]=>show dr a+dr b+0≤_;rw [ek,ek];omega
 | a::b::c::r=>show dr a+dr b+dr c≤_;rw [ek,ek,ek];omega
theorem yw (n:Nat) (s:List (List aJ)):dr (aE s.dropLast)+dr (s.getLastD [])≤tot n s:=by
 by_cases h:s=[]
 ·subst h;exact Nat.zero_le _
 ·have e:s=s.dropLast++[s.getLast h]:=(List.dropLast_concat_getLast h).symm;have h1:=mD n s.dropLast;have h2:s.getLastD []=s.getLast h:=by
   rw [List.getLastD_eq_getLast?,List.getLast?_eq_some_getLast h];rfl
  have h3:tot n s=tot n s.dropLast+(dr (s.getLast h)+n+2):=by
   have:=zaW n s.dropLast [s.getLast h];rw [← e] at this;rw [this];rfl
  rw [h2];omega
theorem yL (t:List UInt8):(df 3 t).length≤2 * t.length+2:=by
 show (dR t).length≤_;unfold dR;split
 ·exact Nat.zero_le _
 ·have:∀ t:List UInt8,(t.flatMap bS).length≤2 * t.length:=by
   intro t;induction t with
   | nil=>exact nRe _
   | cons c t ih =>
     rw [List.flatMap_cons,lAp,lCo];have h2:(bS c).length≤2:=by unfold bS;split <;> (try split) <;> simp
     omega
  have:=this t;simp only [lCo,lAp,lNi];omega
theorem zaL (n:Nat) (k:Int) (t:List UInt8) (l:List Top) (s:List (List aJ)) (h7:k=7→(l.getD 0 mV).2.length≤dr (s.getD 0 [])):dr (es n k t l s)≤2 * t.length+n+30+tot (n+1) s:=by
 have h3:=zr (n+1) s;have hc:=mD (n+1) s;have hd:=rV (n+1) s;have hl:=mR (n+1) s;have hr:=yw (n+1) s;have b0:=yC;unfold es;by_cases e11:k=11
 ·rw [if_pos e11];rw [gn,eR];have:=yL t;show (df 3 t).length+0≤_;omega
 rw [if_neg e11];by_cases e12:k=12
 ·rw [if_pos e12];rw [dP,dI,dP,eR];omega
 rw [if_neg e12];by_cases e13:k=13
 ·rw [if_pos e13];rw [dP,dI,dP,eR];omega
 rw [if_neg e13];by_cases e14:k=14
 ·rw [if_pos e14];rw [dL,dP,dI,dP,eR];omega
 rw [if_neg e14];by_cases e15:k=15
 ·rw [if_pos e15];split
  ·omega
  ·rw [dL,dq,dP,dq];omega
 rw [if_neg e15];by_cases e16:k=16
 ·rw [if_pos e16];split
  ·have:=b0 (dY (l.getD 0 mV)) (s.getD 0 []);rw [dL,dq];show 3+_≤_;omega
  ·have:=b0 (gV (l.getD 0 mV)) (s.getD 0 []);have:=b0 (hU t (l.getD 1 mV)) (s.getD 1 []);rw [dI,dq,zaw,dq];omega
 rw [if_neg e16];by_cases e7:k=7
 ·rw [if_pos e7];have h7:=h7 e7;rw [dL,dP,dq,dL];split
  ·rw [dq,dP,dq];omega
  ·rw [eR];omega
 rw [if_neg e7];by_cases e8:k=8
 ·rw [if_pos e8];rw [dP,vj,dI];have:=qf n [sg 125];have h2:dr [sg 125]=1:=rfl;omega
 rw [if_neg e8];by_cases e2:k=2
 ·rw [if_pos e2];rw [dL,dq,dP,dq,dI,dP,eR];omega
 rw [if_neg e2];by_cases e3:k=3
 ·rw [if_pos e3];rw [dI,dP,eR];omega
 rw [if_neg e3];by_cases e4:k=4
 ·rw [if_pos e4];rw [dL,dq,dL,dq,dL,dq,dI,dq];show 3+(1+(_+(1+(2+_))))≤_;omega
 rw [if_neg e4];by_cases e5:k=5
 ·rw [if_pos e5];rw [dL,dq,dI,dq,dI];show 2+_≤_;split
  ·rw [dq,dL,dq];show 2+(1+(_+(1+(_+(1+(4+_))))))≤_;omega
  ·rw [eR];omega
 rw [if_neg e5];by_cases e6:k=6
 ·rw [if_pos e6];rw [dL,dq,dL,dP,dI,dP,dq];show 4+_≤_;omega
 rw [if_neg e6];by_cases e10:k=10
 ·rw [if_pos e10];rw [gn,eR];show t.length+0≤_;omega
 rw [if_neg e10];rw [dL,eR];omega
theorem xi {t:List UInt8} {l:List Tr} (h:fH 7 t (bD l)=true) (hok:ee l=true) (n:Nat):((bD l).getD 0 mV).2.length≤dr ((oPs n l).getD 0 []):=by
 have h':(aM t && oU (bD l))=true:=h;simp only [bAe] at h';cases l with
 | nil=>exact absurd h'.2 (by decide)
 | cons a u =>
   have ha:a.kd=9:=by
    have h2:=h'.2;rcases u with _ | ⟨b,u⟩
    ·have h2:(a.kd == 9 && cY a.tx)=true:=h2;simp only [bAe,beq_iff_eq] at h2;exact h2.1
    ·rcases u with _ | ⟨c,u⟩
     ·have h2:(a.kd == 9 && cY a.tx && isE b.kd)=true:=h2;simp only [bAe,beq_iff_eq] at h2;exact h2.1.1
     ·cases h2
   cases a with
   | mk k ty al =>
     have ha:k=9:=ha;subst ha;rw [aY,bP];show ty.length≤dr [(1,ty)];rw [dL];omega
mutual
theorem zb5:∀ (x:Tr) (n K:Nat),okT x=true→n+sz x+40≤K→dr (oP n x)+K≤2 * K * sz x
 | .mk k t l,n,K,h,hK=>by
   rw [d7] at h;simp only [bAe] at h;rw [uW] at hK ⊢;have h1:=zaL n k t (bD l) (oPs (if k=8 then n+1 else n) l) (fun e=>by subst e;exact xi h.1 h.2 _);have h2:=rd l (if k=8 then n+1 else n) (n+1) K h.2 (by split <;> omega) (by omega);rw [bP,Nat.mul_add,Nat.mul_add];have h3:t.length≤K * t.length:=Nat.le_mul_of_pos_left _ (by omega);have h4:2 * K * t.length=2 * (K * t.length):=Nat.mul_assoc ..;omega
theorem rd:∀ (l:List Tr) (n m K:Nat),ee l=true→n+szs l+40≤K→m+3≤K→tot m (oPs n l)≤2 * K * szs l
 | [],n,m,K,_,_,_=>by rw [dH];exact Nat.zero_le _
 | x::r,n,m,K,h,hK,hm=>by
   rw [bM] at h;simp only [bAe] at h;rw [oM] at hK ⊢;have h1:=zb5 x n K h.1 (by omega);have h2:=rd r n m K h.2 (by omega) hm;rw [aY,ek,Nat.mul_add];omega
end
theorem sD {l:List Tr} (h:ee l=true) (hs:szs l≤10000):(af (cr l)).length≤140737488351232:=by
 have h1:=mR 0 (oPs 0 l);have h2:=rd l 0 0 20000 h (by omega) (by omega);have h3:(af (cr l)).length=dr (aX 0 (oPs 0 l)):=rfl;omega
mutual
theorem wH:∀ (x:Tr) (d:Nat),cE x d≤4000→sz x≤4000
 | .mk k t l,d,h=>by
   rw [gP] at h;split at h
   ·omega
   ·have:=nJ l d _ h;rw [uW];omega
theorem nJ:∀ (l:List Tr) (d s:Nat),dD l d s≤4000→s+szs l≤4000
 | [],d,s,h=>by rw [gA] at h;rw [vw];omega
 | x::r,d,s,h=>by
   rw [fi] at h;split at h
   ·omega
   ·have h1:=g8 h;have h2:=n7 x (d+1) (s+cE x (d+1)) (by omega);have h3:=nJ r d _ h;rw [oM];omega
theorem n7:∀ (x:Tr) (d _s:Nat),cE x d≤4000→sz x≤cE x d
 | .mk k t l,d,_s,h=>by
   rw [gP] at h ⊢;split at h
   ·omega
   ·rename_i hn;rw [if_neg hn];have:=nh l d (1+t.length) h;rw [uW];omega
theorem nh:∀ (l:List Tr) (d s:Nat),dD l d s≤4000→s+szs l≤dD l d s
 | [],d,s,h=>by rw [gA,vw];omega
 | x::r,d,s,h=>by
   rw [fi] at h ⊢;split at h
   ·omega
   ·rename_i hn;rw [if_neg hn];have h1:=g8 h;have h2:=n7 x (d+1) 0 (by omega);have h3:=nh r d _ h;rw [oM];omega
end
theorem x6 {l:List Tr} (hk:(bD l).all (fun x=>isS x.1)=true) (h:ee l=true) :
  fD (.mk 1 [] l)=if oY l≤60∧(af (cr l)).length≤65536 then (af (cr l),0) else ([],6):=by
 have hok:j9 (.mk 1 [] l)=true:=by show (decide ((1:Int)=1) && true && (bD l).all (fun x=>isS x.1) && ee l)=true;rw [hk,h];rfl
 unfold fD;rw [if_pos hok];show (match eE (af (cr l)) with | .bad e _=>if e=0 then (af (cr l),0) else ([],e) | _=>(af (cr l),0))=_;have ht:=uB hk h;by_cases hc:oY l≤60∧(af (cr l)).length≤65536
 ·obtain ⟨z,r,e,_⟩:=ht.1 hc;rw [e,if_pos hc]
 ·obtain ⟨p,e⟩:=ht.2 hc;rw [e,if_neg hc];rfl
mutual
theorem zau:∀ x:NM,oD x.tr≤2 * x.hi
 | .mk k t l c ks a m=>by
   rw [aq,di,ij];have h:=nZ ks;have h0:∀ j,(oDs (NM.trs ks)).getD j 0≤b9 (oDs (NM.trs ks)):=by
    intro j;rw [List.getD_eq_getElem?_getD];cases e:(oDs (NM.trs ks))[j]? with
    | none=>exact Nat.zero_le _
    | some v=>exact lD _ _ (List.mem_of_getElem? e)
   have h1:=h0 0;have h2:=h0 1;unfold zcb gW
   repeat' split
   all_goals omega
theorem nZ:∀ ks:List NM,b9 (oDs (NM.trs ks))≤2 * zdP ks
 | []=>by rw [ar,co];exact Nat.zero_le _
 | x::r=>by
   rw [ai,bj,zdP];have h1:=zau x;have h2:=nZ r;show max _ _≤_;omega
end
theorem qN (k:Int) (t:List UInt8) (l c:Int) (ks:List NM) (a:Option Addr) (m:Nat) (w:World) (hw:bB w) (hh:am aR w (.mk k t l c ks a m)) (hf:(NM.mk k t l c ks a m).fit) (hhi:(NM.mk k t l c ks a m).hi≤90000)
  (aF:ee (NM.trs ks)=true→(af (cr (NM.trs ks))).length≤140737488351232) (R:List UInt8 × Nat) (hR:fD (NM.mk k t l c ks a m).tr=R) :
  Calls Tryz.prog 13 #[aB k t l c (.slice a ks.length m)] w fun e w'=>e=.returned (.tuple #[.string (bs R.1),.int .i64 (R.2:Int)])∧Below w.heap.size w w':=by
 obtain ⟨ht,hk,hfs⟩:=kY hf;have bC:=nb;obtain ⟨W0,hW0,hb0,hn0⟩:∃ W,Hid (W=w.alloc (.cells #[.int .i64 k,.string (bs t),.int .i64 l,.int .i64 c,.slice a ks.length m] 27))∧Below w.heap.size w W∧W.heap[w.heap.size]? = some (.cells #[.int .i64 k,.string (bs t),.int .i64 l,.int .i64 c,.slice a ks.length m] 27 (0,0)) :=
  ⟨_,hid rfl,ag w _,hAn w _⟩
 have HB:=hid hb0;have HC:=hid (wF k t l c ks a m W0 (hw.below hb0) (hh.below hb0) hf);have hlt0:w.heap.size<W0.heap.size:=(aGe.1 hn0).1;cases ho:j9 (NM.mk k t l c ks a m).tr with
 | false =>
   have HR:Hid (R=([],3)):=hid (by rw [← hR];unfold fD;rw [if_neg (by rw [ho];decide)]);rw [ho] at HC;obtain ⟨z0,z1,z2,z3,z4⟩:=r5 hn0;clear hw hh hf hhi aF hR hb0 hn0 hfs;go_enter Tryz.func13,Tryz.ntmps13
   go_wp2_with fail;rw [← hW0.out];clear hW0;refine HC.out.mono ?_;rintro e w1 ⟨rfl,hb1⟩;go_wp2_with fail
   go_ret2
   exact ⟨by rw [HR.out];rfl,zdy HB.out hb1⟩
 | true =>
   have hof:=ho;rw [aq,nE] at hof;simp only [bAe,decide_eq_true_eq] at hof;obtain ⟨h1,h2,h3⟩:=hof;have h2':t=[]:=by simpa using h2
   subst h1 h2';have hok:ee (NM.trs ks)=true:=by
    rw [nV,eO];rw [eO] at h3;rw [List.all_eq_true] at h3 ⊢;intro x hx;have:=h3 x hx;unfold mS at this;simp only [bAe] at this;exact this.2
   have hks:(bD (NM.trs ks)).all (fun x=>isS x.1)=true:=by
    unfold bD;rw [List.all_map,eO];rw [eO] at h3;rw [List.all_eq_true] at h3 ⊢;intro x hx;have:=h3 x hx;unfold mS at this;simp only [bAe] at this;exact this.1
   have hpi:=x6 hks hok;rw [aq] at hR;rw [hpi] at hR;have hlr:=aF hok;have hdd:b9 (oDs (NM.trs ks))≤1000000:=by
    have:=nZ ks;rw [ij] at hhi;omega
   have HI:=hid (fun W (hW:Below W0.heap.size W0 W)=>oo (.slice a ks.length m) ks 0 W (((hh.below hb0).below hW).kidsAt) hk hlr hdd (fun j hj=>(pQ _ ks[j] (nRe _) (gw hfs j hj)).s (gf h3 j hj)));have hfd:oY (NM.trs ks)=b9 (oDs (NM.trs ks)):=rfl;rw [hfd] at hR;replace hR:=hid hR;rw [ho] at HC;have HN:=hid hn0;obtain ⟨z0,z1,z2,z3,z4⟩:=r5 hn0;have hfp:af (cr (NM.trs ks))=af (aX 0 (oPs 0 (NM.trs ks))):=rfl;rw [hfp] at hR hlr;generalize af (aX 0 (oPs 0 (NM.trs ks)))=S at *;generalize b9 (oDs (NM.trs ks))=D at *;unfold cf at HI;clear hw hh hf hhi aF hb0 hn0 hfs h2 h3 hok hks hpi ho hfd hfp;go_enter Tryz.func13,Tryz.ntmps13
   go_wp2_with fail;rw [← hW0.out];clear hW0;refine HC.out.mono ?_;rintro e w1 ⟨rfl,hb1⟩;have HB1:=bc HB hb1;obtain ⟨z0,z1,z2,z3,z4⟩:=r5 ((hb1.block _ hlt0).trans HN.out);have HI1:=hid (HI.out w1 hb1);clear hb1 HI;go_wp2_with fail;refine HI1.out.mono ?_;rintro e w2 ⟨rfl,hb2⟩;have HB2:=hid (fun o=>zdy (zdy HB1.out hb2) (ag w2 o));clear hb2 HI1;by_cases hD:D≤60
   ·have q1:¬ ((60:Int)<(D:Int)):=by omega
    by_cases hS:S.length≤65536
    ·have q2:¬ ((65536:Int)<(S.length:Int)):=by omega
     have HE:=hid (show R=(S,0) by rw [← hR.out,if_pos ⟨hD,hS⟩]);clear hR hD hS;go_wp2_with fail
     go_ret2
     exact ⟨by rw [HE.out];rfl,HB2.out _⟩
    ·have q2:((65536:Int)<(S.length:Int)):=by omega
     have HE:=hid (show R=([],6) by rw [← hR.out,if_neg (fun h=>hS h.2)]);clear hR hD hS;go_wp2_with fail
     go_ret2
     exact ⟨by rw [HE.out];rfl,HB2.out _⟩
   ·have q1:((60:Int)<(D:Int)):=by omega
    have HE:=hid (show R=([],6) by rw [← hR.out,if_neg (fun h=>hD h.1)]);clear hR hD;go_wp2_with fail
    go_ret2
    exact ⟨by rw [HE.out];rfl,HB2.out _⟩
abbrev qs:List UInt8:=[120,61,91,49,44,50,93,43,121,59]
abbrev jo:Tr:=.mk 2 [120] [.mk 16 [43] [.mk 12 [] [.mk 10 [49] [],.mk 10 [50] []],.mk 9 [121] []]]
abbrev ox:List UInt8:=[120,32,61,32,91,49,44,32,50,93,32,43,32,121,59,10]
theorem wI:eE [120,32,61,32,59]=.bad 3 (1,5):=by kernel_rfl
def zcp:PR (List Nd)→List Tr
 | .ok a _=>Nd.trs a
 | _=>[]
def zb9:PR (List Nd)→Bool
 | .ok _ _=>true
 | _=>false
theorem yf:zb9 (eE qs)=true:=by kernel_rfl
theorem wj:zcp (eE qs)=[jo]:=by kernel_rfl
theorem oF:af (cr [jo])=ox:=by kernel_rfl
theorem wB:j9 (.mk 1 [] [jo])=true:=by kernel_rfl
theorem tC:zb9 (eE ox)=true:=by kernel_rfl
theorem sL:fD (.mk 1 [] [jo])=(ox,0):=by
 unfold fD;rw [if_pos wB];show (match eE (af (cr [jo])) with | .bad e _=>if e=0 then (af (cr [jo]),0) else ([],e) | _=>(af (cr [jo]),0))=_;rw [oF];have h:=tC;revert h;cases eE ox with
 | ok a r=>intro _;rfl
 | bad e p=>intro h;cases h
 | oof=>intro h;cases h
theorem za6 {x:PR (List Nd)} (h:zb9 x=true):∃ a r,x=.ok a r:=by
 cases x with
 | ok a r=>exact ⟨a,r,rfl⟩
 | bad e p=>cases h
 | oof=>cases h
theorem ut:∃ a r,eE qs=.ok a r∧Nd.trs a=[jo]:=by
 obtain ⟨a,r,h⟩:=za6 yf;refine ⟨a,r,h,?_⟩;have:=wj;rw [h] at this;exact this
theorem xB (w:World) (hw:bB w):Calls Tryz.prog 8 #[] w fun e w'=>e=.returned (.bool true)∧Below w.heap.size w w':=by
 have HR1:=hid (oT qs (by decide) w hw.range);have HR2:=hid (fun W (hW:dZ W)=>oT [120,32,61,32,59] (by decide) W hW);go_enter Tryz.func8,Tryz.ntmps8
 go_wp2_with fail;refine HR1.out.mono ?_;rintro e w1 ⟨hb1,jv⟩;obtain ⟨a,r,hx,htr⟩:=ut;rw [hx] at jv;obtain ⟨ks,ad,cap,rfl,zct,hZ⟩:=jv;have htrs:NM.trs ks=[jo]:=(qw zct).trans htr;have hfit:=ll (.mk 1 [] 1 1 ks ad cap) 0 (by rw [aq,htrs];decide +kernel);have HP:=hid (fun W (hW:Below w1.heap.size w1 W)=>pP 1 [] 1 1 ks ad cap W ((hw.below hb1).below hW) ((am.any hZ).below hW) hfit.1 (by omega) (fun _=>by rw [htrs,oF];decide));have HE:Hid (fD (NM.mk 1 [] 1 1 ks ad cap).tr=(ox,0)):=hid (by rw [aq,htrs];exact sL);rw [HE.out] at HP;have HB1:=hid hb1;have HW1:=hid (hw.below hb1);clear hfit htrs htr hx zct hZ HE HR1 hb1;obtain ⟨W,hwh,hbW,⟨a0,a1,a2,a3,a4⟩⟩:∃ W,Hid (W=(w1.alloc (.cells #[.int .i64 1,.string (bs []),.int .i64 1,.int .i64 1,.slice ad ks.length cap] 27)).alloc (.cells #[.int .i64 0,.int .i64 0] 24))∧Below w1.heap.size w1 W∧rm W w1.heap.size 1 [] 1 1 (.slice ad ks.length cap) :=
  ⟨_,hid rfl,jz w1 _ _,lG w1 1 [] 1 1 _ _ _ _⟩
 go_wp2_with fail;rw [← hwh.out];clear hwh;have HBW:=bc HB1 hbW;have HWW:=hid (HW1.out.below hbW);have HPW:=hid (HP.out W hbW);clear HP hbW;go_wp2_with fail;refine HPW.out.mono ?_;rintro e w2 ⟨rfl,hb2⟩;have HB2:=bc HBW hb2;have HW2:=hid (HWW.out.below hb2);clear hb2;go_wp2_with fail;refine (HR2.out _ HW2.out.range).mono ?_;rintro e w3 ⟨hb3,jv⟩;rw [wI] at jv;subst jv;have HB3:=bc HB2 hb3;clear hb3;go_wp2_with fail;go_ret;exact ⟨rfl,zdy HB3.out (zdy (ag _ _) (ag _ _))⟩
end Go.Proofs.YtfgiihpopngbkaaGreatDoor
