/- Lemmas and walks that the statement needs: There, ThereE, ThereF. -/
import Derived.Test.YtfgiihpopngbkaaGreatDoorM29
import Derived.Test.YtfgiihpopngbkaaGreatDoorM06
namespace Go.Proofs.YtfgiihpopngbkaaGreatDoor
set_option maxRecDepth 100000
open Go.RowKit
open Nat renaming lt_of_lt_of_le→nL,le_trans→nT
abbrev O2:Pl:=(0,0)
def Ev {α:Type} (x:Nat→PR α) (y:PR α):Prop:=∃ N,∀ f,N≤f→x f=y
theorem Ev.const {α:Type} (y:PR α):Ev (fun _=>y) y:=⟨0,fun _ _=>rfl⟩
theorem Ev.step {α:Type} {x g:Nat→PR α} {y:PR α} (hx:∀ f,x (f+1)=g f) (h:Ev g y):Ev x y:=by
 obtain ⟨N,hN⟩:=h;refine ⟨N+1,fun f hf=>?_⟩;obtain ⟨m,rfl⟩:∃ m,f=m+1:=⟨f - 1,by omega⟩;rw [hx];exact hN m (by omega)
theorem Ev.ok {α β:Type} {x:Nat→PR α} {k:Nat→α→List Tok→PR β} {a:α} {r:List Tok} {y:PR β} (h:Ev x (.ok a r)) (hk:Ev (fun f=>k f a r) y):Ev (fun f=>(x f).then (k f)) y:=by
 obtain ⟨N,hN⟩:=h;obtain ⟨M,hM⟩:=hk;refine ⟨max N M,fun f hf=>?_⟩;show (x f).then (k f)=y;rw [hN f (by omega)];exact hM f (by omega)
theorem Ev.bad {α β:Type} {x:Nat→PR α} {k:Nat→α→List Tok→PR β} {e:Nat} {p:Pl} (h:Ev x (.bad e p)):Ev (fun f=>(x f).then (k f)) (.bad e p):=by
 obtain ⟨N,hN⟩:=h;refine ⟨N,fun f hf=>?_⟩;show (x f).then (k f)=_;rw [hN f hf];rfl
def res {α:Type} (m:Nat) (y:PR α):PR α:=if m≤60 then y else .bad 6 (0,0)
theorem res_pos {α:Type} {m:Nat} {y:PR α} (h:m≤60):res m y=y:=if_pos h
theorem res_neg {α:Type} {m:Nat} {y:PR α} (h:¬ m≤60):res m y=.bad 6 (0,0):=if_neg h
theorem Ev.fit {α β:Type} {x:Nat→PR α} {k:Nat→α→List Tok→PR β} {m:Nat} {a:α} {r:List Tok} {y:PR β} (h:Ev x (res m (.ok a r)))
  (h1:m≤60→Ev (fun f=>k f a r) y) (h2:¬ m≤60→y=.bad 6 (0,0)):Ev (fun f=>(x f).then (k f)) y:=by
 by_cases e:m≤60
 ·rw [res_pos e] at h;exact h.ok (h1 e)
 ·rw [res_neg e] at h;rw [h2 e];exact h.bad
def zt (l:List Piece):List Tok:=(toks l).map fun p=>(p.1,p.2,(0,0))
theorem zt_nil:zt []=[]:=rfl
theorem zt_app (a b:List Piece):zt (a++b)=zt a++zt b:=by unfold zt;rw [toks_app,List.map_append]
theorem zt_tok {k:Nat} (t:List UInt8) (h:k≠0) (l:List Piece):zt ((k,t)::l)=(k,t,(0,0))::zt l:=by
 unfold zt toks;rw [List.filter_cons_of_pos (by simpa using h)];rfl
theorem zt_sg (c:UInt8) (l:List Piece):zt (sg c::l)=(4,[c],(0,0))::zt l:=zt_tok _ (by decide) l
theorem zt_sp (l:List Piece):zt (sp::l)=zt l:=rfl
theorem zt_nl (l:List Piece):zt (nl::l)=zt l:=rfl
theorem zt_tabs (n:Nat) (l:List Piece):zt (tabsP n++l)=zt l:=by
 unfold tabsP;split <;> rfl
theorem zt_op (t:List UInt8) (l:List Piece):zt (opP t::l)=(if t=wIn then 1 else 4,t,(0,0))::zt l:=zt_tok _ (by split <;> decide) l
theorem sgn0 (k:Nat) (t:List UInt8) (p:Pl) (r:List Tok) (s:List UInt8):signB ((k,t,p)::r) 0 s=(k == 4 && t == s):=rfl
theorem sgn1 (a:Tok) (r:List Tok) (s:List UInt8):signB (a::r) 1 s=signB r 0 s:=rfl
theorem wrd0 (k:Nat) (t:List UInt8) (p:Pl) (r:List Tok) (s:List UInt8):wordB ((k,t,p)::r) s=(k == 1 && t == s):=rfl
theorem nam0 (k:Nat) (t:List UInt8) (p:Pl) (r:List Tok):nameB ((k,t,p)::r)=(k == 1 && !reservedB t):=rfl
theorem knd0 (k:Nat) (t:List UInt8) (p:Pl) (r:List Tok) (j:Nat):kindB ((k,t,p)::r) j=(k == j):=rfl
theorem eat_eq (c:UInt8) (p:Pl) (r:List Tok):pEat O2 [c] ((4,[c],p)::r)=.ok (4,[c],p) r:=by
 unfold pEat pTake;rw [sgn0,if_pos (by simp)]
theorem open_eq (d:Nat) (k:Nat) (t:List UInt8) (r:List Tok):pOpen O2 true d ((k,t,(0,0))::r)=if 60≤d then .bad 6 (0,0) else .ok (k,t,(0,0)) r:=by
 unfold pOpen;by_cases h:60≤d
 ·rw [if_pos ⟨rfl,h⟩,if_pos h];rfl
 ·rw [if_neg (fun h'=>h h'.2),if_neg h];rfl
mutual
def nd:Tr→Nd
 | .mk k t l=>.mk k.toNat t (0,0) (nds l)
def nds:List Tr→List Nd
 | []=>[]
 | x::r=>nd x::nds r
end
theorem nd_mk (k:Int) (t:List UInt8) (l:List Tr):nd (.mk k t l)=.mk k.toNat t (0,0) (nds l):=by rw [nd]
theorem nds_nil:nds []=[]:=by rw [nds]
theorem nds_cons (x:Tr) (r:List Tr):nds (x::r)=nd x::nds r:=by rw [nds]
theorem nds_app:∀ a b:List Tr,nds (a++b)=nds a++nds b
 | [],_=>by rw [nds_nil];rfl
 | x::r,b=>by rw [List.cons_append,nds_cons,nds_cons,nds_app r b];rfl
theorem shape_pos {k:Int} {t:List UInt8} {l:List Top} (h:shape k t l=true):0≤k:=by
 unfold shape at h;by_cases e:k ∈ ([9,10,11,12,13,14,16,15,7,8,2,3,4,5,6]:List Int)
 ·simp only [List.mem_cons,List.not_mem_nil,or_false] at e;omega
 ·simp only [List.mem_cons,List.not_mem_nil,or_false,not_or] at e;obtain ⟨e1,e2,e3,e4,e5,e6,e7,e8,e9,e10,e11,e12,e13,e14,e15⟩:=e;rw [if_neg e1,if_neg e2,if_neg e3,if_neg e4,if_neg e5,if_neg e6,if_neg e7,if_neg e8,if_neg e9,if_neg e10,if_neg e11,if_neg e12,if_neg e13,if_neg e14,if_neg e15] at h;cases h
mutual
theorem nd_tr:∀ {x:Tr},okT x=true→(nd x).tr=x
 | .mk k t l,h=>by
   rw [okT_mk] at h;simp only [Bool.and_eq_true] at h;have hk:=shape_pos h.1;rw [nd_mk,tr_mk,nds_tr h.2,Int.toNat_of_nonneg hk]
theorem nds_tr:∀ {l:List Tr},okTs l=true→Nd.trs (nds l)=l
 | [],_=>by rw [nds_nil,trs_nil]
 | x::r,h=>by
   rw [okTs_cons] at h;simp only [Bool.and_eq_true] at h;rw [nds_cons,trs_cons,nd_tr h.1,nds_tr h.2]
end
structure Fol (r:List Tok):Prop where
 call:signB r 0 [40]=false
 plus:signB r 0 [43]=false
 eq2:signB r 0 [61,61]=false
 ne2:signB r 0 [33,61]=false
 eq1:signB r 0 [61]=false
 isin:wordB r wIn=false
theorem fol_sign {c:UInt8} (h:c ∈ ([41,93,125,44,59,123,58]:List UInt8)) (p:Pl) (r:List Tok):Fol ((4,[c],p)::r):=by
 simp only [List.mem_cons,List.not_mem_nil,or_false] at h;rcases h with rfl | rfl | rfl | rfl | rfl | rfl | rfl <;> exact ⟨rfl,rfl,rfl,rfl,rfl,rfl⟩
structure ItemS (k:Nat) (up:UInt8) (d:Nat) (i:List Tok × List Nd × Nat):Prop where
 ev:∀ r,Fol r→Ev (fun f=>pOne O2 f k (i.1++r) d) (res (i.2.2+d) (.ok i.2.1 r))
 hd:∀ r,signB (i.1++r) 0 [up]=false
def tailT (us:List (List Tok)):List Tok:=us.flatMap fun u=>(4,[44],(0,0))::u
def joinT:List (List Tok)→List Tok
 | []=>[]
 | u::us=>u++tailT us
theorem zt_comma:∀ s:List (List Piece),zt (commaJ s)=joinT (s.map zt)
 | []=>rfl
 | [a]=>by show zt a=zt a++[];rw [List.append_nil]
 | a::b::r=>by
   show zt (a++sg 44::sp::commaJ (b::r))=zt a++((4,[44],(0,0))::zt b++tailT (r.map zt));rw [zt_app,zt_sg,zt_sp,zt_comma (b::r)];rfl
theorem fol_tail {up:UInt8} (hto:up ∈ ([41,93,125]:List UInt8)) (us:List (List Tok)) (r:List Tok):Fol (tailT us++(4,[up],(0,0))::r):=by
 cases us with
 | nil=>exact fol_sign (by simp only [List.mem_cons,List.not_mem_nil,or_false] at hto ⊢;rcases hto with rfl | rfl | rfl <;> simp) _ _
 | cons u us=>exact fol_sign (by simp) _ _
abbrev Item:=List Tok × List Nd × Nat
theorem list_tail {k:Nat} {up:UInt8} (hto:up ∈ ([41,93,125]:List UInt8)) {d:Nat} (hd:d≤60) (r:List Tok):∀ I:List Item,(∀ i ∈ I,ItemS k up d i) →
  Ev (fun f=>pList O2 f k [up] false (tailT (I.map (·.1))++(4,[up],(0,0))::r) d) (res (maxL (I.map (·.2.2))+d) (.ok (I.flatMap (·.2.1)) ((4,[up],(0,0))::r)))
 | [],_=>by
   rw [res_pos (by simpa [maxL] using hd)];refine Ev.step (g:=fun _=>.ok [] ((4,[up],(0,0))::r)) (fun f=>?_) (Ev.const _);rw [pList];exact if_pos (by show signB ((4,[up],(0,0))::r) 0 [up]=true;rw [sgn0];simp)
 | i::I,h=>by
   have hi:=h i (List.mem_cons_self ..);have ih:=list_tail hto hd r I fun j hj=>h j (List.mem_cons_of_mem _ hj)
   have e:tailT ((i::I).map (·.1))++(4,[up],(0,0))::r=(4,[44],(0,0))::(i.1++(tailT (I.map (·.1))++(4,[up],(0,0))::r)):=by
    simp [tailT,List.append_assoc]
   rw [e];have em:maxL ((i::I).map (·.2.2))=max i.2.2 (maxL (I.map (·.2.2))):=rfl;rw [em];refine Ev.step (g:=fun f=>(pOne O2 f k (i.1++(tailT (I.map (·.1))++(4,[up],(0,0))::r)) d).then fun a r=>(pList O2 f k [up] false r d).then fun b r=>.ok (a++b) r) (fun f=>?_) ?_
   ·rw [pList,if_neg (by rw [sgn0];simp only [List.mem_cons,List.not_mem_nil,or_false] at hto;rcases hto with rfl | rfl | rfl <;> decide),if_neg (by simp),eat_eq];rfl
   ·refine Ev.fit (hi.ev _ (fol_tail hto _ r)) (fun h1=>?_) fun h1=>res_neg (by omega)
    refine Ev.fit ih (fun h2=>?_) fun h2=>res_neg (by omega)
    rw [res_pos (by omega)];exact Ev.const _
theorem list_ev {k:Nat} {up:UInt8} (hto:up ∈ ([41,93,125]:List UInt8)) {d:Nat} (hd:d≤60) (r:List Tok):∀ I:List Item,(∀ i ∈ I,ItemS k up d i) →
  Ev (fun f=>pList O2 f k [up] true (joinT (I.map (·.1))++(4,[up],(0,0))::r) d) (res (maxL (I.map (·.2.2))+d) (.ok (I.flatMap (·.2.1)) ((4,[up],(0,0))::r)))
 | [],_=>by
   rw [res_pos (by simpa [maxL] using hd)];refine Ev.step (g:=fun _=>.ok [] ((4,[up],(0,0))::r)) (fun f=>?_) (Ev.const _);rw [pList];exact if_pos (by show signB ((4,[up],(0,0))::r) 0 [up]=true;rw [sgn0];simp)
 | i::I,h=>by
   have hi:=h i (List.mem_cons_self ..);have ih:=list_tail hto hd r I fun j hj=>h j (List.mem_cons_of_mem _ hj)
   have e:joinT ((i::I).map (·.1))++(4,[up],(0,0))::r=i.1++(tailT (I.map (·.1))++(4,[up],(0,0))::r):=by
    simp [joinT,List.append_assoc]
   rw [e];have em:maxL ((i::I).map (·.2.2))=max i.2.2 (maxL (I.map (·.2.2))):=rfl;rw [em];refine Ev.step (g:=fun f=>(pOne O2 f k (i.1++(tailT (I.map (·.1))++(4,[up],(0,0))::r)) d).then fun a r=>(pList O2 f k [up] false r d).then fun b r=>.ok (a++b) r) (fun f=>?_) ?_
   ·rw [pList,if_neg (by rw [hi.hd];simp),if_pos rfl];rfl
   ·refine Ev.fit (hi.ev _ (fol_tail hto _ r)) (fun h1=>?_) fun h1=>res_neg (by omega)
    refine Ev.fit ih (fun h2=>?_) fun h2=>res_neg (by omega)
    rw [res_pos (by omega)];exact Ev.const _
theorem kno {k j:Int} {t:List UInt8} {l:List Tr} {p:Prop} (h:(Tr.mk k t l).kd=j) (hn:(k == j)=false):p:=absurd h (by rw [kd_mk];simpa using hn)
theorem knoE {k:Int} {t:List UInt8} {l:List Tr} {p:Prop} (h:isE (Tr.mk k t l).kd=true) (hn:isE k=false):p:=by rw [kd_mk,hn] at h;cases h
theorem knoS {k:Int} {t:List UInt8} {l:List Tr} {p:Prop} (h:isS (Tr.mk k t l).kd=true) (hn:isS k=false):p:=by rw [kd_mk,hn] at h;cases h
def PExpr (x:Tr):Prop:=∀ n r d,d≤60→Fol r→Ev (fun f=>pExpr O2 f (zt (oP n x)++r) d) (res (oD x+d) (.ok (nd x) r))
def PSum (x:Tr):Prop:=∀ n r d y,d≤60→signB r 0 [40]=false→(brkD (cmpT x.top) (oD x)+d≤60→Ev (fun f=>pSumGo O2 f (nd x) r d) y)→(¬ brkD (cmpT x.top) (oD x)+d≤60→y=.bad 6 (0,0)) →
 Ev (fun f=>pSum O2 f (zt (brk (cmpT x.top) (oP n x))++r) d) y
def PPrim (x:Tr):Prop:=∀ n r d,d≤60→signB r 0 [40]=false→Ev (fun f=>pPrim O2 f (zt (brk (twoT x.top) (oP n x))++r) d) (res (brkD (twoT x.top) (oD x)+d) (.ok (nd x) r))
def PHead (x:Tr):Prop:=∀ n r c,c ∈ ([41,93,125]:List UInt8)→signB (zt (oP n x)++r) 0 [c]=false
def PName (x:Tr):Prop:=∀ n r,signB r 0 [61]=false→(nameB (zt (oP n x)++r) && signB (zt (oP n x)++r) 1 [61])=false
structure AllE (x:Tr):Prop where
 e:isE x.kd=true→PExpr x
 sum:isE x.kd=true→PSum x
 prim:isE x.kd=true→PPrim x
 head:isE x.kd=true→PHead x
 name:isE x.kd=true→PName x
 call:x.kd=14→∀ n r d,d≤60→Ev (fun f=>pCall O2 f (zt (oP n x)++r) d) (res (oD x+d) (.ok (nd x) r))
 callh:x.kd=14→∀ n,∃ t u,zt (oP n x)=(1,t,(0,0))::(4,[40],(0,0))::u∧reservedB t=false
 arg:x.kd=15→∀ n r d,d≤60→Fol r→Ev (fun f=>pOne O2 f 1 (zt (oP n x)++r) d) (res (oD x+d) (.ok [nd x] r))
 argh:x.kd=15→PHead x
 par:x.kd=7→∀ n r d,d≤60→Fol r→Ev (fun f=>pOne O2 f 0 (zt (oP n x)++r) d) (res (oD x+d) (.ok [nd x] r))
 parh:x.kd=7→PHead x
theorem cmp_two {a:Top} (h:twoT a=false):cmpT a=false:=by unfold cmpT;rw [h];rfl
theorem sum_of_prim {x:Tr} (h:cmpT x.top=twoT x.top) (hp:PPrim x):PSum x:=by
 intro n r d y hd hr h1 h2;refine Ev.step (g:=fun f=>(pPrim O2 f (zt (brk (cmpT x.top) (oP n x))++r) d).then fun x r=>pSumGo O2 f x r d) (fun f=>by rw [pSum]) ?_;have:=hp n r d hd hr;rw [← h] at this;exact Ev.fit this h1 h2
theorem go_end {x:Nd} {r:List Tok} (d:Nat) (h:signB r 0 [43]=false):Ev (fun f=>pSumGo O2 f x r d) (.ok x r) :=
 Ev.step (g:=fun _=>.ok x r) (fun f=>by rw [pSumGo,if_neg (by rw [h];simp)]) (Ev.const _)
theorem sum_end {x:Tr} (hs:PSum x) (n:Nat) (r:List Tok) (d:Nat) (hd:d≤60) (h1:signB r 0 [40]=false) (h2:signB r 0 [43]=false) :
  Ev (fun f=>pSum O2 f (zt (brk (cmpT x.top) (oP n x))++r) d) (res (brkD (cmpT x.top) (oD x)+d) (.ok (nd x) r)) :=
 hs n r d _ hd h1 (fun h=>by rw [res_pos h];exact go_end d h2) fun h=>res_neg h
theorem expr_of_sum {x:Tr} (h:cmpT x.top=false) (hs:PSum x):PExpr x:=by
 intro n r d hd hr;have:=sum_end hs n r d hd hr.call hr.plus;rw [h] at this;refine Ev.step (g:=fun f=>(pSum O2 f (zt (oP n x)++r) d).then fun x r =>
  if (signB r 0 [61,61] || signB r 0 [33,61] || wordB r wIn)=true then (pTake O2 true r).then fun t r=>(pSum O2 f r d).then fun y r=>.ok (.mk 16 t.2.1 t.2.2 [x,y]) r
  else .ok x r) (fun f=>by rw [pExpr]) ?_
 refine Ev.fit this (fun h1=>?_) fun h1=>res_neg h1
 simp only [hr.eq2,hr.ne2,hr.isin,Bool.or_false,Bool.false_eq_true,if_false];have h1:oD x+d≤60:=h1;rw [res_pos h1];exact Ev.const _
theorem prim_of_expr {x:Tr} (h:twoT x.top=true) (he:PExpr x):PPrim x:=by
 intro n r d hd hr;rw [h];have e:zt (brk true (oP n x))++r=(4,[40],(0,0))::(zt (oP n x)++(4,[41],(0,0))::r):=by
  show zt (sg 40::(oP n x++[sg 41]))++r=_;rw [zt_sg,zt_app,zt_sg,zt_nil];simp
 rw [e];show Ev _ (res (oD x+1+d) _);refine Ev.step (g:=fun f=>(pOpen O2 true d ((4,[40],(0,0))::(zt (oP n x)++(4,[41],(0,0))::r))).then fun _ r=>(pExpr O2 f r (d+1)).then fun x r=>(pEat O2 [41] r).then fun _ r=>.ok x r) (fun f=>?_) ?_
 ·rw [pPrim];simp only [knd0,nam0,wrd0,sgn0];rfl
 ·rw [open_eq];by_cases h6:60≤d
  ·rw [if_pos h6,res_neg (by omega)];exact Ev.const _
  ·rw [if_neg h6];show Ev (fun f=>(pExpr O2 f (zt (oP n x)++(4,[41],(0,0))::r) (d+1)).then fun x r=>(pEat O2 [41] r).then fun _ r=>.ok x r) _;refine Ev.fit (he n _ (d+1) (by omega) (fol_sign (by simp) _ _)) (fun h1=>?_) fun h1=>res_neg (by omega)
   rw [eat_eq,res_pos (by omega)];exact Ev.const _
theorem of_prim {x:Tr} (h:twoT x.top=false) (hp:∀ n r d,d≤60→signB r 0 [40]=false→Ev (fun f=>pPrim O2 f (zt (oP n x)++r) d) (res (oD x+d) (.ok (nd x) r))):PExpr x∧PSum x∧PPrim x:=by
 have h1:PPrim x:=by intro n r d hd hr;rw [h];exact hp n r d hd hr
 have h2:=sum_of_prim (by rw [h,cmp_two h]) h1;exact ⟨expr_of_sum (cmp_two h) h2,h2,h1⟩
theorem kd_top (x:Tr):x.kd=x.top.1:=rfl
theorem no_name {n:Nat} {x:Tr} {r u:List Tok} {k:Nat} {t:List UInt8} {p:Pl} (e:zt (oP n x)=(k,t,p)::u) (h:(k == 1 && !reservedB t)=false):(nameB (zt (oP n x)++r) && signB (zt (oP n x)++r) 1 [61])=false:=by
 rw [e,List.cons_append,nam0,h];rfl
theorem no_close {n:Nat} {x:Tr} {r u:List Tok} {k:Nat} {t:List UInt8} {p:Pl} {c:UInt8} (e:zt (oP n x)=(k,t,p)::u) (h:(k == 4 && t == [c])=false):signB (zt (oP n x)++r) 0 [c]=false:=by
 rw [e,List.cons_append,sgn0,h]
theorem close_ne {c d:UInt8} (hc:c ∈ ([41,93,125]:List UInt8)) (hd:d ∈ ([40,91,123]:List UInt8)):((4:Nat) == 4 && [d] == [c])=false:=by
 simp only [List.mem_cons,List.not_mem_nil,or_false] at hc hd;rcases hc with rfl | rfl | rfl <;> rcases hd with rfl | rfl | rfl <;> decide
theorem nil_of {α:Type} {l:List α} (h:l.isEmpty=true):l=[]:=List.isEmpty_iff.1 h
theorem tops_nil_of {l:List Tr} (h:(tops l).isEmpty=true):l=[]:=by
 cases l with
 | nil=>rfl
 | cons x r=>cases h
theorem all_name (t:List UInt8) (l:List Tr) (h:shape 9 t (tops l)=true):AllE (.mk 9 t l):=by
 have h':((tops l).isEmpty && nameS t)=true:=h;simp only [Bool.and_eq_true] at h';obtain ⟨h1,h2⟩:=h';obtain rfl:=tops_nil_of h1;have hres:reservedB t=false:=by unfold nameS at h2;simp only [Bool.and_eq_true,Bool.not_eq_true'] at h2;exact h2.2
 have e:∀ n,zt (oP n (.mk 9 t []))=[(1,t,(0,0))]:=fun n=>by rw [oP_mk];rfl
 have hn:nd (.mk 9 t [])=.mk 9 t (0,0) []:=by rw [nd_mk,nds_nil];rfl
 have hD:oD (.mk 9 t [])=0:=by rw [oD_mk,oDs_nil];rfl
 have hp:=of_prim (x:=.mk 9 t []) rfl (fun n r d hd hr=>by
  rw [e,hn,hD,res_pos (by omega)];refine Ev.step (g:=fun _=>.ok (.mk 9 t (0,0) []) r) (fun f=>?_) (Ev.const _);show pPrim O2 (f+1) ((1,t,(0,0))::r) d=_;rw [pPrim];simp only [knd0,nam0,sgn1,hres,hr];rfl)
 refine ⟨fun _=>hp.1,fun _=>hp.2.1,fun _=>hp.2.2,fun _ n r c hc=>no_close (e n) rfl,fun _ n r hr=>?_,fun h=>(by first | exact kno h (by decide) | exact knoE h (by decide) | exact knoS h (by decide)),fun h=>(by first | exact kno h (by decide) | exact knoE h (by decide) | exact knoS h (by decide)),fun h=>(by first | exact kno h (by decide) | exact knoE h (by decide) | exact knoS h (by decide)),fun h=>(by first | exact kno h (by decide) | exact knoE h (by decide) | exact knoS h (by decide)),fun h=>(by first | exact kno h (by decide) | exact knoE h (by decide) | exact knoS h (by decide)),fun h=>(by first | exact kno h (by decide) | exact knoE h (by decide) | exact knoS h (by decide))⟩;rw [e];show (nameB ((1,t,(0,0))::r) && signB ((1,t,(0,0))::r) 1 [61])=false;rw [sgn1,hr,Bool.and_false]
theorem all_num (t:List UInt8) (l:List Tr) (h:shape 10 t (tops l)=true):AllE (.mk 10 t l):=by
 have h':((tops l).isEmpty && oneT 2 t)=true:=h;simp only [Bool.and_eq_true] at h';obtain rfl:=tops_nil_of h'.1;have e:∀ n,zt (oP n (.mk 10 t []))=[(2,t,(0,0))]:=fun n=>by rw [oP_mk];rfl
 have hn:nd (.mk 10 t [])=.mk 10 t (0,0) []:=by rw [nd_mk,nds_nil];rfl
 have hD:oD (.mk 10 t [])=0:=by rw [oD_mk,oDs_nil];rfl
 have hp:=of_prim (x:=.mk 10 t []) rfl (fun n r d hd hr=>by
  rw [e,hn,hD,res_pos (by omega)];refine Ev.step (g:=fun _=>.ok (.mk 10 t (0,0) []) r) (fun f=>?_) (Ev.const _);show pPrim O2 (f+1) ((2,t,(0,0))::r) d=_;rw [pPrim];simp only [knd0];rfl)
 exact ⟨fun _=>hp.1,fun _=>hp.2.1,fun _=>hp.2.2,fun _ n r c hc=>no_close (e n) rfl,fun _ n r hr=>no_name (e n) rfl,fun h=>(by first | exact kno h (by decide) | exact knoE h (by decide) | exact knoS h (by decide)),fun h=>(by first | exact kno h (by decide) | exact knoE h (by decide) | exact knoS h (by decide)),fun h=>(by first | exact kno h (by decide) | exact knoE h (by decide) | exact knoS h (by decide)),fun h=>(by first | exact kno h (by decide) | exact knoE h (by decide) | exact knoS h (by decide)),fun h=>(by first | exact kno h (by decide) | exact knoE h (by decide) | exact knoS h (by decide)),fun h=>(by first | exact kno h (by decide) | exact knoE h (by decide) | exact knoS h (by decide))⟩
theorem all_text (t:List UInt8) (l:List Tr) (h:shape 11 t (tops l)=true):AllE (.mk 11 t l):=by
 have h':((tops l).isEmpty && !(t.any badQ))=true:=h;simp only [Bool.and_eq_true] at h';obtain rfl:=tops_nil_of h'.1;have e:∀ n,zt (oP n (.mk 11 t []))=[(3,t,(0,0))]:=fun n=>by rw [oP_mk];rfl
 have hn:nd (.mk 11 t [])=.mk 11 t (0,0) []:=by rw [nd_mk,nds_nil];rfl
 have hD:oD (.mk 11 t [])=0:=by rw [oD_mk,oDs_nil];rfl
 have hp:=of_prim (x:=.mk 11 t []) rfl (fun n r d hd hr=>by
  rw [e,hn,hD,res_pos (by omega)];refine Ev.step (g:=fun _=>.ok (.mk 11 t (0,0) []) r) (fun f=>?_) (Ev.const _);show pPrim O2 (f+1) ((3,t,(0,0))::r) d=_;rw [pPrim];simp only [knd0];rfl)
 exact ⟨fun _=>hp.1,fun _=>hp.2.1,fun _=>hp.2.2,fun _ n r c hc=>no_close (e n) rfl,fun _ n r hr=>no_name (e n) rfl,fun h=>(by first | exact kno h (by decide) | exact knoE h (by decide) | exact knoS h (by decide)),fun h=>(by first | exact kno h (by decide) | exact knoE h (by decide) | exact knoS h (by decide)),fun h=>(by first | exact kno h (by decide) | exact knoE h (by decide) | exact knoS h (by decide)),fun h=>(by first | exact kno h (by decide) | exact knoE h (by decide) | exact knoS h (by decide)),fun h=>(by first | exact kno h (by decide) | exact knoE h (by decide) | exact knoS h (by decide)),fun h=>(by first | exact kno h (by decide) | exact knoE h (by decide) | exact knoS h (by decide))⟩
def itemOf (n:Nat) (a:Tr):Item:=(zt (oP n a),[nd a],oD a)
theorem items_toks (n:Nat) (l:List Tr):(l.map (itemOf n)).map (·.1)=(oPs n l).map zt:=by rw [oPs_map,List.map_map,List.map_map];rfl
theorem items_nds (n:Nat):∀ l:List Tr,(l.map (itemOf n)).flatMap (·.2.1)=nds l
 | []=>by rw [nds_nil];rfl
 | x::r=>by rw [nds_cons,List.map_cons,List.flatMap_cons,items_nds n r];rfl
theorem items_deep (n:Nat) (l:List Tr):(l.map (itemOf n)).map (·.2.2)=oDs l:=by rw [oDs_map,List.map_map];rfl
theorem kd_all {q:Int→Bool} {l:List Tr} (h:(tops l).all (fun x=>q x.1)=true):∀ a ∈ l,q a.kd=true:=by
 intro a ha;rw [List.all_eq_true] at h;exact h a.top (List.mem_map_of_mem ha)
theorem comma_ev {k:Nat} {c:UInt8} (hc:c ∈ ([41,93,125]:List UInt8)) {d:Nat} (hd:d≤60) {n:Nat} {l:List Tr} (h:∀ a ∈ l,ItemS k c d (itemOf n a)) (r:List Tok) :
  Ev (fun f=>pList O2 f k [c] true (zt (commaJ (oPs n l))++(4,[c],(0,0))::r) d) (res (maxL (oDs l)+d) (.ok (nds l) ((4,[c],(0,0))::r))):=by
 have:=list_ev hc hd r (l.map (itemOf n)) (fun i hi=>by
  obtain ⟨a,ha,rfl⟩:=List.mem_map.1 hi;exact h a ha)
 rw [items_toks,items_nds,items_deep,← zt_comma] at this;exact this
theorem item_expr {a:Tr} (ha:AllE a) (hk:isE a.kd=true) {c:UInt8} (hc:c ∈ ([41,93,125]:List UInt8)) {d:Nat} (hd:d≤60) (n:Nat):ItemS 2 c d (itemOf n a):=by
 refine ⟨fun r hr=>?_,fun r=>ha.head hk n r c hc⟩;show Ev (fun f=>pOne O2 f 2 (zt (oP n a)++r) d) (res (oD a+d) (.ok [nd a] r));refine Ev.step (g:=fun f=>(pExpr O2 f (zt (oP n a)++r) d).then fun x r=>.ok [x] r) (fun f=>?_) ?_
 ·rw [pOne,if_neg (by decide),if_neg (by decide),if_pos rfl]
 ·refine Ev.fit (ha.e hk n r d hd hr) (fun h1=>?_) fun h1=>res_neg h1
  rw [res_pos h1];exact Ev.const _
theorem in_ev {α:Type} {x:Nat→PR (List Nd)} {c:UInt8} {d m:Nat} {k:Nat} {t:List UInt8} {u r:List Tok} {a:List Nd} {k2:List Nd→α} (hx:d+1≤60→Ev x (res (m+(d+1)) (.ok a ((4,[c],(0,0))::r)))) :
  Ev (fun f=>(pOpen O2 true d ((k,t,(0,0))::u)).then fun _ _=>(x f).then fun k r=>(pEat O2 [c] r).then fun _ r=>.ok (k2 k) r) (res (m+1+d) (.ok (k2 a) r)):=by
 rw [open_eq];by_cases h6:60≤d
 ·rw [if_pos h6,res_neg (by omega)];exact Ev.const _
 ·rw [if_neg h6];show Ev (fun f=>(x f).then fun k r=>(pEat O2 [c] r).then fun _ r=>.ok (k2 k) r) _;refine Ev.fit (hx (by omega)) (fun h1=>?_) fun h1=>res_neg (by omega)
  rw [eat_eq,res_pos (by omega)];exact Ev.const _
theorem all_list (t:List UInt8) (l:List Tr) (h:shape 12 t (tops l)=true) (hl:∀ a ∈ l,AllE a):AllE (.mk 12 t l):=by
 have h':(t.isEmpty && (tops l).all (fun x=>isE x.1))=true:=h;simp only [Bool.and_eq_true] at h';obtain ⟨h1,h2⟩:=h';obtain rfl:=nil_of h1;have hk:=kd_all h2;have e:∀ n,zt (oP n (.mk 12 [] l))=(4,[91],(0,0))::(zt (commaJ (oPs n l))++[(4,[93],(0,0))]):=fun n=>by
  rw [oP_mk];show zt (sg 91::(commaJ (oPs n l)++[sg 93]))=_;rw [zt_sg,zt_app];rfl
 have hn:nd (.mk 12 [] l)=.mk 12 [] (0,0) (nds l):=by rw [nd_mk];rfl
 have hD:oD (.mk 12 [] l)=maxL (oDs l)+1:=by rw [oD_mk];rfl
 have hp:=of_prim (x:=.mk 12 [] l) rfl (fun n r d hd hr=>by
  rw [e,hn,hD];have e2:(4,[91],(0,0))::(zt (commaJ (oPs n l))++[(4,[93],(0,0))])++r=(4,[91],(0,0))::(zt (commaJ (oPs n l))++(4,[93],(0,0))::r):=by simp
  rw [e2];refine Ev.step (g:=fun f=>(pOpen O2 true d ((4,[91],(0,0))::(zt (commaJ (oPs n l))++(4,[93],(0,0))::r))).then fun _ _=>(pList O2 f 2 [93] true (zt (commaJ (oPs n l))++(4,[93],(0,0))::r) (d+1)).then fun k r=>(pEat O2 [93] r).then fun _ r=>.ok (.mk 12 [] (0,0) k) r) (fun f=>?_) ?_
  ·rw [pPrim];simp only [knd0,nam0,wrd0,sgn0,open_eq];by_cases h6:60≤d
   ·rw [if_pos h6];rfl
   ·rw [if_neg h6];rfl
  ·exact in_ev fun h6=>comma_ev (by simp) h6 (fun a ha=>item_expr (hl a ha) (hk a ha) (by simp) h6 n) r)
 exact ⟨fun _=>hp.1,fun _=>hp.2.1,fun _=>hp.2.2,fun _ n r c hc=>no_close (e n) (close_ne hc (by simp)),fun _ n r hr=>no_name (e n) rfl,fun h=>(by first | exact kno h (by decide) | exact knoE h (by decide) | exact knoS h (by decide)),fun h=>(by first | exact kno h (by decide) | exact knoE h (by decide) | exact knoS h (by decide)),fun h=>(by first | exact kno h (by decide) | exact knoE h (by decide) | exact knoS h (by decide)),fun h=>(by first | exact kno h (by decide) | exact knoE h (by decide) | exact knoS h (by decide)),fun h=>(by first | exact kno h (by decide) | exact knoE h (by decide) | exact knoS h (by decide)),fun h=>(by first | exact kno h (by decide) | exact knoE h (by decide) | exact knoS h (by decide))⟩
def pairsI (n:Nat):List Tr→List Item
 | a::b::r=>(zt (oP n a)++(4,[58],(0,0))::zt (oP n b),[nd a,nd b],oD b)::pairsI n r
 | _=>[]
theorem text_of {a:Tr} (h:okT a=true) (hk:a.kd=11):∃ t,a=.mk 11 t []:=by
 cases a with
 | mk k t l =>
   have hk:k=11:=hk;subst hk;rw [okT_mk] at h;simp only [Bool.and_eq_true] at h;have h':((tops l).isEmpty && !(t.any badQ))=true:=h.1;simp only [Bool.and_eq_true] at h';obtain rfl:=tops_nil_of h'.1;exact ⟨t,rfl⟩
theorem pairs_facts (n:Nat):∀ l:List Tr,dictB (tops l)=true→okTs l=true→(pairsI n l).flatMap (·.2.1)=nds l∧maxL ((pairsI n l).map (·.2.2))=maxL (oDs l)∧zt (dictJ (oPs n l))=joinT ((pairsI n l).map (·.1)) ∧
  (∀ i ∈ pairsI n l,∃ t b,b ∈ l∧isE b.kd=true∧i=((3,t,(0,0))::(4,[58],(0,0))::zt (oP n b),[.mk 11 t (0,0) [],nd b],oD b))
 | [],_,_=>⟨by rw [nds_nil];rfl,by rw [oDs_nil];rfl,by rw [oPs_nil];rfl,fun i hi=>by cases hi⟩
 | [a],h,_=>by cases h
 | a::b::r,h,hok=>by
   have h':(a.kd == 11 && isE a.kd && isE b.kd && dictB (tops r))=true:=h;simp only [Bool.and_eq_true,beq_iff_eq] at h';obtain ⟨⟨⟨h1,h2⟩,h3⟩,h4⟩:=h';rw [okTs_cons,okTs_cons] at hok;simp only [Bool.and_eq_true] at hok;obtain ⟨ho1,ho2,ho3⟩:=hok;obtain ⟨t,rfl⟩:=text_of ho1 h1;obtain ⟨i1,i2,i3,i4⟩:=pairs_facts n r h4 ho3;have hD:oD (.mk 11 t [])=0:=by rw [oD_mk,oDs_nil];rfl
   have hz:zt (oP n (.mk 11 t []))=[(3,t,(0,0))]:=by rw [oP_mk];rfl
   have hnd:nd (.mk 11 t [])=.mk 11 t (0,0) []:=by rw [nd_mk,nds_nil];rfl
   refine ⟨?_,?_,?_,fun i hi=>?_⟩
   ·rw [nds_cons,nds_cons,← i1];rfl
   ·rw [oDs_cons,oDs_cons,hD];show max (oD b) (maxL ((pairsI n r).map (·.2.2)))=max 0 (max (oD b) (maxL (oDs r)));rw [i2];omega
   ·rw [oPs_cons,oPs_cons];show _=(zt (oP n (.mk 11 t []))++(4,[58],(0,0))::zt (oP n b))++tailT ((pairsI n r).map (·.1));cases r with
    | nil =>
      rw [oPs_nil];show zt (oP n (.mk 11 t [])++sg 58::sp::oP n b)=_;rw [zt_app,zt_sg,zt_sp];show _=_++[];rw [List.append_nil]
    | cons c r' =>
      cases r' with
      | nil=>cases h4
      | cons c2 r' =>
        rw [oPs_cons,oPs_cons] at i3 ⊢;show zt (oP n (.mk 11 t [])++sg 58::sp::(oP n b++sg 44::sp::dictJ (oP n c::oP n c2::oPs n r')))=_;rw [zt_app,zt_sg,zt_sp,zt_app,zt_sg,zt_sp,i3,List.append_assoc];rfl
   ·rcases List.mem_cons.1 hi with rfl | hi
    ·exact ⟨t,b,by simp,h3,by rw [hz,hnd];rfl⟩
    ·obtain ⟨t',b',hb,hk,he⟩:=i4 i hi;exact ⟨t',b',by simp [hb],hk,he⟩
theorem item_pair {b:Tr} (hb:AllE b) (hk:isE b.kd=true) (t:List UInt8) {d:Nat} (hd:d≤60) (n:Nat):ItemS 3 125 d ((3,t,(0,0))::(4,[58],(0,0))::zt (oP n b),[.mk 11 t (0,0) [],nd b],oD b):=by
 refine ⟨fun r hr=>?_,fun r=>rfl⟩;show Ev (fun f=>pOne O2 f 3 ((3,t,(0,0))::(4,[58],(0,0))::(zt (oP n b)++r)) d) (res (oD b+d) (.ok [.mk 11 t (0,0) [],nd b] r));refine Ev.step (g:=fun f=>(pExpr O2 f (zt (oP n b)++r) d).then fun x r=>.ok [.mk 11 t (0,0) [],x] r) (fun f=>?_) ?_
 ·rw [pOne,if_neg (by decide),if_neg (by decide),if_neg (by decide)];rfl
 ·refine Ev.fit (hb.e hk n r d hd hr) (fun h1=>?_) fun h1=>res_neg h1
  rw [res_pos h1];exact Ev.const _
theorem all_dict (t:List UInt8) (l:List Tr) (h:shape 13 t (tops l)=true) (hok:okTs l=true) (hl:∀ a ∈ l,AllE a):AllE (.mk 13 t l):=by
 have h':(t.isEmpty && dictB (tops l))=true:=h;simp only [Bool.and_eq_true] at h';obtain ⟨h1,h2⟩:=h';obtain rfl:=nil_of h1;have e:∀ n,zt (oP n (.mk 13 [] l))=(4,[123],(0,0))::(zt (dictJ (oPs n l))++[(4,[125],(0,0))]):=fun n=>by
  rw [oP_mk];show zt (sg 123::(dictJ (oPs n l)++[sg 125]))=_;rw [zt_sg,zt_app];rfl
 have hn:nd (.mk 13 [] l)=.mk 13 [] (0,0) (nds l):=by rw [nd_mk];rfl
 have hD:oD (.mk 13 [] l)=maxL (oDs l)+1:=by rw [oD_mk];rfl
 have hp:=of_prim (x:=.mk 13 [] l) rfl (fun n r d hd hr=>by
  rw [e,hn,hD];have e2:(4,[123],(0,0))::(zt (dictJ (oPs n l))++[(4,[125],(0,0))])++r=(4,[123],(0,0))::(zt (dictJ (oPs n l))++(4,[125],(0,0))::r):=by simp
  rw [e2];refine Ev.step (g:=fun f=>(pOpen O2 true d ((4,[123],(0,0))::(zt (dictJ (oPs n l))++(4,[125],(0,0))::r))).then fun _ _=>(pList O2 f 3 [125] true (zt (dictJ (oPs n l))++(4,[125],(0,0))::r) (d+1)).then fun k r=>(pEat O2 [125] r).then fun _ r=>.ok (.mk 13 [] (0,0) k) r) (fun f=>?_) ?_
  ·rw [pPrim];simp only [knd0,nam0,wrd0,sgn0,open_eq];by_cases h6:60≤d
   ·rw [if_pos h6];rfl
   ·rw [if_neg h6];rfl
  ·refine in_ev fun h6=>?_
   obtain ⟨p1,p2,p3,p4⟩:=pairs_facts n l h2 hok;have:=list_ev (k:=3) (up:=125) (by simp) h6 r (pairsI n l) (fun i hi=>by
    obtain ⟨t,b,hb,hk,rfl⟩:=p4 i hi;exact item_pair (hl b hb) hk t h6 n)
   rw [p1,p2,← p3] at this;exact this)
 exact ⟨fun _=>hp.1,fun _=>hp.2.1,fun _=>hp.2.2,fun _ n r c hc=>no_close (e n) (close_ne hc (by simp)),fun _ n r hr=>no_name (e n) rfl,fun h=>(by first | exact kno h (by decide) | exact knoE h (by decide) | exact knoS h (by decide)),fun h=>(by first | exact kno h (by decide) | exact knoE h (by decide) | exact knoS h (by decide)),fun h=>(by first | exact kno h (by decide) | exact knoE h (by decide) | exact knoS h (by decide)),fun h=>(by first | exact kno h (by decide) | exact knoE h (by decide) | exact knoS h (by decide)),fun h=>(by first | exact kno h (by decide) | exact knoE h (by decide) | exact knoS h (by decide)),fun h=>(by first | exact kno h (by decide) | exact knoE h (by decide) | exact knoS h (by decide))⟩
theorem name_res {t:List UInt8} (h:nameS t=true):reservedB t=false:=by unfold nameS at h;simp only [Bool.and_eq_true,Bool.not_eq_true'] at h;exact h.2
theorem all_call (t:List UInt8) (l:List Tr) (h:shape 14 t (tops l)=true) (hl:∀ a ∈ l,AllE a):AllE (.mk 14 t l):=by
 have h':(nameS t && (tops l).all (fun x=>x.1 == 15))=true:=h;simp only [Bool.and_eq_true] at h';obtain ⟨h1,h2⟩:=h';have hres:=name_res h1;have hk:=kd_all (q:=fun k=>k == 15) h2;have e:∀ n,zt (oP n (.mk 14 t l))=(1,t,(0,0))::(4,[40],(0,0))::(zt (commaJ (oPs n l))++[(4,[41],(0,0))]):=fun n=>by
  rw [oP_mk];show zt ((1,t)::sg 40::(commaJ (oPs n l)++[sg 41]))=_;rw [zt_tok _ (by decide),zt_sg,zt_app];rfl
 have hn:nd (.mk 14 t l)=.mk 14 t (0,0) (nds l):=by rw [nd_mk];rfl
 have hD:oD (.mk 14 t l)=maxL (oDs l)+1:=by rw [oD_mk];rfl
 have e2:∀ n r,(1,t,(0,0))::(4,[40],(0,0))::(zt (commaJ (oPs n l))++[(4,[41],(0,0))])++r=(1,t,(0,0))::(4,[40],(0,0))::(zt (commaJ (oPs n l))++(4,[41],(0,0))::r):=fun n r=>by simp
 have hc:∀ n r d,d≤60→Ev (fun f=>pCall O2 f (zt (oP n (.mk 14 t l))++r) d) (res (oD (.mk 14 t l)+d) (.ok (nd (.mk 14 t l)) r)):=by
  intro n r d hd;rw [e,hn,hD,e2];refine Ev.step (g:=fun f=>(pOpen O2 true d ((4,[40],(0,0))::(zt (commaJ (oPs n l))++(4,[41],(0,0))::r))).then fun _ _=>(pList O2 f 1 [41] true (zt (commaJ (oPs n l))++(4,[41],(0,0))::r) (d+1)).then fun k r=>(pEat O2 [41] r).then fun _ r=>.ok (.mk 14 t (0,0) k) r) (fun f=>?_) ?_
  ·rw [pCall,nam0,hres];show (pOpen O2 true d ((4,[40],(0,0))::(zt (commaJ (oPs n l))++(4,[41],(0,0))::r))).then _=_;simp only [open_eq];by_cases h6:60≤d
   ·rw [if_pos h6];rfl
   ·rw [if_neg h6];rfl
  ·exact in_ev fun h6=>comma_ev (by simp) h6 (fun a ha=>by
    have hka:a.kd=15:=by simpa using hk a ha
    exact ⟨fun r hr=>(hl a ha).arg hka n r _ h6 hr,fun r=>(hl a ha).argh hka n r 41 (by simp)⟩) r
 have hp:=of_prim (x:=.mk 14 t l) rfl (fun n r d hd hr=>by
  refine Ev.step (fun f=>?_) (hc n r d hd);rw [e,e2,pPrim];simp only [knd0,nam0,sgn1,sgn0,hres];rfl)
 refine ⟨fun _=>hp.1,fun _=>hp.2.1,fun _=>hp.2.2,fun _ n r c hc=>no_close (e n) rfl,fun _ n r hr=>?_,fun _=>hc,fun _ n=>⟨t,_,e n,hres⟩,fun h=>(by first | exact kno h (by decide) | exact knoE h (by decide) | exact knoS h (by decide)),fun h=>(by first | exact kno h (by decide) | exact knoE h (by decide) | exact knoS h (by decide)),fun h=>(by first | exact kno h (by decide) | exact knoE h (by decide) | exact knoS h (by decide)),fun h=>(by first | exact kno h (by decide) | exact knoE h (by decide) | exact knoS h (by decide))⟩;rw [e,e2,sgn1,sgn0];simp
theorem brk_head {a:Tr} (ha:PHead a) (b:Bool) (n:Nat) (r:List Tok) (c:UInt8) (hc:c ∈ ([41,93,125]:List UInt8)):signB (zt (brk b (oP n a))++r) 0 [c]=false:=by
 cases b with
 | false=>exact ha n r c hc
 | true =>
   show signB (zt (sg 40::(oP n a++[sg 41]))++r) 0 [c]=false;rw [zt_sg,List.cons_append,sgn0];exact close_ne hc (by simp)
theorem brk_name {a:Tr} (ha:PName a) (b:Bool) (n:Nat) (r:List Tok) (hr:signB r 0 [61]=false):(nameB (zt (brk b (oP n a))++r) && signB (zt (brk b (oP n a))++r) 1 [61])=false:=by
 cases b with
 | false=>exact ha n r hr
 | true =>
   show (nameB (zt (sg 40::(oP n a++[sg 41]))++r) && signB (zt (sg 40::(oP n a++[sg 41]))++r) 1 [61])=false;rw [zt_sg,List.cons_append,nam0];rfl
theorem all_not (l:List Tr) (h:shape 16 wNot (tops l)=true) (hl:∀ a ∈ l,AllE a):AllE (.mk 16 wNot l):=by
 have h':oneE (tops l)=true:=h;obtain ⟨a,rfl⟩:∃ a,l=[a]:=by
  match l,h' with
  | [a],_=>exact ⟨a,rfl⟩
 have hk:isE a.kd=true:=h';have ha:=hl a (List.mem_cons_self ..);have e:∀ n,zt (oP n (.mk 16 wNot [a]))=(1,wNot,(0,0))::zt (brk (twoT a.top) (oP n a)):=fun n=>by
  rw [oP_mk,oPs_cons,oPs_nil];show zt ((1,wNot)::sp::brk (twoT a.top) (oP n a))=_;rw [zt_tok _ (by decide),zt_sp]
 have hn:nd (.mk 16 wNot [a])=.mk 16 wNot (0,0) [nd a]:=by rw [nd_mk,nds_cons,nds_nil];rfl
 have hD:oD (.mk 16 wNot [a])=brkD (twoT a.top) (oD a)+1:=by rw [oD_mk,oDs_cons,oDs_nil];rfl
 have hp:=of_prim (x:=.mk 16 wNot [a]) rfl (fun n r d hd hr=>by
  rw [e,hn,hD,List.cons_append];refine Ev.step (g:=fun f=>(pOpen O2 true d ((1,wNot,(0,0))::(zt (brk (twoT a.top) (oP n a))++r))).then fun _ _=>(pPrim O2 f (zt (brk (twoT a.top) (oP n a))++r) (d+1)).then fun x r=>.ok (.mk 16 wNot (0,0) [x]) r) (fun f=>?_) ?_
  ·rw [pPrim];simp only [knd0,nam0,wrd0,sgn0,open_eq];by_cases h6:60≤d
   ·rw [if_pos h6];rfl
   ·rw [if_neg h6];rfl
  ·rw [open_eq];by_cases h6:60≤d
   ·rw [if_pos h6,res_neg (by omega)];exact Ev.const _
   ·rw [if_neg h6];show Ev (fun f=>(pPrim O2 f (zt (brk (twoT a.top) (oP n a))++r) (d+1)).then fun x r=>PR.ok (Nd.mk 16 wNot (0,0) [x]) r) _;refine Ev.fit (ha.prim hk n r (d+1) (by omega) hr) (fun h1=>?_) fun h1=>res_neg (by omega)
    rw [res_pos (by omega)];exact Ev.const _)
 exact ⟨fun _=>hp.1,fun _=>hp.2.1,fun _=>hp.2.2,fun _ n r c hc=>no_close (e n) rfl,fun _ n r hr=>no_name (e n) rfl,fun h=>(by first | exact kno h (by decide) | exact knoE h (by decide) | exact knoS h (by decide)),fun h=>(by first | exact kno h (by decide) | exact knoE h (by decide) | exact knoS h (by decide)),fun h=>(by first | exact kno h (by decide) | exact knoE h (by decide) | exact knoS h (by decide)),fun h=>(by first | exact kno h (by decide) | exact knoE h (by decide) | exact knoS h (by decide)),fun h=>(by first | exact kno h (by decide) | exact knoE h (by decide) | exact knoS h (by decide)),fun h=>(by first | exact kno h (by decide) | exact knoE h (by decide) | exact knoS h (by decide))⟩
theorem op_sign {t:List UInt8} (h:opB t=true) (p:Pl) (r:List Tok) (s:List UInt8) (hs:s=[40]∨s=[61]):signB ((if t=wIn then 1 else 4,t,p)::r) 0 s=false:=by
 unfold opB at h;simp only [Bool.or_eq_true,beq_iff_eq] at h;rw [sgn0];rcases h with ((rfl | rfl) | rfl) | rfl <;> rcases hs with rfl | rfl <;> decide
theorem all_op (t:List UInt8) (l:List Tr) (ht:t≠wNot) (h:shape 16 t (tops l)=true) (hl:∀ a ∈ l,AllE a):AllE (.mk 16 t l):=by
 have h':(if t=wNot then oneE (tops l) else opB t && twoE (tops l))=true:=h;rw [if_neg ht] at h';simp only [Bool.and_eq_true] at h';obtain ⟨h1,h2⟩:=h';obtain ⟨a,b,rfl⟩:∃ a b,l=[a,b]:=by
  match l,h2 with
  | [a,b],_=>exact ⟨a,b,rfl⟩
 have h3:(isE a.kd && isE b.kd)=true:=h2;simp only [Bool.and_eq_true] at h3;have ha:=hl a (by simp);have hb:=hl b (by simp);have e:∀ n,zt (oP n (.mk 16 t [a,b]))=zt (brk (cmpT a.top) (oP n a))++(if t=wIn then 1 else 4,t,(0,0))::zt (brk (brk1 t b.top) (oP n b)):=fun n=>by
  rw [oP_mk,oPs_cons,oPs_cons,oPs_nil];have e1:putP n 16 t (tops [a,b]) [oP n a,oP n b]=brk (cmpT a.top) (oP n a)++sp::opP t::sp::brk (brk1 t b.top) (oP n b):=by
   show (if t=wNot then _ else _)=_;rw [if_neg ht];rfl
  show zt (putP n 16 t (tops [a,b]) [oP n a,oP n b])=_;rw [e1,zt_app,zt_sp,zt_op,zt_sp]
 have e2:∀ n r,zt (oP n (.mk 16 t [a,b]))++r=zt (brk (cmpT a.top) (oP n a))++(if t=wIn then 1 else 4,t,(0,0))::(zt (brk (brk1 t b.top) (oP n b))++r):=fun n r=>by rw [e];simp
 have hn:nd (.mk 16 t [a,b])=.mk 16 t (0,0) [nd a,nd b]:=by rw [nd_mk,nds_cons,nds_cons,nds_nil];rfl
 have hD:oD (.mk 16 t [a,b])=max (brkD (cmpT a.top) (oD a)) (brkD (brk1 t b.top) (oD b)):=by
  rw [oD_mk,oDs_cons,oDs_cons,oDs_nil];show (if t=wNot then _ else _)=_;rw [if_neg ht];rfl
 have h2t:twoT (Tr.mk 16 t [a,b]).top=true:=by
  show ((16:Int) == 16 && t != wNot)=true;simpa using ht
 have hhead:PHead (.mk 16 t [a,b]):=fun n r c hc=>by
  rw [e2];exact brk_head (ha.head h3.1) _ n _ c hc
 have hname:PName (.mk 16 t [a,b]):=fun n r hr=>by
  rw [e2];exact brk_name (ha.name h3.1) _ n _ (op_sign h1 _ _ _ (.inr rfl))
 have all:PExpr (.mk 16 t [a,b])∧PSum (.mk 16 t [a,b])∧PPrim (.mk 16 t [a,b]):=by
  by_cases hp:t=[43]
  ·subst hp;have hc:cmpT (Tr.mk 16 [43] [a,b]).top=false:=rfl;have hs:PSum (.mk 16 [43] [a,b]):=by
    intro n r d y hd hr hy hz;rw [hc] at hy hz ⊢;have hbk:brk1 [43] b.top=twoT b.top:=by
     show (cmpT b.top || (true && twoT b.top))=_;rw [Bool.true_and];cases h5:twoT b.top with
     | false=>rw [cmp_two h5];rfl
     | true=>rw [Bool.or_true]
    show Ev (fun f=>pSum O2 f (zt (oP n (.mk 16 [43] [a,b]))++r) d) y;rw [e2,hbk];have hD':brkD false (oD (.mk 16 [43] [a,b]))=max (brkD (cmpT a.top) (oD a)) (brkD (twoT b.top) (oD b)):=by
     show oD (.mk 16 [43] [a,b])=_;rw [hD,hbk]
    rw [hD'] at hy hz;refine ha.sum h3.1 n _ d y hd rfl (fun hfa=>?_) fun hfa=>hz (by omega)
    refine Ev.step (g:=fun f=>(pPrim O2 f (zt (brk (twoT b.top) (oP n b))++r) d).then fun y r=>pSumGo O2 f (.mk 16 [43] (0,0) [nd a,y]) r d) (fun f=>?_) ?_
    ·rw [pSumGo];rfl
    ·refine Ev.fit (hb.prim h3.2 n r d hd hr) (fun h1=>?_) fun h1=>hz (by omega)
     rw [← hn];exact hy (by omega)
   have he:=expr_of_sum hc hs;exact ⟨he,hs,prim_of_expr h2t he⟩
  ·have hbk:brk1 t b.top=cmpT b.top:=by
    show (cmpT b.top || (t == [43] && twoT b.top))=_;rw [show (t == [43])=false by simpa using hp];simp
   have hc:cmpT (Tr.mk 16 t [a,b]).top=true:=by
    show (twoT (Tr.mk 16 t [a,b]).top && t != [43])=true;rw [h2t];simpa using hp
   have hplus:∀ p r,signB ((if t=wIn then 1 else 4,t,p)::r) 0 [43]=false:=fun p r=>by
    rw [sgn0,show (t == [43])=false by simpa using hp,Bool.and_false]
   have hop:∀ p r,(signB ((if t=wIn then 1 else 4,t,p)::r) 0 [61,61] || signB ((if t=wIn then 1 else 4,t,p)::r) 0 [33,61] || wordB ((if t=wIn then 1 else 4,t,p)::r) wIn)=true:=fun p r=>by
    rw [sgn0,sgn0,wrd0];unfold opB at h1;simp only [Bool.or_eq_true,beq_iff_eq] at h1;rcases h1 with ((rfl | rfl) | rfl) | rfl
    ·decide
    ·decide
    ·decide
    ·exact absurd rfl hp
   have he:PExpr (.mk 16 t [a,b]):=by
    intro n r d hd hr;rw [e2,hn,hD,hbk];refine Ev.step (g:=fun f=>(pSum O2 f (zt (brk (cmpT a.top) (oP n a))++(if t=wIn then 1 else 4,t,(0,0))::(zt (brk (cmpT b.top) (oP n b))++r)) d).then fun x r =>
     if (signB r 0 [61,61] || signB r 0 [33,61] || wordB r wIn)=true then (pTake O2 true r).then fun t r=>(pSum O2 f r d).then fun y r=>.ok (.mk 16 t.2.1 t.2.2 [x,y]) r
     else .ok x r) (fun f=>by rw [pExpr]) ?_
    refine Ev.fit (sum_end (ha.sum h3.1) n _ d hd (op_sign h1 _ _ _ (.inl rfl)) (hplus _ _)) (fun hf=>?_) fun hf=>res_neg (by omega)
    simp only [hop,if_true];show Ev (fun f=>(pSum O2 f (zt (brk (cmpT b.top) (oP n b))++r) d).then fun y r=>PR.ok (Nd.mk 16 t (0,0) [nd a,y]) r) _;refine Ev.fit (sum_end (hb.sum h3.2) n r d hd hr.call hr.plus) (fun hf2=>?_) fun hf2=>res_neg (by omega)
    rw [res_pos (by omega)];exact Ev.const _
   have hpp:=prim_of_expr h2t he;exact ⟨he,sum_of_prim (by rw [hc,h2t]) hpp,hpp⟩
 exact ⟨fun _=>all.1,fun _=>all.2.1,fun _=>all.2.2,fun _=>hhead,fun _=>hname,fun h=>(by first | exact kno h (by decide) | exact knoE h (by decide) | exact knoS h (by decide)),fun h=>(by first | exact kno h (by decide) | exact knoE h (by decide) | exact knoS h (by decide)),fun h=>(by first | exact kno h (by decide) | exact knoE h (by decide) | exact knoS h (by decide)),fun h=>(by first | exact kno h (by decide) | exact knoE h (by decide) | exact knoS h (by decide)),fun h=>(by first | exact kno h (by decide) | exact knoE h (by decide) | exact knoS h (by decide)),fun h=>(by first | exact kno h (by decide) | exact knoE h (by decide) | exact knoS h (by decide))⟩
theorem all_arg (t:List UInt8) (l:List Tr) (h:shape 15 t (tops l)=true) (hl:∀ a ∈ l,AllE a):AllE (.mk 15 t l):=by
 have h':((t.isEmpty || nameS t) && oneE (tops l))=true:=h;simp only [Bool.and_eq_true] at h';obtain ⟨h1,h2⟩:=h';obtain ⟨a,rfl⟩:∃ a,l=[a]:=by
  match l,h2 with
  | [a],_=>exact ⟨a,rfl⟩
 have hk:isE a.kd=true:=h2;have ha:=hl a (List.mem_cons_self ..);have hn:nd (.mk 15 t [a])=.mk 15 t (0,0) [nd a]:=by rw [nd_mk,nds_cons,nds_nil];rfl
 have hD:oD (.mk 15 t [a])=oD a:=by
  rw [oD_mk,oDs_cons,oDs_nil];show max (oD a) 0=_;omega
 by_cases ht:t=[]
 ·subst ht;have e:∀ n,oP n (.mk 15 [] [a])=oP n a:=fun n=>by rw [oP_mk,oPs_cons,oPs_nil];rfl
  refine ⟨fun h=>(by first | exact kno h (by decide) | exact knoE h (by decide) | exact knoS h (by decide)),fun h=>(by first | exact kno h (by decide) | exact knoE h (by decide) | exact knoS h (by decide)),fun h=>(by first | exact kno h (by decide) | exact knoE h (by decide) | exact knoS h (by decide)),fun h=>(by first | exact kno h (by decide) | exact knoE h (by decide) | exact knoS h (by decide)),fun h=>(by first | exact kno h (by decide) | exact knoE h (by decide) | exact knoS h (by decide)),fun h=>(by first | exact kno h (by decide) | exact knoE h (by decide) | exact knoS h (by decide)),fun h=>(by first | exact kno h (by decide) | exact knoE h (by decide) | exact knoS h (by decide)),fun _ n r d hd hr=>?_,fun _ n r c hc=>by rw [e];exact ha.head hk n r c hc,fun h=>(by first | exact kno h (by decide) | exact knoE h (by decide) | exact knoS h (by decide)),fun h=>(by first | exact kno h (by decide) | exact knoE h (by decide) | exact knoS h (by decide))⟩;rw [e,hn,hD];have hz:(atT O2 (zt (oP n a)++r) 0).2.2=(0,0)∨zt (oP n a)=[]:=by
   cases e1:zt (oP n a) with
   | nil=>exact .inr rfl
   | cons x u =>
     left;have hx:x ∈ zt (oP n a):=by rw [e1];simp
     unfold zt at hx;obtain ⟨p,_,rfl⟩:=List.mem_map.1 hx;rfl
  have hne:zt (oP n a)≠[]:=by
   intro e1;have:=ha.head hk n [(4,[41],(0,0))] 41 (by simp);rw [e1] at this;exact absurd this (by decide)
  refine Ev.step (g:=fun f=>(pExpr O2 f (zt (oP n a)++r) d).then fun x r'=>.ok [.mk 15 [] (0,0) [x]] r') (fun f=>?_) ?_
  ·rw [pOne,if_neg (by decide),if_pos rfl];simp only [ha.name hk n r hr.eq1,Bool.false_eq_true,if_false,hz.resolve_right hne]
  ·refine Ev.fit (ha.e hk n r d hd hr) (fun h1=>?_) fun h1=>res_neg h1
   rw [res_pos h1];exact Ev.const _
 ·have hnm:nameS t=true:=by
   simp only [Bool.or_eq_true,List.isEmpty_iff] at h1;exact h1.resolve_left ht
  have hres:=name_res hnm;have e:∀ n,zt (oP n (.mk 15 t [a]))=(1,t,(0,0))::(4,[61],(0,0))::zt (oP n a):=fun n=>by
   rw [oP_mk,oPs_cons,oPs_nil];have e1:putP n 15 t (tops [a]) [oP n a]=(1,t)::sp::sg 61::sp::oP n a:=by
    show (if t=[] then _ else _)=_;rw [if_neg ht];rfl
   show zt (putP n 15 t (tops [a]) [oP n a])=_;rw [e1,zt_tok _ (by decide),zt_sp,zt_sg,zt_sp]
  refine ⟨fun h=>(by first | exact kno h (by decide) | exact knoE h (by decide) | exact knoS h (by decide)),fun h=>(by first | exact kno h (by decide) | exact knoE h (by decide) | exact knoS h (by decide)),fun h=>(by first | exact kno h (by decide) | exact knoE h (by decide) | exact knoS h (by decide)),fun h=>(by first | exact kno h (by decide) | exact knoE h (by decide) | exact knoS h (by decide)),fun h=>(by first | exact kno h (by decide) | exact knoE h (by decide) | exact knoS h (by decide)),fun h=>(by first | exact kno h (by decide) | exact knoE h (by decide) | exact knoS h (by decide)),fun h=>(by first | exact kno h (by decide) | exact knoE h (by decide) | exact knoS h (by decide)),fun _ n r d hd hr=>?_,fun _ n r c hc=>no_close (e n) rfl,fun h=>(by first | exact kno h (by decide) | exact knoE h (by decide) | exact knoS h (by decide)),fun h=>(by first | exact kno h (by decide) | exact knoE h (by decide) | exact knoS h (by decide))⟩;rw [e,hn,hD];refine Ev.step (g:=fun f=>(pExpr O2 f (zt (oP n a)++r) d).then fun x r'=>.ok [.mk 15 t (0,0) [x]] r') (fun f=>?_) ?_
  ·show pOne O2 (f+1) 1 ((1,t,(0,0))::(4,[61],(0,0))::(zt (oP n a)++r)) d=_;rw [pOne,if_neg (by decide),if_pos rfl];simp only [nam0,sgn1,sgn0,hres];rfl
  ·refine Ev.fit (ha.e hk n r d hd hr) (fun h1=>?_) fun h1=>res_neg h1
   rw [res_pos h1];exact Ev.const _
theorem all_par (t:List UInt8) (l:List Tr) (h:shape 7 t (tops l)=true) (hok:okTs l=true) (hl:∀ a ∈ l,AllE a):AllE (.mk 7 t l):=by
 have h':(nameS t && paramB (tops l))=true:=h;simp only [Bool.and_eq_true] at h';obtain ⟨h1,h2⟩:=h';have hres:=name_res h1;obtain ⟨a,u,rfl,ha⟩:∃ a u,l=a::u∧(a.kd == 9 && typeB a.tx)=true:=by
  match l,h2 with
  | [a],h=>exact ⟨a,[],rfl,h⟩
  | [a,b],h =>
    have h:(a.kd == 9 && typeB a.tx && isE b.kd)=true:=h;simp only [Bool.and_eq_true] at h;exact ⟨a,[b],rfl,by simp only [Bool.and_eq_true];exact h.1⟩
 obtain ⟨ty,rfl⟩:∃ ty,a=.mk 9 ty []:=by
  cases a with
  | mk k ty al =>
    rw [okTs_cons] at hok;simp only [Bool.and_eq_true] at hok;simp only [Bool.and_eq_true,beq_iff_eq] at ha;obtain rfl:k=9:=ha.1;have:=hok.1;rw [okT_mk] at this;simp only [Bool.and_eq_true] at this;have h5:((tops al).isEmpty && nameS ty)=true:=this.1;simp only [Bool.and_eq_true] at h5;obtain rfl:=tops_nil_of h5.1;exact ⟨ty,rfl⟩
 have hty:typeB ty=true:=by simp only [Bool.and_eq_true] at ha;exact ha.2
 have hn9:nd (.mk 9 ty [])=.mk 9 ty (0,0) []:=by rw [nd_mk,nds_nil];rfl
 have hD9:oD (.mk 9 ty [])=0:=by rw [oD_mk,oDs_nil];rfl
 rcases u with _ | ⟨b,u⟩
 ·have e:∀ n,zt (oP n (.mk 7 t [.mk 9 ty []]))=[(1,t,(0,0)),(4,[58],(0,0)),(1,ty,(0,0))]:=fun n=>by
   rw [oP_mk,oPs_cons,oPs_nil];rfl
  have hn:nd (.mk 7 t [.mk 9 ty []])=.mk 7 t (0,0) [.mk 9 ty (0,0) []]:=by rw [nd_mk,nds_cons,nds_nil,hn9];rfl
  have hD:oD (.mk 7 t [.mk 9 ty []])=0:=by
   rw [oD_mk,oDs_cons,oDs_nil,hD9];rfl
  refine ⟨fun h=>(by first | exact kno h (by decide) | exact knoE h (by decide) | exact knoS h (by decide)),fun h=>(by first | exact kno h (by decide) | exact knoE h (by decide) | exact knoS h (by decide)),fun h=>(by first | exact kno h (by decide) | exact knoE h (by decide) | exact knoS h (by decide)),fun h=>(by first | exact kno h (by decide) | exact knoE h (by decide) | exact knoS h (by decide)),fun h=>(by first | exact kno h (by decide) | exact knoE h (by decide) | exact knoS h (by decide)),fun h=>(by first | exact kno h (by decide) | exact knoE h (by decide) | exact knoS h (by decide)),fun h=>(by first | exact kno h (by decide) | exact knoE h (by decide) | exact knoS h (by decide)),fun h=>(by first | exact kno h (by decide) | exact knoE h (by decide) | exact knoS h (by decide)),fun h=>(by first | exact kno h (by decide) | exact knoE h (by decide) | exact knoS h (by decide)),fun _ n r d hd hr=>?_,fun _ n r c hc=>no_close (e n) rfl⟩;rw [e,hn,hD,res_pos (by omega)];refine Ev.step (g:=fun _=>.ok [.mk 7 t (0,0) [.mk 9 ty (0,0) []]] r) (fun f=>?_) (Ev.const _);show pOne O2 (f+1) 0 ((1,t,(0,0))::(4,[58],(0,0))::(1,ty,(0,0))::r) d=_;rw [pOne,if_pos rfl,nam0,hres];have ht:typeAt ((1,ty,(0,0))::r)=true:=hty;show (pTake O2 (typeAt ((1,ty,(0,0))::r)) ((1,ty,(0,0))::r)).then _=_;rw [ht];show (if signB r 0 [61]=true then _ else _)=_;rw [if_neg (by rw [hr.eq1];simp)]
 ·obtain rfl:u=[]:=by
   rcases u with _ | ⟨c,u⟩
   ·rfl
   ·cases h2
  have hk:isE b.kd=true:=by
   have h:((9:Int) == 9 && typeB ty && isE b.kd)=true:=h2;simp only [Bool.and_eq_true] at h;exact h.2
  have hb:=hl b (by simp);have e:∀ n,zt (oP n (.mk 7 t [.mk 9 ty [],b]))=(1,t,(0,0))::(4,[58],(0,0))::(1,ty,(0,0))::(4,[61],(0,0))::zt (oP n b):=fun n=>by
   rw [oP_mk,oPs_cons,oPs_cons,oPs_nil];show zt ((1,t)::sg 58::sp::(1,ty)::sp::sg 61::sp::oP n b)=_;rw [zt_tok _ (by decide),zt_sg,zt_sp,zt_tok _ (by decide),zt_sp,zt_sg,zt_sp]
  have hn:nd (.mk 7 t [.mk 9 ty [],b])=.mk 7 t (0,0) [.mk 9 ty (0,0) [],nd b]:=by rw [nd_mk,nds_cons,nds_cons,nds_nil,hn9];rfl
  have hD:oD (.mk 7 t [.mk 9 ty [],b])=oD b:=by
   rw [oD_mk,oDs_cons,oDs_cons,oDs_nil,hD9];show max 0 (max (oD b) 0)=_;omega
  refine ⟨fun h=>(by first | exact kno h (by decide) | exact knoE h (by decide) | exact knoS h (by decide)),fun h=>(by first | exact kno h (by decide) | exact knoE h (by decide) | exact knoS h (by decide)),fun h=>(by first | exact kno h (by decide) | exact knoE h (by decide) | exact knoS h (by decide)),fun h=>(by first | exact kno h (by decide) | exact knoE h (by decide) | exact knoS h (by decide)),fun h=>(by first | exact kno h (by decide) | exact knoE h (by decide) | exact knoS h (by decide)),fun h=>(by first | exact kno h (by decide) | exact knoE h (by decide) | exact knoS h (by decide)),fun h=>(by first | exact kno h (by decide) | exact knoE h (by decide) | exact knoS h (by decide)),fun h=>(by first | exact kno h (by decide) | exact knoE h (by decide) | exact knoS h (by decide)),fun h=>(by first | exact kno h (by decide) | exact knoE h (by decide) | exact knoS h (by decide)),fun _ n r d hd hr=>?_,fun _ n r c hc=>no_close (e n) rfl⟩;rw [e,hn,hD];refine Ev.step (g:=fun f=>(pExpr O2 f (zt (oP n b)++r) d).then fun x r'=>.ok [.mk 7 t (0,0) [.mk 9 ty (0,0) [],x]] r') (fun f=>?_) ?_
  ·show pOne O2 (f+1) 0 ((1,t,(0,0))::(4,[58],(0,0))::(1,ty,(0,0))::(4,[61],(0,0))::(zt (oP n b)++r)) d=_;rw [pOne,if_pos rfl,nam0,hres];have ht:typeAt ((1,ty,(0,0))::(4,[61],(0,0))::(zt (oP n b)++r))=true:=hty;show (pTake O2 (typeAt ((1,ty,(0,0))::(4,[61],(0,0))::(zt (oP n b)++r))) ((1,ty,(0,0))::(4,[61],(0,0))::(zt (oP n b)++r))).then _=_;rw [ht];rfl
  ·refine Ev.fit (hb.e hk n r d hd hr) (fun h1=>?_) fun h1=>res_neg h1
   rw [res_pos h1];exact Ev.const _
theorem all_none {x:Tr} (h:isE x.kd=false) (h14:x.kd≠14) (h15:x.kd≠15) (h7:x.kd≠7):AllE x :=
 ⟨fun e=>absurd (h.symm.trans e) (by decide),fun e=>absurd (h.symm.trans e) (by decide),fun e=>absurd (h.symm.trans e) (by decide),fun e=>absurd (h.symm.trans e) (by decide),fun e=>absurd (h.symm.trans e) (by decide),fun e=>absurd e h14,fun e=>absurd e h14,fun e=>absurd e h15,fun e=>absurd e h15,fun e=>absurd e h7,fun e=>absurd e h7⟩
theorem all_step (k:Int) (t:List UInt8) (l:List Tr) (h:okT (.mk k t l)=true) (hl:∀ a ∈ l,AllE a):AllE (.mk k t l):=by
 rw [okT_mk] at h;simp only [Bool.and_eq_true] at h;obtain ⟨h1,h2⟩:=h;by_cases e9:k=9
 ·subst e9;exact all_name t l h1
 by_cases e10:k=10
 ·subst e10;exact all_num t l h1
 by_cases e11:k=11
 ·subst e11;exact all_text t l h1
 by_cases e12:k=12
 ·subst e12;exact all_list t l h1 hl
 by_cases e13:k=13
 ·subst e13;exact all_dict t l h1 h2 hl
 by_cases e14:k=14
 ·subst e14;exact all_call t l h1 hl
 by_cases e16:k=16
 ·subst e16;by_cases ht:t=wNot
  ·subst ht;exact all_not l h1 hl
  ·exact all_op t l ht h1 hl
 by_cases e15:k=15
 ·subst e15;exact all_arg t l h1 hl
 by_cases e7:k=7
 ·subst e7;exact all_par t l h1 h2 hl
 refine all_none ?_ e14 e15 e7;rw [kd_mk];unfold isE;simp [e9,e10,e11,e12,e13,e14,e16]
mutual
theorem all_expr:∀ x:Tr,okT x=true→AllE x
 | .mk k t l,h=>all_step k t l h (all_exprs l (by rw [okT_mk] at h;simp only [Bool.and_eq_true] at h;exact h.2))
theorem all_exprs:∀ l:List Tr,okTs l=true→∀ a ∈ l,AllE a
 | [],_,_,ha=>by cases ha
 | x::r,h,a,ha=>by
   rw [okTs_cons] at h;simp only [Bool.and_eq_true] at h;rcases List.mem_cons.1 ha with e | ha
   ·rw [e];exact all_expr x h.1
   ·exact all_exprs r h.2 a ha
end
end Go.Proofs.YtfgiihpopngbkaaGreatDoor
