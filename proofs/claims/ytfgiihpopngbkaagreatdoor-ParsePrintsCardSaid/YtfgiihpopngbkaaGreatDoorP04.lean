/- Lemmas and walks that the statement needs: PrintLex, PrintPlain, QuietBelow, QuietHeld, NodeMem, ParseAt, ParseTake. -/
import Derived.Test.YtfgiihpopngbkaaGreatDoorP03
import Derived.Deep.Quiet
import Derived.Deep.MidRow
import Derived.ChangeKeysEq
namespace Go.Proofs.YtfgiihpopngbkaaGreatDoor
set_option maxRecDepth 100000
set_option maxHeartbeats 8000000
open Go.RowKit
open Nat renaming lt_of_lt_of_le→nL,le_trans→nT
open List renaming length_append→lAp,length_cons→lCo
open Nat renaming le_refl→nRe
open Go.World renaming size_alloc→wSz
open _root_.Bool renaming and_eq_true→bAe
open _root_.Array renaming getElem?_eq_some_iff→aGe
open Go renaming cell_of_row→cRo,heap_alloc_new→hAn,heap_setCell_same→hSs,heap_setCell_other→hSo
inductive jy:Nat→List UInt8→Prop where
 | word {c:UInt8} {s:List UInt8}:dE c=true→(c::s).all bq=true→jy 1 (c::s)
 | num {c:UInt8} {s:List UInt8}:aS c=true→(c::s).all aS=true→¬ (1<(c::s).length∧c=48)→eS 0 (c::s)≤9223372036854775807→jy 2 (c::s)
 | text {s:List UInt8}:s.any ft=false→jy 3 s
 | sign {c:UInt8}:c ∈ ci→jy 4 [c]
 | two {c:UInt8}:c.toNat=61∨c.toNat=33→jy 4 [c,61]
theorem wn {c:UInt8} (h:dE c=true):bp c=false∧c.toNat≠35∧bq c=true∧c.toNat≠61:=by
 simp only [dE,bp,bq,aS,Bool.or_eq_true,bAe,decide_eq_true_eq,beq_iff_eq,Bool.or_eq_false_iff,beq_eq_false_iff_ne,ne_eq] at *;omega
theorem wf {c:UInt8} (h:aS c=true):bp c=false∧c.toNat≠35∧dE c=false∧bq c=true∧c.toNat≠61:=by
 refine ⟨?_,?_,?_,by simp [bq,h],?_⟩
 all_goals
  simp only [dE,bp,aS,bAe,decide_eq_true_eq,Bool.or_eq_false_iff,Bool.and_eq_false_iff,decide_eq_false_iff_not,beq_eq_false_iff_ne,ne_eq] at *;omega
theorem xg {c:UInt8} (h:bp c=true):bq c=false∧c.toNat≠61:=by
 simp only [dE,bp,bq,aS,Bool.or_eq_true,beq_iff_eq,Bool.or_eq_false_iff,Bool.and_eq_false_iff,decide_eq_false_iff_not,beq_eq_false_iff_ne,ne_eq] at *;omega
theorem kT {c:UInt8} (h:c ∈ ci):bp c=false∧c.toNat≠35∧dE c=false∧aS c=false∧c.toNat≠34∧bq c=false:=by
 simp only [ci,List.mem_cons,List.not_mem_nil,or_false] at h;rcases h with rfl | rfl | rfl | rfl | rfl | rfl | rfl | rfl | rfl | rfl | rfl <;> decide
theorem vL {c:UInt8} (h:c.toNat=61∨c.toNat=33):bp c=false∧c.toNat≠35∧dE c=false∧aS c=false∧c.toNat≠34:=by
 have:c=61∨c=33:=by rcases h with h | h;exact .inl (x8 h);exact .inr (x8 h)
 rcases this with rfl | rfl <;> decide
def zaS (r:List UInt8):Prop:=r=[]∨∃ x u,r=x::u∧bq x=false∧x.toNat≠61
theorem pT {p:UInt8→Bool} (hp:∀ c,bq c=false→p c=false) {s r:List UInt8} (hs:s.all p=true) (hr:zaS r):aZ p (s++r)=s.length:=by
 rcases hr with rfl | ⟨x,u,rfl,hx,_⟩
 ·rw [List.append_nil];exact yB hs
 ·exact xY s u hs x (hp x hx)
theorem zm (c:UInt8) (h:bq c=false):aS c=false:=by simp [bq] at h;exact h.2
theorem pK {k:Nat} {t:List UInt8} (h:jy k t) {r:List UInt8} (hr:zaS r):c7 (df k t++r)=(k,t,(df k t).length,0):=by
 cases h with
 | @word c s h1 h2 =>
   have f:=wn h1;have hrun:=pT (p:=bq) (fun c h=>h) h2 hr;show c7 (c::(s++r))=_;rw [show (c::s)++r=c::(s++r) from rfl] at hrun;rw [ej,if_neg (by rw [f.1];simp),if_neg f.2.1,if_pos h1,hrun,show c::(s++r)=(c::s)++r from rfl,List.take_left' rfl];rfl
 | @num c s h1 h2 h3 h4 =>
   have f:=wf h1;have hrun:=pT (p:=aS) zm h2 hr;show c7 (c::(s++r))=_;rw [ej,if_neg (by rw [f.1];simp),if_neg f.2.1,if_neg (by rw [f.2.2.1];simp),if_pos h1,show c::(s++r)=(c::s)++r from rfl];unfold mI;rw [hrun,List.take_left' rfl,if_neg (by rintro ⟨a,b⟩;exact h3 ⟨a,by simpa using b⟩),if_neg (by omega)];rfl
 | text h=>exact rW r h
 | @sign c h =>
   have f:=kT h;show c7 (c::r)=_;rw [ej,if_neg (by rw [f.1];simp),if_neg f.2.1,if_neg (by rw [f.2.2.1];simp),if_neg (by rw [f.2.2.2.1];simp),if_neg f.2.2.2.2.1,if_neg ?_,if_pos h]
   ·rfl
   ·rintro ⟨_,h2⟩;rcases hr with rfl | ⟨x,u,rfl,_,hx⟩
    ·simp at h2
    ·simp at h2;subst h2;exact hx rfl
 | @two c h =>
   have f:=vL h;show c7 (c::61::r)=_;rw [ej,if_neg (by rw [f.1];simp),if_neg f.2.1,if_neg (by rw [f.2.2.1];simp),if_neg (by rw [f.2.2.2.1];simp),if_neg f.2.2.2.2,if_pos ⟨h,rfl⟩];rfl
theorem uD {c:UInt8} (h:c ∈ ci) (h2:c.toNat≠61) (r:List UInt8):c7 (df 4 [c]++r)=(4,[c],1,0):=by
 have f:=kT h;show c7 (c::r)=_;rw [ej,if_neg (by rw [f.1];simp),if_neg f.2.1,if_neg (by rw [f.2.2.1];simp),if_neg (by rw [f.2.2.2.1];simp),if_neg f.2.2.2.2.1,if_neg ?_,if_pos h];rintro ⟨h3 | h3,_⟩
 ·exact h2 h3
 ·simp only [ci,List.mem_cons,List.not_mem_nil,or_false] at h;rcases h with rfl | rfl | rfl | rfl | rfl | rfl | rfl | rfl | rfl | rfl | rfl <;> exact absurd h3 (by decide)
theorem yS {k:Nat} {t:List UInt8} (h:jy k t):df k t≠[]:=by
 cases h with
 | text h=>obtain ⟨c,r,e⟩:=yx h;show dR _≠[];rw [e];simp
 | word _ _=>exact List.cons_ne_nil _ _
 | num _ _ _ _=>exact List.cons_ne_nil _ _
 | sign _=>exact List.cons_ne_nil _ _
 | two _=>exact List.cons_ne_nil _ _
theorem zb {c:UInt8} {s t:List UInt8} {k n:Nat} (h:c7 (c::s)=(k,t,n,0)) (hk:k≠0):jy k t:=by
 rw [ej] at h;by_cases h1:bp c=true
 ·rw [if_pos h1] at h;simp only [Prod.mk.injEq] at h;omega
 rw [if_neg h1] at h;by_cases h2:c.toNat=35
 ·rw [if_pos h2] at h;simp only [Prod.mk.injEq] at h;omega
 rw [if_neg h2] at h;by_cases h3:dE c=true
 ·rw [if_pos h3] at h;simp only [Prod.mk.injEq] at h;obtain ⟨rfl,rfl,rfl,-⟩:=h;have hw:bq c=true:=by simp [bq,h3]
  have hall:=nD bq (c::s);have hcons:(c::s).take (aZ bq (c::s))=c::s.take (aZ bq s):=by rw [eQ hw];rfl
  rw [hcons] at hall ⊢;exact .word h3 hall
 rw [if_neg h3] at h;by_cases h4:aS c=true
 ·rw [if_pos h4] at h;unfold mI at h;by_cases g1:1<aZ aS (c::s)∧(c::s).head? = some 48
  ·rw [if_pos g1] at h;simp at h
  rw [if_neg g1] at h;by_cases g2:9223372036854775807<eS 0 ((c::s).take (aZ aS (c::s)))
  ·rw [if_pos g2] at h;simp at h
  rw [if_neg g2] at h;simp only [Prod.mk.injEq] at h;obtain ⟨rfl,rfl,rfl,-⟩:=h;have hall:=nD aS (c::s);have aF:((c::s).take (aZ aS (c::s))).length=aZ aS (c::s):=by rw [List.length_take];have:=ix aS (c::s);omega
  have hcons:(c::s).take (aZ aS (c::s))=c::s.take (aZ aS s):=by rw [eQ h4];rfl
  rw [← aF] at g1;rw [hcons] at hall g1 g2 ⊢;exact .num h4 hall (fun ⟨a,b⟩=>g1 ⟨a,by subst b;rfl⟩) (by omega)
 rw [if_neg h4] at h;by_cases h5:c.toNat=34
 ·rw [if_pos h5] at h;cases e:qGo s with
  | none=>rw [e] at h;simp at h
  | some x =>
    rw [e] at h;simp only [Prod.mk.injEq] at h;obtain ⟨rfl,rfl,rfl,-⟩:=h;exact .text (lE s.length s x.1 x.2 (nRe _) e).1
 rw [if_neg h5] at h;by_cases h6:(c.toNat=61∨c.toNat=33)∧s.head? = some 61
 ·rw [if_pos h6] at h;simp only [Prod.mk.injEq] at h;obtain ⟨rfl,rfl,rfl,-⟩:=h;exact .two h6.1
 rw [if_neg h6] at h;by_cases h7:c ∈ ci
 ·rw [if_pos h7] at h;simp only [Prod.mk.injEq] at h;obtain ⟨rfl,rfl,rfl,-⟩:=h;exact .sign h7
 ·rw [if_neg h7] at h;simp at h
theorem sQ:∀ (k:Nat) (s:List UInt8) (p:Pl),s.length≤k→∀ t ∈ (eW p s).1,jy t.1 t.2.1
 | _,[],p,_,t,ht=>by rw [qq] at ht;cases ht
 | 0,c::r,p,hk,_,_=>by simp at hk
 | k+1,c::r,p,hk,t,ht=>by
   obtain ⟨kd,tx,n,e,hp⟩:∃ kd t n,∃ e,c7 (c::r)=(kd,t,n,e):=⟨_,_,_,_,rfl⟩;by_cases he:e=0
   ·subst he;have hs:=gS hp;rw [iv hp] at ht;unfold fR at ht;split at ht
    ·rcases List.mem_append.1 ht with h | h
     ·split at h
      ·cases h
      ·rename_i hk0;obtain rfl:=List.mem_singleton.1 h;exact zb hp hk0
     ·exact sQ k _ _ (by simp at hk ⊢;omega) t h
    ·cases ht
   ·rw [nC hp he] at ht;cases ht
abbrev aJ:=Nat × List UInt8
def af (l:List aJ):List UInt8:=l.flatMap fun p=>df p.1 p.2
def et (l:List aJ):List (Nat × List UInt8):=l.filter fun p=>p.1 != 0
theorem eJ:af []=[]:=rfl
theorem aA (p:aJ) (l:List aJ):af (p::l)=df p.1 p.2++af l:=rfl
theorem aQ (a b:List aJ):af (a++b)=af a++af b:=by unfold af;rw [List.flatMap_append]
theorem xX (a b:List aJ):et (a++b)=et a++et b:=by unfold et;rw [List.filter_append]
def jS (p:aJ):Prop:=(p.1=0∧p.2≠[]∧p.2.all bp=true)∨(p.1≠0∧jy p.1 p.2)
def kH (p:aJ):Bool:=p.1 == 0 || (p.1 == 4 && match p.2 with | [c]=>c.toNat != 61 | _=>false)
def nw:List aJ→Bool
 | []=>true
 | [_]=>true
 | a::b::r=>(kH a || kH b) && nw (b::r)
structure Gd (l:List aJ):Prop where
 good:∀ p ∈ l,jS p
 adj:nw l=true
theorem wv {p:aJ} (hg:jS p) (hs:kH p=true) (r:List UInt8):zaS (df p.1 p.2++r):=by
 obtain ⟨k,t⟩:=p;rcases hg with ⟨rfl,hne,ha⟩ | ⟨hk,h⟩
 ·cases t with
  | nil=>exact absurd rfl hne
  | cons c t =>
    simp only [List.all_cons,bAe] at ha;have f:=xg ha.1;exact .inr ⟨c,t++r,rfl,f.1,f.2⟩
 ·simp only [kH,Bool.or_eq_true,bAe,beq_iff_eq] at hs;rcases hs with h0 | ⟨rfl,h0⟩
  ·exact absurd h0 hk
  ·cases h with
   | @sign c hc=>exact .inr ⟨c,r,rfl,(kT hc).2.2.2.2.2,by simpa using h0⟩
   | two _=>simp at h0
theorem ng:∀ (g:List UInt8) (r:List UInt8) (p:Pl),g.all bp=true→eW p (g++r)=eW (cA p g) r
 | [],_,_,_=>rfl
 | c::g,r,p,h=>by
   simp only [List.all_cons,bAe] at h;show eW p (c::(g++r))=_;rw [vB h.1,ng g r _ h.2];rfl
theorem yq (a b:List Tok):ip (a++b)=ip a++ip b:=by unfold ip;rw [List.map_append]
theorem kX:∀ (l:List aJ) (p:Pl),Gd l→(eW p (af l)).2.1=0∧ip (eW p (af l)).1=et l
 | [],p,_=>⟨rfl,rfl⟩
 | (k,t)::l,p,h=>by
   have hg:=h.good _ (List.mem_cons_self ..);have hl:Gd l:=⟨fun q hq=>h.good q (List.mem_cons_of_mem _ hq),by
    have:=h.adj;cases l with
    | nil=>rfl
    | cons b r=>unfold nw at this;simp only [bAe] at this;exact this.2⟩
   have ih:=fun q=>kX l q hl
   rw [aA];rcases hg with ⟨hk,hne,ha⟩ | ⟨hk,ht⟩
   ·simp only at hk hne ha;subst hk;have e:df 0 t=t:=rfl;rw [e,ng t _ _ ha];exact ih _
   ·simp only at hk ht;have hp:c7 (df k t++af l)=(k,t,(df k t).length,0):=by
     cases l with
     | nil=>exact pK ht (.inl rfl)
     | cons b r =>
       have hadj:=h.adj;unfold nw at hadj;simp only [bAe,Bool.or_eq_true] at hadj;rcases hadj.1 with hs | hs
       ·simp only [kH,Bool.or_eq_true,bAe,beq_iff_eq] at hs;rcases hs with h0 | ⟨rfl,h0⟩
        ·exact absurd h0 hk
        ·cases ht with
         | @sign c hc=>exact uD hc (by simpa using h0) _
         | two _=>simp at h0
       ·rw [aA];exact pK ht (wv (hl.good b (List.mem_cons_self ..)) hs _)
    rw [pj (yS ht) hp,if_neg hk];obtain ⟨h1,h2⟩:=ih (cA p (df k t));refine ⟨?_,?_⟩
    ·unfold fR;rw [if_pos h1]
    ·unfold fR;rw [if_pos h1];show ip ([_]++_)=_;rw [yq,h2];unfold et;rw [List.filter_cons_of_pos (by simpa using hk)];rfl
theorem Gd.nil:Gd []:=⟨fun _ h=>(by cases h),rfl⟩
theorem Gd.one {p:aJ} (h:jS p):Gd [p]:=⟨fun q hq=>by obtain rfl:=List.mem_singleton.1 hq;exact h,rfl⟩
theorem Gd.cons {p:aJ} {l:List aJ} (hp:jS p) (hs:kH p=true) (h:Gd l):Gd (p::l):=by
 refine ⟨fun q hq=>?_,?_⟩
 ·rcases List.mem_cons.1 hq with rfl | hq
  ·exact hp
  ·exact h.good q hq
 ·cases l with
  | nil=>rfl
  | cons b r=>unfold nw;rw [hs,h.adj];rfl
theorem zdJ {p q:aJ} {l:List aJ} (hp:jS p) (hs:kH q=true) (h:Gd (q::l)):Gd (p::q::l):=by
 refine ⟨fun x hx=>?_,?_⟩
 ·rcases List.mem_cons.1 hx with rfl | hx
  ·exact hp
  ·exact h.good x hx
 ·unfold nw;rw [hs,h.adj];simp
theorem zdM {a b:List aJ} {q:aJ} (ha:Gd a) (hs:kH q=true) (h:Gd (q::b)):Gd (a++q::b):=by
 induction a with
 | nil=>exact h
 | cons x a ih =>
   have ha':Gd a:=⟨fun q hq=>ha.good q (List.mem_cons_of_mem _ hq),by
    have:=ha.adj;cases a with
    | nil=>rfl
    | cons b r=>unfold nw at this;simp only [bAe] at this;exact this.2⟩
   have ih:=ih ha';have hx:=ha.good x (List.mem_cons_self ..);refine ⟨fun y hy=>?_,?_⟩
   ·rcases List.mem_cons.1 hy with rfl | hy
    ·exact hx
    ·exact ih.good y hy
   ·cases a with
    | nil=>show nw (x::q::b)=true;unfold nw;rw [hs,h.adj];simp
    | cons y a =>
      have hadj:=ha.adj;unfold nw at hadj;simp only [bAe] at hadj;show nw (x::y::(a++q::b))=true;unfold nw;have:=ih.adj;rw [hadj.1,show y::(a++q::b)=(y::a)++q::b from rfl,this];rfl
def fg (k:Nat) (s:List UInt8):Bool:=decide ((eg s).2.1=0) && decide (ip (eg s).1=[(k,s)])
theorem oR {k:Nat} {s:List UInt8} (h:fg k s=true):jy k s:=by
 unfold fg at h;simp only [bAe,decide_eq_true_eq] at h;obtain ⟨h1,h2⟩:=h;unfold eg at h1 h2;split at h1
 ·cases h1
 ·rename_i hl;rw [if_neg hl] at h2;have ht:=sQ s.length s (1,1) (nRe _);generalize (eW (1,1) s).1=L at h2 ht;cases L with
  | nil=>simp [ip] at h2
  | cons t r =>
    simp [ip] at h2;have:=ht t (List.mem_cons_self ..);rw [h2.1.1,h2.1.2] at this;exact this
theorem sv {k:Nat} {s:List UInt8} (h:jy k s) (hk:k=1∨k=2) (hl:s.length≤65536):fg k s=true:=by
 have hk0:k≠0:=by omega
 have hw:df k s=s:=by unfold df;rw [if_neg (by omega)]
 have hr:af [(k,s)]=s:=by rw [aA,eJ,List.append_nil];exact hw
 obtain ⟨h1,h2⟩:=kX [(k,s)] (1,1) (Gd.one (.inr ⟨hk0,h⟩));rw [hr] at h1 h2;unfold fg eg;rw [if_neg (by omega),h1,h2];unfold et;rw [List.filter_cons_of_pos (by simpa using hk0)];simp
inductive Tr where
 | mk (k:Int) (t:List UInt8) (kids:List Tr)
abbrev Top:=Int × List UInt8
def Tr.top:Tr→Top | .mk k t _=>(k,t)
def Tr.kids:Tr→List Tr | .mk _ _ l=>l
def bD (l:List Tr):List Top:=l.map Tr.top
theorem j8:bD []=[]:=rfl
theorem l8 (x:Tr) (l:List Tr):bD (x::l)=x.top::bD l:=rfl
mutual
def Nd.tr:Nd→Tr
 | .mk k t _ l=>.mk k t (Nd.trs l)
def Nd.trs:List Nd→List Tr
 | []=>[]
 | x::r=>x.tr::Nd.trs r
end
theorem uX:Nd.trs []=[]:=by rw [Nd.trs]
theorem lA (x:Nd) (r:List Nd):Nd.trs (x::r)=x.tr::Nd.trs r:=by rw [Nd.trs]
theorem uO (k:Nat) (t:List UInt8) (p:Pl) (l:List Nd):(Nd.mk k t p l).tr=.mk k t (Nd.trs l):=by rw [Nd.tr]
def aM (s:List UInt8):Bool:=fg 1 s && !ed s
def opB (s:List UInt8):Bool:=s == [61,61] || s == [33,61] || s == wIn || s == [43]
def isE (k:Int):Bool:=k == 9 || k == 10 || k == 11 || k == 12 || k == 13 || k == 14 || k == 16
def isS (k:Int):Bool:=k == 2 || k == 3 || k == 4 || k == 5 || k == 6
def nk:List Top→Bool
 | []=>true
 | [_]=>false
 | a::b::r=>a.1 == 11 && isE a.1 && isE b.1 && nk r
def m9:List Top→Bool
 | []=>false
 | [a]=>a.1 == 8
 | a::b::r=>a.1 == 7 && m9 (b::r)
def oU:List Top→Bool
 | [a]=>a.1 == 9 && cY a.2
 | [a,b]=>a.1 == 9 && cY a.2 && isE b.1
 | _=>false
def zaa:List Top→Bool
 | [a,b]=>isE a.1 && b.1 == 8
 | _=>false
def ifB:List Top→Bool
 | [a,b]=>isE a.1 && b.1 == 8
 | [a,b,c]=>isE a.1 && b.1 == 8 && c.1 == 8
 | _=>false
def lq:List Top→Bool
 | [a]=>isE a.1
 | _=>false
def tX:List Top→Bool
 | [a,b]=>isE a.1 && isE b.1
 | _=>false
def fH (k:Int) (t:List UInt8) (l:List Top):Bool :=
 if k=9 then l.isEmpty && aM t
 else if k=10 then l.isEmpty && fg 2 t
 else if k=11 then l.isEmpty && !(t.any ft)
 else if k=12 then t.isEmpty && l.all (fun x=>isE x.1)
 else if k=13 then t.isEmpty && nk l
 else if k=14 then aM t && l.all (fun x=>x.1 == 15)
 else if k=16 then (if t=cj then lq l else opB t && tX l)
 else if k=15 then (t.isEmpty || aM t) && lq l
 else if k=7 then aM t && oU l
 else if k=8 then t.isEmpty && l.all (fun x=>isS x.1)
 else if k=2 then aM t && lq l
 else if k=3 then t.isEmpty && (match l with | [a]=>a.1 == 14 | _=>false)
 else if k=4 then aM t && zaa l
 else if k=5 then t.isEmpty && ifB l
 else if k=6 then aM t && m9 l
 else false
mutual
def okT:Tr→Bool
 | .mk k t l=>fH k t (bD l) && ee l
def ee:List Tr→Bool
 | []=>true
 | x::r=>okT x && ee r
end
theorem d7 (k:Int) (t:List UInt8) (l:List Tr):okT (.mk k t l)=(fH k t (bD l) && ee l):=by rw [okT]
theorem eF:ee []=true:=by rw [ee]
theorem bM (x:Tr) (r:List Tr):ee (x::r)=(okT x && ee r):=by rw [ee]
def j9:Tr→Bool
 | .mk k t l=>decide (k=1) && t.isEmpty && (bD l).all (fun x=>isS x.1) && ee l
def sg (c:UInt8):aJ:=(4,[c])
def sp:aJ:=(0,[32])
def nl:aJ:=(0,[10])
def fB (n:Nat):List aJ:=if n=0 then [] else [(0,List.replicate n 9)]
def aE:List (List aJ)→List aJ
 | []=>[]
 | [a]=>a
 | a::b::r=>a++sg 44::sp::aE (b::r)
def b7:List (List aJ)→List aJ
 | a::b::c::r=>a++sg 58::sp::(b++sg 44::sp::b7 (c::r))
 | [a,b]=>a++sg 58::sp::b
 | [a]=>a
 | []=>[]
def aX (n:Nat):List (List aJ)→List aJ
 | []=>[]
 | a::r=>fB n++(a++nl::aX n r)
def brk (b:Bool) (l:List aJ):List aJ:=if b=true then sg 40::(l++[sg 41]) else l
def dY (x:Top):Bool:=x.1 == 16 && x.2 != cj
def dX (x:Top):Bool:=dY x && x.2 != [43]
def mV:Top:=(0,[])
def gV (a:Top):Bool:=dX a
def hU (t:List UInt8) (b:Top):Bool:=dX b || (t == [43] && dY b)
def opP (t:List UInt8):aJ:=(if t=wIn then 1 else 4,t)
def es (n:Nat) (k:Int) (t:List UInt8) (l:List Top) (s:List (List aJ)):List aJ :=
 if k=11 then [(3,t)]
 else if k=12 then sg 91::(aE s++[sg 93])
 else if k=13 then sg 123::(b7 s++[sg 125])
 else if k=14 then (1,t)::sg 40::(aE s++[sg 41])
 else if k=15 then (if t=[] then s.getD 0 [] else (1,t)::sp::sg 61::sp::s.getD 0 [])
 else if k=16 then
  (if t=cj then (1,cj)::sp::brk (dY (l.getD 0 mV)) (s.getD 0 [])
   else brk (gV (l.getD 0 mV)) (s.getD 0 [])++sp::opP t::sp::brk (hU t (l.getD 1 mV)) (s.getD 1 []))
 else if k=7 then (1,t)::sg 58::sp::(1,(l.getD 0 mV).2)::(if s.length=2 then sp::sg 61::sp::s.getD 1 [] else [])
 else if k=8 then sg 123::nl::(aX (n+1) s++(fB n++[sg 125]))
 else if k=2 then (1,t)::sp::sg 61::sp::(s.getD 0 []++[sg 59])
 else if k=3 then s.getD 0 []++[sg 59]
 else if k=4 then (1,i6)::sp::(1,t)::sp::(1,wIn)::sp::(s.getD 0 []++sp::s.getD 1 [])
 else if k=5 then (1,wIf)::sp::(s.getD 0 []++sp::(s.getD 1 []++(if s.length=3 then sp::(1,fa)::sp::s.getD 2 [] else [])))
 else if k=6 then (1,fO)::sp::(1,t)::sg 40::(aE s.dropLast++sg 41::sp::s.getLastD [])
 else if k=10 then [(2,t)]
 else [(1,t)]
mutual
def oP (n:Nat):Tr→List aJ
 | .mk k t l=>es n k t (bD l) (oPs (if k=8 then n+1 else n) l)
def oPs (n:Nat):List Tr→List (List aJ)
 | []=>[]
 | x::r=>oP n x::oPs n r
end
theorem bP (n:Nat) (k:Int) (t:List UInt8) (l:List Tr):oP n (.mk k t l)=es n k t (bD l) (oPs (if k=8 then n+1 else n) l):=by rw [oP]
theorem dH (n:Nat):oPs n []=[]:=by rw [oPs]
theorem aY (n:Nat) (x:Tr) (r:List Tr):oPs n (x::r)=oP n x::oPs n r:=by rw [oPs]
theorem c8 (n:Nat):∀ l:List Tr,oPs n l=l.map (oP n)
 | []=>by rw [dH];rfl
 | x::r=>by rw [aY,c8 n r];rfl
def gW (b:Bool) (d:Nat):Nat:=if b=true then d+1 else d
def b9:List Nat→Nat
 | []=>0
 | a::r=>max a (b9 r)
def zcb (k:Int) (t:List UInt8) (l:List Top) (s:List Nat):Nat :=
 if k=12∨k=13∨k=14∨k=8 then b9 s+1
 else if k=16 then
  (if t=cj then gW (dY (l.getD 0 mV)) (s.getD 0 0)+1
   else max (gW (gV (l.getD 0 mV)) (s.getD 0 0)) (gW (hU t (l.getD 1 mV)) (s.getD 1 0)))
 else b9 s
mutual
def oD:Tr→Nat
 | .mk k t l=>zcb k t (bD l) (oDs l)
def oDs:List Tr→List Nat
 | []=>[]
 | x::r=>oD x::oDs r
end
theorem di (k:Int) (t:List UInt8) (l:List Tr):oD (.mk k t l)=zcb k t (bD l) (oDs l):=by rw [oD]
theorem co:oDs []=[]:=by rw [oDs]
theorem bj (x:Tr) (r:List Tr):oDs (x::r)=oD x::oDs r:=by rw [oDs]
theorem gX:∀ l:List Tr,oDs l=l.map oD
 | []=>by rw [co];rfl
 | x::r=>by rw [bj,gX r];rfl
def cr (l:List Tr):List aJ:=aX 0 (oPs 0 l)
def oY (l:List Tr):Nat:=b9 (oDs l)
theorem dG {c:UInt8} (h:c ∈ ci):jS (sg c):=.inr ⟨by show (4:Nat)≠0;decide,.sign h⟩
theorem dp:jS sp:=.inl ⟨rfl,by show [32]≠[];simp,rfl⟩
theorem vu:jS nl:=.inl ⟨rfl,by show [10]≠[];simp,rfl⟩
theorem dJ {t:List UInt8} (h:jy 1 t):jS (1,t):=.inr ⟨by show (1:Nat)≠0;decide,h⟩
theorem yz {n:Nat} (h:n≠0):jS (0,List.replicate n 9):=.inl ⟨rfl,by
 show List.replicate n 9≠[];cases n with
 | zero=>exact absurd rfl h
 | succ n=>simp [List.replicate_succ],by
 show (List.replicate n (9:UInt8)).all bp=true;rw [List.all_eq_true];intro x hx;rw [(List.mem_replicate.1 hx).2];rfl⟩
theorem uZ (n:Nat) {l:List aJ} (h:Gd l):Gd (fB n++l):=by
 unfold fB;split
 ·exact h
 ·rename_i hn;exact Gd.cons (yz hn) rfl h
theorem iC {t:List UInt8} (h:aM t=true):jy 1 t:=by
 unfold aM at h;simp only [bAe] at h;exact oR h.1
theorem g9 {c:UInt8} {s:List UInt8} (h:(dE c && (c::s).all bq)=true):jy 1 (c::s):=by
 simp only [bAe] at h;exact .word h.1 h.2
theorem zbg {t:List UInt8} (h:opB t=true):jS (opP t):=by
 unfold opB at h;simp only [Bool.or_eq_true,beq_iff_eq] at h;rcases h with ((rfl | rfl) | rfl) | rfl
 ·exact .inr ⟨by decide,.two (.inl rfl)⟩
 ·exact .inr ⟨by decide,.two (.inr rfl)⟩
 ·exact .inr ⟨by decide,g9 rfl⟩
 ·exact .inr ⟨by decide,.sign (by decide)⟩
theorem oB {t:List UInt8} (h:cY t=true):jy 1 t:=by
 unfold cY at h;simp only [Bool.or_eq_true,beq_iff_eq] at h;rcases h with ((((rfl | rfl) | rfl) | rfl) | rfl) | rfl <;> exact g9 rfl
theorem lM:∀ {l:List (List aJ)} {r:List aJ} {c:UInt8},(∀ a ∈ l,Gd a)→kH (sg c)=true→Gd (sg c::r)→Gd (aE l++sg c::r)
 | [],_,_,_,_,h=>h
 | [a],_,_,hl,hc,h=>zdM (hl a (List.mem_cons_self ..)) hc h
 | a::b::l,r,c,hl,hc,h=>by
   show Gd ((a++sg 44::sp::aE (b::l))++sg c::r);rw [List.append_assoc];refine zdM (hl a (List.mem_cons_self ..)) rfl (Gd.cons (dG (by decide)) rfl (Gd.cons dp rfl ?_));exact lM (fun x hx=>hl x (List.mem_cons_of_mem _ hx)) hc h
theorem vo:∀ {l:List (List aJ)} {r:List aJ} {c:UInt8},(∀ a ∈ l,Gd a)→kH (sg c)=true→Gd (sg c::r)→Gd (b7 l++sg c::r)
 | [],_,_,_,_,h=>h
 | [a],_,_,hl,hc,h=>zdM (hl a (List.mem_cons_self ..)) hc h
 | [a,b],r,c,hl,hc,h=>by
   show Gd ((a++sg 58::sp::b)++sg c::r);rw [List.append_assoc];refine zdM (hl a (List.mem_cons_self ..)) rfl (Gd.cons (dG (by decide)) rfl (Gd.cons dp rfl ?_));exact zdM (hl b (by simp)) hc h
 | a::b::e::l,r,c,hl,hc,h=>by
   show Gd ((a++sg 58::sp::(b++sg 44::sp::b7 (e::l)))++sg c::r);rw [List.append_assoc];refine zdM (hl a (List.mem_cons_self ..)) rfl (Gd.cons (dG (by decide)) rfl (Gd.cons dp rfl ?_));show Gd ((b++sg 44::sp::b7 (e::l))++sg c::r);rw [List.append_assoc];refine zdM (hl b (by simp)) rfl (Gd.cons (dG (by decide)) rfl (Gd.cons dp rfl ?_));exact vo (fun x hx=>hl x (List.mem_cons_of_mem _ (List.mem_cons_of_mem _ hx))) hc h
theorem pe (n:Nat):∀ {l:List (List aJ)} {r:List aJ},(∀ a ∈ l,Gd a)→Gd r→Gd (aX n l++r)
 | [],_,_,h=>h
 | a::l,r,hl,h=>by
   show Gd ((fB n++(a++nl::aX n l))++r);rw [List.append_assoc];refine uZ n ?_;rw [List.append_assoc];refine zdM (hl a (List.mem_cons_self ..)) rfl (Gd.cons vu rfl ?_);exact pe n (fun x hx=>hl x (List.mem_cons_of_mem _ hx)) h
theorem ub (b:Bool) {l:List aJ} (h:Gd l):Gd (brk b l):=by
 unfold brk;split
 ·exact Gd.cons (dG (by decide)) rfl (zdM h rfl (Gd.one (dG (by decide))))
 ·exact h
theorem qx {s:List (List aJ)} (h:∀ a ∈ s,Gd a) (k:Nat):Gd (s.getD k []):=by
 rw [List.getD_eq_getElem?_getD];cases e:s[k]? with
 | none=>exact Gd.nil
 | some a=>exact h a (List.mem_of_getElem? e)
theorem y9 {s:List (List aJ)} (h:∀ a ∈ s,Gd a):Gd (s.getLastD []):=by
 cases s with
 | nil=>exact Gd.nil
 | cons a r=>rw [List.getLastD_cons];exact h _ List.getLastD_mem_cons
theorem zbW (n:Nat) {k:Int} {t:List UInt8} {l:List Top} {s:List (List aJ)} (h:fH k t l=true) (hs:∀ a ∈ s,Gd a):Gd (es n k t l s):=by
 have g0:=qx hs 0;have g1:=qx hs 1;have g2:=qx hs 2;unfold fH at h;unfold es;by_cases e9:k=9
 ·rw [if_pos e9] at h;subst e9;simp only [bAe] at h;exact Gd.one (dJ (iC h.2))
 rw [if_neg e9] at h;by_cases e10:k=10
 ·rw [if_pos e10] at h;subst e10;simp only [bAe] at h;exact Gd.one (.inr ⟨by show (2:Nat)≠0;decide,oR h.2⟩)
 rw [if_neg e10] at h;by_cases e11:k=11
 ·rw [if_pos e11] at h;subst e11;simp only [bAe,Bool.not_eq_true'] at h;exact Gd.one (.inr ⟨by show (3:Nat)≠0;decide,.text h.2⟩)
 rw [if_neg e11] at h;by_cases e12:k=12
 ·rw [if_pos e12] at h;subst e12;exact Gd.cons (dG (by decide)) rfl (lM hs rfl (Gd.one (dG (by decide))))
 rw [if_neg e12] at h;by_cases e13:k=13
 ·rw [if_pos e13] at h;subst e13;exact Gd.cons (dG (by decide)) rfl (vo hs rfl (Gd.one (dG (by decide))))
 rw [if_neg e13] at h;by_cases e14:k=14
 ·rw [if_pos e14] at h;subst e14;simp only [bAe] at h;exact zdJ (dJ (iC h.1)) rfl (Gd.cons (dG (by decide)) rfl (lM hs rfl (Gd.one (dG (by decide)))))
 rw [if_neg e14] at h;by_cases e16:k=16
 ·rw [if_pos e16] at h;subst e16;show Gd (if t=cj then _ else _);split
  ·exact zdJ (dJ (g9 rfl)) rfl (Gd.cons dp rfl (ub _ g0))
  ·rename_i ht;rw [if_neg ht] at h;simp only [bAe] at h;exact zdM (ub _ g0) rfl (Gd.cons dp rfl (zdJ (zbg h.1) rfl (Gd.cons dp rfl (ub _ g1))))
 rw [if_neg e16] at h;by_cases e15:k=15
 ·rw [if_pos e15] at h;subst e15;show Gd (if t=[] then _ else _);split
  ·exact g0
  ·rename_i ht;simp only [bAe,Bool.or_eq_true,List.isEmpty_iff] at h;refine zdJ (dJ (iC (h.1.resolve_left ht))) rfl (Gd.cons dp rfl (zdJ (dG (by decide)) rfl (Gd.cons dp rfl g0)))
 rw [if_neg e15] at h;by_cases e7:k=7
 ·rw [if_pos e7] at h;subst e7;simp only [bAe] at h;obtain ⟨h1,h2⟩:=h;have ht:cY (l.getD 0 mV).2=true:=by
   unfold oU at h2;split at h2
   ·simp only [bAe] at h2;exact h2.2
   ·simp only [bAe] at h2;exact h2.1.2
   ·cases h2
  refine zdJ (dJ (iC h1)) rfl (Gd.cons (dG (by decide)) rfl (Gd.cons dp rfl ?_));split
  ·exact zdJ (dJ (oB ht)) rfl (Gd.cons dp rfl (zdJ (dG (by decide)) rfl (Gd.cons dp rfl g1)))
  ·exact Gd.one (dJ (oB ht))
 rw [if_neg e7] at h;by_cases e8:k=8
 ·rw [if_pos e8] at h;subst e8;exact Gd.cons (dG (by decide)) rfl (Gd.cons vu rfl (pe _ hs (uZ n (Gd.one (dG (by decide))))))
 rw [if_neg e8] at h;by_cases e2:k=2
 ·rw [if_pos e2] at h;subst e2;simp only [bAe] at h;exact zdJ (dJ (iC h.1)) rfl (Gd.cons dp rfl (zdJ (dG (by decide)) rfl (Gd.cons dp rfl (zdM g0 rfl (Gd.one (dG (by decide)))))))
 rw [if_neg e2] at h;by_cases e3:k=3
 ·rw [if_pos e3] at h;subst e3;exact zdM g0 rfl (Gd.one (dG (by decide)))
 rw [if_neg e3] at h;by_cases e4:k=4
 ·rw [if_pos e4] at h;subst e4;simp only [bAe] at h;exact zdJ (dJ (g9 rfl)) rfl (Gd.cons dp rfl (zdJ (dJ (iC h.1)) rfl (Gd.cons dp rfl (zdJ (dJ (g9 rfl)) rfl (Gd.cons dp rfl (zdM g0 rfl (Gd.cons dp rfl g1)))))))
 rw [if_neg e4] at h;by_cases e5:k=5
 ·rw [if_pos e5] at h;subst e5;refine zdJ (dJ (g9 rfl)) rfl (Gd.cons dp rfl (zdM g0 rfl (Gd.cons dp rfl ?_)));split
  ·exact zdM g1 rfl (Gd.cons dp rfl (zdJ (dJ (g9 rfl)) rfl (Gd.cons dp rfl g2)))
  ·rw [List.append_nil];exact g1
 rw [if_neg e5] at h;by_cases e6:k=6
 ·rw [if_pos e6] at h;subst e6;simp only [bAe] at h;exact zdJ (dJ (g9 rfl)) rfl (Gd.cons dp rfl (zdJ (dJ (iC h.1)) rfl (Gd.cons (dG (by decide)) rfl (lM (fun a ha=>hs a (List.dropLast_subset _ ha)) rfl (Gd.cons (dG (by decide)) rfl (Gd.cons dp rfl (y9 hs)))))))
 rw [if_neg e6] at h;cases h
mutual
theorem zcx:∀ (x:Tr) (n:Nat),okT x=true→Gd (oP n x)
 | .mk k t l,n,h=>by
   rw [d7] at h;simp only [bAe] at h;rw [bP];exact zbW n h.1 (ue l _ h.2)
theorem ue:∀ (l:List Tr) (n:Nat),ee l=true→∀ a ∈ oPs n l,Gd a
 | [],n,_,a,ha=>by rw [dH] at ha;cases ha
 | x::r,n,h,a,ha=>by
   rw [bM] at h;simp only [bAe] at h;rw [aY] at ha;rcases List.mem_cons.1 ha with rfl | ha
   ·exact zcx x n h.1
   ·exact ue r n h.2 a ha
end
theorem zV {l:List Tr} (h:ee l=true):Gd (cr l):=by
 have:=pe 0 (ue l 0 h) Gd.nil;rwa [List.append_nil] at this
theorem nx {P:Program} {id:Nat} {Q:Exit→Act→World→Prop} {a:Act} {w:World} {l:List Oper} (hm:P.follows .mixedOrders=true) (hB:Region.lexB .any l.toArray=true)
  (h:wpQuiet P l.toArray (fun w'=>Below w.heap.size w w') (fun a'=>∀ w',Below w.heap.size w w'→Q .normal a' w') l a):(Code.region id l.toArray true).wp P Q a w :=
 wp_region_quiet (C:=fun w'=>Below w.heap.size w w') hm hB ⟨rfl,rfl,rfl,nRe _,fun _ _=>rfl⟩ (by simpa using h)
theorem zdB {P:Program} {f:FuncId} {args:Array Value} {w W:World} {v:Value} (hW:Below w.heap.size w W)
  (h:Calls P f args W fun e w'=>e=.returned v∧Below W.heap.size W w'):Calls P f args W fun e w''=>e=.returned v∧Below w.heap.size w w'' :=
 h.mono fun _ _ ⟨he,hb⟩=>⟨he,zdy hW hb⟩
theorem Below.keeps {w W:World} (hW:Below w.heap.size w W) {a:Addr} {v:Value} (h:w.cell? a=some v):W.cell? a=some v:=(hW.cell (World.block_lt_of_cell? w _ h)).trans h
theorem nb:∀ (x:Bool) (w:World),(Op.unary .not (.bool x)).run Tryz.prog w=.ok (.bool (!x)) w:=fun _ _=>rfl
theorem mf:∀ (fn:Fn) (first cap:Array Value) (w:World),(Instr.makeFunc fn first cap).run Tryz.prog w=.ok (.func fn first cap) w:=fun _ _ _ _=>rfl
theorem lx {w:World} {b:Nat} {o:Obj} (h:Hid (w.heap[b]? = some o)):b<w.heap.size:=(aGe.1 h.out).1
theorem an0 (w:World) (o:Obj):∃ W,Hid (W=w.alloc o)∧Below w.heap.size w W∧W.heap[w.heap.size]? = some o:=⟨_,hid rfl,ag w _,hAn w _⟩
theorem an1 (w:World) (o:Obj):∃ W,Hid (W=w.alloc o)∧Below w.heap.size w W∧W.heap[w.heap.size]? = some o∧w.heap.size<W.heap.size:=⟨_,hid rfl,ag w _,hAn w _,by rw [wSz];omega⟩
theorem an2 (w:World) (o o':Obj):∃ W,Hid (W=(w.alloc o).alloc o')∧Below w.heap.size w W∧W.heap[w.heap.size]? = some o∧W.heap[w.heap.size+1]? = some o' :=
 ⟨_,hid rfl,(ag w o).alloc (by simp) _,(Below.heap_alloc (w.alloc o) o' w.heap.size (by rw [wSz];omega)).trans (hAn w o),by have h:=hAn (w.alloc o) o';rw [wSz] at h;exact h⟩
theorem dr1 (w:World):∃ W,Hid (W=w.drew)∧Below w.heap.size w W:=⟨_,hid rfl,dS.below ⟨1,rfl⟩⟩
theorem kp5 {w W:World} (hW:Below w.heap.size w W) {a b c d e:Addr} {s t u v x:Value} (h:w.cell? a=some s) (i:w.cell? b=some t) (j:w.cell? c=some u) (k:w.cell? d=some v) (l:w.cell? e=some x):W.cell? a=some s∧W.cell? b=some t∧W.cell? c=some u∧W.cell? d=some v∧W.cell? e=some x:=⟨Below.keeps hW h,Below.keeps hW i,Below.keeps hW j,Below.keeps hW k,Below.keeps hW l⟩
theorem rk0 {w w1:World} {o:Obj} (h:Below (w.alloc o).heap.size (w.alloc o) w1):Hid (w1.heap[w.heap.size]? = some o):=hid ((h.block _ (by rw [wSz];omega)).trans (hAn w o))
theorem rk {w w1:World} {b:Nat} {o:Obj} (k:Hid (w.heap[b]? = some o)) (h:Below w.heap.size w w1):Hid (w1.heap[b]? = some o):=hid ((h.block _ (aGe.1 k.out).1).trans k.out)
theorem br {ty:TypeId} {d:TypeDesc} (hu:Tryz.prog.underlying ty=some d) {fn:Func} {p:Tmp} {R:Ending→World→Prop} {a:Act} {w:World} (g:Nat) {t:TypeId} {cs:Array Value} {fr:Nat × Nat} (hg:w.heap[g]? = some (.cells cs t fr)) (hR:R (.returned (.agg cs)) w) (h:fn.results=#[.cell p ty]:=by rfl) (hp:a.tmps.getD p undef=.pointer (some ⟨g,0,none⟩):=by rfl)
  (hd:(match d with | .struct _ | .array _ _=>true | _=>false)=true:=by rfl) (hi:(Tryz.prog.info? ty).map (·.size)=some cs.size:=by kernel_rfl) (hf:a.defers=[]:=by rfl):bodyPost Tryz.prog fn R .ret a w:=by cases d <;> exact bodyPost_ret (results_cell_row h _ _ g _ _ _ _ hp hg hu hd hi) hf hR
theorem bc {w w1 w2:World} (h:Hid (Below w.heap.size w w1)) (k:Below w1.heap.size w1 w2):Hid (Below w.heap.size w w2):=hid (zdy h.out k)
structure WQ (P:Program) (ops:Array Oper) (C:World→Prop) (Q:Act→Prop) (l:List Oper) (a:Act):Prop where
 out:wpQuiet P ops C Q l a
theorem WQ.step {P:Program} {ops:Array Oper} {C:World→Prop} {Q:Act→Prop} {a:Act} {o:Oper} {rest:List Oper}
  (h:∀ K:Act→Prop,(∀ a,WQ P ops C Q rest a→K a)→if Region.wanted o (yielded ops a.tmps) then o.quiet P a C K else K (a.put o.dst undef)):WQ P ops C Q (o::rest) a :=
 ⟨wpQuiet_step (fun K hK=>h K (fun a ha=>hK a ha.out))⟩
theorem WQ.nil {P:Program} {ops:Array Oper} {C:World→Prop} {Q:Act→Prop} {a:Act} (h:Q a):WQ P ops C Q [] a:=⟨wpQuiet_nil h⟩
theorem jt {P:Program} {id:Nat} {Q:Exit→Act→World→Prop} {a:Act} {w:World} {l:List Oper} (hm:P.follows .mixedOrders=true) (hB:Region.lexB .any l.toArray=true)
  (h:WQ P l.toArray (fun w'=>Below w.heap.size w w') (fun a'=>∀ w',Below w.heap.size w w'→Q .normal a' w') l a):(Code.region id l.toArray true).wp P Q a w:=nx hm hB h.out
section
structure WH (P:Program) (ops:Array Oper) (Q:Exit→Act→World→Prop) (S:World→Prop) (fuel:Nat) (listed:Array Bool) (a:Act) (w:World):Prop where
 out:wpAnyH P .any ops Q S fuel listed a w
variable {P:Program} {ops:Array Oper} {Q:Exit→Act→World→Prop} {S:World→Prop} {fuel:Nat} {listed:Array Bool} {a:Act} {w:World}
theorem aH {id:Nat} {l:List Oper} (hm:P.follows .mixedOrders=true) (h:WH P l.toArray Q S l.length (Array.replicate l.length false) a w.drew):(Code.region id l.toArray true).wp P Q a w :=
 wp_region_held (S:=S) hm (by simpa using h.out)
theorem WH.take (i:Nat) (dst:Option Tmp) {oi:Oper} (hi:ops[i]? = some oi) (hd:oi.dst=dst) (hs:Region.noSelect ops=true) (hf:Region.free .any ops listed i=true) (hr:(Region.ready .any ops listed).contains i=true)
  (hQ':∀ v c a w,Q (.panic c) (a.put oi.dst v) w→Q (.panic c) a w) (hS:S w)
  (h:∃ v,(Region.wanted oi (yielded ops a.tmps)=true∧∀ W,S W→(execOp a.eval oi).run P W=.ok (.value v) W)∧WH P ops Q S fuel (listed.setIfInBounds i true) (a.put dst v) w):WH P ops Q S (fuel+1) listed a w:=by
 subst hd;obtain ⟨v,hy,h⟩:=h;exact ⟨wpAnyH_take hi hs hf hr (hQ' v) (.inl hy) hS h.out⟩
theorem zdS (i:Nat) (dst:Option Tmp) {oi:Oper} (hi:ops[i]? = some oi) (hd:oi.dst=dst) (hs:Region.noSelect ops=true) (hf:Region.free .any ops listed i=true) (hr:(Region.ready .any ops listed).contains i=true)
  (hQ:∀ c a w,Q (.panic c) (a.put oi.dst undef) w→Q (.panic c) a w) (hS:S w) (hw:Region.wanted oi (yielded ops a.tmps)=false)
  (h:WH P ops Q S fuel (listed.setIfInBounds i true) (a.put dst undef) w):WH P ops Q S (fuel+1) listed a w:=by
 subst hd;exact ⟨wpAnyH_take hi hs hf hr hQ (.inr ⟨hw,rfl⟩) hS h.out⟩
theorem WH.one (i:Nat) {oi:Oper} (hr:Region.ready .any ops listed=[i]) (hi:ops[i]? = some oi) (hw:Region.wanted oi (yielded ops a.tmps)=true)
  (h:∀ K':Act→World→Prop,Shut (∀ a w,S w→WH P ops Q S fuel (listed.setIfInBounds i true) a w→K' a w)→Oper.wp P oi a w K' Q):WH P ops Q S (fuel+1) listed a w :=
 ⟨wpAnyH_all hr (by simp) (fun j hj=>by
  obtain rfl:j=i:=by simpa using hj
  exact wpOp_step hi (fun K' hK=>by rw [if_pos hw];exact h K' (fun a w hS hW=>hK a w ⟨hS,hW.out⟩)))⟩
theorem WH.two (i j:Nat) {oi oj:Oper} (hr:Region.ready .any ops listed=[i,j]) (hi:ops[i]? = some oi) (hw:Region.wanted oi (yielded ops a.tmps)=true) (hj:ops[j]? = some oj) (hv:Region.wanted oj (yielded ops a.tmps)=true)
  (h:∀ K':Act→World→Prop,Shut (∀ a w,S w→WH P ops Q S fuel (listed.setIfInBounds i true) a w→K' a w)→Oper.wp P oi a w K' Q)
  (h':∀ K':Act→World→Prop,Shut (∀ a w,S w→WH P ops Q S fuel (listed.setIfInBounds j true) a w→K' a w)→Oper.wp P oj a w K' Q):WH P ops Q S (fuel+1) listed a w :=
 ⟨wpAnyH_all hr (by simp) (fun k hk=>by
  rcases List.mem_cons.1 hk with rfl | hk
  ·exact wpOp_step hi (fun K' hK=>by rw [if_pos hw];exact h K' (fun a w hS hW=>hK a w ⟨hS,hW.out⟩))
  ·obtain rfl:k=j:=by simpa using hk
   exact wpOp_step hj (fun K' hK=>by rw [if_pos hv];exact h' K' (fun a w hS hW=>hK a w ⟨hS,hW.out⟩)))⟩
theorem WH.three (i j k:Nat) {oi oj ok:Oper} (hr:Region.ready .any ops listed=[i,j,k]) (hi:ops[i]? = some oi) (hj:ops[j]? = some oj) (hk:ops[k]? = some ok)
  (hwi:Region.wanted oi (yielded ops a.tmps)=true) (hwj:Region.wanted oj (yielded ops a.tmps)=true) (hwk:Region.wanted ok (yielded ops a.tmps)=true)
  (h:∀ K':Act→World→Prop,Shut (∀ a w,S w→WH P ops Q S fuel (listed.setIfInBounds i true) a w→K' a w)→Oper.wp P oi a w K' Q)
  (h':∀ K':Act→World→Prop,Shut (∀ a w,S w→WH P ops Q S fuel (listed.setIfInBounds j true) a w→K' a w)→Oper.wp P oj a w K' Q)
  (h'':∀ K':Act→World→Prop,Shut (∀ a w,S w→WH P ops Q S fuel (listed.setIfInBounds k true) a w→K' a w)→Oper.wp P ok a w K' Q):WH P ops Q S (fuel+1) listed a w :=
 ⟨wpAnyH_all hr (by simp) (fun m hm=>by
  simp only [List.mem_cons,List.not_mem_nil,or_false] at hm;rcases hm with rfl | rfl | rfl
  ·exact wpOp_step hi (fun K' hK=>by rw [if_pos hwi];exact h K' (fun a w hS hW=>hK a w ⟨hS,hW.out⟩))
  ·exact wpOp_step hj (fun K' hK=>by rw [if_pos hwj];exact h' K' (fun a w hS hW=>hK a w ⟨hS,hW.out⟩))
  ·exact wpOp_step hk (fun K' hK=>by rw [if_pos hwk];exact h'' K' (fun a w hS hW=>hK a w ⟨hS,hW.out⟩)))⟩
theorem zdO (i:Nat) (dst:Option Tmp) {oi:Oper} (hi:ops[i]? = some oi) (hd:oi.dst=dst) (hs:Region.noSelect ops=true) (hf:Region.free .any ops listed i=true) (hr:(Region.ready .any ops listed).contains i=true)
  (hQ':∀ v c a w,Q (.panic c) (a.put oi.dst v) w→Q (.panic c) a w) (hS:S w) (hw:Region.wanted oi (yielded ops a.tmps)=true)
  (ty:TypeId) (x:Operand) (ho:oi.op=.load ty x) (b o:Nat) (hx:a.eval x=.pointer (some ⟨b,o,none⟩)) (cs:List Value) (d:TypeDesc) (hc:∀ w,S w→w.rangeAt b o cs)
  (hu:P.underlying ty=some d) (hrow:d.isRow=true) (hsz:(P.info? ty).map (·.size)=some cs.length)
  (h:WH P ops Q S fuel (listed.setIfInBounds i true) (a.put dst (.agg cs.toArray)) w):WH P ops Q S (fuel+1) listed a w:=by
 subst hd;exact ⟨wpAnyH_take hi hs hf hr (hQ' _) (yieldsIf_load_mid hw ty x ho b o hx cs d hc hu hrow hsz) hS h.out⟩
theorem zdA (i:Nat) (dst:Option Tmp) (v:Value) (hS:S w) {oi:Oper} (h:WH P ops Q S fuel (listed.setIfInBounds i true) (a.put dst v) w)
  (hi:ops[i]? = some oi:=by rfl) (hd:oi.dst=dst:=by rfl) (hs:Region.noSelect ops=true:=by kernel_rfl) (hf:Region.free .any ops listed i=true:=by kernel_rfl) (hr:(Region.ready .any ops listed).contains i=true:=by kernel_rfl)
  (hQ':∀ v c a w,Q (.panic c) (a.put oi.dst v) w→Q (.panic c) a w:=by exact fun _ _ _ _ h=>h) (hw:Region.wanted oi (yielded ops a.tmps)=true:=by kernel_rfl) (hv:∀ W,S W→(execOp a.eval oi).run P W=.ok (.value v) W:=by exact fun _ _=>rfl):WH P ops Q S (fuel+1) listed a w :=
 WH.take i dst hi hd hs hf hr hQ' hS ⟨v,⟨hw,hv⟩,h⟩
theorem zdG (i:Nat) (dst:Option Tmp) (hS:S w) {oi:Oper} (h:WH P ops Q S fuel (listed.setIfInBounds i true) (a.put dst undef) w)
  (hi:ops[i]? = some oi:=by rfl) (hd:oi.dst=dst:=by rfl) (hs:Region.noSelect ops=true:=by kernel_rfl) (hf:Region.free .any ops listed i=true:=by kernel_rfl) (hr:(Region.ready .any ops listed).contains i=true:=by kernel_rfl)
  (hQ:∀ c a w,Q (.panic c) (a.put oi.dst undef) w→Q (.panic c) a w:=by exact fun _ _ _ h=>h) (hw:Region.wanted oi (yielded ops a.tmps)=false:=by kernel_rfl):WH P ops Q S (fuel+1) listed a w :=
 zdS i dst hi hd hs hf hr hQ hS hw h
theorem zdN (i:Nat) (dst:Option Tmp) (hS:S w) (ty:TypeId) (b o:Nat) (cs:List Value) (hc:∀ w,S w→w.rangeAt b o cs) {d:TypeDesc} (hu:P.underlying ty=some d) {oi:Oper} {x:Operand} (h:WH P ops Q S fuel (listed.setIfInBounds i true) (a.put dst (.agg cs.toArray)) w)
  (hi:ops[i]? = some oi:=by rfl) (hd:oi.dst=dst:=by rfl) (hs:Region.noSelect ops=true:=by kernel_rfl) (hf:Region.free .any ops listed i=true:=by kernel_rfl) (hr:(Region.ready .any ops listed).contains i=true:=by kernel_rfl)
  (hQ':∀ v c a w,Q (.panic c) (a.put oi.dst v) w→Q (.panic c) a w:=by exact fun _ _ _ _ h=>h) (hw:Region.wanted oi (yielded ops a.tmps)=true:=by kernel_rfl)
  (ho:oi.op=.load ty x:=by rfl) (hx:a.eval x=.pointer (some ⟨b,o,none⟩):=by rfl) (hrow:d.isRow=true:=by rfl) (hsz:(P.info? ty).map (·.size)=some cs.length:=by kernel_rfl):WH P ops Q S (fuel+1) listed a w :=
 zdO i dst hi hd hs hf hr hQ' hS hw ty x ho b o hx cs d hc hu hrow hsz h
theorem zdT (hr:Region.ready .any ops listed=[]) (h:Q .normal a w):WH P ops Q S fuel listed a w:=⟨wpAnyH_done hr h fuel⟩
theorem zdC (i:Nat) {oi:Oper}
  (h:∀ K':Act→World→Prop,Shut (∀ a w,S w→WH P ops Q S fuel (listed.setIfInBounds i true) a w→K' a w)→Oper.wp P oi a w K' Q) (hi:ops[i]? = some oi:=by rfl) (hr:Region.ready .any ops listed=[i]:=by kernel_rfl) (hw:Region.wanted oi (yielded ops a.tmps)=true:=by kernel_rfl):WH P ops Q S (fuel+1) listed a w :=
 WH.one i hr hi hw h
theorem WH.tw (i j:Nat) {oi oj:Oper}
  (h:∀ K':Act→World→Prop,Shut (∀ a w,S w→WH P ops Q S fuel (listed.setIfInBounds i true) a w→K' a w)→Oper.wp P oi a w K' Q)
  (h':∀ K':Act→World→Prop,Shut (∀ a w,S w→WH P ops Q S fuel (listed.setIfInBounds j true) a w→K' a w)→Oper.wp P oj a w K' Q)
  (hi:ops[i]? = some oi:=by rfl) (hj:ops[j]? = some oj:=by rfl) (hr:Region.ready .any ops listed=[i,j]:=by kernel_rfl) (hw:Region.wanted oi (yielded ops a.tmps)=true:=by kernel_rfl) (hv:Region.wanted oj (yielded ops a.tmps)=true:=by kernel_rfl):WH P ops Q S (fuel+1) listed a w :=
 WH.two i j hr hi hw hj hv h h'
theorem zdH (h:Q .normal a w) (hr:Region.ready .any ops listed=[]:=by kernel_rfl):WH P ops Q S fuel listed a w:=zdT hr h
theorem zdD (i:Nat) (dst:Option Tmp) (v:Value) (hS:S w) {oi:Oper} (h:WH P ops Q S fuel (listed.setIfInBounds i true) (a.put dst v) w)
  (hi:ops[i]? = some oi:=by rfl) (hd:oi.dst=dst:=by rfl) (hs:Region.noSelect ops=true:=by kernel_rfl) (hf:Region.free .any ops listed i=true:=by kernel_rfl) (hr:(Region.ready .any ops listed).contains i=true:=by kernel_rfl)
  (hQ':∀ v c a w,Q (.panic c) (a.put oi.dst v) w→Q (.panic c) a w:=by exact fun _ _ _ _ h=>h) (hw:Region.wanted oi (yielded ops a.tmps)=true:=by kernel_rfl) (hv:∀ W,S W→(execOp a.eval oi).run P W=.ok (.value v) W):WH P ops Q S (fuel+1) listed a w :=
 WH.take i dst hi hd hs hf hr hQ' hS ⟨v,⟨hw,hv⟩,h⟩
end
inductive NM where
 | mk (k:Int) (t:List UInt8) (l c:Int) (kids:List NM) (a:Option Addr) (cap:Nat)
def NM.kids:NM→List NM | .mk _ _ _ _ ks _ _=>ks
def NM.k:NM→Int | .mk k _ _ _ _ _ _=>k
def NM.t:NM→List UInt8 | .mk _ t _ _ _ _ _=>t
def NM.l:NM→Int | .mk _ _ l _ _ _ _=>l
def NM.c:NM→Int | .mk _ _ _ c _ _ _=>c
def NM.sl:NM→Value | .mk _ _ _ _ ks a cap=>.slice a ks.length cap
def NM.cells:NM→List Value | .mk k t l c ks a cap=>[.int .i64 k,.string (bs t),.int .i64 l,.int .i64 c,.slice a ks.length cap]
abbrev aB (k:Int) (t:List UInt8) (l c:Int) (s:Value):Value:=.agg #[.int .i64 k,.string (bs t),.int .i64 l,.int .i64 c,s]
def NM.val (x:NM):Value:=aB x.k x.t x.l x.c x.sl
def aW (l:List NM):List Value:=l.flatMap NM.cells
theorem gE (x:NM) (l:List NM):aW (x::l)=x.cells++aW l:=rfl
theorem ke (a b:List NM):aW (a++b)=aW a++aW b:=by simp [aW]
theorem NM.cells_len (x:NM):x.cells.length=5:=by cases x;rfl
theorem be (l:List NM):(aW l).length=l.length * 5:=by
 induction l with
 | nil=>rfl
 | cons x l ih=>rw [gE,lAp,NM.cells_len,ih,lCo];omega
theorem NM.cells_one (x:NM):∀ u ∈ x.cells,u.oneCell'=true:=by
 cases x with
 | mk k t l c ks a cap =>
   intro u hu;simp only [NM.cells,List.mem_cons,List.not_mem_nil,or_false] at hu;rcases hu with rfl | rfl | rfl | rfl | rfl <;> rfl
theorem dd (l:List NM):∀ u ∈ aW l,u.oneCell'=true:=by
 intro u hu;simp only [aW,List.mem_flatMap] at hu;obtain ⟨x,_,hx⟩:=hu;exact x.cells_one u hx
def fh (P:Nat→Prop) (w:World) (size:Nat) (v:Value) (n:Nat) (xs:List Value):Prop :=
 a9 w size v n xs∧∀ b off n' c,v=.slice (some ⟨b,off,none⟩) n' c→xs≠[]→P b
mutual
def am (P:Nat→Prop) (w:World):NM→Prop
 | .mk _ _ _ _ ks a cap=>fh P w 5 (.slice a ks.length cap) ks.length (aW ks)∧aP P w ks
def aP (P:Nat→Prop) (w:World):List NM→Prop
 | []=>True
 | x::r=>am P w x∧aP P w r
end
theorem ia {P:Nat→Prop} {w:World} {k l c:Int} {t:List UInt8} {ks:List NM} {a:Option Addr} {cap:Nat} (h:am P w (.mk k t l c ks a cap)):fh P w 5 (.slice a ks.length cap) ks.length (aW ks)∧aP P w ks:=by unfold am at h;exact h
theorem lu {P:Nat→Prop} {w:World} {k l c:Int} {t:List UInt8} {ks:List NM} {a:Option Addr} {cap:Nat} (h:fh P w 5 (.slice a ks.length cap) ks.length (aW ks)) (h':aP P w ks):am P w (.mk k t l c ks a cap):=by unfold am;exact ⟨h,h'⟩
theorem fF {P:Nat→Prop} {w:World}:aP P w []:=by unfold aP;trivial
theorem kQ {P:Nat→Prop} {w:World}:∀ {a b:List NM},aP P w a→aP P w b→aP P w (a++b)
 | [],_,_,h=>h
 | x::r,b,h,h'=>by unfold aP at h;show aP P w (x::(r++b));unfold aP;exact ⟨h.1,kQ h.2 h'⟩
theorem cm {P:Nat→Prop} {w:World} {x:NM} (h:am P w x):aP P w [x]:=by unfold aP;exact ⟨h,by unfold aP;trivial⟩
theorem gl {P:Nat→Prop} {w:World} {x y:NM} (h:am P w x) (h':am P w y):aP P w [x,y]:=by unfold aP;exact ⟨h,cm h'⟩
theorem fG {P:Nat→Prop} {w:World}:∀ {l:List NM},aP P w l→∀ k (h:k<l.length),am P w l[k]
 | [],_,k,h=>by simp at h
 | v::r,hl,k,h=>by
   unfold aP at hl;cases k with
   | zero=>exact hl.1
   | succ k=>exact fG hl.2 k (by simpa using h)
def d9 (P:Nat→Prop) (w w':World):Prop:=w.heap.size≤w'.heap.size∧∀ k,k<w.heap.size→P k→w'.heap[k]? = w.heap[k]?
theorem d9.of_below {P:Nat→Prop} {w w':World} (h:Below w.heap.size w w'):d9 P w w':=⟨h.size,fun k hk _=>h.block k hk⟩
theorem d9.trans {P:Nat→Prop} {w w1 w2:World} (h:d9 P w w1) (k:d9 P w1 w2):d9 P w w2 :=
 ⟨nT h.1 k.1,fun j hj hl=>(k.2 j (nL hj h.1) hl).trans (h.2 j hj hl)⟩
theorem d9.refl (P:Nat→Prop) (w:World):d9 P w w:=⟨nRe _,fun _ _ _=>rfl⟩
theorem fh.keep {P:Nat→Prop} {w w':World} {size:Nat} {v:Value} {n:Nat} {xs:List Value} (h:fh P w size v n xs) (hb:d9 P w w'):fh P w' size v n xs:=by
 obtain ⟨⟨hl,a,c,rfl,hc,hm,hn,hx⟩,hlo⟩:=h;refine ⟨⟨hl,a,c,rfl,hc,hm,hn,fun hne=>?_⟩,hlo⟩;obtain ⟨b,off,rfl,aL,hcell⟩:=hx hne;refine ⟨b,off,rfl,nL aL hb.1,fun j u hu=>?_⟩;rw [← hcell j u hu];exact World.cell?_of_block (w:=w) (hb.2 b aL (hlo b off _ _ rfl hne))
mutual
theorem am.keep {P:Nat→Prop} {w w':World} (hb:d9 P w w'):∀ {x:NM},am P w x→am P w' x
 | .mk _ _ _ _ ks a cap,h=>by unfold am at h ⊢;exact ⟨h.1.keep hb,aP.keep hb h.2⟩
theorem aP.keep {P:Nat→Prop} {w w':World} (hb:d9 P w w'):∀ {l:List NM},aP P w l→aP P w' l
 | [],_=>by unfold aP;trivial
 | x::r,h=>by unfold aP at h ⊢;exact ⟨am.keep hb h.1,aP.keep hb h.2⟩
end
theorem fh.less {P P':Nat→Prop} {w:World} (hl:∀ b,b<w.heap.size→P b→P' b) {size:Nat} {v:Value} {n:Nat} {xs:List Value} (h:fh P w size v n xs):fh P' w size v n xs :=
 ⟨h.1,fun b o n' c e hne=>by
  obtain ⟨_,a,c',e',_,_,_,hx⟩:=h.1;obtain ⟨b',o',rfl,aL,_⟩:=hx hne;have:b'=b:=by rw [e] at e';simp at e';exact e'.1.1.symm
  subst this;exact hl _ aL (h.2 _ _ _ _ e hne)⟩
mutual
theorem am.less {P P':Nat→Prop} {w:World} (hl:∀ b,b<w.heap.size→P b→P' b):∀ {x:NM},am P w x→am P' w x
 | .mk _ _ _ _ ks a cap,h=>by unfold am at h ⊢;exact ⟨h.1.less hl,aP.less hl h.2⟩
theorem aP.less {P P':Nat→Prop} {w:World} (hl:∀ b,b<w.heap.size→P b→P' b):∀ {l:List NM},aP P w l→aP P' w l
 | [],_=>by unfold aP;trivial
 | x::r,h=>by unfold aP at h ⊢;exact ⟨am.less hl h.1,aP.less hl h.2⟩
end
mutual
def NM.is:NM→Nd→Prop
 | .mk k t l c ks _ _,.mk k' t' p ks'=>k=k'∧t=t'∧l=(p.1:Int)∧c=(p.2:Int)∧zdI ks ks'
def zdI:List NM→List Nd→Prop
 | [],[]=>True
 | x::r,y::s=>NM.is x y∧zdI r s
 | [],_::_=>False
 | _::_,[]=>False
end
theorem eN:∀ {a:List NM} {a':List Nd} {b:List NM} {b':List Nd},zdI a a'→zdI b b'→zdI (a++b) (a'++b')
 | [],[],_,_,_,h=>h
 | x::r,y::s,b,b',h,h'=>by unfold zdI at h;show zdI (x::(r++b)) (y::(s++b'));unfold zdI;exact ⟨h.1,eN h.2 h'⟩
 | [],_::_,_,_,h,_=>by unfold zdI at h;exact h.elim
 | _::_,[],_,_,h,_=>by unfold zdI at h;exact h.elim
theorem dF {x:NM} {y:Nd} (h:x.is y):zdI [x] [y]:=by unfold zdI;exact ⟨h,by unfold zdI;trivial⟩
theorem ju {x x':NM} {y y':Nd} (h:x.is y) (h':x'.is y'):zdI [x,x'] [y,y']:=by unfold zdI;exact ⟨h,dF h'⟩
theorem it:∀ {a:List NM} {a':List Nd},zdI a a'→a.length=a'.length
 | [],[],_=>rfl
 | x::r,y::s,h=>by unfold zdI at h;simp [it h.2]
 | [],_::_,h=>by unfold zdI at h;exact h.elim
 | _::_,[],h=>by unfold zdI at h;exact h.elim
theorem eK {k:Nat} {t:List UInt8} {p:Pl} {ks:List NM} {ks':List Nd} (h:zdI ks ks') (a:Option Addr) (c:Nat):(NM.mk (k:Int) t (p.1:Int) (p.2:Int) ks a c).is (.mk k t p ks'):=by
 unfold NM.is;exact ⟨rfl,rfl,rfl,rfl,h⟩
theorem gh:zdI [] []:=by unfold zdI;trivial
theorem ef {P:Nat→Prop} {w:World} {b:Nat} {cs:Array Value} {T:TypeId} (hr:w.heap[b]? = some (.cells cs T (0,0))) {ks:List NM} (hc:cs.toList=aW ks) (hl:ks.length≤1000) (hP:P b) (hh:aP P w ks) (k l c:Int) (t:List UInt8) :
  am P w (.mk k t l c ks (some ⟨b,0,none⟩) ks.length):=by
 refine lu ⟨⟨be ks,_,_,rfl,nRe _,by unfold maxLen;omega,fun h=>(by cases h),fun _=>⟨b,0,rfl,(aGe.1 hr).1,fun j u hu=>?_⟩⟩,fun b' o n c' e _=>?_⟩ hh
 ·rw [Nat.zero_add,cRo w b j _ _ _ hr];rw [← hc] at hu;simpa using hu
 ·simp at e;obtain ⟨⟨rfl,_⟩,_⟩:=e;exact hP
theorem iw {P:Nat→Prop} {w:World} (k l c:Int) (t:List UInt8):am P w (.mk k t l c [] none 0) :=
 lu ⟨a9.nil w 5,fun _ _ _ _ _ h=>absurd rfl h⟩ fF
abbrev wK (t:Tok):Value:=.agg #[.int .i64 t.1,.string (bs t.2.1),.int .i64 t.2.2.1,.int .i64 t.2.2.2]
structure sO (w:World) (b o:Nat) (t:Tok):Prop where
 c0:w.cell? ⟨b,o,none⟩=some (.int .i64 t.1)
 c1:w.cell? ⟨b,o+1,none⟩=some (.string (bs t.2.1))
 c2:w.cell? ⟨b,o+2,none⟩=some (.int .i64 t.2.2.1)
 c3:w.cell? ⟨b,o+3,none⟩=some (.int .i64 t.2.2.2)
theorem sO.same {w w':World} {b o:Nat} {t:Tok} (h:sO w b o t) (e:w'.heap[b]? = w.heap[b]?):sO w' b o t :=
 ⟨(World.cell?_of_block (w:=w) e).trans h.c0,(World.cell?_of_block (w:=w) e).trans h.c1,(World.cell?_of_block (w:=w) e).trans h.c2,(World.cell?_of_block (w:=w) e).trans h.c3⟩
def mv (w:World) (g:Nat) (a:Option Addr) (l:List Tok):Prop :=
 l≠[]→∃ b off,a=some ⟨b,off,none⟩∧b<g∧b<w.heap.size∧∀ j (h:j<l.length),sO w b (off+j * 4) l[j]
theorem mv.same {w w':World} {g:Nat} {a:Option Addr} {l:List Tok} (h:mv w g a l) (hs:w.heap.size≤w'.heap.size) (e:∀ b,b<g→b<w.heap.size→w'.heap[b]? = w.heap[b]?):mv w' g a l:=by
 intro hne;obtain ⟨b,off,ha,hb,hbs,ht⟩:=h hne;exact ⟨b,off,ha,hb,by omega,fun j hj=>(ht j hj).same (e b hb hbs)⟩
abbrev zan (v:Value) (en:Pl) (d:Int):Array Value:=#[v,.int .i64 en.1,.int .i64 en.2,.int .i64 d]
def PS (w:World) (g:Nat) (en:Pl) (l:List Tok) (d:Nat):Prop :=
 ∃ a c,w.heap[g]? = some (.cells (zan (.slice a l.length c) en d) 56 (0,0))∧l.length≤c∧c≤maxLen∧mv w g a l∧d≤60∧l.length≤100000
def PSw (w:World) (g:Nat) (en:Pl) (l:List Tok):Prop :=
 ∃ a c,(∃ v,w.heap[g]? = some (.cells #[.slice a l.length c,.int .i64 en.1,.int .i64 en.2,v] 56 (0,0)))∧l.length≤c∧c≤maxLen∧mv w g a l
theorem PS.w {w:World} {g:Nat} {en:Pl} {l:List Tok} {d:Nat} (h:PS w g en l d):PSw w g en l:=by
 obtain ⟨a,c,h,hc,hm,ht,_⟩:=h;exact ⟨a,c,⟨_,h⟩,hc,hm,ht⟩
theorem PSw.keep {w w':World} {g:Nat} {en:Pl} {l:List Tok} (h:PSw w g en l) (hb:Below w.heap.size w w'):PSw w' g en l:=by
 obtain ⟨a,c,⟨v,hg⟩,hc,hm,ht⟩:=h;exact ⟨a,c,⟨v,(hb.block g (aGe.1 hg).1).trans hg⟩,hc,hm,ht.same hb.size (fun b _ hb'=>hb.block b hb')⟩
theorem PSw.deep {w:World} {g:Nat} {en:Pl} {l:List Tok} (h:PSw w g en l) (v:Value):PSw (w.setCell ⟨g,3,none⟩ v) g en l:=by
 obtain ⟨a,c,⟨v',hg⟩,hc,hm,ht⟩:=h;exact ⟨a,c,⟨v,hSs _ g 3 _ _ _ hg⟩,hc,hm,ht.same (by simp [World.setCell]) (fun b hb _=>hSo w ⟨g,3,none⟩ b _ (by show b≠g;omega))⟩
theorem PS.lt {w:World} {g:Nat} {en:Pl} {l:List Tok} {d:Nat} (h:PS w g en l d):g<w.heap.size:=by
 obtain ⟨a,c,h,_⟩:=h;exact (aGe.1 h).1
theorem PS.keep {w w':World} {g:Nat} {en:Pl} {l:List Tok} {d:Nat} (h:PS w g en l d) (hb:Below w.heap.size w w'):PS w' g en l d:=by
 have aL:=h.lt;obtain ⟨a,c,hg,hc,hm,ht,hd⟩:=h;exact ⟨a,c,(hb.block g aL).trans hg,hc,hm,ht.same hb.size (fun b _ hb'=>hb.block b hb'),hd⟩
theorem qd {w:World} {b:Nat} {x0 x1 x2 x3:Value} {t:TypeId} (h:w.heap[b]? = some (.cells #[x0,x1,x2,x3] t (0,0))) (y0 y1 y2 y3:Value) :
  ((((w.setCell ⟨b,0,none⟩ y0).setCell ⟨b,1,none⟩ y1).setCell ⟨b,2,none⟩ y2).setCell ⟨b,3,none⟩ y3).heap[b]? = some (.cells #[y0,y1,y2,y3] t (0,0)) :=
 hSs _ b 3 _ _ y3 (hSs _ b 2 _ _ y2 (hSs _ b 1 _ _ y1 (hSs _ b 0 _ _ y0 h)))
theorem vH {w:World} {b:Nat} {x0 x1 x2 x3 x4:Value} {t:TypeId} (h:w.heap[b]? = some (.cells #[x0,x1,x2,x3,x4] t (0,0))) (y0 y1 y2 y3 y4:Value) :
  (((((w.setCell ⟨b,0,none⟩ y0).setCell ⟨b,1,none⟩ y1).setCell ⟨b,2,none⟩ y2).setCell ⟨b,3,none⟩ y3).setCell ⟨b,4,none⟩ y4).heap[b]? = some (.cells #[y0,y1,y2,y3,y4] t (0,0)) :=
 hSs _ b 4 _ _ y4 (hSs _ b 3 _ _ y3 (hSs _ b 2 _ _ y2 (hSs _ b 1 _ _ y1 (hSs _ b 0 _ _ y0 h))))
theorem uM (n:Nat) (g:Nat) (en:Pl) (l:List Tok) (w:World) (h:PSw w g en l) :
  Calls Tryz.prog 61 #[.pointer (some ⟨g,0,none⟩),.int .i64 (n:Int)] w fun e w'=>e=.returned (wK (atT en l n))∧Below w.heap.size w w':=by
 obtain ⟨a,c,⟨v,hg⟩,hc,hm,ht⟩:=h;have hgl:g<w.heap.size:=(aGe.1 hg).1;have c0:=cRo w g 0 _ _ _ hg;have c1:=cRo w g 1 _ _ _ hg;have c2:=cRo w g 2 _ _ _ hg;by_cases hn:n<l.length
 ·obtain ⟨b,off,rfl,hbg,hbs,htok⟩:=ht (by intro e;subst e;simp at hn);obtain ⟨t0,t1,t2,t3⟩:=htok n hn;have e:atT en l n=l[n]:=by unfold atT;rw [List.getD_eq_getElem?_getD,List.getElem?_eq_getElem hn];rfl
  rw [e];have q:¬ ((l.length:Int)≤(n:Int)):=by omega
  clear hg ht htok;go_enter Tryz.func61,Tryz.ntmps61
  go_wp2_with fail;refine br Tryz.underlying46 w.heap.size (hAn w _) ⟨rfl,ag w _⟩
 ·have e:atT en l n=kD en:=by unfold atT;rw [List.getD_eq_getElem?_getD,List.getElem?_eq_none (by omega)];rfl
  rw [e];have q:(l.length:Int)≤(n:Int):=by omega
  clear hg ht;go_enter Tryz.func61,Tryz.ntmps61
  go_wp2_with fail;refine br Tryz.underlying46 w.heap.size (hAn w _) ⟨rfl,ag w _⟩
theorem eI (n:Nat) (g:Nat) (en:Pl) (l:List Tok) (d:Nat) (w:World) (h:PS w g en l d) :
  Calls Tryz.prog 61 #[.pointer (some ⟨g,0,none⟩),.int .i64 (n:Int)] w fun e w'=>e=.returned (wK (atT en l n))∧Below w.heap.size w w':=uM n g en l w h.w
abbrev gT (e:Nat) (p:Pl):PanicEntry:={ v:=.iface 51 (.agg #[.int .i64 e,.int .i64 p.1,.int .i64 p.2]),recovered:=false }
theorem kn (en:Pl) (l:List Tok) (n:Nat):(atT en l n).1=(atT (0,0) l n).1∧(atT en l n).2.1=(atT (0,0) l n).2.1:=by
 unfold atT;rw [List.getD_eq_getElem?_getD,List.getD_eq_getElem?_getD];cases l[n]? <;> exact ⟨rfl,rfl⟩
theorem tW (t:Tok) (W:World):(Instr.field 46 (.agg #[.int .i64 t.1,.string (bs t.2.1),.int .i64 t.2.2.1,.int .i64 t.2.2.2]) 0).run Tryz.prog W=.ok (.int .i64 t.1) W:=by kernel_rfl
theorem tf (t:Tok) (W:World):(Instr.field 46 (.agg #[.int .i64 t.1,.string (bs t.2.1),.int .i64 t.2.2.1,.int .i64 t.2.2.2]) 1).run Tryz.prog W=.ok (.string (bs t.2.1)) W:=by kernel_rfl
theorem uq (t:Tok) (W:World):(Instr.field 46 (.agg #[.int .i64 t.1,.string (bs t.2.1),.int .i64 t.2.2.1,.int .i64 t.2.2.2]) 2).run Tryz.prog W=.ok (.agg #[.int .i64 t.2.2.1,.int .i64 t.2.2.2]) W:=by kernel_rfl
attribute [go_sem] tW tf uq
theorem sH (er:Nat) (g:Nat) (en:Pl) (l:List Tok) (w:World) (h:PSw w g en l) :
  Calls Tryz.prog 101 #[.pointer (some ⟨g,0,none⟩),.int .i64 (er:Int)] w fun e w'=>e=.panicked [gT er (atT en l 0).2.2]∧Below w.heap.size w w':=by
 have H1:=uM 0 g en l w h;generalize atT en l 0=t at *;clear h;go_enter Tryz.func101,Tryz.ntmps101
 go_wp2_with fail;refine H1.mono ?_;rintro e w1 ⟨rfl,hb1⟩;go_wp2_with fail;exact ⟨rfl,rfl,hb1⟩
theorem ch (n:Nat) (s:List UInt8) (g:Nat) (en:Pl) (l:List Tok) (d:Nat) (w:World) (h:PS w g en l d) :
  Calls Tryz.prog 33 #[.pointer (some ⟨g,0,none⟩),.int .i64 (n:Int),.string (bs s)] w fun e w'=>e=.returned (.bool (aT l n s))∧Below w.heap.size w w':=by
 have H1:=hid (fun W (hW:Below w.heap.size w W)=>eI n g en l d W (h.keep hW));have hk:=kn en l n;have hs:aT l n s=((atT en l n).1 == 4 && (atT en l n).2.1 == s):=by rw [hk.1,hk.2];rfl
 rw [hs];clear h hk hs;generalize atT en l n=t at *;by_cases hk:t.1=4
 ·have q:((t.1:Int) == 4)=true:=eqT (by omega);have q':(t.1 == 4)=true:=by simpa using hk
  rw [q',Bool.true_and];clear hk q';by_cases hx:t.2.1=s
  ·have q2:(t.2.1 == s)=true:=by simpa using hx
   rw [q2];clear hx;go_enter Tryz.func33,Tryz.ntmps33
   go_wp2_with fail;refine (H1.out w (Below.refl _ _)).mono ?_;rintro e w1 ⟨rfl,hb1⟩;go_wp2_with fail;refine (H1.out w1 hb1).mono ?_;rintro e w2 ⟨rfl,hb2⟩;go_wp2_with fail;go_ret;exact ⟨rfl,zdy hb1 hb2⟩
  ·have q2:(t.2.1 == s)=false:=by simpa using hx
   rw [q2];clear hx;go_enter Tryz.func33,Tryz.ntmps33
   go_wp2_with fail;refine (H1.out w (Below.refl _ _)).mono ?_;rintro e w1 ⟨rfl,hb1⟩;go_wp2_with fail;refine (H1.out w1 hb1).mono ?_;rintro e w2 ⟨rfl,hb2⟩;go_wp2_with fail;go_ret;exact ⟨rfl,zdy hb1 hb2⟩
 ·have q:((t.1:Int) == 4)=false:=eqF (by omega);have q':(t.1 == 4)=false:=by simpa using hk
  rw [q',Bool.false_and];clear hk q';go_enter Tryz.func33,Tryz.ntmps33
  go_wp2_with fail;refine (H1.out w (Below.refl _ _)).mono ?_;rintro e w1 ⟨rfl,hb1⟩;go_wp2_with fail;go_ret;exact ⟨rfl,hb1⟩
theorem cX (s:List UInt8) (g:Nat) (en:Pl) (l:List Tok) (d:Nat) (w:World) (h:PS w g en l d) :
  Calls Tryz.prog 62 #[.pointer (some ⟨g,0,none⟩),.string (bs s)] w fun e w'=>e=.returned (.bool (bL l s))∧Below w.heap.size w w':=by
 have H1:=hid (fun W (hW:Below w.heap.size w W)=>eI 0 g en l d W (h.keep hW));have hk:=kn en l 0;have hs:bL l s=((atT en l 0).1 == 1 && (atT en l 0).2.1 == s):=by rw [hk.1,hk.2];rfl
 rw [hs];clear h hk hs;generalize atT en l 0=t at *;by_cases hk:t.1=1
 ·have q:((t.1:Int) == 1)=true:=eqT (by omega);have q':(t.1 == 1)=true:=by simpa using hk
  rw [q',Bool.true_and];clear hk q';by_cases hx:t.2.1=s
  ·have q2:(t.2.1 == s)=true:=by simpa using hx
   rw [q2];clear hx;go_enter Tryz.func62,Tryz.ntmps62
   go_wp2_with fail;refine (H1.out w (Below.refl _ _)).mono ?_;rintro e w1 ⟨rfl,hb1⟩;go_wp2_with fail;refine (H1.out w1 hb1).mono ?_;rintro e w2 ⟨rfl,hb2⟩;go_wp2_with fail;go_ret;exact ⟨rfl,zdy hb1 hb2⟩
  ·have q2:(t.2.1 == s)=false:=by simpa using hx
   rw [q2];clear hx;go_enter Tryz.func62,Tryz.ntmps62
   go_wp2_with fail;refine (H1.out w (Below.refl _ _)).mono ?_;rintro e w1 ⟨rfl,hb1⟩;go_wp2_with fail;refine (H1.out w1 hb1).mono ?_;rintro e w2 ⟨rfl,hb2⟩;go_wp2_with fail;go_ret;exact ⟨rfl,zdy hb1 hb2⟩
 ·have q:((t.1:Int) == 1)=false:=eqF (by omega);have q':(t.1 == 1)=false:=by simpa using hk
  rw [q',Bool.false_and];clear hk q';go_enter Tryz.func62,Tryz.ntmps62
  go_wp2_with fail;refine (H1.out w (Below.refl _ _)).mono ?_;rintro e w1 ⟨rfl,hb1⟩;go_wp2_with fail;go_ret;exact ⟨rfl,hb1⟩
theorem zi (zs:List (List UInt8)) (W:World) (b:Nat) (t:TypeId) (h:W.heap[b]? = some (.cells (cb zs).toArray t (0,0))):∀ j,j<(zs.map bs).length→W.cell? ⟨b,0+j,none⟩=some (.string ((zs.map bs).getD j ByteArray.empty)):=by
 intro j hj;rw [List.length_map] at hj;rw [Nat.zero_add,cRo W b j _ _ _ h];rw [List.getElem?_toArray,lL zs j hj,List.getD_eq_getElem?_getD,List.getElem?_map,List.getElem?_eq_getElem hj];rfl
theorem rB (zs:List (List UInt8)) (s:List UInt8):Lib.containsS (zs.map bs) (bs s)=zs.contains s:=by
 rw [Bool.eq_iff_iff,Lib.containsS_iff,List.contains_iff_mem];constructor
 ·intro h;obtain ⟨z,hz,e⟩:=List.mem_map.1 h;have:z=s:=by have:=congrArg (fun x=>x.data.toList) e;simpa [bs] using this
  rw [← this];exact hz
 ·exact fun h=>List.mem_map.2 ⟨s,h,rfl⟩
theorem io (zs:List (List UInt8)) (s:List UInt8) (W:World) (b c:Nat) (t:TypeId) (h:W.heap[b]? = some (.cells (cb zs).toArray t (0,0))) (hz:zs.length≤1000) :
  Calls Tryz.prog 75 #[.slice (some ⟨b,0,none⟩) zs.length c,.string (bs s)] W fun e w'=>e=.returned (.bool (zs.contains s))∧w'=W:=by
 refine (Tryz.slices_Contains_string b 0 zs.length c (zs.map bs) (bs s) W (by simp) (by omega) (zi zs W b t h)).mono ?_;rintro e w' ⟨rfl,rfl⟩;refine ⟨?_,rfl⟩;rw [List.take_of_length_le (by simp),rB]
def x5:List (List UInt8):=[i6,wIn,wIf,fa,fO,cj]
def yO:List (List UInt8):=[[116,101,120,116],[98,111,111,108],[105,110,116],[116,101,120,116,115],[102,105,108,101,115],[108,97,98,101,108,115]]
theorem qK (s:List UInt8):x5.contains s=ed s:=by
 unfold x5 ed;rw [Bool.eq_iff_iff];simp [or_assoc]
theorem q9 (s:List UInt8):yO.contains s=cY s:=by
 unfold yO cY;rw [Bool.eq_iff_iff];simp [or_assoc]
theorem lp (s:List UInt8) (w:World) :
  Calls Tryz.prog 72 #[.string (bs s)] w fun e w'=>e=.returned (.bool (ed s))∧Below w.heap.size w w':=by
 have H:=hid (fun W (b c:Nat) (t:TypeId) (h:W.heap[b]? = some (.cells (cb x5).toArray t (0,0)))=>io x5 s W b c t h (by decide));rw [← qK];generalize x5.contains s=r at *;go_enter Tryz.func72,Tryz.ntmps72
 go_wp2_with fail;refine (H.out _ _ _ 9 (hAn w _)).mono ?_;rintro e w1 ⟨rfl,rfl⟩;go_wp2_with fail;go_ret;exact ⟨rfl,ag w _⟩
theorem gR (s:List UInt8) (w:World) :
  Calls Tryz.prog 76 #[.string (bs s)] w fun e w'=>e=.returned (.bool (cY s))∧Below w.heap.size w w':=by
 have H:=hid (fun W (b c:Nat) (t:TypeId) (h:W.heap[b]? = some (.cells (cb yO).toArray t (0,0)))=>io yO s W b c t h (by decide));rw [← q9];generalize yO.contains s=r at *;go_enter Tryz.func76,Tryz.ntmps76
 go_wp2_with fail;refine (H.out _ _ _ 9 (hAn w _)).mono ?_;rintro e w1 ⟨rfl,rfl⟩;go_wp2_with fail;go_ret;exact ⟨rfl,ag w _⟩
theorem dk (g:Nat) (en:Pl) (l:List Tok) (d:Nat) (w:World) (h:PS w g en l d) :
  Calls Tryz.prog 64 #[.pointer (some ⟨g,0,none⟩)] w fun e w'=>e=.returned (.bool (cd l))∧Below w.heap.size w w':=by
 have H1:=hid (fun W (hW:Below w.heap.size w W)=>eI 0 g en l d W (h.keep hW));have hk:=kn en l 0;have hs:cd l=((atT en l 0).1 == 1 && !ed (atT en l 0).2.1):=by rw [hk.1,hk.2];rfl
 rw [hs];clear h hk hs;generalize atT en l 0=t at *;have HR:=hid (fun W=>lp t.2.1 W);generalize ed t.2.1=rb at *;by_cases hk:t.1=1
 ·have q:((t.1:Int) == 1)=true:=eqT (by omega);have q':(t.1 == 1)=true:=by simpa using hk
  rw [q',Bool.true_and];clear hk q';go_enter Tryz.func64,Tryz.ntmps64
  go_wp2_with fail;refine (H1.out w (Below.refl _ _)).mono ?_;rintro e w1 ⟨rfl,hb1⟩;go_wp2_with fail;refine (H1.out w1 hb1).mono ?_;rintro e w2 ⟨rfl,hb2⟩;go_wp2_with fail;refine (HR.out w2).mono ?_;rintro e w3 ⟨rfl,hb3⟩;have bC:=nb;go_wp2_with fail;go_ret;exact ⟨rfl,zdy (zdy hb1 hb2) hb3⟩
 ·have q:((t.1:Int) == 1)=false:=eqF (by omega);have q':(t.1 == 1)=false:=by simpa using hk
  rw [q',Bool.false_and];clear hk q';go_enter Tryz.func64,Tryz.ntmps64
  go_wp2_with fail;refine (H1.out w (Below.refl _ _)).mono ?_;rintro e w1 ⟨rfl,hb1⟩;go_wp2_with fail;go_ret;exact ⟨rfl,hb1⟩
end Go.Proofs.YtfgiihpopngbkaaGreatDoor
