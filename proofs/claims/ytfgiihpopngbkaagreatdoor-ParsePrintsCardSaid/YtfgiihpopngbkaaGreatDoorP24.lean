/- Lemmas and walks that the statement needs: RpAllW, PlacesPlain, ParseApp, ParseApp2, ParseRows, RowsPlain, There, ThereE, ThereF. -/
import Derived.Test.YtfgiihpopngbkaaGreatDoorP23
namespace Go.Proofs.YtfgiihpopngbkaaGreatDoor
set_option maxRecDepth 100000
set_option maxHeartbeats 8000000
open Go.RowKit
open _root_.Bool renaming and_eq_true→bAe
structure zbq (x:NM):Prop where
 e:mE x.tr=true→gM x
 a:mA x.tr=true→gM x
 p:mP x.tr=true→gM x
 b:mB x.tr=true→mX x
 s:mS x.tr=true→xK x
theorem zcR {k:Int} {t:List UInt8} {l c:Int} {ks:List NM} {a:Option Addr} {m:Nat} (h:f5 (NM.mk k t l c ks a m).tr=true):k=9∧ks=[]:=by
 rw [aq] at h;unfold f5 at h;rw [bX] at h;simp only [bAe,beq_iff_eq] at h;refine ⟨h.1.1,?_⟩;cases ks with
 | nil=>rfl
 | cons x r=>have:=h.2;rw [ai] at this;simp [Tr.kids] at this
theorem pQ:∀ (N:Nat) (x:NM),x.hi≤N→x.fit→zbq x
 | 0,.mk k t l c ks a m,h,_=>by rw [ij] at h;omega
 | N+1,.mk k t l c ks a m,h,hf=>by
   rw [ij] at h;obtain ⟨ht,hk,hfs⟩:=kY hf;have ih:∀ j (hj:j<ks.length),zbq ks[j]:=fun j hj=>pQ N ks[j] (iq (by omega) j hj) (gw hfs j hj)
   refine ⟨?_,?_,?_,?_,?_⟩
   ·intro hm;have hE:isE k=true:=by unfold mE at hm;rw [aq,bX] at hm;simp only [bAe] at hm;exact hm.1
    unfold isE at hE;simp only [Bool.or_eq_true,beq_iff_eq] at hE;rw [aq] at hm;rcases hE with (((((rfl | rfl) | rfl) | rfl) | rfl) | rfl) | rfl
    ·rw [zq,bAe] at hm
     match ks,hm with
     | [],_=>intro n w hh hl hd;exact zdj t l c a m n w hh hl hd
     | x::r,hm=>rw [ai] at hm;exact absurd hm.1 (by simp)
    ·rw [vq,bAe] at hm
     match ks,hm with
     | [],_=>intro n w hh hl hd;exact zcV t l c a m n w hh hl hd
     | x::r,hm=>rw [ai] at hm;exact absurd hm.1 (by simp)
    ·rw [zk,bAe] at hm
     match ks,hm with
     | [],_=>intro n w hh hl hd;exact zdb t l c a m n w hh hl hd ht
     | x::r,hm=>rw [ai] at hm;exact absurd hm.1 (by simp)
    ·rw [uK,bAe] at hm;intro n w hh hl hd;exact zcn t l c ks a m n w hh hl hd hk (fun j hj=>(ih j hj).e (gf hm.2 j hj))
    ·rw [uP,bAe] at hm;intro n w hh hl hd;have hev:ks.length % 2=0:=by
      have:=hm.2;rw [l9 _ 0 rfl,cK] at this;simp only [bAe,decide_eq_true_eq] at this;exact this.2.1
     exact zcY t l c ks a m n w hh hl hd hk hev (fun j hj=>(ih j hj).e (gf (nR _ hm.2) j hj))
    ·rw [vh,bAe] at hm;intro n w hh hl hd;exact zc2 t l c ks a m n w hh hl hd hk (fun j hj=>(ih j hj).a (gf hm.2 j hj))
    ·rw [kE] at hm;simp only [bAe,decide_eq_true_eq] at hm;obtain ⟨⟨hl,-⟩,ha⟩:=hm;rw [cK] at hl;have hk':=gf ha;intro n w hh hle hd;by_cases hn:t=cj
     ·rw [if_pos hn] at hl
      match ks,hl,ih,hk',hh,hle,hd with
      | [.mk kx tx lx cx ksx ax mx],_,ih,hk',hh,hle,hd=>exact zce t l c kx tx lx cx ksx ax mx a m n w hh hle hd hn ((ih 0 (by simp)).e (hk' 0 (by simp)))
     ·rw [if_neg hn] at hl
      match ks,hl,ih,hk',hh,hle,hd with
      | [.mk kx tx lx cx ksx ax mx,.mk ky ty ly cy ksy ay my],_,ih,hk',hh,hle,hd =>
        exact zbC t l c kx tx lx cx ksx ax mx ky ty ly cy ksy ay my a m n w hh hle hd (by simpa [cj] using hn) ((ih 0 (by simp)).e (hk' 0 (by simp))) ((ih 1 (by simp)).e (hk' 1 (by simp)))
   ·intro hm;have hE:k=15:=by unfold mA at hm;rw [aq,bX] at hm;simp only [bAe,beq_iff_eq] at hm;exact hm.1
    subst hE;rw [aq,kI,bAe] at hm
    match ks,hm,ih with
    | [],hm,_=>rw [ar] at hm;exact absurd hm.2 (by decide)
    | _::_::_,hm,_=>rw [ai,ai] at hm;exact absurd hm.2 (by simp [iA])
    | [.mk kx tx lx cx ksx ax mx],hm,ih =>
      rw [ai,ar] at hm;have hx:=(ih 0 (by simp)).e hm.2;intro n w hh hl hd;cases t with
      | nil=>exact zci l c kx tx lx cx ksx ax mx a m n w hh hl hd hx
      | cons tc tr=>exact zcf (tc::tr) l c kx tx lx cx ksx ax mx a m n w hh hl hd rfl hx
   ·intro hm;have hE:k=7:=by unfold mP at hm;rw [aq,bX] at hm;simp only [bAe,beq_iff_eq] at hm;exact hm.1
    subst hE;rw [aq,jl,bAe] at hm
    match ks,hm,ih with
    | [],hm,_=>rw [ar] at hm;exact absurd hm.2 (by decide)
    | _::_::_::_,hm,_=>rw [ai,ai,ai] at hm;exact absurd hm.2 (by simp [eT])
    | [.mk kx tx lx cx ksx ax mx],hm,_ =>
      rw [ai,ar] at hm;obtain ⟨h9,hk0⟩:=zcR (show f5 (NM.mk kx tx lx cx ksx ax mx).tr=true from hm.2);intro n w hh hl hd;exact zdg t l c kx tx lx cx ksx ax mx a m n w hh hl hd h9 hk0
    | [.mk kx tx lx cx ksx ax mx,.mk ky ty ly cy ksy ay my],hm,ih =>
      rw [ai,ai,ar] at hm;have h2:=hm.2;unfold eT at h2;simp only [bAe] at h2;obtain ⟨h9,hk0⟩:=zcR h2.1;intro n w hh hl hd;exact zcG t l c kx tx lx cx ksx ax mx ky ty ly cy ksy ay my a m n w hh hl hd h9 hk0 ((ih 1 (by simp)).e h2.2)
   ·intro hm;have hE:k=8:=by unfold mB at hm;rw [aq,bX] at hm;simp only [bAe,beq_iff_eq] at hm;exact hm.1
    subst hE;rw [aq,zbe,bAe] at hm;intro n w hh hl hd;exact zdn t l c ks a m n w hh hl hd hk (fun j hj=>(ih j hj).s (gf hm.2 j hj))
   ·intro hm;have hE:isS k=true:=by unfold mS at hm;rw [aq,bX] at hm;simp only [bAe] at hm;exact hm.1
    unfold isS at hE;simp only [Bool.or_eq_true,beq_iff_eq] at hE;rw [aq] at hm;rcases hE with (((rfl | rfl) | rfl) | rfl) | rfl
    ·rw [xE,bAe] at hm
     match ks,hm,ih with
     | [],hm,_=>rw [ar] at hm;exact absurd hm.2 (by decide)
     | _::_::_,hm,_=>rw [ai,ai] at hm;exact absurd hm.2 (by simp [iA])
     | [.mk kx tx lx cx ksx ax mx],hm,ih =>
       rw [ai,ar] at hm;intro n w hh hl hd;exact zdt t l c kx tx lx cx ksx ax mx a m n w hh hl hd ((ih 0 (by simp)).e hm.2)
    ·rw [pA,bAe] at hm;obtain ⟨-,h2⟩:=hm
     match ks,h2,ih with
     | [],h2,_=>rw [ar] at h2;exact absurd h2 (by decide)
     | _::_::_,h2,_=>rw [ai,ai] at h2;exact absurd h2 (by simp [doM])
     | [.mk kx tx lx cx ksx ax mx],h2,ih =>
       rw [ai,ar] at h2;have hx:mE (NM.mk kx tx lx cx ksx ax mx).tr=true:=by unfold doM at h2;simp only [bAe] at h2;exact h2.2
       intro n w hh hl hd;exact zdf t l c kx tx lx cx ksx ax mx a m n w hh hl hd ((ih 0 (by simp)).e hx)
    ·rw [vT,bAe] at hm;obtain ⟨-,h2⟩:=hm
     match ks,h2,ih with
     | [],h2,_=>rw [ar] at h2;exact absurd h2 (by decide)
     | [_],h2,_=>rw [ai,ar] at h2;exact absurd h2 (by simp [ln])
     | _::_::_::_,h2,_=>rw [ai,ai,ai] at h2;exact absurd h2 (by simp [ln])
     | [.mk kx tx lx cx ksx ax mx,.mk ky ty ly cy ksy ay my],h2,ih =>
       rw [ai,ai,ar] at h2;unfold ln at h2;simp only [bAe] at h2;intro n w hh hl hd;exact zdw t l c kx tx lx cx ksx ax mx ky ty ly cy ksy ay my a m n w hh hl hd ((ih 0 (by simp)).e h2.1) ((ih 1 (by simp)).b h2.2)
    ·rw [pk,bAe] at hm;obtain ⟨h1,h2⟩:=hm;have h1':t=[]:=by simpa using h1
     subst h1'
     match ks,h2,ih with
     | [],h2,_=>rw [ar] at h2;exact absurd h2 (by decide)
     | [_],h2,_=>rw [ai,ar] at h2;exact absurd h2 (by simp [ifM])
     | _::_::_::_::_,h2,_=>rw [ai,ai,ai,ai] at h2;exact absurd h2 (by simp [ifM])
     | [.mk kx tx lx cx ksx ax mx,.mk ky ty ly cy ksy ay my],h2,ih =>
       rw [ai,ai,ar] at h2;unfold ifM at h2;simp only [bAe] at h2;intro n w hh hl hd;exact zcC l c kx tx lx cx ksx ax mx ky ty ly cy ksy ay my a m n w hh hl hd ((ih 0 (by simp)).e h2.1) ((ih 1 (by simp)).b h2.2)
     | [.mk kx tx lx cx ksx ax mx,.mk ky ty ly cy ksy ay my,.mk kz tz lz cz ksz az mz],h2,ih =>
       rw [ai,ai,ai,ar] at h2;unfold ifM at h2;simp only [bAe] at h2;intro n w hh hl hd;exact zcq l c kx tx lx cx ksx ax mx ky ty ly cy ksy ay my kz tz lz cz ksz az mz a m n w hh hl hd ((ih 0 (by simp)).e h2.1.1) ((ih 1 (by simp)).b h2.1.2) ((ih 2 (by simp)).b h2.2)
    ·rw [wl,bAe] at hm;obtain ⟨-,h2⟩:=hm;have hne:ks≠[]:=by rintro rfl;rw [ar] at h2;exact absurd h2 (by decide)
     obtain ⟨N0,hn⟩:∃ n,ks.length=n+1:=⟨ks.length - 1,by have:=List.length_pos_iff.2 hne;omega⟩;obtain ⟨kz,tz,lz,cz,ksz,az,mz,hz⟩:∃ kz tz lz cz ksz az mz,ks[N0]=NM.mk kz tz lz cz ksz az mz:=by cases ks[N0];exact ⟨_,_,_,_,_,_,_,rfl⟩
     have hsp:NM.trs ks=NM.trs (ks.take N0)++[(NM.mk kz tz lz cz ksz az mz).tr]:=by
      have h1:ks.take (N0+1)=ks:=List.take_of_length_le (by omega);rw [List.take_succ_eq_append_getElem (by omega),hz] at h1;rw [bR,bR];exact (congrArg (List.map NM.tr) h1.symm).trans (by rw [List.map_append];rfl)
     unfold oh at h2;rw [hsp,List.getLast?_concat,List.dropLast_concat,bAe] at h2;have hp:=gf h2.1;have hzb:=(ih N0 (by omega)).b;rw [hz] at hzb;intro n w hh hl hd;have H:=zdp t l c ks a m n N0 kz tz lz cz ksz az mz w hh hn hk hz hl hd (fun j hj=>by
      have h3:=hp j (by rw [List.length_take];omega);rw [List.getElem_take] at h3;exact (ih j (by omega)).p h3) (hzb h2.2)
     rw [← hn] at H;exact H
theorem vU (s:List UInt8):eE s≠.oof:=by
 unfold eE;split
 ·have:=(iZ (cA (1,1) s) (10 * (eg s).1.length+20)).stmts false (eg s).1 0 (by omega);intro e;rw [e] at this;exact this.elim
 ·intro e;cases e
def wJ {α:Type}:PR α→Prop
 | .ok _ r=>r=[]
 | _=>True
theorem wJ.then {α β:Type} {x:PR α} {k:α→List Tok→PR β} (h:wJ x) (hk:∀ a,wJ (k a [])):wJ (x.then k):=by
 cases x with
 | oof=>trivial
 | bad e p=>trivial
 | ok a r=>have:r=[]:=h;subst this;exact hk a
section
theorem ea.refl (R:Pl→Pl→Prop) (h:∀ p,R p p):∀ l:List Tok,ea R l l
 | []=>.nil
 | (_,_,p)::l=>.cons (h p) (ea.refl R h l)
theorem ea.len {R:Pl→Pl→Prop} {l l':List Tok} (h:ea R l l'):l.length=l'.length:=by
 induction h with
 | nil=>rfl
 | cons _ _ ih=>simp [ih]
theorem iG.less {α β:Type} {R:Pl→Pl→Prop} {S:α→β→Prop} {p:Nat→Prop} {x:PR α} {y:PR β} (h:iG R S x y) (hy:iD p y):∀ a r,x=.ok a r→p r.length:=by
 rintro a r rfl;cases y with
 | ok b r'=>rw [h.2.len];exact hy
 | bad e q=>exact h.elim
 | oof=>exact h.elim
theorem xe:∀ p:Pl,(fun _ _:Pl=>True) p p:=fun _=>trivial
def App {α:Type} (m:List Tok):PR α→PR α→Prop
 | .ok a r,y=>r≠[]→y=.ok a (r++m)
 | _,_=>True
theorem zdR {α:Type} {m:List Tok} {x y:PR α} (h:wJ x):App m x y:=by
 cases x with
 | ok a r=>intro hne;exact absurd h hne
 | bad e p=>trivial
 | oof=>trivial
theorem App.then {α β:Type} {m:List Tok} {x y:PR α} {k k':α→List Tok→PR β} (h:App m x y) (hg:∀ a,wJ (k a [])) (hk:∀ a r,r≠[]→App m (k a r) (k' a (r++m))):App m (x.then k) (y.then k'):=by
 cases x with
 | oof=>trivial
 | bad e p=>trivial
 | ok a r =>
   by_cases hr:r=[]
   ·subst hr;exact zdR (hg a)
   ·rw [h hr];exact hk a r hr
section
variable {m:List Tok}
def vM {α:Type} (m:List Tok):PR α→PR α→Prop
 | .ok a r,y=>y=.ok a (r++m)
 | _,_=>True
theorem vM.app {α:Type} {x y:PR α} (h:vM m x y):App m x y:=by
 cases x with
 | ok a r=>exact fun _=>h
 | bad e p=>trivial
 | oof=>trivial
theorem vM.then {α β:Type} {x y:PR α} {k k':α→List Tok→PR β} (h:vM m x y) (hk:∀ a r,vM m (k a r) (k' a (r++m))):vM m (x.then k) (y.then k'):=by
 cases x with
 | oof=>trivial
 | bad e p=>trivial
 | ok a r=>have:y=.ok a (r++m):=h;rw [this];exact hk a r
end
end
section
def zbX {α:Type}:PR α→Prop
 | .ok _ _=>False
 | _=>True
theorem zbX.then {α β:Type} {x:PR α} {k:α→List Tok→PR β} (h:zbX x):zbX (x.then k):=by
 cases x with
 | ok a r=>exact h.elim
 | bad e p=>trivial
 | oof=>trivial
section
variable {m:List Tok}
end
end
abbrev iH:Pl→Pl→Prop:=fun _ _=>True
mutual
theorem zbZ {R:Pl→Pl→Prop}:∀ {x y:Nd},iT R x y→x.tr=y.tr
 | .mk k s p a,_,h=>by
   cases h with
   | mk hp ht=>rw [uO,uO,qZ ht]
theorem qZ {R:Pl→Pl→Prop}:∀ {x y:List Nd},gO R x y→Nd.trs x=Nd.trs y
 | [],_,h=>by cases h;rfl
 | x::xs,_,h=>by
   cases h with
   | cons h1 h2=>rw [lA,lA,zbZ h1,qZ h2]
end
mutual
theorem xD:∀ {x y z:Nd},iT iH x y→iT iH y z→iT iH x z
 | .mk k s p a,_,_,h,g=>by
   cases h with
   | mk hp ht =>
   cases g with
   | mk gp gt=>exact .mk trivial (mn ht gt)
theorem mn:∀ {x y z:List Nd},gO iH x y→gO iH y z→gO iH x z
 | [],_,_,h,g=>by cases h;exact g
 | x::xs,_,_,h,g=>by
   cases h with
   | cons h1 h2 =>
   cases g with
   | cons g1 g2=>exact .cons (xD h1 g1) (mn h2 g2)
end
theorem uv {x y z:List Tok} (h:ea iH x y) (g:ea iH y z):ea iH x z:=by
 induction h generalizing z with
 | nil=>exact g
 | cons _ _ ih=>cases g with | cons _ g2=>exact .cons trivial (ih g2)
mutual
theorem yJ:∀ {x y:Nd},iT iH x y→iT iH y x
 | .mk k s p a,_,h=>by
   cases h with
   | mk hp ht=>exact .mk trivial (qL ht)
theorem qL:∀ {x y:List Nd},gO iH x y→gO iH y x
 | [],_,h=>by cases h;exact .nil
 | x::xs,_,h=>by
   cases h with
   | cons h1 h2=>exact .cons (yJ h1) (qL h2)
end
theorem zE {x y:List Tok} (h:ea iH x y):ea iH y x:=by
 induction h with
 | nil=>exact .nil
 | cons _ _ ih=>exact .cons trivial ih
theorem rG:∀ {l l':List Tok},ip l=ip l'→ea iH l l'
 | [],[],_=>.nil
 | [],_::_,h=>by cases h
 | _::_,[],h=>by cases h
 | (k,s,p)::l,(k',s',p')::l',h=>by
   have h':(k,s)::ip l=(k',s')::ip l':=h;obtain ⟨h1,h2⟩:=List.cons.inj h';simp only [Prod.mk.injEq] at h1;obtain ⟨rfl,rfl⟩:=h1;exact .cons trivial (rG h2)
theorem uf (en en':Pl) {f f':Nat} {l l':List Tok} {d:Nat} (up:Bool) (hl:ea iH l l') (hf:10 * l.length+9≤f) (hf':10 * l.length+9≤f') :
  iG iH (gO iH) (bY en f up l d) (bY en' f' up l' d):=by
 have h1:=(lN (R:=iH) (en:=en) (en':=en') trivial (min f f') f' (by omega)).stmts up l l' d hl;have h2:=(lN (R:=iH) (en:=en) (en':=en) trivial (min f f') f (by omega)).stmts up l l d (ea.refl _ xe l);have h3:=(iZ en (min f f')).stmts up l d (by omega);revert h1 h2 h3;cases bY en (min f f') up l d with
 | oof=>intro _ _ h;exact h.elim
 | bad e p =>
   intro h1 h2 _;cases hx:bY en f up l d with
   | oof=>trivial
   | ok a r=>rw [hx] at h2;exact h2.elim
   | bad e2 p2 =>
     rw [hx] at h2;cases hy:bY en' f' up l' d with
     | oof=>rw [hy] at h1;exact h1.elim
     | ok a r=>rw [hy] at h1;exact h1.elim
     | bad e3 p3=>rw [hy] at h1;exact ⟨h2.1.symm.trans h1.1,trivial⟩
 | ok a r =>
   intro h1 h2 _;cases hx:bY en f up l d with
   | oof=>trivial
   | bad e2 p2=>rw [hx] at h2;exact h2.elim
   | ok a2 r2 =>
     rw [hx] at h2;cases hy:bY en' f' up l' d with
     | oof=>rw [hy] at h1;exact h1.elim
     | bad a r=>rw [hy] at h1;exact h1.elim
     | ok a3 r3 =>
       rw [hy] at h1;exact ⟨mn (qL h2.1) h1.1,uv (zE h2.2) h1.2⟩
abbrev O2:Pl:=(0,0)
def Ev {α:Type} (x:Nat→PR α) (y:PR α):Prop:=∃ N,∀ f,N≤f→x f=y
theorem zdF {α:Type} (y:PR α):Ev (fun _=>y) y:=⟨0,fun _ _=>rfl⟩
theorem Ev.step {α:Type} {x g:Nat→PR α} {y:PR α} (hx:∀ f,x (f+1)=g f) (h:Ev g y):Ev x y:=by
 obtain ⟨N,hN⟩:=h;refine ⟨N+1,fun f hf=>?_⟩;obtain ⟨m,rfl⟩:∃ m,f=m+1:=⟨f - 1,by omega⟩;rw [hx];exact hN m (by omega)
theorem Ev.ok {α β:Type} {x:Nat→PR α} {k:Nat→α→List Tok→PR β} {a:α} {r:List Tok} {y:PR β} (h:Ev x (.ok a r)) (hk:Ev (fun f=>k f a r) y):Ev (fun f=>(x f).then (k f)) y:=by
 obtain ⟨N,hN⟩:=h;obtain ⟨M,hM⟩:=hk;refine ⟨max N M,fun f hf=>?_⟩;show (x f).then (k f)=y;rw [hN f (by omega)];exact hM f (by omega)
theorem Ev.bad {α β:Type} {x:Nat→PR α} {k:Nat→α→List Tok→PR β} {e:Nat} {p:Pl} (h:Ev x (.bad e p)):Ev (fun f=>(x f).then (k f)) (.bad e p):=by
 obtain ⟨N,hN⟩:=h;refine ⟨N,fun f hf=>?_⟩;show (x f).then (k f)=_;rw [hN f hf];rfl
def res {α:Type} (m:Nat) (y:PR α):PR α:=if m≤60 then y else .bad 6 (0,0)
theorem cF {α:Type} {m:Nat} {y:PR α} (h:m≤60):res m y=y:=if_pos h
theorem bV {α:Type} {m:Nat} {y:PR α} (h:¬ m≤60):res m y=.bad 6 (0,0):=if_neg h
theorem Ev.fit {α β:Type} {x:Nat→PR α} {k:Nat→α→List Tok→PR β} {m:Nat} {a:α} {r:List Tok} {y:PR β} (h:Ev x (res m (.ok a r)))
  (h1:m≤60→Ev (fun f=>k f a r) y) (h2:¬ m≤60→y=.bad 6 (0,0)):Ev (fun f=>(x f).then (k f)) y:=by
 by_cases e:m≤60
 ·rw [cF e] at h;exact h.ok (h1 e)
 ·rw [bV e] at h;rw [h2 e];exact h.bad
def zt (l:List aJ):List Tok:=(et l).map fun p=>(p.1,p.2,(0,0))
theorem yX:zt []=[]:=rfl
theorem fm (a b:List aJ):zt (a++b)=zt a++zt b:=by unfold zt;rw [xX,List.map_append]
theorem fU {k:Nat} (t:List UInt8) (h:k≠0) (l:List aJ):zt ((k,t)::l)=(k,t,(0,0))::zt l:=by
 unfold zt et;rw [List.filter_cons_of_pos (by simpa using h)];rfl
theorem gL (c:UInt8) (l:List aJ):zt (sg c::l)=(4,[c],(0,0))::zt l:=fU _ (by decide) l
theorem eX (l:List aJ):zt (sp::l)=zt l:=rfl
theorem zbr (l:List aJ):zt (nl::l)=zt l:=rfl
theorem vF (n:Nat) (l:List aJ):zt (fB n++l)=zt l:=by
 unfold fB;split <;> rfl
theorem zc4 (t:List UInt8) (l:List aJ):zt (opP t::l)=(if t=wIn then 1 else 4,t,(0,0))::zt l:=fU _ (by split <;> decide) l
theorem iU (k:Nat) (t:List UInt8) (p:Pl) (r:List Tok) (s:List UInt8):aT ((k,t,p)::r) 0 s=(k == 4 && t == s):=rfl
theorem tj (a:Tok) (r:List Tok) (s:List UInt8):aT (a::r) 1 s=aT r 0 s:=rfl
theorem rF (k:Nat) (t:List UInt8) (p:Pl) (r:List Tok) (s:List UInt8):bL ((k,t,p)::r) s=(k == 1 && t == s):=rfl
theorem kA (k:Nat) (t:List UInt8) (p:Pl) (r:List Tok):cd ((k,t,p)::r)=(k == 1 && !ed t):=rfl
theorem rI (k:Nat) (t:List UInt8) (p:Pl) (r:List Tok) (j:Nat):dV ((k,t,p)::r) j=(k == j):=rfl
theorem mT (c:UInt8) (p:Pl) (r:List Tok):cB O2 [c] ((4,[c],p)::r)=.ok (4,[c],p) r:=by
 unfold cB bl;rw [iU,if_pos (by simp)]
theorem iN (d:Nat) (k:Nat) (t:List UInt8) (r:List Tok):dW O2 true d ((k,t,(0,0))::r)=if 60≤d then .bad 6 (0,0) else .ok (k,t,(0,0)) r:=by
 unfold dW;by_cases h:60≤d
 ·rw [if_pos ⟨rfl,h⟩,if_pos h];rfl
 ·rw [if_neg (fun h'=>h h'.2),if_neg h];rfl
mutual
def nd:Tr→Nd
 | .mk k t l=>.mk k.toNat t (0,0) (nds l)
def nds:List Tr→List Nd
 | []=>[]
 | x::r=>nd x::nds r
end
theorem gb (k:Int) (t:List UInt8) (l:List Tr):nd (.mk k t l)=.mk k.toNat t (0,0) (nds l):=by rw [nd]
theorem dQ:nds []=[]:=by rw [nds]
theorem cD (x:Tr) (r:List Tr):nds (x::r)=nd x::nds r:=by rw [nds]
theorem vD:∀ a b:List Tr,nds (a++b)=nds a++nds b
 | [],_=>by rw [dQ];rfl
 | x::r,b=>by rw [List.cons_append,cD,cD,vD r b];rfl
theorem wt {k:Int} {t:List UInt8} {l:List Top} (h:fH k t l=true):0≤k:=by
 unfold fH at h;by_cases e:k ∈ ([9,10,11,12,13,14,16,15,7,8,2,3,4,5,6]:List Int)
 ·simp only [List.mem_cons,List.not_mem_nil,or_false] at e;omega
 ·simp only [List.mem_cons,List.not_mem_nil,or_false,not_or] at e;obtain ⟨e1,e2,e3,e4,e5,e6,e7,e8,e9,e10,e11,e12,e13,e14,e15⟩:=e;rw [if_neg e1,if_neg e2,if_neg e3,if_neg e4,if_neg e5,if_neg e6,if_neg e7,if_neg e8,if_neg e9,if_neg e10,if_neg e11,if_neg e12,if_neg e13,if_neg e14,if_neg e15] at h;cases h
mutual
theorem zcr:∀ {x:Tr},okT x=true→(nd x).tr=x
 | .mk k t l,h=>by
   rw [d7] at h;simp only [bAe] at h;have hk:=wt h.1;rw [gb,uO,tB h.2,Int.toNat_of_nonneg hk]
theorem tB:∀ {l:List Tr},ee l=true→Nd.trs (nds l)=l
 | [],_=>by rw [dQ,uX]
 | x::r,h=>by
   rw [bM] at h;simp only [bAe] at h;rw [cD,lA,zcr h.1,tB h.2]
end
structure Fol (r:List Tok):Prop where
 call:aT r 0 [40]=false
 plus:aT r 0 [43]=false
 eq2:aT r 0 [61,61]=false
 ne2:aT r 0 [33,61]=false
 eq1:aT r 0 [61]=false
 isin:bL r wIn=false
theorem jU {c:UInt8} (h:c ∈ ([41,93,125,44,59,123,58]:List UInt8)) (p:Pl) (r:List Tok):Fol ((4,[c],p)::r):=by
 simp only [List.mem_cons,List.not_mem_nil,or_false] at h;rcases h with rfl | rfl | rfl | rfl | rfl | rfl | rfl <;> exact ⟨rfl,rfl,rfl,rfl,rfl,rfl⟩
structure sn (k:Nat) (up:UInt8) (d:Nat) (i:List Tok × List Nd × Nat):Prop where
 ev:∀ r,Fol r→Ev (fun f=>ce O2 f k (i.1++r) d) (res (i.2.2+d) (.ok i.2.1 r))
 hd:∀ r,aT (i.1++r) 0 [up]=false
def jT (us:List (List Tok)):List Tok:=us.flatMap fun u=>(4,[44],(0,0))::u
def rY:List (List Tok)→List Tok
 | []=>[]
 | u::us=>u++jT us
theorem rE:∀ s:List (List aJ),zt (aE s)=rY (s.map zt)
 | []=>rfl
 | [a]=>by show zt a=zt a++[];rw [List.append_nil]
 | a::b::r=>by
   show zt (a++sg 44::sp::aE (b::r))=zt a++((4,[44],(0,0))::zt b++jT (r.map zt));rw [fm,gL,eX,rE (b::r)];rfl
theorem sR {up:UInt8} (hto:up ∈ ([41,93,125]:List UInt8)) (us:List (List Tok)) (r:List Tok):Fol (jT us++(4,[up],(0,0))::r):=by
 cases us with
 | nil=>exact jU (by simp only [List.mem_cons,List.not_mem_nil,or_false] at hto ⊢;rcases hto with rfl | rfl | rfl <;> simp) _ _
 | cons u us=>exact jU (by simp) _ _
abbrev z5:=List Tok × List Nd × Nat
theorem qi {k:Nat} {up:UInt8} (hto:up ∈ ([41,93,125]:List UInt8)) {d:Nat} (hd:d≤60) (r:List Tok):∀ I:List z5,(∀ i ∈ I,sn k up d i) →
  Ev (fun f=>bw O2 f k [up] false (jT (I.map (·.1))++(4,[up],(0,0))::r) d) (res (b9 (I.map (·.2.2))+d) (.ok (I.flatMap (·.2.1)) ((4,[up],(0,0))::r)))
 | [],_=>by
   rw [cF (by simpa [b9] using hd)];refine Ev.step (g:=fun _=>.ok [] ((4,[up],(0,0))::r)) (fun f=>?_) (zdF _);rw [bw];exact if_pos (by show aT ((4,[up],(0,0))::r) 0 [up]=true;rw [iU];simp)
 | i::I,h=>by
   have hi:=h i (List.mem_cons_self ..);have ih:=qi hto hd r I fun j hj=>h j (List.mem_cons_of_mem _ hj)
   have e:jT ((i::I).map (·.1))++(4,[up],(0,0))::r=(4,[44],(0,0))::(i.1++(jT (I.map (·.1))++(4,[up],(0,0))::r)):=by
    simp [jT,List.append_assoc]
   rw [e];have em:b9 ((i::I).map (·.2.2))=max i.2.2 (b9 (I.map (·.2.2))):=rfl;rw [em];refine Ev.step (g:=fun f=>(ce O2 f k (i.1++(jT (I.map (·.1))++(4,[up],(0,0))::r)) d).then fun a r=>(bw O2 f k [up] false r d).then fun b r=>.ok (a++b) r) (fun f=>?_) ?_
   ·rw [bw,if_neg (by rw [iU];simp only [List.mem_cons,List.not_mem_nil,or_false] at hto;rcases hto with rfl | rfl | rfl <;> decide),if_neg (by simp),mT];rfl
   ·refine Ev.fit (hi.ev _ (sR hto _ r)) (fun h1=>?_) fun h1=>bV (by omega)
    refine Ev.fit ih (fun h2=>?_) fun h2=>bV (by omega)
    rw [cF (by omega)];exact zdF _
theorem vy {k:Nat} {up:UInt8} (hto:up ∈ ([41,93,125]:List UInt8)) {d:Nat} (hd:d≤60) (r:List Tok):∀ I:List z5,(∀ i ∈ I,sn k up d i) →
  Ev (fun f=>bw O2 f k [up] true (rY (I.map (·.1))++(4,[up],(0,0))::r) d) (res (b9 (I.map (·.2.2))+d) (.ok (I.flatMap (·.2.1)) ((4,[up],(0,0))::r)))
 | [],_=>by
   rw [cF (by simpa [b9] using hd)];refine Ev.step (g:=fun _=>.ok [] ((4,[up],(0,0))::r)) (fun f=>?_) (zdF _);rw [bw];exact if_pos (by show aT ((4,[up],(0,0))::r) 0 [up]=true;rw [iU];simp)
 | i::I,h=>by
   have hi:=h i (List.mem_cons_self ..);have ih:=qi hto hd r I fun j hj=>h j (List.mem_cons_of_mem _ hj)
   have e:rY ((i::I).map (·.1))++(4,[up],(0,0))::r=i.1++(jT (I.map (·.1))++(4,[up],(0,0))::r):=by
    simp [rY,List.append_assoc]
   rw [e];have em:b9 ((i::I).map (·.2.2))=max i.2.2 (b9 (I.map (·.2.2))):=rfl;rw [em];refine Ev.step (g:=fun f=>(ce O2 f k (i.1++(jT (I.map (·.1))++(4,[up],(0,0))::r)) d).then fun a r=>(bw O2 f k [up] false r d).then fun b r=>.ok (a++b) r) (fun f=>?_) ?_
   ·rw [bw,if_neg (by rw [hi.hd];simp),if_pos rfl];rfl
   ·refine Ev.fit (hi.ev _ (sR hto _ r)) (fun h1=>?_) fun h1=>bV (by omega)
    refine Ev.fit ih (fun h2=>?_) fun h2=>bV (by omega)
    rw [cF (by omega)];exact zdF _
theorem kno {k j:Int} {t:List UInt8} {l:List Tr} {p:Prop} (h:(Tr.mk k t l).kd=j) (hn:(k == j)=false):p:=absurd h (by rw [bX];simpa using hn)
theorem bE {k:Int} {t:List UInt8} {l:List Tr} {p:Prop} (h:isE (Tr.mk k t l).kd=true) (hn:isE k=false):p:=by rw [bX,hn] at h;cases h
theorem bF {k:Int} {t:List UInt8} {l:List Tr} {p:Prop} (h:isS (Tr.mk k t l).kd=true) (hn:isS k=false):p:=by rw [bX,hn] at h;cases h
def pR (x:Tr):Prop:=∀ n r d,d≤60→Fol r→Ev (fun f=>bA O2 f (zt (oP n x)++r) d) (res (oD x+d) (.ok (nd x) r))
def tN (x:Tr):Prop:=∀ n r d y,d≤60→aT r 0 [40]=false→(gW (dX x.top) (oD x)+d≤60→Ev (fun f=>fk O2 f (nd x) r d) y)→(¬ gW (dX x.top) (oD x)+d≤60→y=.bad 6 (0,0)) →
 Ev (fun f=>gN O2 f (zt (brk (dX x.top) (oP n x))++r) d) y
def pJ (x:Tr):Prop:=∀ n r d,d≤60→aT r 0 [40]=false→Ev (fun f=>bN O2 f (zt (brk (dY x.top) (oP n x))++r) d) (res (gW (dY x.top) (oD x)+d) (.ok (nd x) r))
def rH (x:Tr):Prop:=∀ n r c,c ∈ ([41,93,125]:List UInt8)→aT (zt (oP n x)++r) 0 [c]=false
def yA (x:Tr):Prop:=∀ n r,aT r 0 [61]=false→(cd (zt (oP n x)++r) && aT (zt (oP n x)++r) 1 [61])=false
structure gD (x:Tr):Prop where
 e:isE x.kd=true→pR x
 sum:isE x.kd=true→tN x
 prim:isE x.kd=true→pJ x
 head:isE x.kd=true→rH x
 name:isE x.kd=true→yA x
 call:x.kd=14→∀ n r d,d≤60→Ev (fun f=>fq O2 f (zt (oP n x)++r) d) (res (oD x+d) (.ok (nd x) r))
 callh:x.kd=14→∀ n,∃ t u,zt (oP n x)=(1,t,(0,0))::(4,[40],(0,0))::u∧ed t=false
 arg:x.kd=15→∀ n r d,d≤60→Fol r→Ev (fun f=>ce O2 f 1 (zt (oP n x)++r) d) (res (oD x+d) (.ok [nd x] r))
 argh:x.kd=15→rH x
 par:x.kd=7→∀ n r d,d≤60→Fol r→Ev (fun f=>ce O2 f 0 (zt (oP n x)++r) d) (res (oD x+d) (.ok [nd x] r))
 parh:x.kd=7→rH x
theorem qC {a:Top} (h:dY a=false):dX a=false:=by unfold dX;rw [h];rfl
theorem nj {x:Tr} (h:dX x.top=dY x.top) (hp:pJ x):tN x:=by
 intro n r d y hd hr h1 h2;refine Ev.step (g:=fun f=>(bN O2 f (zt (brk (dX x.top) (oP n x))++r) d).then fun x r=>fk O2 f x r d) (fun f=>by rw [gN]) ?_;have:=hp n r d hd hr;rw [← h] at this;exact Ev.fit this h1 h2
theorem zbD {x:Nd} {r:List Tok} (d:Nat) (h:aT r 0 [43]=false):Ev (fun f=>fk O2 f x r d) (.ok x r) :=
 Ev.step (g:=fun _=>.ok x r) (fun f=>by rw [fk,if_neg (by rw [h];simp)]) (zdF _)
theorem ru {x:Tr} (hs:tN x) (n:Nat) (r:List Tok) (d:Nat) (hd:d≤60) (h1:aT r 0 [40]=false) (h2:aT r 0 [43]=false) :
  Ev (fun f=>gN O2 f (zt (brk (dX x.top) (oP n x))++r) d) (res (gW (dX x.top) (oD x)+d) (.ok (nd x) r)) :=
 hs n r d _ hd h1 (fun h=>by rw [cF h];exact zbD d h2) fun h=>bV h
theorem nn {x:Tr} (h:dX x.top=false) (hs:tN x):pR x:=by
 intro n r d hd hr;have:=ru hs n r d hd hr.call hr.plus;rw [h] at this;refine Ev.step (g:=fun f=>(gN O2 f (zt (oP n x)++r) d).then fun x r =>
  if (aT r 0 [61,61] || aT r 0 [33,61] || bL r wIn)=true then (bl O2 true r).then fun t r=>(gN O2 f r d).then fun y r=>.ok (.mk 16 t.2.1 t.2.2 [x,y]) r
  else .ok x r) (fun f=>by rw [bA]) ?_
 refine Ev.fit this (fun h1=>?_) fun h1=>bV h1
 simp only [hr.eq2,hr.ne2,hr.isin,Bool.or_false,Bool.false_eq_true,if_false];have h1:oD x+d≤60:=h1;rw [cF h1];exact zdF _
theorem l5 {x:Tr} (h:dY x.top=true) (he:pR x):pJ x:=by
 intro n r d hd hr;rw [h];have e:zt (brk true (oP n x))++r=(4,[40],(0,0))::(zt (oP n x)++(4,[41],(0,0))::r):=by
  show zt (sg 40::(oP n x++[sg 41]))++r=_;rw [gL,fm,gL,yX];simp
 rw [e];show Ev _ (res (oD x+1+d) _);refine Ev.step (g:=fun f=>(dW O2 true d ((4,[40],(0,0))::(zt (oP n x)++(4,[41],(0,0))::r))).then fun _ r=>(bA O2 f r (d+1)).then fun x r=>(cB O2 [41] r).then fun _ r=>.ok x r) (fun f=>?_) ?_
 ·rw [bN];simp only [rI,kA,rF,iU];rfl
 ·rw [iN];by_cases h6:60≤d
  ·rw [if_pos h6,bV (by omega)];exact zdF _
  ·rw [if_neg h6];show Ev (fun f=>(bA O2 f (zt (oP n x)++(4,[41],(0,0))::r) (d+1)).then fun x r=>(cB O2 [41] r).then fun _ r=>.ok x r) _;refine Ev.fit (he n _ (d+1) (by omega) (jU (by simp) _ _)) (fun h1=>?_) fun h1=>bV (by omega)
   rw [mT,cF (by omega)];exact zdF _
theorem jB {x:Tr} (h:dY x.top=false) (hp:∀ n r d,d≤60→aT r 0 [40]=false→Ev (fun f=>bN O2 f (zt (oP n x)++r) d) (res (oD x+d) (.ok (nd x) r))):pR x∧tN x∧pJ x:=by
 have h1:pJ x:=by intro n r d hd hr;rw [h];exact hp n r d hd hr
 have h2:=nj (by rw [h,qC h]) h1;exact ⟨nn (qC h) h2,h2,h1⟩
theorem lY {n:Nat} {x:Tr} {r u:List Tok} {k:Nat} {t:List UInt8} {p:Pl} (e:zt (oP n x)=(k,t,p)::u) (h:(k == 1 && !ed t)=false):(cd (zt (oP n x)++r) && aT (zt (oP n x)++r) 1 [61])=false:=by
 rw [e,List.cons_append,kA,h];rfl
theorem fY {n:Nat} {x:Tr} {r u:List Tok} {k:Nat} {t:List UInt8} {p:Pl} {c:UInt8} (e:zt (oP n x)=(k,t,p)::u) (h:(k == 4 && t == [c])=false):aT (zt (oP n x)++r) 0 [c]=false:=by
 rw [e,List.cons_append,iU,h]
theorem ph {c d:UInt8} (hc:c ∈ ([41,93,125]:List UInt8)) (hd:d ∈ ([40,91,123]:List UInt8)):((4:Nat) == 4 && [d] == [c])=false:=by
 simp only [List.mem_cons,List.not_mem_nil,or_false] at hc hd;rcases hc with rfl | rfl | rfl <;> rcases hd with rfl | rfl | rfl <;> decide
theorem nP {α:Type} {l:List α} (h:l.isEmpty=true):l=[]:=List.isEmpty_iff.1 h
theorem ig {l:List Tr} (h:(bD l).isEmpty=true):l=[]:=by
 cases l with
 | nil=>rfl
 | cons x r=>cases h
theorem zj (t:List UInt8) (l:List Tr) (h:fH 9 t (bD l)=true):gD (.mk 9 t l):=by
 have h':((bD l).isEmpty && aM t)=true:=h;simp only [bAe] at h';obtain ⟨h1,h2⟩:=h';obtain rfl:=ig h1;have hres:ed t=false:=by unfold aM at h2;simp only [bAe,Bool.not_eq_true'] at h2;exact h2.2
 have e:∀ n,zt (oP n (.mk 9 t []))=[(1,t,(0,0))]:=fun n=>by rw [bP];rfl
 have hn:nd (.mk 9 t [])=.mk 9 t (0,0) []:=by rw [gb,dQ];rfl
 have hD:oD (.mk 9 t [])=0:=by rw [di,co];rfl
 have hp:=jB (x:=.mk 9 t []) rfl (fun n r d hd hr=>by
  rw [e,hn,hD,cF (by omega)];refine Ev.step (g:=fun _=>.ok (.mk 9 t (0,0) []) r) (fun f=>?_) (zdF _);show bN O2 (f+1) ((1,t,(0,0))::r) d=_;rw [bN];simp only [rI,kA,tj,hres,hr];rfl)
 refine ⟨fun _=>hp.1,fun _=>hp.2.1,fun _=>hp.2.2,fun _ n r c hc=>fY (e n) rfl,fun _ n r hr=>?_,fun h=>(by first | exact kno h (by decide) | exact bE h (by decide) | exact bF h (by decide)),fun h=>(by first | exact kno h (by decide) | exact bE h (by decide) | exact bF h (by decide)),fun h=>(by first | exact kno h (by decide) | exact bE h (by decide) | exact bF h (by decide)),fun h=>(by first | exact kno h (by decide) | exact bE h (by decide) | exact bF h (by decide)),fun h=>(by first | exact kno h (by decide) | exact bE h (by decide) | exact bF h (by decide)),fun h=>(by first | exact kno h (by decide) | exact bE h (by decide) | exact bF h (by decide))⟩;rw [e];show (cd ((1,t,(0,0))::r) && aT ((1,t,(0,0))::r) 1 [61])=false;rw [tj,hr,Bool.and_false]
theorem zaG (t:List UInt8) (l:List Tr) (h:fH 10 t (bD l)=true):gD (.mk 10 t l):=by
 have h':((bD l).isEmpty && fg 2 t)=true:=h;simp only [bAe] at h';obtain rfl:=ig h'.1;have e:∀ n,zt (oP n (.mk 10 t []))=[(2,t,(0,0))]:=fun n=>by rw [bP];rfl
 have hn:nd (.mk 10 t [])=.mk 10 t (0,0) []:=by rw [gb,dQ];rfl
 have hD:oD (.mk 10 t [])=0:=by rw [di,co];rfl
 have hp:=jB (x:=.mk 10 t []) rfl (fun n r d hd hr=>by
  rw [e,hn,hD,cF (by omega)];refine Ev.step (g:=fun _=>.ok (.mk 10 t (0,0) []) r) (fun f=>?_) (zdF _);show bN O2 (f+1) ((2,t,(0,0))::r) d=_;rw [bN];simp only [rI];rfl)
 exact ⟨fun _=>hp.1,fun _=>hp.2.1,fun _=>hp.2.2,fun _ n r c hc=>fY (e n) rfl,fun _ n r hr=>lY (e n) rfl,fun h=>(by first | exact kno h (by decide) | exact bE h (by decide) | exact bF h (by decide)),fun h=>(by first | exact kno h (by decide) | exact bE h (by decide) | exact bF h (by decide)),fun h=>(by first | exact kno h (by decide) | exact bE h (by decide) | exact bF h (by decide)),fun h=>(by first | exact kno h (by decide) | exact bE h (by decide) | exact bF h (by decide)),fun h=>(by first | exact kno h (by decide) | exact bE h (by decide) | exact bF h (by decide)),fun h=>(by first | exact kno h (by decide) | exact bE h (by decide) | exact bF h (by decide))⟩
theorem y6 (t:List UInt8) (l:List Tr) (h:fH 11 t (bD l)=true):gD (.mk 11 t l):=by
 have h':((bD l).isEmpty && !(t.any ft))=true:=h;simp only [bAe] at h';obtain rfl:=ig h'.1;have e:∀ n,zt (oP n (.mk 11 t []))=[(3,t,(0,0))]:=fun n=>by rw [bP];rfl
 have hn:nd (.mk 11 t [])=.mk 11 t (0,0) []:=by rw [gb,dQ];rfl
 have hD:oD (.mk 11 t [])=0:=by rw [di,co];rfl
 have hp:=jB (x:=.mk 11 t []) rfl (fun n r d hd hr=>by
  rw [e,hn,hD,cF (by omega)];refine Ev.step (g:=fun _=>.ok (.mk 11 t (0,0) []) r) (fun f=>?_) (zdF _);show bN O2 (f+1) ((3,t,(0,0))::r) d=_;rw [bN];simp only [rI];rfl)
 exact ⟨fun _=>hp.1,fun _=>hp.2.1,fun _=>hp.2.2,fun _ n r c hc=>fY (e n) rfl,fun _ n r hr=>lY (e n) rfl,fun h=>(by first | exact kno h (by decide) | exact bE h (by decide) | exact bF h (by decide)),fun h=>(by first | exact kno h (by decide) | exact bE h (by decide) | exact bF h (by decide)),fun h=>(by first | exact kno h (by decide) | exact bE h (by decide) | exact bF h (by decide)),fun h=>(by first | exact kno h (by decide) | exact bE h (by decide) | exact bF h (by decide)),fun h=>(by first | exact kno h (by decide) | exact bE h (by decide) | exact bF h (by decide)),fun h=>(by first | exact kno h (by decide) | exact bE h (by decide) | exact bF h (by decide))⟩
def mF (n:Nat) (a:Tr):z5:=(zt (oP n a),[nd a],oD a)
theorem uE (n:Nat) (l:List Tr):(l.map (mF n)).map (·.1)=(oPs n l).map zt:=by rw [c8,List.map_map,List.map_map];rfl
theorem p7 (n:Nat):∀ l:List Tr,(l.map (mF n)).flatMap (·.2.1)=nds l
 | []=>by rw [dQ];rfl
 | x::r=>by rw [cD,List.map_cons,List.flatMap_cons,p7 n r];rfl
theorem uF (n:Nat) (l:List Tr):(l.map (mF n)).map (·.2.2)=oDs l:=by rw [gX,List.map_map];rfl
theorem qE {q:Int→Bool} {l:List Tr} (h:(bD l).all (fun x=>q x.1)=true):∀ a ∈ l,q a.kd=true:=by
 intro a ha;rw [List.all_eq_true] at h;exact h a.top (List.mem_map_of_mem ha)
theorem oz {k:Nat} {c:UInt8} (hc:c ∈ ([41,93,125]:List UInt8)) {d:Nat} (hd:d≤60) {n:Nat} {l:List Tr} (h:∀ a ∈ l,sn k c d (mF n a)) (r:List Tok) :
  Ev (fun f=>bw O2 f k [c] true (zt (aE (oPs n l))++(4,[c],(0,0))::r) d) (res (b9 (oDs l)+d) (.ok (nds l) ((4,[c],(0,0))::r))):=by
 have:=vy hc hd r (l.map (mF n)) (fun i hi=>by
  obtain ⟨a,ha,rfl⟩:=List.mem_map.1 hi;exact h a ha)
 rw [uE,p7,uF,← rE] at this;exact this
theorem xd {a:Tr} (ha:gD a) (hk:isE a.kd=true) {c:UInt8} (hc:c ∈ ([41,93,125]:List UInt8)) {d:Nat} (hd:d≤60) (n:Nat):sn 2 c d (mF n a):=by
 refine ⟨fun r hr=>?_,fun r=>ha.head hk n r c hc⟩;show Ev (fun f=>ce O2 f 2 (zt (oP n a)++r) d) (res (oD a+d) (.ok [nd a] r));refine Ev.step (g:=fun f=>(bA O2 f (zt (oP n a)++r) d).then fun x r=>.ok [x] r) (fun f=>?_) ?_
 ·rw [ce,if_neg (by decide),if_neg (by decide),if_pos rfl]
 ·refine Ev.fit (ha.e hk n r d hd hr) (fun h1=>?_) fun h1=>bV h1
  rw [cF h1];exact zdF _
theorem uR {α:Type} {x:Nat→PR (List Nd)} {c:UInt8} {d m:Nat} {k:Nat} {t:List UInt8} {u r:List Tok} {a:List Nd} {k2:List Nd→α} (hx:d+1≤60→Ev x (res (m+(d+1)) (.ok a ((4,[c],(0,0))::r)))) :
  Ev (fun f=>(dW O2 true d ((k,t,(0,0))::u)).then fun _ _=>(x f).then fun k r=>(cB O2 [c] r).then fun _ r=>.ok (k2 k) r) (res (m+1+d) (.ok (k2 a) r)):=by
 rw [iN];by_cases h6:60≤d
 ·rw [if_pos h6,bV (by omega)];exact zdF _
 ·rw [if_neg h6];show Ev (fun f=>(x f).then fun k r=>(cB O2 [c] r).then fun _ r=>.ok (k2 k) r) _;refine Ev.fit (hx (by omega)) (fun h1=>?_) fun h1=>bV (by omega)
  rw [mT,cF (by omega)];exact zdF _
theorem zB (t:List UInt8) (l:List Tr) (h:fH 12 t (bD l)=true) (hl:∀ a ∈ l,gD a):gD (.mk 12 t l):=by
 have h':(t.isEmpty && (bD l).all (fun x=>isE x.1))=true:=h;simp only [bAe] at h';obtain ⟨h1,h2⟩:=h';obtain rfl:=nP h1;have hk:=qE h2;have e:∀ n,zt (oP n (.mk 12 [] l))=(4,[91],(0,0))::(zt (aE (oPs n l))++[(4,[93],(0,0))]):=fun n=>by
  rw [bP];show zt (sg 91::(aE (oPs n l)++[sg 93]))=_;rw [gL,fm];rfl
 have hn:nd (.mk 12 [] l)=.mk 12 [] (0,0) (nds l):=by rw [gb];rfl
 have hD:oD (.mk 12 [] l)=b9 (oDs l)+1:=by rw [di];rfl
 have hp:=jB (x:=.mk 12 [] l) rfl (fun n r d hd hr=>by
  rw [e,hn,hD];have e2:(4,[91],(0,0))::(zt (aE (oPs n l))++[(4,[93],(0,0))])++r=(4,[91],(0,0))::(zt (aE (oPs n l))++(4,[93],(0,0))::r):=by simp
  rw [e2];refine Ev.step (g:=fun f=>(dW O2 true d ((4,[91],(0,0))::(zt (aE (oPs n l))++(4,[93],(0,0))::r))).then fun _ _=>(bw O2 f 2 [93] true (zt (aE (oPs n l))++(4,[93],(0,0))::r) (d+1)).then fun k r=>(cB O2 [93] r).then fun _ r=>.ok (.mk 12 [] (0,0) k) r) (fun f=>?_) ?_
  ·rw [bN];simp only [rI,kA,rF,iU,iN];by_cases h6:60≤d
   ·rw [if_pos h6];rfl
   ·rw [if_neg h6];rfl
  ·exact uR fun h6=>oz (by simp) h6 (fun a ha=>xd (hl a ha) (hk a ha) (by simp) h6 n) r)
 exact ⟨fun _=>hp.1,fun _=>hp.2.1,fun _=>hp.2.2,fun _ n r c hc=>fY (e n) (ph hc (by simp)),fun _ n r hr=>lY (e n) rfl,fun h=>(by first | exact kno h (by decide) | exact bE h (by decide) | exact bF h (by decide)),fun h=>(by first | exact kno h (by decide) | exact bE h (by decide) | exact bF h (by decide)),fun h=>(by first | exact kno h (by decide) | exact bE h (by decide) | exact bF h (by decide)),fun h=>(by first | exact kno h (by decide) | exact bE h (by decide) | exact bF h (by decide)),fun h=>(by first | exact kno h (by decide) | exact bE h (by decide) | exact bF h (by decide)),fun h=>(by first | exact kno h (by decide) | exact bE h (by decide) | exact bF h (by decide))⟩
def jV (n:Nat):List Tr→List z5
 | a::b::r=>(zt (oP n a)++(4,[58],(0,0))::zt (oP n b),[nd a,nd b],oD b)::jV n r
 | _=>[]
theorem zbo {a:Tr} (h:okT a=true) (hk:a.kd=11):∃ t,a=.mk 11 t []:=by
 cases a with
 | mk k t l =>
   have hk:k=11:=hk;subst hk;rw [d7] at h;simp only [bAe] at h;have h':((bD l).isEmpty && !(t.any ft))=true:=h.1;simp only [bAe] at h';obtain rfl:=ig h'.1;exact ⟨t,rfl⟩
theorem nq (n:Nat):∀ l:List Tr,nk (bD l)=true→ee l=true→(jV n l).flatMap (·.2.1)=nds l∧b9 ((jV n l).map (·.2.2))=b9 (oDs l)∧zt (b7 (oPs n l))=rY ((jV n l).map (·.1)) ∧
  (∀ i ∈ jV n l,∃ t b,b ∈ l∧isE b.kd=true∧i=((3,t,(0,0))::(4,[58],(0,0))::zt (oP n b),[.mk 11 t (0,0) [],nd b],oD b))
 | [],_,_=>⟨by rw [dQ];rfl,by rw [co];rfl,by rw [dH];rfl,fun i hi=>by cases hi⟩
 | [a],h,_=>by cases h
 | a::b::r,h,hok=>by
   have h':(a.kd == 11 && isE a.kd && isE b.kd && nk (bD r))=true:=h;simp only [bAe,beq_iff_eq] at h';obtain ⟨⟨⟨h1,h2⟩,h3⟩,h4⟩:=h';rw [bM,bM] at hok;simp only [bAe] at hok;obtain ⟨ho1,ho2,ho3⟩:=hok;obtain ⟨t,rfl⟩:=zbo ho1 h1;obtain ⟨i1,i2,i3,i4⟩:=nq n r h4 ho3;have hD:oD (.mk 11 t [])=0:=by rw [di,co];rfl
   have hz:zt (oP n (.mk 11 t []))=[(3,t,(0,0))]:=by rw [bP];rfl
   have hnd:nd (.mk 11 t [])=.mk 11 t (0,0) []:=by rw [gb,dQ];rfl
   refine ⟨?_,?_,?_,fun i hi=>?_⟩
   ·rw [cD,cD,← i1];rfl
   ·rw [bj,bj,hD];show max (oD b) (b9 ((jV n r).map (·.2.2)))=max 0 (max (oD b) (b9 (oDs r)));rw [i2];omega
   ·rw [aY,aY];show _=(zt (oP n (.mk 11 t []))++(4,[58],(0,0))::zt (oP n b))++jT ((jV n r).map (·.1));cases r with
    | nil =>
      rw [dH];show zt (oP n (.mk 11 t [])++sg 58::sp::oP n b)=_;rw [fm,gL,eX];show _=_++[];rw [List.append_nil]
    | cons c r' =>
      cases r' with
      | nil=>cases h4
      | cons c2 r' =>
        rw [aY,aY] at i3 ⊢;show zt (oP n (.mk 11 t [])++sg 58::sp::(oP n b++sg 44::sp::b7 (oP n c::oP n c2::oPs n r')))=_;rw [fm,gL,eX,fm,gL,eX,i3,List.append_assoc];rfl
   ·rcases List.mem_cons.1 hi with rfl | hi
    ·exact ⟨t,b,by simp,h3,by rw [hz,hnd];rfl⟩
    ·obtain ⟨t',b',hb,hk,he⟩:=i4 i hi;exact ⟨t',b',by simp [hb],hk,he⟩
theorem wT {b:Tr} (hb:gD b) (hk:isE b.kd=true) (t:List UInt8) {d:Nat} (hd:d≤60) (n:Nat):sn 3 125 d ((3,t,(0,0))::(4,[58],(0,0))::zt (oP n b),[.mk 11 t (0,0) [],nd b],oD b):=by
 refine ⟨fun r hr=>?_,fun r=>rfl⟩;show Ev (fun f=>ce O2 f 3 ((3,t,(0,0))::(4,[58],(0,0))::(zt (oP n b)++r)) d) (res (oD b+d) (.ok [.mk 11 t (0,0) [],nd b] r));refine Ev.step (g:=fun f=>(bA O2 f (zt (oP n b)++r) d).then fun x r=>.ok [.mk 11 t (0,0) [],x] r) (fun f=>?_) ?_
 ·rw [ce,if_neg (by decide),if_neg (by decide),if_neg (by decide)];rfl
 ·refine Ev.fit (hb.e hk n r d hd hr) (fun h1=>?_) fun h1=>bV h1
  rw [cF h1];exact zdF _
theorem y8 (t:List UInt8) (l:List Tr) (h:fH 13 t (bD l)=true) (hok:ee l=true) (hl:∀ a ∈ l,gD a):gD (.mk 13 t l):=by
 have h':(t.isEmpty && nk (bD l))=true:=h;simp only [bAe] at h';obtain ⟨h1,h2⟩:=h';obtain rfl:=nP h1;have e:∀ n,zt (oP n (.mk 13 [] l))=(4,[123],(0,0))::(zt (b7 (oPs n l))++[(4,[125],(0,0))]):=fun n=>by
  rw [bP];show zt (sg 123::(b7 (oPs n l)++[sg 125]))=_;rw [gL,fm];rfl
 have hn:nd (.mk 13 [] l)=.mk 13 [] (0,0) (nds l):=by rw [gb];rfl
 have hD:oD (.mk 13 [] l)=b9 (oDs l)+1:=by rw [di];rfl
 have hp:=jB (x:=.mk 13 [] l) rfl (fun n r d hd hr=>by
  rw [e,hn,hD];have e2:(4,[123],(0,0))::(zt (b7 (oPs n l))++[(4,[125],(0,0))])++r=(4,[123],(0,0))::(zt (b7 (oPs n l))++(4,[125],(0,0))::r):=by simp
  rw [e2];refine Ev.step (g:=fun f=>(dW O2 true d ((4,[123],(0,0))::(zt (b7 (oPs n l))++(4,[125],(0,0))::r))).then fun _ _=>(bw O2 f 3 [125] true (zt (b7 (oPs n l))++(4,[125],(0,0))::r) (d+1)).then fun k r=>(cB O2 [125] r).then fun _ r=>.ok (.mk 13 [] (0,0) k) r) (fun f=>?_) ?_
  ·rw [bN];simp only [rI,kA,rF,iU,iN];by_cases h6:60≤d
   ·rw [if_pos h6];rfl
   ·rw [if_neg h6];rfl
  ·refine uR fun h6=>?_
   obtain ⟨p1,p2,p3,p4⟩:=nq n l h2 hok;have:=vy (k:=3) (up:=125) (by simp) h6 r (jV n l) (fun i hi=>by
    obtain ⟨t,b,hb,hk,rfl⟩:=p4 i hi;exact wT (hl b hb) hk t h6 n)
   rw [p1,p2,← p3] at this;exact this)
 exact ⟨fun _=>hp.1,fun _=>hp.2.1,fun _=>hp.2.2,fun _ n r c hc=>fY (e n) (ph hc (by simp)),fun _ n r hr=>lY (e n) rfl,fun h=>(by first | exact kno h (by decide) | exact bE h (by decide) | exact bF h (by decide)),fun h=>(by first | exact kno h (by decide) | exact bE h (by decide) | exact bF h (by decide)),fun h=>(by first | exact kno h (by decide) | exact bE h (by decide) | exact bF h (by decide)),fun h=>(by first | exact kno h (by decide) | exact bE h (by decide) | exact bF h (by decide)),fun h=>(by first | exact kno h (by decide) | exact bE h (by decide) | exact bF h (by decide)),fun h=>(by first | exact kno h (by decide) | exact bE h (by decide) | exact bF h (by decide))⟩
theorem jf {t:List UInt8} (h:aM t=true):ed t=false:=by unfold aM at h;simp only [bAe,Bool.not_eq_true'] at h;exact h.2
theorem zd (t:List UInt8) (l:List Tr) (h:fH 14 t (bD l)=true) (hl:∀ a ∈ l,gD a):gD (.mk 14 t l):=by
 have h':(aM t && (bD l).all (fun x=>x.1 == 15))=true:=h;simp only [bAe] at h';obtain ⟨h1,h2⟩:=h';have hres:=jf h1;have hk:=qE (q:=fun k=>k == 15) h2;have e:∀ n,zt (oP n (.mk 14 t l))=(1,t,(0,0))::(4,[40],(0,0))::(zt (aE (oPs n l))++[(4,[41],(0,0))]):=fun n=>by
  rw [bP];show zt ((1,t)::sg 40::(aE (oPs n l)++[sg 41]))=_;rw [fU _ (by decide),gL,fm];rfl
 have hn:nd (.mk 14 t l)=.mk 14 t (0,0) (nds l):=by rw [gb];rfl
 have hD:oD (.mk 14 t l)=b9 (oDs l)+1:=by rw [di];rfl
 have e2:∀ n r,(1,t,(0,0))::(4,[40],(0,0))::(zt (aE (oPs n l))++[(4,[41],(0,0))])++r=(1,t,(0,0))::(4,[40],(0,0))::(zt (aE (oPs n l))++(4,[41],(0,0))::r):=fun n r=>by simp
 have hc:∀ n r d,d≤60→Ev (fun f=>fq O2 f (zt (oP n (.mk 14 t l))++r) d) (res (oD (.mk 14 t l)+d) (.ok (nd (.mk 14 t l)) r)):=by
  intro n r d hd;rw [e,hn,hD,e2];refine Ev.step (g:=fun f=>(dW O2 true d ((4,[40],(0,0))::(zt (aE (oPs n l))++(4,[41],(0,0))::r))).then fun _ _=>(bw O2 f 1 [41] true (zt (aE (oPs n l))++(4,[41],(0,0))::r) (d+1)).then fun k r=>(cB O2 [41] r).then fun _ r=>.ok (.mk 14 t (0,0) k) r) (fun f=>?_) ?_
  ·rw [fq,kA,hres];show (dW O2 true d ((4,[40],(0,0))::(zt (aE (oPs n l))++(4,[41],(0,0))::r))).then _=_;simp only [iN];by_cases h6:60≤d
   ·rw [if_pos h6];rfl
   ·rw [if_neg h6];rfl
  ·exact uR fun h6=>oz (by simp) h6 (fun a ha=>by
    have hka:a.kd=15:=by simpa using hk a ha
    exact ⟨fun r hr=>(hl a ha).arg hka n r _ h6 hr,fun r=>(hl a ha).argh hka n r 41 (by simp)⟩) r
 have hp:=jB (x:=.mk 14 t l) rfl (fun n r d hd hr=>by
  refine Ev.step (fun f=>?_) (hc n r d hd);rw [e,e2,bN];simp only [rI,kA,tj,iU,hres];rfl)
 refine ⟨fun _=>hp.1,fun _=>hp.2.1,fun _=>hp.2.2,fun _ n r c hc=>fY (e n) rfl,fun _ n r hr=>?_,fun _=>hc,fun _ n=>⟨t,_,e n,hres⟩,fun h=>(by first | exact kno h (by decide) | exact bE h (by decide) | exact bF h (by decide)),fun h=>(by first | exact kno h (by decide) | exact bE h (by decide) | exact bF h (by decide)),fun h=>(by first | exact kno h (by decide) | exact bE h (by decide) | exact bF h (by decide)),fun h=>(by first | exact kno h (by decide) | exact bE h (by decide) | exact bF h (by decide))⟩;rw [e,e2,tj,iU];simp
theorem yW {a:Tr} (ha:rH a) (b:Bool) (n:Nat) (r:List Tok) (c:UInt8) (hc:c ∈ ([41,93,125]:List UInt8)):aT (zt (brk b (oP n a))++r) 0 [c]=false:=by
 cases b with
 | false=>exact ha n r c hc
 | true =>
   show aT (zt (sg 40::(oP n a++[sg 41]))++r) 0 [c]=false;rw [gL,List.cons_append,iU];exact ph hc (by simp)
theorem xP {a:Tr} (ha:yA a) (b:Bool) (n:Nat) (r:List Tok) (hr:aT r 0 [61]=false):(cd (zt (brk b (oP n a))++r) && aT (zt (brk b (oP n a))++r) 1 [61])=false:=by
 cases b with
 | false=>exact ha n r hr
 | true =>
   show (cd (zt (sg 40::(oP n a++[sg 41]))++r) && aT (zt (sg 40::(oP n a++[sg 41]))++r) 1 [61])=false;rw [gL,List.cons_append,kA];rfl
theorem zaO (l:List Tr) (h:fH 16 cj (bD l)=true) (hl:∀ a ∈ l,gD a):gD (.mk 16 cj l):=by
 have h':lq (bD l)=true:=h;obtain ⟨a,rfl⟩:∃ a,l=[a]:=by
  match l,h' with
  | [a],_=>exact ⟨a,rfl⟩
 have hk:isE a.kd=true:=h';have ha:=hl a (List.mem_cons_self ..);have e:∀ n,zt (oP n (.mk 16 cj [a]))=(1,cj,(0,0))::zt (brk (dY a.top) (oP n a)):=fun n=>by
  rw [bP,aY,dH];show zt ((1,cj)::sp::brk (dY a.top) (oP n a))=_;rw [fU _ (by decide),eX]
 have hn:nd (.mk 16 cj [a])=.mk 16 cj (0,0) [nd a]:=by rw [gb,cD,dQ];rfl
 have hD:oD (.mk 16 cj [a])=gW (dY a.top) (oD a)+1:=by rw [di,bj,co];rfl
 have hp:=jB (x:=.mk 16 cj [a]) rfl (fun n r d hd hr=>by
  rw [e,hn,hD,List.cons_append];refine Ev.step (g:=fun f=>(dW O2 true d ((1,cj,(0,0))::(zt (brk (dY a.top) (oP n a))++r))).then fun _ _=>(bN O2 f (zt (brk (dY a.top) (oP n a))++r) (d+1)).then fun x r=>.ok (.mk 16 cj (0,0) [x]) r) (fun f=>?_) ?_
  ·rw [bN];simp only [rI,kA,rF,iU,iN];by_cases h6:60≤d
   ·rw [if_pos h6];rfl
   ·rw [if_neg h6];rfl
  ·rw [iN];by_cases h6:60≤d
   ·rw [if_pos h6,bV (by omega)];exact zdF _
   ·rw [if_neg h6];show Ev (fun f=>(bN O2 f (zt (brk (dY a.top) (oP n a))++r) (d+1)).then fun x r=>PR.ok (Nd.mk 16 cj (0,0) [x]) r) _;refine Ev.fit (ha.prim hk n r (d+1) (by omega) hr) (fun h1=>?_) fun h1=>bV (by omega)
    rw [cF (by omega)];exact zdF _)
 exact ⟨fun _=>hp.1,fun _=>hp.2.1,fun _=>hp.2.2,fun _ n r c hc=>fY (e n) rfl,fun _ n r hr=>lY (e n) rfl,fun h=>(by first | exact kno h (by decide) | exact bE h (by decide) | exact bF h (by decide)),fun h=>(by first | exact kno h (by decide) | exact bE h (by decide) | exact bF h (by decide)),fun h=>(by first | exact kno h (by decide) | exact bE h (by decide) | exact bF h (by decide)),fun h=>(by first | exact kno h (by decide) | exact bE h (by decide) | exact bF h (by decide)),fun h=>(by first | exact kno h (by decide) | exact bE h (by decide) | exact bF h (by decide)),fun h=>(by first | exact kno h (by decide) | exact bE h (by decide) | exact bF h (by decide))⟩
theorem vg {t:List UInt8} (h:opB t=true) (p:Pl) (r:List Tok) (s:List UInt8) (hs:s=[40]∨s=[61]):aT ((if t=wIn then 1 else 4,t,p)::r) 0 s=false:=by
 unfold opB at h;simp only [Bool.or_eq_true,beq_iff_eq] at h;rw [iU];rcases h with ((rfl | rfl) | rfl) | rfl <;> rcases hs with rfl | rfl <;> decide
theorem zbN (t:List UInt8) (l:List Tr) (ht:t≠cj) (h:fH 16 t (bD l)=true) (hl:∀ a ∈ l,gD a):gD (.mk 16 t l):=by
 have h':(if t=cj then lq (bD l) else opB t && tX (bD l))=true:=h;rw [if_neg ht] at h';simp only [bAe] at h';obtain ⟨h1,h2⟩:=h';obtain ⟨a,b,rfl⟩:∃ a b,l=[a,b]:=by
  match l,h2 with
  | [a,b],_=>exact ⟨a,b,rfl⟩
 have h3:(isE a.kd && isE b.kd)=true:=h2;simp only [bAe] at h3;have ha:=hl a (by simp);have hb:=hl b (by simp);have e:∀ n,zt (oP n (.mk 16 t [a,b]))=zt (brk (dX a.top) (oP n a))++(if t=wIn then 1 else 4,t,(0,0))::zt (brk (hU t b.top) (oP n b)):=fun n=>by
  rw [bP,aY,aY,dH];have e1:es n 16 t (bD [a,b]) [oP n a,oP n b]=brk (dX a.top) (oP n a)++sp::opP t::sp::brk (hU t b.top) (oP n b):=by
   show (if t=cj then _ else _)=_;rw [if_neg ht];rfl
  show zt (es n 16 t (bD [a,b]) [oP n a,oP n b])=_;rw [e1,fm,eX,zc4,eX]
 have e2:∀ n r,zt (oP n (.mk 16 t [a,b]))++r=zt (brk (dX a.top) (oP n a))++(if t=wIn then 1 else 4,t,(0,0))::(zt (brk (hU t b.top) (oP n b))++r):=fun n r=>by rw [e];simp
 have hn:nd (.mk 16 t [a,b])=.mk 16 t (0,0) [nd a,nd b]:=by rw [gb,cD,cD,dQ];rfl
 have hD:oD (.mk 16 t [a,b])=max (gW (dX a.top) (oD a)) (gW (hU t b.top) (oD b)):=by
  rw [di,bj,bj,co];show (if t=cj then _ else _)=_;rw [if_neg ht];rfl
 have h2t:dY (Tr.mk 16 t [a,b]).top=true:=by
  show ((16:Int) == 16 && t != cj)=true;simpa using ht
 have hhead:rH (.mk 16 t [a,b]):=fun n r c hc=>by
  rw [e2];exact yW (ha.head h3.1) _ n _ c hc
 have hname:yA (.mk 16 t [a,b]):=fun n r hr=>by
  rw [e2];exact xP (ha.name h3.1) _ n _ (vg h1 _ _ _ (.inr rfl))
 have all:pR (.mk 16 t [a,b])∧tN (.mk 16 t [a,b])∧pJ (.mk 16 t [a,b]):=by
  by_cases hp:t=[43]
  ·subst hp;have hc:dX (Tr.mk 16 [43] [a,b]).top=false:=rfl;have hs:tN (.mk 16 [43] [a,b]):=by
    intro n r d y hd hr hy hz;rw [hc] at hy hz ⊢;have hbk:hU [43] b.top=dY b.top:=by
     show (dX b.top || (true && dY b.top))=_;rw [Bool.true_and];cases h5:dY b.top with
     | false=>rw [qC h5];rfl
     | true=>rw [Bool.or_true]
    show Ev (fun f=>gN O2 f (zt (oP n (.mk 16 [43] [a,b]))++r) d) y;rw [e2,hbk];have hD':gW false (oD (.mk 16 [43] [a,b]))=max (gW (dX a.top) (oD a)) (gW (dY b.top) (oD b)):=by
     show oD (.mk 16 [43] [a,b])=_;rw [hD,hbk]
    rw [hD'] at hy hz;refine ha.sum h3.1 n _ d y hd rfl (fun hfa=>?_) fun hfa=>hz (by omega)
    refine Ev.step (g:=fun f=>(bN O2 f (zt (brk (dY b.top) (oP n b))++r) d).then fun y r=>fk O2 f (.mk 16 [43] (0,0) [nd a,y]) r d) (fun f=>?_) ?_
    ·rw [fk];rfl
    ·refine Ev.fit (hb.prim h3.2 n r d hd hr) (fun h1=>?_) fun h1=>hz (by omega)
     rw [← hn];exact hy (by omega)
   have he:=nn hc hs;exact ⟨he,hs,l5 h2t he⟩
  ·have hbk:hU t b.top=dX b.top:=by
    show (dX b.top || (t == [43] && dY b.top))=_;rw [show (t == [43])=false by simpa using hp];simp
   have hc:dX (Tr.mk 16 t [a,b]).top=true:=by
    show (dY (Tr.mk 16 t [a,b]).top && t != [43])=true;rw [h2t];simpa using hp
   have hplus:∀ p r,aT ((if t=wIn then 1 else 4,t,p)::r) 0 [43]=false:=fun p r=>by
    rw [iU,show (t == [43])=false by simpa using hp,Bool.and_false]
   have hop:∀ p r,(aT ((if t=wIn then 1 else 4,t,p)::r) 0 [61,61] || aT ((if t=wIn then 1 else 4,t,p)::r) 0 [33,61] || bL ((if t=wIn then 1 else 4,t,p)::r) wIn)=true:=fun p r=>by
    rw [iU,iU,rF];unfold opB at h1;simp only [Bool.or_eq_true,beq_iff_eq] at h1;rcases h1 with ((rfl | rfl) | rfl) | rfl
    ·decide
    ·decide
    ·decide
    ·exact absurd rfl hp
   have he:pR (.mk 16 t [a,b]):=by
    intro n r d hd hr;rw [e2,hn,hD,hbk];refine Ev.step (g:=fun f=>(gN O2 f (zt (brk (dX a.top) (oP n a))++(if t=wIn then 1 else 4,t,(0,0))::(zt (brk (dX b.top) (oP n b))++r)) d).then fun x r =>
     if (aT r 0 [61,61] || aT r 0 [33,61] || bL r wIn)=true then (bl O2 true r).then fun t r=>(gN O2 f r d).then fun y r=>.ok (.mk 16 t.2.1 t.2.2 [x,y]) r
     else .ok x r) (fun f=>by rw [bA]) ?_
    refine Ev.fit (ru (ha.sum h3.1) n _ d hd (vg h1 _ _ _ (.inl rfl)) (hplus _ _)) (fun hf=>?_) fun hf=>bV (by omega)
    simp only [hop,if_true];show Ev (fun f=>(gN O2 f (zt (brk (dX b.top) (oP n b))++r) d).then fun y r=>PR.ok (Nd.mk 16 t (0,0) [nd a,y]) r) _;refine Ev.fit (ru (hb.sum h3.2) n r d hd hr.call hr.plus) (fun hf2=>?_) fun hf2=>bV (by omega)
    rw [cF (by omega)];exact zdF _
   have hpp:=l5 h2t he;exact ⟨he,nj (by rw [hc,h2t]) hpp,hpp⟩
 exact ⟨fun _=>all.1,fun _=>all.2.1,fun _=>all.2.2,fun _=>hhead,fun _=>hname,fun h=>(by first | exact kno h (by decide) | exact bE h (by decide) | exact bF h (by decide)),fun h=>(by first | exact kno h (by decide) | exact bE h (by decide) | exact bF h (by decide)),fun h=>(by first | exact kno h (by decide) | exact bE h (by decide) | exact bF h (by decide)),fun h=>(by first | exact kno h (by decide) | exact bE h (by decide) | exact bF h (by decide)),fun h=>(by first | exact kno h (by decide) | exact bE h (by decide) | exact bF h (by decide)),fun h=>(by first | exact kno h (by decide) | exact bE h (by decide) | exact bF h (by decide))⟩
theorem za8 (t:List UInt8) (l:List Tr) (h:fH 15 t (bD l)=true) (hl:∀ a ∈ l,gD a):gD (.mk 15 t l):=by
 have h':((t.isEmpty || aM t) && lq (bD l))=true:=h;simp only [bAe] at h';obtain ⟨h1,h2⟩:=h';obtain ⟨a,rfl⟩:∃ a,l=[a]:=by
  match l,h2 with
  | [a],_=>exact ⟨a,rfl⟩
 have hk:isE a.kd=true:=h2;have ha:=hl a (List.mem_cons_self ..);have hn:nd (.mk 15 t [a])=.mk 15 t (0,0) [nd a]:=by rw [gb,cD,dQ];rfl
 have hD:oD (.mk 15 t [a])=oD a:=by
  rw [di,bj,co];show max (oD a) 0=_;omega
 by_cases ht:t=[]
 ·subst ht;have e:∀ n,oP n (.mk 15 [] [a])=oP n a:=fun n=>by rw [bP,aY,dH];rfl
  refine ⟨fun h=>(by first | exact kno h (by decide) | exact bE h (by decide) | exact bF h (by decide)),fun h=>(by first | exact kno h (by decide) | exact bE h (by decide) | exact bF h (by decide)),fun h=>(by first | exact kno h (by decide) | exact bE h (by decide) | exact bF h (by decide)),fun h=>(by first | exact kno h (by decide) | exact bE h (by decide) | exact bF h (by decide)),fun h=>(by first | exact kno h (by decide) | exact bE h (by decide) | exact bF h (by decide)),fun h=>(by first | exact kno h (by decide) | exact bE h (by decide) | exact bF h (by decide)),fun h=>(by first | exact kno h (by decide) | exact bE h (by decide) | exact bF h (by decide)),fun _ n r d hd hr=>?_,fun _ n r c hc=>by rw [e];exact ha.head hk n r c hc,fun h=>(by first | exact kno h (by decide) | exact bE h (by decide) | exact bF h (by decide)),fun h=>(by first | exact kno h (by decide) | exact bE h (by decide) | exact bF h (by decide))⟩;rw [e,hn,hD];have hz:(atT O2 (zt (oP n a)++r) 0).2.2=(0,0)∨zt (oP n a)=[]:=by
   cases e1:zt (oP n a) with
   | nil=>exact .inr rfl
   | cons x u =>
     left;have hx:x ∈ zt (oP n a):=by rw [e1];simp
     unfold zt at hx;obtain ⟨p,_,rfl⟩:=List.mem_map.1 hx;rfl
  have hne:zt (oP n a)≠[]:=by
   intro e1;have:=ha.head hk n [(4,[41],(0,0))] 41 (by simp);rw [e1] at this;exact absurd this (by decide)
  refine Ev.step (g:=fun f=>(bA O2 f (zt (oP n a)++r) d).then fun x r'=>.ok [.mk 15 [] (0,0) [x]] r') (fun f=>?_) ?_
  ·rw [ce,if_neg (by decide),if_pos rfl];simp only [ha.name hk n r hr.eq1,Bool.false_eq_true,if_false,hz.resolve_right hne]
  ·refine Ev.fit (ha.e hk n r d hd hr) (fun h1=>?_) fun h1=>bV h1
   rw [cF h1];exact zdF _
 ·have hnm:aM t=true:=by
   simp only [Bool.or_eq_true,List.isEmpty_iff] at h1;exact h1.resolve_left ht
  have hres:=jf hnm;have e:∀ n,zt (oP n (.mk 15 t [a]))=(1,t,(0,0))::(4,[61],(0,0))::zt (oP n a):=fun n=>by
   rw [bP,aY,dH];have e1:es n 15 t (bD [a]) [oP n a]=(1,t)::sp::sg 61::sp::oP n a:=by
    show (if t=[] then _ else _)=_;rw [if_neg ht];rfl
   show zt (es n 15 t (bD [a]) [oP n a])=_;rw [e1,fU _ (by decide),eX,gL,eX]
  refine ⟨fun h=>(by first | exact kno h (by decide) | exact bE h (by decide) | exact bF h (by decide)),fun h=>(by first | exact kno h (by decide) | exact bE h (by decide) | exact bF h (by decide)),fun h=>(by first | exact kno h (by decide) | exact bE h (by decide) | exact bF h (by decide)),fun h=>(by first | exact kno h (by decide) | exact bE h (by decide) | exact bF h (by decide)),fun h=>(by first | exact kno h (by decide) | exact bE h (by decide) | exact bF h (by decide)),fun h=>(by first | exact kno h (by decide) | exact bE h (by decide) | exact bF h (by decide)),fun h=>(by first | exact kno h (by decide) | exact bE h (by decide) | exact bF h (by decide)),fun _ n r d hd hr=>?_,fun _ n r c hc=>fY (e n) rfl,fun h=>(by first | exact kno h (by decide) | exact bE h (by decide) | exact bF h (by decide)),fun h=>(by first | exact kno h (by decide) | exact bE h (by decide) | exact bF h (by decide))⟩;rw [e,hn,hD];refine Ev.step (g:=fun f=>(bA O2 f (zt (oP n a)++r) d).then fun x r'=>.ok [.mk 15 t (0,0) [x]] r') (fun f=>?_) ?_
  ·show ce O2 (f+1) 1 ((1,t,(0,0))::(4,[61],(0,0))::(zt (oP n a)++r)) d=_;rw [ce,if_neg (by decide),if_pos rfl];simp only [kA,tj,iU,hres];rfl
  ·refine Ev.fit (ha.e hk n r d hd hr) (fun h1=>?_) fun h1=>bV h1
   rw [cF h1];exact zdF _
theorem zQ (t:List UInt8) (l:List Tr) (h:fH 7 t (bD l)=true) (hok:ee l=true) (hl:∀ a ∈ l,gD a):gD (.mk 7 t l):=by
 have h':(aM t && oU (bD l))=true:=h;simp only [bAe] at h';obtain ⟨h1,h2⟩:=h';have hres:=jf h1;obtain ⟨a,u,rfl,ha⟩:∃ a u,l=a::u∧(a.kd == 9 && cY a.tx)=true:=by
  match l,h2 with
  | [a],h=>exact ⟨a,[],rfl,h⟩
  | [a,b],h =>
    have h:(a.kd == 9 && cY a.tx && isE b.kd)=true:=h;simp only [bAe] at h;exact ⟨a,[b],rfl,by simp only [bAe];exact h.1⟩
 obtain ⟨ty,rfl⟩:∃ ty,a=.mk 9 ty []:=by
  cases a with
  | mk k ty al =>
    rw [bM] at hok;simp only [bAe] at hok;simp only [bAe,beq_iff_eq] at ha;obtain rfl:k=9:=ha.1;have:=hok.1;rw [d7] at this;simp only [bAe] at this;have h5:((bD al).isEmpty && aM ty)=true:=this.1;simp only [bAe] at h5;obtain rfl:=ig h5.1;exact ⟨ty,rfl⟩
 have hty:cY ty=true:=by simp only [bAe] at ha;exact ha.2
 have hn9:nd (.mk 9 ty [])=.mk 9 ty (0,0) []:=by rw [gb,dQ];rfl
 have hD9:oD (.mk 9 ty [])=0:=by rw [di,co];rfl
 rcases u with _ | ⟨b,u⟩
 ·have e:∀ n,zt (oP n (.mk 7 t [.mk 9 ty []]))=[(1,t,(0,0)),(4,[58],(0,0)),(1,ty,(0,0))]:=fun n=>by
   rw [bP,aY,dH];rfl
  have hn:nd (.mk 7 t [.mk 9 ty []])=.mk 7 t (0,0) [.mk 9 ty (0,0) []]:=by rw [gb,cD,dQ,hn9];rfl
  have hD:oD (.mk 7 t [.mk 9 ty []])=0:=by
   rw [di,bj,co,hD9];rfl
  refine ⟨fun h=>(by first | exact kno h (by decide) | exact bE h (by decide) | exact bF h (by decide)),fun h=>(by first | exact kno h (by decide) | exact bE h (by decide) | exact bF h (by decide)),fun h=>(by first | exact kno h (by decide) | exact bE h (by decide) | exact bF h (by decide)),fun h=>(by first | exact kno h (by decide) | exact bE h (by decide) | exact bF h (by decide)),fun h=>(by first | exact kno h (by decide) | exact bE h (by decide) | exact bF h (by decide)),fun h=>(by first | exact kno h (by decide) | exact bE h (by decide) | exact bF h (by decide)),fun h=>(by first | exact kno h (by decide) | exact bE h (by decide) | exact bF h (by decide)),fun h=>(by first | exact kno h (by decide) | exact bE h (by decide) | exact bF h (by decide)),fun h=>(by first | exact kno h (by decide) | exact bE h (by decide) | exact bF h (by decide)),fun _ n r d hd hr=>?_,fun _ n r c hc=>fY (e n) rfl⟩;rw [e,hn,hD,cF (by omega)];refine Ev.step (g:=fun _=>.ok [.mk 7 t (0,0) [.mk 9 ty (0,0) []]] r) (fun f=>?_) (zdF _);show ce O2 (f+1) 0 ((1,t,(0,0))::(4,[58],(0,0))::(1,ty,(0,0))::r) d=_;rw [ce,if_pos rfl,kA,hres];have ht:gi ((1,ty,(0,0))::r)=true:=hty;show (bl O2 (gi ((1,ty,(0,0))::r)) ((1,ty,(0,0))::r)).then _=_;rw [ht];show (if aT r 0 [61]=true then _ else _)=_;rw [if_neg (by rw [hr.eq1];simp)]
 ·obtain rfl:u=[]:=by
   rcases u with _ | ⟨c,u⟩
   ·rfl
   ·cases h2
  have hk:isE b.kd=true:=by
   have h:((9:Int) == 9 && cY ty && isE b.kd)=true:=h2;simp only [bAe] at h;exact h.2
  have hb:=hl b (by simp);have e:∀ n,zt (oP n (.mk 7 t [.mk 9 ty [],b]))=(1,t,(0,0))::(4,[58],(0,0))::(1,ty,(0,0))::(4,[61],(0,0))::zt (oP n b):=fun n=>by
   rw [bP,aY,aY,dH];show zt ((1,t)::sg 58::sp::(1,ty)::sp::sg 61::sp::oP n b)=_;rw [fU _ (by decide),gL,eX,fU _ (by decide),eX,gL,eX]
  have hn:nd (.mk 7 t [.mk 9 ty [],b])=.mk 7 t (0,0) [.mk 9 ty (0,0) [],nd b]:=by rw [gb,cD,cD,dQ,hn9];rfl
  have hD:oD (.mk 7 t [.mk 9 ty [],b])=oD b:=by
   rw [di,bj,bj,co,hD9];show max 0 (max (oD b) 0)=_;omega
  refine ⟨fun h=>(by first | exact kno h (by decide) | exact bE h (by decide) | exact bF h (by decide)),fun h=>(by first | exact kno h (by decide) | exact bE h (by decide) | exact bF h (by decide)),fun h=>(by first | exact kno h (by decide) | exact bE h (by decide) | exact bF h (by decide)),fun h=>(by first | exact kno h (by decide) | exact bE h (by decide) | exact bF h (by decide)),fun h=>(by first | exact kno h (by decide) | exact bE h (by decide) | exact bF h (by decide)),fun h=>(by first | exact kno h (by decide) | exact bE h (by decide) | exact bF h (by decide)),fun h=>(by first | exact kno h (by decide) | exact bE h (by decide) | exact bF h (by decide)),fun h=>(by first | exact kno h (by decide) | exact bE h (by decide) | exact bF h (by decide)),fun h=>(by first | exact kno h (by decide) | exact bE h (by decide) | exact bF h (by decide)),fun _ n r d hd hr=>?_,fun _ n r c hc=>fY (e n) rfl⟩;rw [e,hn,hD];refine Ev.step (g:=fun f=>(bA O2 f (zt (oP n b)++r) d).then fun x r'=>.ok [.mk 7 t (0,0) [.mk 9 ty (0,0) [],x]] r') (fun f=>?_) ?_
  ·show ce O2 (f+1) 0 ((1,t,(0,0))::(4,[58],(0,0))::(1,ty,(0,0))::(4,[61],(0,0))::(zt (oP n b)++r)) d=_;rw [ce,if_pos rfl,kA,hres];have ht:gi ((1,ty,(0,0))::(4,[61],(0,0))::(zt (oP n b)++r))=true:=hty;show (bl O2 (gi ((1,ty,(0,0))::(4,[61],(0,0))::(zt (oP n b)++r))) ((1,ty,(0,0))::(4,[61],(0,0))::(zt (oP n b)++r))).then _=_;rw [ht];rfl
  ·refine Ev.fit (hb.e hk n r d hd hr) (fun h1=>?_) fun h1=>bV h1
   rw [cF h1];exact zdF _
theorem xH {x:Tr} (h:isE x.kd=false) (h14:x.kd≠14) (h15:x.kd≠15) (h7:x.kd≠7):gD x :=
 ⟨fun e=>absurd (h.symm.trans e) (by decide),fun e=>absurd (h.symm.trans e) (by decide),fun e=>absurd (h.symm.trans e) (by decide),fun e=>absurd (h.symm.trans e) (by decide),fun e=>absurd (h.symm.trans e) (by decide),fun e=>absurd e h14,fun e=>absurd e h14,fun e=>absurd e h15,fun e=>absurd e h15,fun e=>absurd e h7,fun e=>absurd e h7⟩
theorem zf (k:Int) (t:List UInt8) (l:List Tr) (h:okT (.mk k t l)=true) (hl:∀ a ∈ l,gD a):gD (.mk k t l):=by
 rw [d7] at h;simp only [bAe] at h;obtain ⟨h1,h2⟩:=h;by_cases e9:k=9
 ·subst e9;exact zj t l h1
 by_cases e10:k=10
 ·subst e10;exact zaG t l h1
 by_cases e11:k=11
 ·subst e11;exact y6 t l h1
 by_cases e12:k=12
 ·subst e12;exact zB t l h1 hl
 by_cases e13:k=13
 ·subst e13;exact y8 t l h1 h2 hl
 by_cases e14:k=14
 ·subst e14;exact zd t l h1 hl
 by_cases e16:k=16
 ·subst e16;by_cases ht:t=cj
  ·subst ht;exact zaO l h1 hl
  ·exact zbN t l ht h1 hl
 by_cases e15:k=15
 ·subst e15;exact za8 t l h1 hl
 by_cases e7:k=7
 ·subst e7;exact zQ t l h1 h2 hl
 refine xH ?_ e14 e15 e7;rw [bX];unfold isE;simp [e9,e10,e11,e12,e13,e14,e16]
mutual
theorem zl:∀ x:Tr,okT x=true→gD x
 | .mk k t l,h=>zf k t l h (mL l (by rw [d7] at h;simp only [bAe] at h;exact h.2))
theorem mL:∀ l:List Tr,ee l=true→∀ a ∈ l,gD a
 | [],_,_,ha=>by cases ha
 | x::r,h,a,ha=>by
   rw [bM] at h;simp only [bAe] at h;rcases List.mem_cons.1 ha with e | ha
   ·rw [e];exact zl x h.1
   ·exact mL r h.2 a ha
end
end Go.Proofs.YtfgiihpopngbkaaGreatDoor
