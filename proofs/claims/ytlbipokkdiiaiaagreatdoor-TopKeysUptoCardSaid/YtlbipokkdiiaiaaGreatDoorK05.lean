/- Lemmas for TopKeysUpto: W1, F2, F3, F4, W2, W3, W4. -/
import Derived.Test.YtlbipokkdiiaiaaGreatDoorK01
import Derived.Test.YtlbipokkdiiaiaaGreatDoorK04
import Derived.Deep.MidRow
import Derived.Deep.Cut
import Derived.WideKeyArr
import Derived.MapFrom
import Derived.Carry
namespace Go.Proofs.YtlbipokkdiiaiaaGreatDoor
open Go.RowKit Exec
set_option maxRecDepth 100000
abbrev Dg:={l:List UInt8 // l.length=32}
def dgc (d:Dg):List Value:=Lib.byteCells d.1
def dgv (d:Dg):Value:=.agg (dgc d).toArray
def dg0:Dg:=⟨List.replicate 32 0,rfl⟩
theorem dD (d:Dg):(dgc d).length=32:=by unfold dgc;rw[aU];exact d.2
theorem ng (d:Dg):∀u∈dgc d,u.oneCell'=true:=pE d.1
theorem qs:∀{a b:List UInt8},Lib.byteCells a=Lib.byteCells b→a=b
 |[],[],_=>rfl
 |[],_::_,h=>by simp[Lib.byteCells] at h
 |_::_,[],h=>by simp[Lib.byteCells] at h
 |x::a,y::b,h=>by
  simp only[Lib.byteCells,List.map_cons,List.cons.injEq,Value.int.injEq,true_and] at h
  rw[qs (show Lib.byteCells a=Lib.byteCells b from h.2)]
  congr 1
  have:=h.1
  exact UInt8.toNat_inj.1 (by omega)
theorem zca {d e:Dg} (h:dgc d=dgc e):d=e:=Subtype.ext (qs h)
theorem iS:∀(a b:List UInt8),a.length=b.length→bU (Lib.byteCells a) (Lib.byteCells b)=some (decide (a=b))
 |[],[],_=>by simp[Lib.byteCells,bU]
 |[],_::_,h=>by simp at h
 |_::_,[],h=>by simp at h
 |x::a,y::b,h=>by
  have ih:=iS a b (by simpa using h)
  simp only[Lib.byteCells,List.map_cons,bU,if_true] at ih ⊢
  rw[ih]
  simp only[Option.map_some,Option.some.injEq,List.cons.injEq]
  by_cases e:x=y
  ·subst e;simp
  ·have:((x.toNat:Int)==(y.toNat:Int))=false:=beq_eq_false_iff_ne.2 fun h=>e (UInt8.toNat_inj.1 (by omega))
   rw[this];simp[e]
theorem zdD (d e:Dg) (n:Nat):bQ Tryz.prog (n+1) 31 (dgv d) (dgv e)=some (decide (d=e)):=by
 have hu:Tryz.prog.underlying 31=some (.array 32 5):=by kernel_rfl
 have hi:Tryz.prog.underlying 5=some (.int .u8):=by kernel_rfl
 obtain⟨i,hi2,hz⟩:∃i,Tryz.prog.info? 5=some i∧i.size=1:=⟨_,rfl,by kernel_rfl⟩
 unfold bQ dgv
 simp only[hu,hi,hi2,hz,List.size_toArray,dD]
 have:=iS d.1 e.1 (by rw[d.2,e.2])
 simp only[beq_self_eq_true,Bool.and_self,if_true]
 show bU (dgc d) (dgc e)=_
 unfold dgc
 rw[this]
 simp only[Option.some.injEq,decide_eq_decide]
 exact⟨fun h=>Subtype.ext h,fun h=>by rw[h]⟩
theorem zcr (t:TypeId) (x y:Array Value):binOp .neq t (.agg x) (.agg y)=(do pure (.bool (!(←Op.equal t (.agg x) (.agg y))))):=rfl
structure RdL where
 path:List UInt8
 is:Bool
 sum:Dg
 deriving DecidableEq
def RdL.cells (r:RdL):List Value:=.string (bs r.path)::.bool r.is::dgc r.sum
theorem RdL.len (r:RdL):r.cells.length=34:=by simp[RdL.cells,dD]
theorem RdL.one (r:RdL):∀u∈r.cells,u.oneCell'=true:=by
 intro u hu
 simp only[RdL.cells,List.mem_cons] at hu
 rcases hu with rfl|rfl|hu
 ·rfl
 ·rfl
 ·exact ng _ u hu
theorem zb1 (a b:List UInt8) (n:Nat):bQ Tryz.prog (n+1) 9 (.string (bs a)) (.string (bs b))=some (decide (a=b)):=by
 have hu:Tryz.prog.underlying 9=some .string:=by kernel_rfl
 unfold bQ
 simp only[hu,Option.some.injEq]
 show(a.toArray==b.toArray)=_
 by_cases h:a=b
 ·subst h;simp
 ·rw[decide_eq_false h]
  exact beq_eq_false_iff_ne.2 fun e=>h (by simpa using e)
theorem zcZ (a b:Bool) (n:Nat):bQ Tryz.prog (n+1) 4 (.bool a) (.bool b)=some (decide (a=b)):=by
 have hu:Tryz.prog.underlying 4=some .bool:=by kernel_rfl
 unfold bQ
 simp only[hu,Option.some.injEq]
 cases a<;>cases b<;>rfl
theorem zdj (c:Array Value) (o:Nat) (d:Dg) (h:c.extract o (o+32)=(dgc d).toArray):dF Tryz.prog 31 c o=some (dgv d):=by
 have hu:Tryz.prog.underlying 31=some (.array 32 5):=by kernel_rfl
 obtain⟨i,hi2,hz⟩:∃i,Tryz.prog.info? 31=some i∧i.size=32:=⟨_,rfl,by kernel_rfl⟩
 unfold dF
 simp only[hu,hi2,hz,h];rfl
theorem td (c:Array Value) (o:Nat):dF Tryz.prog 9 c o=c[o]?:=by
 have hu:Tryz.prog.underlying 9=some .string:=by kernel_rfl
 obtain⟨i,hi⟩:∃i,Tryz.prog.info? 9=some i:=⟨_,rfl⟩
 unfold dF
 simp only[hu,hi]
theorem yZ (c:Array Value) (o:Nat):dF Tryz.prog 4 c o=c[o]?:=by
 have hu:Tryz.prog.underlying 4=some .bool:=by kernel_rfl
 obtain⟨i,hi⟩:∃i,Tryz.prog.info? 4=some i:=⟨_,rfl⟩
 unfold dF
 simp only[hu,hi]
theorem vg (l r:List Value) (n:Nat) (h:r.length=n) (o:Nat) (ho:l.length=o):(l++r).toArray.extract o (o+n)=r.toArray:=by
 subst ho h
 apply Array.ext'
 simp[List.extract_eq_take_drop]
theorem zeC (r s:RdL) (n:Nat):bQ Tryz.prog (n+2) 100 (.agg r.cells.toArray) (.agg s.cells.toArray)=some (decide (r=s)):=by
 obtain⟨f0,f1,f2,hu,k0,k1,k2⟩:∃f0 f1 f2:Field,Tryz.prog.underlying 100=some (.struct #[f0,f1,f2])∧(f0.name≠ "_"∧f0.type=9∧f0.offset=0)∧(f1.name≠ "_"∧f1.type=4∧f1.offset=1)∧(f2.name≠ "_"∧f2.type=31∧f2.offset=2):=
  ⟨_,_,_,rfl,⟨by decide,by kernel_rfl,by kernel_rfl⟩,⟨by decide,by kernel_rfl,by kernel_rfl⟩,⟨by decide,by kernel_rfl,by kernel_rfl⟩⟩
 have hs:Tryz.prog.stoodInHeld 100=false:=by kernel_rfl
 have p2:∀q:RdL,dF Tryz.prog 31 q.cells.toArray 2=some (dgv q.sum):=fun q=>zdj _ 2 q.sum (vg [.string (bs q.path),.bool q.is] (dgc q.sum) 32 (dD _) 2 rfl)
 unfold bQ
 simp only[hu,hs,Bool.false_eq_true,if_false,cN,k0.1,k0.2.1,k0.2.2,k1.1,k1.2.1,k1.2.2,k2.1,k2.2.1,k2.2.2,p2,td,yZ]
 simp only[RdL.cells,List.getElem?_toArray,List.getElem?_cons_zero,List.getElem?_cons_succ,zb1,zcZ,zdD]
 obtain⟨p,i,d⟩:=r
 obtain⟨q,j,e⟩:=s
 by_cases h1:p=q
 ·by_cases h2:i=j
  ·by_cases h3:d=e
   ·simp[h1,h2,h3]
   ·simp[h1,h2,h3]
  ·simp[h1,h2]
 ·simp[h1]
inductive bY {α:Type} (f:α→Option α):α→α→Prop
 |refl (a:α):bY f a a
 |step {a b c:α}:f a=some b→bY f b c→bY f a c
theorem bY.tail {α:Type} {f:α→Option α} {a b c:α} (h:bY f a b) (h1:f b=some c):bY f a c:=by
 induction h with
 |refl a=>exact .step h1 (.refl _)
 |step h2 _ ih=>exact .step h2 (ih h1)
theorem bY.one {α:Type} {f:α→Option α} {a b c:α} (h:bY f a b) (hb:f b=none) (h1:bY f a c) (hc:f c=none):b=c:=by
 induction h generalizing c with
 |refl a=>
  cases h1 with
  |refl=>rfl
  |step h2 _=>rw[hb] at h2;cases h2
 |step h2 _ ih=>
  cases h1 with
  |refl=>rw[hc] at h2;cases h2
  |step h3 h4=>
   rw[h2] at h3
   cases h3
   exact ih hb h4 hc
open Classical in
noncomputable def pi {α:Type} (f:α→Option α) (a:α):α:=if h:∃b,bY f a b∧f b=none then h.choose else a
theorem fw {α:Type} {f:α→Option α} {a b:α} (h:bY f a b) (hb:f b=none):pi f a=b:=by
 have he:∃b,bY f a b∧f b=none:=⟨b,h,hb⟩
 unfold pi
 rw[dif_pos he]
 exact he.choose_spec.1.one he.choose_spec.2 h hb
theorem ni {α:Type} {f:α→Option α} (m:α→Nat) (I:α→Prop) (hm:∀a b,I a→f a=some b→I b∧m b<m a):∀(n:Nat) (a:α),I a→m a≤n→∃b,bY f a b∧f b=none∧I b
 |n,a,hi,hn=>by
  cases h:f a with
  |none=>exact⟨a,.refl _,h,hi⟩
  |some b=>
   obtain⟨hb,hl⟩:=hm a b hi h
   match n,hn with
   |0,hn=>omega
   |n+1,hn=>
    obtain⟨c,h1,h2,h3⟩:=ni m I hm n b hb (by omega)
    exact⟨c,.step h h1,h2,h3⟩
noncomputable def eU (env:Txt→Option Txt) (r:aw):aw:=pi (bO env) r
noncomputable def bP (env:Txt→Option Txt) (r:aw):DoL×aw:=
 if(eU env r).waits=true then(⟨1,(eU env r).asks,[],0⟩,eU env r)
 else((eU env r).over,if(eU env r).over.kind=2 then{eU env r with over:=do0} else eU env r)
structure ByL where
 env:Txt→Option Txt
 may:Txt→Bool
 outs:List Txt
structure bG where
 run:aw
 wrote:List (Txt×Txt)
 reads:List KnL
 asks:Txt
 over:Bool
 why:Nat
def bG.has (b:bG) (p:Txt):Bool:=b.wrote.any fun x=>decide (x.1=p)
def ez (b:bG) (e:Nat):bG:={b with over:=true,why:=e}
def dx (y:ByL) (b:bG) (p d:Txt):bG:=if b.has p=true∨p∉y.outs then ez b 14 else{b with wrote:=b.wrote++[(p,d)]}
noncomputable def cv (y:ByL) (b:bG):Option bG:=
 if b.over=true then none
 else if(bP y.env b.run).1.kind=1 then(if y.may (bP y.env b.run).1.path=true then none else some (ez {b with run:=(bP y.env b.run).2} 13))
 else if(bP y.env b.run).1.kind=2 then some (dx y {b with run:=(bP y.env b.run).2} (bP y.env b.run).1.path (bP y.env b.run).1.data)
 else if(bP y.env b.run).1.kind=3 then some (if y.outs.any (fun p=>!b.has p)=true then ez {b with run:=(bP y.env b.run).2} 14 else{b with run:=(bP y.env b.run).2,over:=true})
 else some (ez {b with run:=(bP y.env b.run).2} (bP y.env b.run).1.why)
noncomputable def mG (y:ByL) (b:bG):bG:=if b.over=true then b else{b with run:=(bP y.env b.run).2,asks:=(bP y.env b.run).1.path}
noncomputable def goB (y:ByL) (b:bG):bG:=mG y (pi (cv y) b)
def lO (l:List bS):aw:=⟨l,[],[],[],[],[],[],false,do0⟩
noncomputable def pH (y:ByL) (l:List bS):bG:=goB y ⟨lO l,[],[],[],false,0⟩
def gD (r:aw) (k:KnL):aw:={r with known:=r.known++[k],asks:=[],waits:=false}
noncomputable def fY (y:ByL) (b:bG) (k:KnL):bG:=goB y {b with reads:=b.reads++[k],run:=gD b.run k}
noncomputable def iw (y:ByL) (ans:Txt→Option KnL) (b:bG):Option bG:=if b.over=true then none else(ans b.asks).map (fY y b)
noncomputable def iT (y:ByL) (ans:Txt→Option KnL) (l:List bS):bG:=pi (iw y ans) (pH y l)
def lnK (k:KnL):Nat:=(aq k.data).length+1
def mK (l:List KnL):Nat:=(l.map lnK).sum
def sK (l:List KnL) (seen:List Txt):Nat:=((l.filter fun k=>decide (k.path∉seen)).map lnK).sum
def twL (l:List KnL):gm→Nat
 |.line _=>1
 |.told p _=>1+(match l.find? fun k=>decide (k.path=p) with|some k=>(aq k.data).length|none=>0)
def fV (l:List KnL) (t:List gm):Nat:=(t.map (twL l)).sum
def nuL (r:aw):Nat:=r.cmds.length*(mK r.known+2)+sK r.known r.seen+fV r.known r.top
def jD (r:aw):Nat:=if r.over.kind=0∧r.waits=false then 1 else 0
def muL (r:aw):Nat:=nuL r+jD r
theorem eX (r:aw):jD r≤1:=by unfold jD;split<;>omega
theorem zdF (l:List KnL) (s:List Txt):sK l s≤mK l:=by
 unfold sK mK
 induction l with
 |nil=>simp
 |cons k l ih=>
  rw[List.filter_cons]
  split
  ·simp only[List.map_cons,List.sum_cons];omega
  ·simp only[List.map_cons,List.sum_cons];omega
theorem wP (l:List KnL) (s:List Txt) (b:Txt):sK l (b::s)≤sK l s:=by
 unfold sK
 induction l with
 |nil=>simp
 |cons k l ih=>
  rw[List.filter_cons,List.filter_cons]
  by_cases h1:k.path∈s
  ·have h2:k.path∈b::s:=List.mem_cons_of_mem _ h1
   rw[if_neg (by rw[decide_eq_true_eq];exact fun h=>h h2),if_neg (by rw[decide_eq_true_eq];exact fun h=>h h1)]
   exact ih
  ·rw[if_pos (c:=decide (k.path∉s)=true) (by simpa using h1)]
   split
   ·simp only[List.map_cons,List.sum_cons];omega
   ·simp only[List.map_cons,List.sum_cons];omega
theorem wY (l:List KnL) (s:List Txt) (b:Txt) (k:KnL) (hk:(l.find? fun k=>decide (k.path=b))=some k) (hb:b∉s):sK l (b::s)+lnK k≤sK l s:=by
 induction l with
 |nil=>simp at hk
 |cons x l ih=>
  rw[List.find?_cons] at hk
  by_cases h1:x.path=b
  ·rw[decide_eq_true h1] at hk
   simp only[Option.some.injEq] at hk
   subst hk
   have h2:=wP l s b
   unfold sK at h2 ⊢
   rw[List.filter_cons,List.filter_cons,if_neg (by simp[h1]),if_pos (by simpa[h1] using hb)]
   simp only[List.map_cons,List.sum_cons]
   omega
  ·rw[decide_eq_false h1] at hk
   have h2:=ih hk
   unfold sK at h2 ⊢
   rw[List.filter_cons,List.filter_cons]
   by_cases h3:x.path∈s
   ·rw[if_neg (by simp[h3]),if_neg (by simpa using h3)]
    exact h2
   ·rw[if_pos (by simp[h3,h1]),if_pos (by simpa using h3)]
    simp only[List.map_cons,List.sum_cons]
    omega
theorem vE (l:List KnL) (t:List gm) (ls:List Txt):fV l (ls.map .line++t)=ls.length+fV l t:=by
 unfold fV
 rw[List.map_append,List.sum_append]
 congr 1
 induction ls with
 |nil=>rfl
 |cons x ls ih=>simp only[List.map_cons,List.sum_cons,ih,List.length_cons,twL];omega
theorem kB (r:aw) (e:Nat):nuL (cK r e)=nuL r:=rfl
theorem iL (r:aw) (s:Txt):nuL (cZ r s)=nuL r:=by unfold cZ;split<;>rfl
theorem nj (r:aw) (t:cR) (k:KnL):nuL (bn r t k)≤nuL r+(aq k.data).length:=by
 cases t with
 |read=>simp only[bn];split<;>simp[iL,kB]
 |try_=>simp only[bn];split<;>simp[iL]
 |scan=>
  simp only[bn]
  split
  ·simp only[nuL,vE];omega
  ·rw[kB];omega
theorem ul (r:aw) (t:cR) (k:KnL) (ht:t≠.scan):nuL (bn r t k)=nuL r:=by
 cases t with
 |read=>simp only[bn];split<;>simp[iL,kB]
 |try_=>simp only[bn];split<;>simp[iL]
 |scan=>exact absurd rfl ht
theorem ww (r:aw) (p:Txt) (t:cR) (h:r.knows p=none):muL (cy r p t)≤nuL r+1:=by
 unfold cy
 rw[h]
 simp only
 split
 ·have:jD (cK r 6)=0:=by simp[jD,cK]
  unfold muL
  rw[kB,this];omega
 ·have h1:jD {r with asks:=p,waits:=true,top:=.told p t::r.top}=0:=by simp[jD]
  have h2:twL r.known (.told p t)=1:=by
   unfold aw.knows at h
   simp only[twL,h]
  unfold muL
  rw[h1]
  simp only[nuL,fV,List.map_cons,List.sum_cons,h2]
  omega
theorem nD (env:Txt→Option Txt) (r r':aw) (h:bO env r=some r'):muL r'<muL r:=by
 unfold bO at h
 split at h
 ·cases h
 ·rename_i hg
  simp only[not_or,Decidable.not_not,Bool.not_eq_true] at hg
  have hf:jD r=1:=by simp[jD,hg]
  have hmu:muL r=nuL r+1:=by unfold muL;rw[hf]
  split at h
  ·rename_i s t ht
   simp only[Option.some.injEq] at h
   subst h
   have h0:nuL r=nuL {r with top:=t}+1:=by simp only[nuL,ht,fV,List.map_cons,List.sum_cons,twL];omega
   unfold fS
   split
   ·rename_i a b hw
    split
    ·have h1:=eX (cZ {r with top:=t} (s++[10]))
     unfold muL
     rw[iL,hf];omega
    ·split
     ·have h1:=eX {r with top:=t}
      unfold muL
      rw[hf];omega
     ·rename_i hb
      have hb':b∉r.seen:=hb
      cases hk:r.knows b with
      |none=>
       have h1:=ww {r with top:=t,seen:=b::r.seen} b .scan hk
       have h2:=wP r.known r.seen b
       have h3:nuL {r with top:=t,seen:=b::r.seen}≤nuL {r with top:=t}:=by simp only[nuL];omega
       rw[hmu]
       exact Nat.lt_of_le_of_lt h1 (by omega)
      |some k=>
       have h2:=wY r.known r.seen b k hk hb'
       unfold lnK at h2
       have h3:nuL {r with top:=t,seen:=b::r.seen}+((aq k.data).length+1)≤nuL {r with top:=t}:=by simp only[nuL];omega
       have e:cy {r with top:=t,seen:=b::r.seen} b .scan=bn {r with top:=t,seen:=b::r.seen} .scan k:=by
        have:aw.knows {r with top:=t,seen:=b::r.seen} b=some k:=hk
        unfold cy
        rw[this]
       rw[e]
       have h1:=nj {r with top:=t,seen:=b::r.seen} .scan k
       have h4:=eX (bn {r with top:=t,seen:=b::r.seen} .scan k)
       rw[hmu]
       unfold muL
       omega
   ·have h1:=eX (cZ {r with top:=t} (s++[10]))
    unfold muL
    rw[iL,hf];omega
  ·rename_i p k t ht
   simp only[Option.some.injEq] at h
   subst h
   cases hk:r.knows p with
   |none=>
    have hk2:(r.known.find? fun k=>decide (k.path=p))=none:=hk
    have h0:nuL r=nuL {r with top:=t}+1:=by simp only[nuL,ht,fV,List.map_cons,List.sum_cons,twL,hk2];omega
    have h1:nuL (bn {r with top:=t} k ⟨[],false,[]⟩)≤nuL {r with top:=t}:=nj {r with top:=t} k ⟨[],false,[]⟩
    have h4:=eX (bn {r with top:=t} k ⟨[],false,[]⟩)
    simp only[Option.getD_none]
    rw[hmu]
    unfold muL
    omega
   |some x=>
    have hk2:(r.known.find? fun k=>decide (k.path=p))=some x:=hk
    have h0:nuL r=nuL {r with top:=t}+1+(aq x.data).length:=by simp only[nuL,ht,fV,List.map_cons,List.sum_cons,twL,hk2];omega
    have h1:=nj {r with top:=t} k x
    have h4:=eX (bn {r with top:=t} k x)
    simp only[Option.getD_some]
    rw[hmu]
    unfold muL
    omega
  ·rename_i ht
   split at h
   ·rename_i c l hc
    simp only[Option.some.injEq] at h
    subst h
    have h0:nuL {r with cmds:=l}+(mK r.known+2)=nuL r:=by simp only[nuL,hc,List.length_cons,Nat.succ_mul];omega
    have hlow:∀x:aw,nuL x≤nuL {r with cmds:=l}→muL x<muL r:=fun x hx=>by
     have:=eX x
     rw[hmu];unfold muL;omega
    have hask:∀(p:Txt) (t:cR),t≠.scan→muL (cy {r with cmds:=l} p t)<muL r:=fun p t hts=>by
     cases hk:aw.knows {r with cmds:=l} p with
     |none=>have:=ww {r with cmds:=l} p t hk;rw[hmu];omega
     |some k=>
      have e:cy {r with cmds:=l} p t=bn {r with cmds:=l} t k:=by unfold cy;rw[hk]
      rw[e]
      exact hlow _ (by rw[ul _ _ _ hts];exact Nat.le_refl _)
    have hscan:∀(a w:Txt),muL (cy {r with cmds:=l,word:=w,seen:=[a]} a .scan)<muL r:=fun a w=>by
     cases hk:aw.knows {r with cmds:=l,word:=w,seen:=[a]} a with
     |none=>
      have h1:=ww {r with cmds:=l,word:=w,seen:=[a]} a .scan hk
      have h2:=zdF r.known [a]
      have h3:nuL {r with cmds:=l,word:=w,seen:=[a]}≤nuL {r with cmds:=l}+mK r.known:=by simp only[nuL];omega
      rw[hmu];omega
     |some k=>
      have e:cy {r with cmds:=l,word:=w,seen:=[a]} a .scan=bn {r with cmds:=l,word:=w,seen:=[a]} .scan k:=by unfold cy;rw[hk]
      rw[e]
      have h1:=nj {r with cmds:=l,word:=w,seen:=[a]} .scan k
      have h2:=wY r.known [] a k hk (by simp)
      have h5:=zdF r.known []
      unfold lnK at h2
      have h3:nuL {r with cmds:=l,word:=w,seen:=[a]}+(aq k.data).length≤nuL {r with cmds:=l}+mK r.known:=by simp only[nuL];omega
      have h4:=eX (bn {r with cmds:=l,word:=w,seen:=[a]} .scan k)
      rw[hmu];unfold muL;omega
    exact nB (fun x=>muL x<muL r) env {r with cmds:=l} _ _ _ _ _ (fun t ht=>hask _ t ht) (hscan _ _) (fun x=>hlow _ (by rw[iL];exact Nat.le_refl _)) (fun e=>hlow _ (by rw[kB];exact Nat.le_refl _)) (hlow _ (Nat.le_refl _)) (hlow _ (Nat.le_refl _)) (fun x=>hlow _ (by unfold jx;rw[iL];exact Nat.le_refl _)) (fun x=>hlow _ (Nat.le_refl _))
   ·simp only[Option.some.injEq] at h
    subst h
    have:jD {r with over:=⟨3,[],[],0⟩}=0:=by exact if_neg (fun h=>Nat.noConfusion (show 3=0 from h.1))
    have h1:nuL {r with over:=⟨3,[],[],0⟩}=nuL r:=rfl
    rw[hmu];unfold muL;rw[this];omega
structure dI (r r':aw):Prop where
 known:r'.known=r.known
 cmds:r'.cmds.length≤r.cmds.length
 wr:r'.over.kind=2→r'.cmds.length<r.cmds.length
 ask:r'.waits=true→r'.knows r'.asks=none∧r'.known.length<500∧r'.over.kind=0
 kind:r'.over.kind≠1
theorem kZ (r:aw) (hw:r.waits=false) (e:Nat):dI r (cK r e):=
 ⟨rfl,Nat.le_refl _,fun h=>by simp[cK] at h,fun h=>by simp[cK,hw] at h,by simp[cK]⟩
theorem nz (r:aw) (hw:r.waits=false) (hk:r.over.kind=0):dI r r:=
 ⟨rfl,Nat.le_refl _,fun h=>by omega,fun h=>(by rw[hw] at h;cases h),by omega⟩
theorem mg (r:aw) (hw:r.waits=false) (hk:r.over.kind=0) (s:Txt):dI r (cZ r s):=by
 unfold cZ
 split
 ·exact kZ r hw 6
 ·exact⟨rfl,Nat.le_refl _,fun h=>by simp[hk] at h,fun h=>by simp[hw] at h,by simp[hk]⟩
theorem wZ (r:aw) (hw:r.waits=false) (hk:r.over.kind=0) (t:cR) (k:KnL):dI r (bn r t k):=by
 cases t with
 |read=>simp only[bn];split;exact mg r hw hk _;exact kZ r hw _
 |try_=>simp only[bn];split;exact mg r hw hk _;exact nz r hw hk
 |scan=>
  simp only[bn]
  split
  ·exact⟨rfl,Nat.le_refl _,fun h=>by simp[hk] at h,fun h=>by simp[hw] at h,by simp[hk]⟩
  ·exact kZ r hw _
theorem vY (r:aw) (hw:r.waits=false) (hk:r.over.kind=0) (p:Txt) (t:cR):dI r (cy r p t):=by
 unfold cy
 split
 ·exact wZ r hw hk t _
 ·rename_i hn
  split
  ·exact kZ r hw _
  ·exact⟨rfl,Nat.le_refl _,fun h=>by simp[hk] at h,fun _=>⟨hn,by simp only;omega,hk⟩,by simp[hk]⟩
theorem dI.from {r q r':aw} (h:dI q r') (h1:q.known=r.known) (h2:q.cmds.length≤r.cmds.length):dI r r':=
 ⟨h.known.trans h1,Nat.le_trans h.cmds h2,fun e=>Nat.lt_of_lt_of_le (h.wr e) h2,h.ask,h.kind⟩
theorem zfe (env:Txt→Option Txt) (r:aw) (hw:r.waits=false) (hk:r.over.kind=0) (c:bS) (l:List bS) (hc:r.cmds=c::l):dI r (doL env {r with cmds:=l} c):=by
 have bI:l.length<r.cmds.length:=by rw[hc];simp
 have F:∀(q r':aw),dI q r'→q.known=r.known→q.cmds=l→dI r r':=fun q r' h h1 h2=>h.from h1 (by rw[h2];omega)
 exact nB (fun x=>dI r x) env {r with cmds:=l} _ _ _ _ _ (fun t _=>F _ _ (vY {r with cmds:=l} hw hk _ _) rfl rfl) (F _ _ (vY {r with cmds:=l,word:=c.words.getD 2 [],seen:=[c.words.getD 1 []]} hw hk _ _) rfl rfl) (fun x=>F _ _ (mg {r with cmds:=l} hw hk _) rfl rfl) (fun e=>F _ _ (kZ {r with cmds:=l} hw _) rfl rfl)
  ⟨rfl,by simp only;omega,fun _=>by simp only;omega,fun h=>by simp[hw] at h,by simp⟩ (F _ _ (nz {r with cmds:=l} hw hk) rfl rfl) (fun x=>F _ _ (mg {r with cmds:=l,buffer:=[]} hw hk _) rfl rfl) (fun x=>⟨rfl,by simp only;omega,fun h=>by simp[hk] at h,fun h=>by simp[hw] at h,by simp[hk]⟩)
theorem zcJ (r:aw) (hw:r.waits=false) (hk:r.over.kind=0) (s:Txt):dI r (fS r s):=by
 unfold fS
 split
 ·split
  ·exact mg r hw hk _
  ·split
   ·exact nz r hw hk
   ·exact(vY {r with seen:=_::r.seen} hw hk _ _).from rfl (Nat.le_refl _)
 ·exact mg r hw hk _
theorem wG (env:Txt→Option Txt) (r r':aw) (h:bO env r=some r'):dI r r':=by
 unfold bO at h
 split at h
 ·cases h
 ·rename_i hg
  simp only[not_or,Decidable.not_not,Bool.not_eq_true] at hg
  obtain⟨hk,hw⟩:=hg
  split at h
  ·rename_i s t ht
   simp only[Option.some.injEq] at h
   subst h
   exact(zcJ {r with top:=t} hw hk s).from rfl (Nat.le_refl _)
  ·rename_i p k t ht
   simp only[Option.some.injEq] at h
   subst h
   exact(wZ {r with top:=t} hw hk k _).from rfl (Nat.le_refl _)
  ·split at h
   ·rename_i c l hc
    simp only[Option.some.injEq] at h
    subst h
    exact zfe env r hw hk c l hc
   ·simp only[Option.some.injEq] at h
    subst h
    exact⟨rfl,Nat.le_refl _,fun h=>by simp at h,fun h=>by simp[hw] at h,by simp⟩
structure zcI (env:Txt→Option Txt) (r r':aw):Prop where
 steps:bY (bO env) r r'
 still:bO env r'=none
 ok:dI r r'
theorem vI (env:Txt→Option Txt) (r:aw) (hw:r.waits=false) (hk:r.over.kind=0):zcI env r (eU env r):=by
 obtain⟨b,h1,h2,h3⟩:=ni (f:=bO env) muL (fun x=>dI r x) (fun a b ha h=>⟨by
  have h1:=wG env a b h
  exact⟨h1.known.trans ha.known,Nat.le_trans h1.cmds ha.cmds,fun e=>Nat.lt_of_lt_of_le (h1.wr e) ha.cmds,h1.ask,h1.kind⟩,nD env a b h⟩) (muL r) r (nz r hw hk) (Nat.le_refl _)
 unfold eU
 rw[fw h1 h2]
 exact⟨h1,h2,h3⟩
theorem ut (env:Txt→Option Txt) (r:aw) (h:r.waits=true):bO env r=none:=by unfold bO;rw[if_pos (.inr h)]
structure zd8 (r:aw) (d:DoL) (r':aw):Prop where
 known:r'.known=r.known
 cmds:r'.cmds.length≤r.cmds.length
 rd:d.kind=1→r'.waits=true∧d.path=r'.asks∧r'.knows r'.asks=none∧r'.known.length<500∧r'.over.kind=0
 wr:d.kind=2→r'.cmds.length<r.cmds.length∧r'.waits=false∧r'.over.kind=0
theorem mX (env:Txt→Option Txt) (r:aw) (hw:r.waits=false) (hk:r.over.kind=0):zd8 r (bP env r).1 (bP env r).2:=by
 obtain⟨h1,h2,h3⟩:=vI env r hw hk
 unfold bP
 split
 ·rename_i h
  exact⟨h3.known,h3.cmds,fun _=>⟨h,rfl,h3.ask h⟩,fun e=>by simp at e⟩
 ·rename_i h
  refine⟨?_,?_,fun e=>absurd e h3.kind,fun e=>?_⟩
  ·simp only;split<;>exact h3.known
  ·simp only;split<;>exact h3.cmds
  ·simp only at e
   simp only[if_pos e]
   exact⟨h3.wr e,by simpa using h,rfl⟩
structure GoB (b:bG):Prop where
 kn:b.run.known=b.reads
 go:b.over=false→b.run.waits=false∧b.run.over.kind=0
def muB (b:bG):Nat:=b.run.cmds.length+(if b.over=true then 0 else 1)
theorem pw (y:ByL) (b b':bG) (hb:GoB b) (h:cv y b=some b'):GoB b'∧muB b'<muB b∧b'.reads=b.reads:=by
 unfold cv at h
 split at h
 ·cases h
 ·rename_i ho
  simp only[Bool.not_eq_true] at ho
  obtain⟨hw,hk⟩:=hb.go ho
  have hn:=mX y.env b.run hw hk
  have hm:muB b=b.run.cmds.length+1:=by simp[muB,ho]
  have hkn:(bP y.env b.run).2.known=b.reads:=hn.known.trans hb.kn
  have hcm:=hn.cmds
  have hfail:∀e,GoB (ez {b with run:=(bP y.env b.run).2} e)∧muB (ez {b with run:=(bP y.env b.run).2} e)<muB b∧(ez {b with run:=(bP y.env b.run).2} e).reads=b.reads:=fun e=>
   ⟨⟨hkn,fun h=>by simp[ez] at h⟩,by rw[hm];simp only[muB,ez,if_true];omega,rfl⟩
  split at h
  ·split at h
   ·cases h
   ·simp only[Option.some.injEq] at h
    subst h
    exact hfail 13
  ·split at h
   ·rename_i hd
    simp only[Option.some.injEq] at h
    subst h
    obtain⟨h1,h2,h3⟩:=hn.wr hd
    unfold dx
    split
    ·exact hfail 14
    ·exact⟨⟨hkn,fun _=>⟨h2,h3⟩⟩,by rw[hm];simp only[muB,ho];simp;omega,rfl⟩
   ·split at h
    ·simp only[Option.some.injEq] at h
     subst h
     split
     ·exact hfail 14
     ·exact⟨⟨hkn,fun h=>by simp at h⟩,by rw[hm];simp only[muB,if_true];omega,rfl⟩
    ·simp only[Option.some.injEq] at h
     subst h
     exact hfail _
theorem zfg (y:ByL) (b:bG) (hb:GoB b):∃b',bY (cv y) b b'∧cv y b'=none∧GoB b'∧b'.reads=b.reads∧pi (cv y) b=b':=by
 obtain⟨b',h1,h2,h3⟩:=ni (f:=cv y) muB (fun x=>GoB x∧x.reads=b.reads) (fun a c ha h=>by
  obtain⟨h1,h2,h3⟩:=pw y a c ha.1 h
  exact⟨⟨h1,h3.trans ha.2⟩,h2⟩) (muB b) b ⟨hb,rfl⟩ (Nat.le_refl _)
 exact⟨b',h1,h2,h3.1,h3.2,fw h1 h2⟩
structure uz (y:ByL) (b:bG):Prop where
 kn:b.run.known=b.reads
 ask:b.over=false→b.run.waits=true∧b.asks=b.run.asks∧b.run.knows b.asks=none∧b.run.known.length<500∧y.may b.asks=true∧b.run.over.kind=0
theorem xD (y:ByL) (b:bG) (hb:GoB b):uz y (goB y b)∧(goB y b).reads=b.reads:=by
 obtain⟨b',h1,h2,h3,h4,h5⟩:=zfg y b hb
 unfold goB
 rw[h5]
 unfold mG
 by_cases ho:b'.over=true
 ·rw[if_pos ho]
  exact⟨⟨h3.kn,fun h=>by rw[ho] at h;cases h⟩,h4⟩
 ·rw[if_neg ho]
  have ho':b'.over=false:=by simpa using ho
  obtain⟨hw,hk⟩:=h3.go ho'
  have hn:=mX y.env b'.run hw hk
  unfold cv at h2
  rw[if_neg ho] at h2
  split at h2
  ·rename_i hd
   split at h2
   ·rename_i hm
    obtain⟨n1,n2,n3,n4,n5⟩:=hn.rd hd
    refine⟨⟨hn.known.trans h3.kn,fun _=>⟨n1,n2,?_,n4,hm,n5⟩⟩,h4⟩
    simp only
    rw[n2];exact n3
   ·cases h2
  ·split at h2
   ·cases h2
   ·split at h2<;>cases h2
theorem zbe (y:ByL) (l:List bS):uz y (pH y l)∧(pH y l).reads=[]:=xD y _ ⟨rfl,fun _=>⟨rfl,rfl⟩⟩
theorem xI (y:ByL) (b:bG) (k:KnL) (hb:uz y b) (ho:b.over=false):uz y (fY y b k)∧(fY y b k).reads=b.reads++[k]:=
 xD y _ ⟨by simp[gD,hb.kn],fun _=>⟨rfl,(hb.ask ho).2.2.2.2.2⟩⟩
theorem rD {α:Type} (f:α→List Value) (sz:Nat) (hs:∀x,(f x).length=sz):∀(l:List α) (k:Nat) (hk:k<l.length) (j:Nat),j<sz→(l.flatMap f)[k*sz+j]?=(f l[k])[j]?
 |x::l,0,_,j,hj=>by rw[List.flatMap_cons,Nat.zero_mul,Nat.zero_add,List.getElem?_append_left (by rw[hs];exact hj)];rfl
 |x::l,k+1,hk,j,hj=>by
  rw[List.flatMap_cons,List.getElem?_append_right (by rw[hs,Nat.succ_mul];omega),hs,show(k+1)*sz+j-sz=k*sz+j by rw[Nat.succ_mul];omega]
  exact rD f sz hs l k (by simpa using hk) j hj
 |[],_,hk,_,_=>by simp at hk
theorem iU {α:Type} (f:α→List Value) (sz:Nat) (hs:∀x,(f x).length=sz):∀l:List α,(l.flatMap f).length=l.length*sz
 |[]=>by simp
 |x::l=>by rw[List.flatMap_cons,List.length_append,hs,iU f sz hs l,List.length_cons,Nat.succ_mul];omega
def aE {α:Type} (w:World) (sz:Nat) (f:α→List Value) (v:Value) (l:List α):Prop:=ap w sz v l.length (l.flatMap f)
theorem aE.out {α:Type} {w:World} {sz:Nat} {f:α→List Value} {v:Value} {l:List α} (hs:∀x,(f x).length=sz) (h0:0<sz) (h:aE w sz f v l):∃a c,v=.slice a l.length c∧l.length≤c∧c≤maxLen∧(a=none→c=0)∧
 (∀k,k<l.length→∃b off,a=some ⟨b,off,none⟩∧b<w.heap.size∧∀j (hj:j<l.length),w.rangeAt b (off+j*sz) (f l[j])):=by
 obtain⟨hl,a,c,rfl,hc,hm,hn,hx⟩:=h
 refine⟨a,c,rfl,hc,hm,hn,fun k hk=>?_⟩
 obtain⟨b,off,rfl,aH,hcell⟩:=hx (by intro e;have:=iU f sz hs l;rw[e] at this;have h1:1≤l.length*sz:=Nat.le_trans (by omega) (Nat.mul_le_mul (show 1≤l.length by omega) h0);simp at this;omega)
 refine⟨b,off,rfl,aH,fun j hj i u hu=>?_⟩
 have hi:i<sz:=by rw[←hs l[j]];exact(List.getElem?_eq_some_iff.1 hu).1
 rw[Nat.add_assoc]
 exact hcell _ _ (by rw[rD f sz hs l j hj i hi];exact hu)
theorem aE.below {α:Type} {w w':World} {sz B:Nat} {f:α→List Value} {v:Value} {l:List α} (h:aE w sz f v l) (hb:Below B w w') (hB:w.heap.size≤B):aE w' sz f v l:=ap.below h hb hB
theorem ac {w W:World} (hW:Below w.heap.size w W) {b o:Nat} {cs:List Value} (h:w.rangeAt b o cs):W.rangeAt b o cs:=fun j v hv=>Below.keeps hW (h j v hv)
structure cY (ty n:Nat):Prop where
 out:∃d:TypeDesc,Tryz.prog.underlying ty=some d∧d.isRow=true∧(Tryz.prog.info? ty).map (·.size)=some n
theorem uN:cY 31 32:=⟨_,Tryz.underlying31,rfl,by kernel_rfl⟩
theorem qQ:cY 100 34:=⟨_,Tryz.underlying100,rfl,by kernel_rfl⟩
theorem cY.ld {ty n:Nat} (h:cY ty n) {w:World} {b o:Nat} {cs:List Value} (hr:w.rangeAt b o cs) (hl:cs.length=n):
 (Instr.loadAt ty (.pointer (some ⟨b,o,none⟩))).run Tryz.prog w=.ok (.agg cs.toArray) w:=by
 obtain⟨d,h1,h2,h3⟩:=h.out
 exact run_loadAt_mid w b o ty cs d hr h1 h2 (by rw[hl];exact h3)
section
variable {ops:Array Oper} {rest:List Oper} {o:Oper} {a:Act} {w w':World} {Q:Exit→Act→World→Prop} {C:World→Prop} {QA:Act→Prop} {v:Value}
theorem gw (hr:(execOp a.eval o).run Tryz.prog w=.ok (.value v) w') (h:wpList Tryz.prog ops Q rest (a.put o.dst v) w') (hw:Region.wanted o (yielded ops a.tmps)=true:=by rfl):wpList Tryz.prog ops Q (o::rest) a w:=by
 refine wpList_step fun K hK=>?_
 rw[if_pos hw]
 unfold Oper.wp
 rw[hr]
 exact hK _ _ h
theorem WQ.run (hr:∀W,C W→(execOp a.eval o).run Tryz.prog W=.ok (.value v) W) (h:WQ Tryz.prog ops C QA rest (a.put o.dst v)) (hw:Region.wanted o (yielded ops a.tmps)=true:=by rfl):WQ Tryz.prog ops C QA (o::rest) a:=by
 refine WQ.step fun K hK=>?_
 rw[if_pos hw]
 exact⟨v,fun W hW=>by unfold Oper.quietAt;rw[hr W hW];exact⟨rfl,rfl⟩,hK _ h⟩
theorem yh {ty n:Nat} (h:cY ty n) {b off:Nat} {cs:List Value} {x:Operand} (hr:w.rangeAt b off cs) (hl:cs.length=n) (ho:o.op=.load ty x) (hx:a.eval x=.pointer (some ⟨b,off,none⟩)):
 (execOp a.eval o).run Tryz.prog w=.ok (.value (.agg cs.toArray)) w:=by
 unfold execOp
 simp only[ho,hx,Sem.run_bind,h.ld hr hl,Result.andThen_ok,Sem.run_pure]
theorem bC {ty n:Nat} (h:cY ty n) {b off:Nat} {cs:List Value} {x:Operand} (hr:w.rangeAt b off cs) (hl:cs.length=n) (hk:wpList Tryz.prog ops Q rest (a.put o.dst (.agg cs.toArray)) w) (ho:o.op=.load ty x:=by rfl) (hx:a.eval x=.pointer (some ⟨b,off,none⟩):=by rfl) (hw:Region.wanted o (yielded ops a.tmps)=true:=by rfl):
 wpList Tryz.prog ops Q (o::rest) a w:=gw (yh h hr hl ho hx) hk hw
theorem WQ.ld {ty n:Nat} (h:cY ty n) {b off:Nat} {cs:List Value} {x:Operand} (hr:∀W,C W→W.rangeAt b off cs) (hl:cs.length=n) (hk:WQ Tryz.prog ops C QA rest (a.put o.dst (.agg cs.toArray))) (ho:o.op=.load ty x:=by rfl) (hx:a.eval x=.pointer (some ⟨b,off,none⟩):=by rfl) (hw:Region.wanted o (yielded ops a.tmps)=true:=by rfl):
 WQ Tryz.prog ops C QA (o::rest) a:=WQ.run (fun W hW=>yh h (hr W hW) hl ho hx) hk hw
structure zbP (t:TypeId) (x y:Array Value) (r:Bool):Prop where
 out:bQ Tryz.prog 4 t (.agg x) (.agg y)=some r
 gd:Tryz.prog.eqGuardType Tryz.prog.depth t=false
theorem zeK {t:TypeId} {x' y':Array Value} {r:Bool} (h:zbP t x' y' r) {x y:Operand} {t2:TypeId} (ho:o.op=.binOp .neq t x y t2) (hx:a.eval x=.agg x') (hy:a.eval y=.agg y'):
 (execOp a.eval o).run Tryz.prog w=.ok (.value (.bool (!r))) w:=by
 unfold execOp
 have heg:(eqGuard .neq t x y (.agg x') (.agg y')).run Tryz.prog w=.ok () w:=by simp[eqGuard,h.gd]
 simp only[ho,hx,hy,Sem.run_bind,heg,zcr,run_equal' h.out,Result.andThen_ok,Sem.run_pure]
theorem WQ.neq {t:TypeId} {x' y':Array Value} {r:Bool} (h:zbP t x' y' r) {x y:Operand} {t2:TypeId} (hk:WQ Tryz.prog ops C QA rest (a.put o.dst (.bool (!r)))) (ho:o.op=.binOp .neq t x y t2:=by rfl) (hx:a.eval x=.agg x':=by rfl) (hy:a.eval y=.agg y':=by rfl) (hw:Region.wanted o (yielded ops a.tmps)=true:=by rfl):
 WQ Tryz.prog ops C QA (o::rest) a:=WQ.run (fun _ _=>zeK h ho hx hy) hk hw
end
theorem zeW (d e:Dg):zbP 31 (dgc d).toArray (dgc e).toArray (decide (d=e)):=⟨zdD d e 3,by kernel_rfl⟩
theorem zd3 (d e:RdL):zbP 100 d.cells.toArray e.cells.toArray (decide (d=e)):=⟨zeC d e 2,by kernel_rfl⟩
theorem oI {α:Type} {l r:List α} {k:Nat} (h0:k<l.length) (h1:k<r.length) (he:l.take k=r.take k) (hk:l[k]=r[k]):l.take (k+1)=r.take (k+1):=by
 rw[nF _ _ h0,nF _ _ h1,he,hk]
set_option maxHeartbeats 1000000 in
theorem sL (v0 v1:Value) (l r:List RdL) (w:World) (h0:aE w 34 RdL.cells v0 l) (h1:aE w 34 RdL.cells v1 r):
 Calls Tryz.prog 40 #[v0,v1] w fun e w'=>e=.returned (.bool (decide (l=r)))∧Below w.heap.size w w':=by
 obtain⟨a0,c0,rfl,hc0,hm0, -,hx0⟩:=h0.out RdL.len (by omega)
 obtain⟨a1,c1,rfl,hc1,hm1, -,hx1⟩:=h1.out RdL.len (by omega)
 clear h0 h1
 unfold maxLen at hm0 hm1
 by_cases bI:l.length=r.length
 ·have hb:((l.length:Int) !=(r.length:Int))=false:=by simp[bI]
  have hl1:l.length≤r.length:=by omega
  have hl2:r.length≤l.length:=by omega
  clear bI
  go_enter Tryz.func40,Tryz.ntmps40
  go_wp2
  go_loopw [13] (fun i wr=>∃k:Nat,k≤l.length∧i=.int .i64 k∧l.take k=r.take k∧Below w.heap.size w wr) (fun i _=>l.length-(intOf i).toNat)
  case atStart=>exact⟨0,by omega,rfl,by simp,Below.refl _ _⟩
  case round=>
   obtain⟨k,hk,rfl,he,hbe⟩:=hrel
   have He:=hid he;clear he
   by_cases aH:k<l.length
   ·have hlt':k<r.length:=by omega
    obtain⟨b0,o0,rfl,hb0,hcl0⟩:=hx0 k aH
    obtain⟨b1,o1,rfl,hb1,hcl1⟩:=hx1 k hlt'
    have L0:=ac hbe (hcl0 k aH)
    have L1:=ac hbe (hcl1 k hlt')
    have HS:=hid (fun h=>oI aH hlt' He.out h)
    have HN:=hid (fun h:¬l[k]=r[k]=>fun e:l=r=>h (by subst e;rfl))
    have HB:=hid hbe
    clear hcl0 hcl1 hx0 hx1 hbe
    go_wp2
    refine aC (by kernel_rfl) (by kernel_rfl) ?_
    repeat(first|refine WQ.ld qQ (fun W hW=>ac hW L0) (RdL.len _) ?_|refine WQ.ld qQ (fun W hW=>ac hW L1) (RdL.len _) ?_|refine WQ.neq (zd3 _ _) ?_|(refine WQ.step (fun K hK=>?_);go_simp;first|(refine hK _ ?_;clear hK K)|(apply Exists.intro;refine⟨fun W hW=>?_,hK _ ?_⟩;(first|with_reducible rfl|(go_simp;first|rfl|exact⟨rfl,rfl⟩));clear hK K)))
    refine WQ.nil ?_
    intro wq hwq
    by_cases hq:l[k]=r[k]
    ·rw[decide_eq_true hq]
     go_wp2
     exact⟨⟨k+1,by omega,by go_num,HS.out hq,Below.chain HB.out hwq⟩,by simp[intOf];omega⟩
    ·rw[decide_eq_false hq]
     go_wp2
     go_ret
     exact⟨by rw[decide_eq_false (HN.out hq)];rfl,Below.chain HB.out hwq⟩
   ·go_wp2
    go_ret
    exact⟨by rw[decide_eq_true (by rw[←List.take_of_length_le (l:=l) (i:=k) (by omega),He.out,List.take_of_length_le (by omega)])];rfl,hbe⟩
 ·have hb:((l.length:Int) !=(r.length:Int))=true:=by simp;omega
  go_enter Tryz.func40,Tryz.ntmps40
  go_wp2
  go_ret
  exact⟨by rw[decide_eq_false (by rintro rfl;exact bI rfl)];rfl,Below.refl _ _⟩
theorem af {w:World} {b:Nat} {cs:List Value} {t:TypeId} {fr:Nat×Nat} (h:w.heap[b]?=some (.cells cs.toArray t fr)):w.rangeAt b 0 cs:=fun j v hv=>by
 rw[cell_of_row w b (0+j) cs.toArray t fr h,Nat.zero_add];simpa using hv
theorem dT {w:World} {b o:Nat} {v:Value} {r:List Value} (h:w.rangeAt b o (v::r)):w.cell? ⟨b,o,none⟩=some v∧w.rangeAt b (o+1) r:=
 ⟨h 0 v rfl,fun j u hu=>by rw[show o+1+j=o+(j+1) by omega];exact h (j+1) u (by simpa using hu)⟩
structure az (D:Nat→Prop) (w w':World):Prop where
 os:w'.os=w.os
 tape:w'.tape=w.tape
 output:w'.output=w.output
 size:w.heap.size≤w'.heap.size
 block:∀k,k<w.heap.size→¬D k→w'.heap[k]?=w.heap[k]?
theorem az.refl (D:Nat→Prop) (w:World):az D w w:=⟨rfl,rfl,rfl,Nat.le_refl _,fun _ _ _=>rfl⟩
theorem az.of_below {D:Nat→Prop} {w w':World} (h:Below w.heap.size w w'):az D w w':=⟨h.os,h.tape,h.output,h.size,fun k hk _=>h.block k hk⟩
theorem az.trans {D D':Nat→Prop} {a b c:World} (h:az D a b) (k:az D' b c) (hD:∀i,i<a.heap.size→D' i→D i):az D a c:=
 ⟨k.os.trans h.os,k.tape.trans h.tape,k.output.trans h.output,Nat.le_trans h.size k.size,fun i hi hd=>(k.block i (Nat.lt_of_lt_of_le hi h.size) (fun e=>hd (hD i hi e))).trans (h.block i hi hd)⟩
theorem az.chain {D:Nat→Prop} {a b c:World} (h:az D a b) (k:az D b c):az D a c:=h.trans k fun _ _ e=>e
theorem az.then {D:Nat→Prop} {a b c:World} (h:az D a b) (k:Below b.heap.size b c):az D a c:=h.chain (az.of_below k)
theorem az.mono {D D':Nat→Prop} {a b:World} (h:az D a b) (hD:∀i,i<a.heap.size→D i→D' i):az D' a b:=
 ⟨h.os,h.tape,h.output,h.size,fun i hi hd=>h.block i hi (fun e=>hd (hD i hi e))⟩
theorem az.below {D:Nat→Prop} {B:Nat} {w w':World} (h:az D w w') (hB:B≤w.heap.size) (hD:∀i,D i→B≤i):Below B w w':=
 ⟨h.os,h.tape,h.output,h.size,fun k hk=>h.block k (by omega) (fun e=>by have:=hD k e;omega)⟩
structure bg (r:Nat) (w w':World):Prop where
 lt:r<w.heap.size
 foot:az (fun b=>b=r) w w'
theorem bg.below {r B:Nat} {w w':World} (h:bg r w w') (hB:B≤r):Below B w w':=
 h.foot.below (by have:=h.lt;omega) (fun i e=>by omega)
theorem bg.trans {r:Nat} {a b c:World} (h:bg r a b) (k:bg r b c):bg r a c:=⟨h.lt,h.foot.chain k.foot⟩
theorem bg.setCell {w:World} (x:Addr) (v:Value) (hx:x.block<w.heap.size):bg x.block w (w.setCell x v):=by
 refine⟨hx,rfl,rfl,rfl,?_,fun k hk hne=>?_⟩
 ·unfold World.setCell;split<;>simp
 ·unfold World.setCell
  split
  all_goals(simp only[Array.getElem?_modify];rw[if_neg (fun e=>hne e.symm)])
theorem mD {w:World} {b:Nat} (o:Nat) (v:Value) (h:b<w.heap.size):bg b w (w.setCell ⟨b,o,none⟩ v):=bg.setCell ⟨b,o,none⟩ v h
def cS (w:World) (r:Nat) (o:Obj):World:={w with heap:=w.heap.setIfInBounds r o}
theorem fA {w:World} {r:Nat} (h:r<w.heap.size) (o:Obj):(cS w r o).heap[r]?=some o:=by
 simp[cS,h]
theorem dj {w:World} {r:Nat} (h:r<w.heap.size) (o:Obj):bg r w (cS w r o):=
 ⟨h,rfl,rfl,rfl,by simp[cS],fun k _ hne=>by simp only[cS,Array.getElem?_setIfInBounds];rw[if_neg (fun e=>hne e.symm)]⟩
structure tw (kt:TypeId) {κ:Type} (kv:κ→Value):Prop where
 inj:∀a b,kv a=kv b→a=b
 check:∀(w:World) (em:Bool) (d:κ),(Instr.checkKey em 10000 kt (kv d)).run Tryz.prog w=.ok () w
 find:∀(w:World) (d:κ) (es:List MapEntry),(∀e∈es,∃x,e.key=kv x)→((Instr.findKey kt (kv d) es).run Tryz.prog w=.ok none w∧∀e∈es,e.key≠kv d)∨
  ∃j e,(Instr.findKey kt (kv d) es).run Tryz.prog w=.ok (some (j,e.val)) w∧es[j]?=some e∧e.key=kv d
 stays:∀(w:World) (d:κ),(Instr.keyThatStays (kv d) (kv d)).run Tryz.prog w=.ok (kv d) w
theorem kF (d:Dg):∃l,keyOf Tryz.prog 31 (dgv d)=some l:=by
 have hu:Tryz.prog.underlying 31=some (.array 32 5):=by kernel_rfl
 have hi:Tryz.prog.underlying 5=some (.int .u8):=by kernel_rfl
 have hk:Tryz.prog.keyType 31=true:=by kernel_rfl
 have hc:Tryz.prog.cellsOf 31=32:=by kernel_rfl
 have h1:Tryz.prog.cellsOf 5=1:=by kernel_rfl
 have hp:decide (0<Tryz.prog.types.size)=true:=by kernel_rfl
 have hp:=of_decide_eq_true hp
 obtain⟨n,hn⟩:∃n,Tryz.prog.types.size+1=n+2:=⟨Tryz.prog.types.size-1,by omega⟩
 have hf:(dgv d).formed Tryz.prog 31=true:=by
  unfold dgv Value.formed
  simp only[hu,hc,List.size_toArray,dD,beq_self_eq_true]
 have hl:∃L,Tryz.prog.keyLits (n+2) 31 (dgc d)=some L:=by
  unfold Program.keyLits
  simp only[hu,hc,dD,h1,if_true,Nat.mul_one]
  obtain⟨r,hr⟩:=MapFrom.mapM_some (l:=List.range 32) (f:=fun i=>Tryz.prog.keyLits (n+1) 5 (((dgc d).drop i).take 1)) (fun i hi2=>by
   have aH:i<d.1.length:=by rw[d.2];simpa using hi2
   have e:((dgc d).drop i).take 1=[Value.int .u8 (d.1[i].toNat:Int)]:=by
    unfold dgc Lib.byteCells
    rw[List.drop_eq_getElem_cons (by simpa using aH)]
    simp
   rw[e]
   refine⟨[.int .u8 (d.1[i].toNat:Int)],?_⟩
   unfold Program.keyLits
   simp only[hi]
   have hb:=d.1[i].toNat_lt
   have hw:(Lit.int .u8 (d.1[i].toNat:Int)).wf=true:=by
    have m1:IntKind.u8.min=0:=rfl
    have m2:IntKind.u8.max=255:=rfl
    simp only[Lit.wf,m1,m2,Bool.and_eq_true,decide_eq_true_eq]
    omega
   simp only[hw,and_self,if_true])
  exact⟨_,by rw[hr];rfl⟩
 obtain⟨L,hL⟩:=hl
 unfold keyOf
 simp only[hu,hk,hf,Bool.and_self,if_true,hn]
 show ∃l,(Tryz.prog.keyLits (n+2) 31 (dgc d)).map _=some l
 rw[hL]
 exact⟨_,rfl⟩
theorem zdG:tw 31 dgv:=by
 have K:WideMaps.KeyLaw Tryz.prog 31:=WideMaps.ArrKey.law (n:=32) (e:=5) ⟨by kernel_rfl,by kernel_rfl,by kernel_rfl,by kernel_rfl⟩
 refine⟨fun a b h=>?_,fun w em d=>?_,fun w d es h=>?_,fun w d=>?_⟩
 ·unfold dgv at h
  exact zca (by simpa using h)
 ·obtain⟨l,hl⟩:=kF d
  exact K.check w em hl
 ·obtain⟨l,hl⟩:=kF d
  exact K.find w hl es (fun e he=>by obtain⟨x,hx⟩:=h e he;rw[hx];exact kF x)
 ·obtain⟨l,hl⟩:=kF d
  exact K.stays w hl
def cL (l:List UInt8):Value:=.string (bs l)
theorem cn:tw 9 cL:=by
 have hu:Tryz.prog.underlying 9=some .string:=by kernel_rfl
 refine⟨fun a b h=>?_,fun w em d=>?_,fun w d es h=>?_,fun w d=>?_⟩
 ·unfold cL bs at h
  simpa using h
 ·exact MapKept.run_checkKey hu (d:=.string) (by simp[MapKept.IsKey,cL]) em 9999
 ·unfold Instr.findKey
  rcases MapKept.findNow_spec (d:=.string) (k:=cL d) (by simp[MapKept.IsKey,cL]) es 0 (fun e he=>by obtain⟨x,hx⟩:=h e he;rw[hx];simp[MapKept.IsKey,cL]) with⟨h1,h2⟩|⟨j,e,h1,h2,h3⟩
  ·exact .inl ⟨by simp[run_underlying hu,h1],h2⟩
  ·exact .inr ⟨j,e,by simp[run_underlying hu,h1],h2,h3⟩
 ·unfold Instr.keyThatStays cL
  have:Instr.sameBits 10000 (.string (bs d)) (.string (bs d))=true:=by
   show((bs d).data==(bs d).data)=true
   simp
  simp[this]
theorem oZ {α:Type} (f:α→α):∀(a:List α) (x:α) (b:List α),(a++x::b).modify a.length f=a++f x::b
 |[],x,b=>by simp
 |y::a,x,b=>by simp[List.modify_succ_cons,oZ f a x b]
theorem zaN {α:Type} {l:List α} {j:Nat} {x:α} (h:l[j]?=some x):∃a b,l=a++x::b∧a.length=j:=by
 obtain⟨aH,rfl⟩:=List.getElem?_eq_some_iff.1 h
 exact⟨l.take j,l.drop (j+1),by rw[←List.drop_eq_getElem_cons aH,List.take_append_drop],by rw[List.length_take];omega⟩
def fu {κ:Type} (kv:κ→Value) (M:κ→Option Value) (o:Obj):Prop:=
 ∃es clock,o=.map es clock∧(∀e∈es.toList,∃d,e.key=kv d)∧(es.toList.map (·.key)).Nodup∧∀d v,M d=some v↔∃e∈es.toList,e.key=kv d∧e.val=v
theorem fu.nil {κ:Type} (kv:κ→Value):fu kv (fun _=>none) (.map #[] 0):=⟨#[],0,rfl,by simp,by simp,by simp⟩
section
variable {κ:Type} {kt:TypeId} {kv:κ→Value} {M:κ→Option Value} {o:Obj} {w:World} {r:Nat} {t e:TypeId}
theorem fu.look (h:fu kv M o) (K:tw kt kv) (hm:w.heap[r]?=some o) (ht:Tryz.prog.underlying t=some (.map kt e)) {z:Value} (hz:(zeroValue e).run Tryz.prog w=.ok z w) (d:κ) (c:Bool):
 (Instr.lookup t (.map (some r)) (kv d) c).run Tryz.prog w=.ok (if c then .tuple #[(M d).getD z,.bool (M d).isSome] else(M d).getD z) w:=by
 obtain⟨es,clock,rfl,hk,hn,hM⟩:=h
 rcases K.find w d es.toList hk with⟨h1,h2⟩|⟨j,x,h1,h2,h3⟩
 ·have:M d=none:=by
   cases hd:M d with
   |none=>rfl
   |some v=>
    obtain⟨x,hx,hx2,_⟩:=(hM d v).1 hd
    exact absurd hx2 (h2 x hx)
  simp[Instr.lookup,run_underlying ht,MapKept.run_getObj_map hm,K.check,h1,hz,Result.andThen,this]
 ·have:M d=some x.val:=(hM d x.val).2 ⟨x,List.mem_of_getElem? h2,h3,rfl⟩
  simp[Instr.lookup,run_underlying ht,MapKept.run_getObj_map hm,K.check,h1,Result.andThen,this]
theorem fu.put [DecidableEq κ] (h:fu kv M o) (K:tw kt kv) (hm:w.heap[r]?=some o) (ht:Tryz.prog.underlying t=some (.map kt e)) (d:κ) (v:Value):
 ∃o',(Instr.mapUpdate t (.map (some r)) (kv d) v).run Tryz.prog w=.ok () (cS w r o')∧fu kv (fun x=>if x=d then some v else M x) o':=by
 obtain⟨es,clock,rfl,hk,hn,hM⟩:=h
 rcases K.find w d es.toList hk with⟨h1,h2⟩|⟨j,x,h1,h2,h3⟩
 ·refine⟨.map (es.push ⟨kv d,v,clock⟩) (clock+1),?_,⟨_,_,rfl,?_,?_,?_⟩⟩
  ·simp[Instr.mapUpdate,run_underlying ht,MapKept.run_getObj_map hm,K.check,h1,MapKept.run_setObj_map _ hm,Result.andThen,cS]
  ·intro y hy
   simp only[Array.toList_push,List.mem_append,List.mem_singleton] at hy
   rcases hy with hy|rfl
   ·exact hk y hy
   ·exact⟨d,rfl⟩
  ·simp only[Array.toList_push,List.map_append,List.map_cons,List.map_nil]
   refine List.nodup_append.2 ⟨hn,by simp,fun a ha b hb=>?_⟩
   simp only[List.mem_singleton] at hb
   subst hb
   obtain⟨y,hy,rfl⟩:=List.mem_map.1 ha
   exact h2 y hy
  ·intro x u
   simp only[Array.toList_push,List.mem_append,List.mem_singleton]
   by_cases hx:x=d
   ·subst hx
    simp only[if_true,Option.some.injEq]
    constructor
    ·rintro rfl
     exact⟨_,.inr rfl,rfl,rfl⟩
    ·rintro⟨y,hy|rfl,h5,h6⟩
     ·exact absurd h5 (h2 y hy)
     ·exact h6
   ·simp only[if_neg hx,hM]
    constructor
    ·rintro⟨y,hy,h5⟩
     exact⟨y,.inl hy,h5⟩
    ·rintro⟨y,hy|rfl,h5,h6⟩
     ·exact⟨y,hy,h5,h6⟩
     ·exact absurd (K.inj _ _ h5).symm hx
 ·have hj:es[j]?=some x:=by simpa using h2
  obtain⟨a,b,hab,rfl⟩:=zaN h2
  have hl:(es.modify a.length (fun e'=>{e' with key:=kv d,val:=v})).toList=a++{x with key:=kv d,val:=v}::b:=by
   rw[Array.toList_modify,hab,oZ]
  refine⟨.map (es.modify a.length (fun e'=>{e' with key:=kv d,val:=v})) clock,?_,⟨_,_,rfl,?_,?_,?_⟩⟩
  ·simp[Instr.mapUpdate,run_underlying ht,MapKept.run_getObj_map hm,K.check,h1,hj,h3,K.stays,MapKept.run_setObj_map _ hm,Result.andThen,cS]
  ·rw[hl]
   intro y hy
   simp only[List.mem_append,List.mem_cons] at hy
   rcases hy with hy|rfl|hy
   ·exact hk y (by rw[hab];simp[hy])
   ·exact⟨d,rfl⟩
   ·exact hk y (by rw[hab];simp[hy])
  ·rw[hl]
   rw[hab] at hn
   simpa[h3] using hn
  ·rw[hl]
   rw[hab] at hn hM
   intro y u
   have hp:=(List.perm_middle (l₁:=a.map (·.key)) (l₂:=b.map (·.key)) (a:=x.key)).nodup_iff.1 (by simpa using hn)
   have hno:∀z,z∈a∨z∈b→z.key≠x.key:=fun z hz e=>(List.nodup_cons.1 hp).1 (by rw[←e,←List.map_append];exact List.mem_map.2 ⟨z,by simpa using hz,rfl⟩)
   simp only[List.mem_append,List.mem_cons] at hM ⊢
   by_cases hx:y=d
   ·subst hx
    simp only[if_true,Option.some.injEq]
    constructor
    ·rintro rfl
     exact⟨_,.inr (.inl rfl),rfl,rfl⟩
    ·rintro⟨z,hz|rfl|hz,h5,h6⟩
     ·exact absurd (h5.trans h3.symm) (hno z (.inl hz))
     ·exact h6
     ·exact absurd (h5.trans h3.symm) (hno z (.inr hz))
   ·simp only[if_neg hx,hM]
    constructor
    ·rintro⟨z,hz|rfl|hz,h5,h6⟩
     ·exact⟨z,.inl hz,h5,h6⟩
     ·exact absurd (K.inj _ _ (h5.symm.trans h3)) hx
     ·exact⟨z,.inr (.inr hz),h5,h6⟩
    ·rintro⟨z,hz|rfl|hz,h5,h6⟩
     ·exact⟨z,.inl hz,h5,h6⟩
     ·exact absurd (K.inj _ _ h5).symm hx
     ·exact⟨z,.inr (.inr hz),h5,h6⟩
end
def pS (l:List (List UInt8)):List MapEntry:=l.zipIdx.map fun x=>⟨cL x.1,.bool true,x.2⟩
def dP (l:List (List UInt8)):Obj:=.map (pS l).toArray l.length
theorem kY {l:List (List UInt8)} {e:MapEntry} (h:e∈pS l):∃p∈l,e.key=cL p∧e.val=.bool true:=by
 obtain⟨⟨p,i⟩,hx,rfl⟩:=List.mem_map.1 h
 exact⟨p,(List.mem_zipIdx' hx).2▸List.getElem_mem _,rfl,rfl⟩
theorem zaG {l:List (List UInt8)} {p:List UInt8} (h:p∈l):∃e∈pS l,e.key=cL p:=by
 obtain⟨i,hi,rfl⟩:=List.getElem_of_mem h
 exact⟨_,List.mem_map.2 ⟨(l[i],i),List.mk_mem_zipIdx_iff_getElem?.2 (by simp[hi]),rfl⟩,rfl⟩
theorem kj {w:World} {r:Nat} {l:List (List UInt8)} (hm:w.heap[r]?=some (dP l)) (p:List UInt8) (b:Bool) (hb:decide (p∈l)=b):
 (Instr.lookup 195 (.map (some r)) (.string (bs p)) false).run Tryz.prog w=.ok (.bool b) w:=by
 have ht:Tryz.prog.underlying 195=some (.map 9 4):=by kernel_rfl
 have hz:(zeroValue 4).run Tryz.prog w=.ok (.bool false) w:=rfl
 unfold dP at hm
 have hk:∀e∈pS l,∃x,e.key=cL x:=fun e he=>by obtain⟨q,_,h,_⟩:=kY he;exact⟨q,h⟩
 have hc:∀em,(Instr.checkKey em 10000 9 (.string (bs p))).run Tryz.prog w=.ok () w:=fun em=>cn.check w em p
 rcases cn.find w p (pS l) hk with⟨h1,h2⟩|⟨j,x,h1,h2,h3⟩
 ·have:p∉l:=fun hp=>by obtain⟨e,he,h⟩:=zaG hp;exact h2 e he h
  rw[decide_eq_false this] at hb
  subst hb
  unfold cL at h1
  simp[Instr.lookup,run_underlying ht,MapKept.run_getObj_map hm,hc,h1,hz,Result.andThen]
 ·obtain⟨q,hq,hq1,hq2⟩:=kY (List.mem_of_getElem? h2)
  have:p=q:=cn.inj _ _ (h3.symm.trans hq1)
  subst this
  rw[decide_eq_true hq] at hb
  subst hb
  unfold cL at h1
  simp[Instr.lookup,run_underlying ht,MapKept.run_getObj_map hm,hc,h1,hq2,Result.andThen]
theorem wV {w:World} {r:Nat} {l:List (List UInt8)} (hm:w.heap[r]?=some (dP l)) (p:List UInt8) (hb:p∉l):
 ∃W,(Instr.mapUpdate 195 (.map (some r)) (.string (bs p)) (.bool true)).run Tryz.prog w=.ok () W∧bg r w W∧W.heap[r]?=some (dP (l++[p])):=by
 have ht:Tryz.prog.underlying 195=some (.map 9 4):=by kernel_rfl
 have hr:r<w.heap.size:=(Array.getElem?_eq_some_iff.1 hm).1
 unfold dP at hm
 have hk:∀e∈pS l,∃x,e.key=cL x:=fun e he=>by obtain⟨q,_,h,_⟩:=kY he;exact⟨q,h⟩
 have hc:=cn.check w false p
 unfold cL at hc
 have h1:(Instr.findKey 9 (.string (bs p)) (pS l)).run Tryz.prog w=.ok none w:=by
  rcases cn.find w p (pS l) hk with⟨h1,h2⟩|⟨j,x,h1,h2,h3⟩
  ·exact h1
  ·obtain⟨q,hq,hq1,hq2⟩:=kY (List.mem_of_getElem? h2)
   exact absurd (cn.inj _ _ (h3.symm.trans hq1)▸hq) hb
 refine⟨cS w r (dP (l++[p])),?_,dj hr _,fA hr _⟩
 have he:dP (l++[p])=.map ((pS l).toArray.push ⟨.string (bs p),.bool true,l.length⟩) (l.length+1):=by
  simp[dP,pS,List.zipIdx_append,cL]
 rw[he]
 simp[Instr.mapUpdate,run_underlying ht,MapKept.run_getObj_map hm,hc,h1,MapKept.run_setObj_map _ hm,Result.andThen,cS]
end Go.Proofs.YtlbipokkdiiaiaaGreatDoor
