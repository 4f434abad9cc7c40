/- Lemmas for TopFoundUpto: W1, F2, F3, F4, W2, W3, W4, Shelf. -/
import Derived.Test.YtlbipokkdiiaiaaGreatDoorF01
import Derived.Test.YtlbipokkdiiaiaaGreatDoorF04
import Derived.Deep.MidRow
import Derived.Deep.Cut
import Derived.WideKeyArr
import Derived.MapFrom
import Derived.Carry
import Derived.Shelf.Strings.Builder1
import Derived.Shelf.Strings.Trim
import Derived.Shelf.Small.Utf8
import Derived.Shelf.Small.Bits
import Derived.Shelf.Small.Strs
import Derived.Shelf.Strings.BuilderF
import Derived.Shelf.Strings.BuilderK
import Derived.Shelf.Strconv.Itoa0
import Derived.Shelf.Strconv.Itoa1
import Derived.Shelf.LaysM
import Derived.Shelf.Strconv.Itoa2
import Derived.Shelf.Strconv.Itoa3
import Derived.Shelf.Strconv.Itoa4
import Derived.Shelf.Strconv.ParseIntEmpty
import Derived.Shelf.Strconv.Clone
import Derived.Shelf.Strconv.SyntaxError
import Derived.Shelf.LaysC
import Derived.Shelf.Strconv.ToError
import Derived.Shelf.Strconv.Lower
import Derived.Shelf.Strconv.ParseUint10
import Derived.Shelf.Strconv.ParseUint10Empty
import Derived.Shelf.Strconv.ParseUint10Any
import Derived.Shelf.Strconv.ParseInt10
import Derived.Shelf.Strconv.RangeError
import Derived.Shelf.Strconv.ToErrorRange
import Derived.Shelf.Strconv.ParseUintEmpty
import Derived.Shelf.Strconv.ParseUint10b64
import Derived.Shelf.Strconv.ParseUint10b32
import Derived.Shelf.Strconv.ParseUint10b16
import Derived.Shelf.Strconv.ParseUint10b8
import Derived.Shelf.Strconv.ParseUint10At
import Derived.Shelf.Strconv.ParseInt10At64
import Derived.Shelf.Strconv.ParseInt10At32
import Derived.Shelf.Strconv.ParseInt10At16
import Derived.Shelf.Strconv.ParseInt10At8
import Derived.Shelf.Strconv.ParseInt10All
import Derived.Shelf.Strconv.ParseIntPublic10
import Derived.Shelf.Strconv.ErrVarParseInt
import Derived.Shelf.Strings.Search1
import Derived.Shelf.Strings.Search2
import Derived.Shelf.Strings.Search3
import Derived.Shelf.Strings.Count
import Derived.Shelf.Strings.Shaped
import Derived.Shelf.Sort.Plain
import Derived.Shelf.GgClosure.StringsIndexFunc
import Derived.Ground.GgwProg
import Derived.Shelf.GgClosure.StringsIndexFuncTop
import Derived.Shelf.GgClosure.StringsRunes
import Derived.Shelf.Strings.Prefix
import Derived.Shelf.Strings.Split
import Derived.Shelf.Strings.Runes
import Derived.Shelf.Strings.AsciiSet
import Derived.Shelf.Unicode.DecodeSlow
import Derived.Shelf.Unicode.DecodeAny
import Derived.Shelf.Unicode.DecodeLast
import Derived.Shelf.Strings.FieldsFuncAny
import Derived.Shelf.Strings.FuncGrows
import Derived.Shelf.Strings.BuilderCap
import Derived.Shelf.Slices.Turned
import Derived.Ground.Names2Prog
import Derived.Shelf.Slices.Clone
import Derived.Shelf.Slices.CompactS
import Derived.Shelf.Slices.Cells
import Derived.Shelf.Slices.In.SortNone
import Derived.Test.YtlbipokkdiiaiaaGreatDoorProg
namespace Go.Proofs.YtlbipokkdiiaiaaGreatDoor
open Go.RowKit Exec
set_option maxRecDepth 100000
abbrev Dg:={l:List UInt8 // l.length=32}
def dgc (d:Dg):List Value:=Lib.byteCells d.1
def dgv (d:Dg):Value:=.agg (dgc d).toArray
def dg0:Dg:=⟨List.replicate 32 0,rfl⟩
theorem eX (d:Dg):(dgc d).length=32:=by unfold dgc;rw[aW];exact d.2
theorem kV (d:Dg):∀u∈dgc d,u.oneCell'=true:=pI d.1
theorem qn:∀{a b:List UInt8},Lib.byteCells a=Lib.byteCells b→a=b
 |[],[],_=>rfl
 |[],_::_,h=>by simp[Lib.byteCells] at h
 |_::_,[],h=>by simp[Lib.byteCells] at h
 |x::a,y::b,h=>by
  simp only[Lib.byteCells,List.map_cons,List.cons.injEq,Value.int.injEq,true_and] at h
  rw[qn (show Lib.byteCells a=Lib.byteCells b from h.2)]
  congr 1
  have:=h.1
  exact UInt8.toNat_inj.1 (by omega)
theorem zcE {d e:Dg} (h:dgc d=dgc e):d=e:=Subtype.ext (qn h)
theorem zbU (t:TypeId) (x y:Array Value):binOp .eql t (.agg x) (.agg y)=(do pure (.bool (←Op.equal t (.agg x) (.agg y)))):=rfl
theorem zcx (t:TypeId) (x y:Array Value):binOp .neq t (.agg x) (.agg y)=(do pure (.bool (!(←Op.equal t (.agg x) (.agg y))))):=rfl
structure RdL where
 path:List UInt8
 is:Bool
 sum:Dg
 deriving DecidableEq
structure MdL where
 path:List UInt8
 sum:Dg
 deriving DecidableEq
structure TcL where
 key:Dg
 reads:List RdL
 outs:List MdL
 deriving DecidableEq
def RdL.cells (r:RdL):List Value:=.string (bs r.path)::.bool r.is::dgc r.sum
def MdL.cells (m:MdL):List Value:=.string (bs m.path)::dgc m.sum
theorem RdL.len (r:RdL):r.cells.length=34:=by simp[RdL.cells,eX]
theorem MdL.len (m:MdL):m.cells.length=33:=by simp[MdL.cells,eX]
theorem RdL.one (r:RdL):∀u∈r.cells,u.oneCell'=true:=by
 intro u hu
 simp only[RdL.cells,List.mem_cons] at hu
 rcases hu with rfl|rfl|hu
 ·rfl
 ·rfl
 ·exact kV _ u hu
theorem MdL.one (r:MdL):∀u∈r.cells,u.oneCell'=true:=by
 intro u hu
 simp only[MdL.cells,List.mem_cons] at hu
 rcases hu with rfl|hu
 ·rfl
 ·exact kV _ u hu
inductive bT {α:Type} (f:α→Option α):α→α→Prop
 |refl (a:α):bT f a a
 |step {a b c:α}:f a=some b→bT f b c→bT f a c
theorem bT.tail {α:Type} {f:α→Option α} {a b c:α} (h:bT f a b) (h1:f b=some c):bT f a c:=by
 induction h with
 |refl a=>exact .step h1 (.refl _)
 |step h2 _ ih=>exact .step h2 (ih h1)
theorem bT.one {α:Type} {f:α→Option α} {a b c:α} (h:bT f a b) (hb:f b=none) (h1:bT f a c) (hc:f c=none):b=c:=by
 induction h generalizing c with
 |refl a=>
  cases h1 with
  |refl=>rfl
  |step h2 _=>rw[hb] at h2;cases h2
 |step h2 _ ih=>
  cases h1 with
  |refl=>rw[hc] at h2;cases h2
  |step h3 h4=>
   rw[h2] at h3
   cases h3
   exact ih hb h4 hc
open Classical in
noncomputable def pj {α:Type} (f:α→Option α) (a:α):α:=if h:∃b,bT f a b∧f b=none then h.choose else a
theorem eD {α:Type} {f:α→Option α} {a b:α} (h:bT f a b) (hb:f b=none):pj f a=b:=by
 have he:∃b,bT f a b∧f b=none:=⟨b,h,hb⟩
 unfold pj
 rw[dif_pos he]
 exact he.choose_spec.1.one he.choose_spec.2 h hb
theorem nE {α:Type} {f:α→Option α} (m:α→Nat) (I:α→Prop) (hm:∀a b,I a→f a=some b→I b∧m b<m a):∀(n:Nat) (a:α),I a→m a≤n→∃b,bT f a b∧f b=none∧I b
 |n,a,hi,hn=>by
  cases h:f a with
  |none=>exact⟨a,.refl _,h,hi⟩
  |some b=>
   obtain⟨hb,hl⟩:=hm a b hi h
   match n,hn with
   |0,hn=>omega
   |n+1,hn=>
    obtain⟨c,h1,h2,h3⟩:=nE m I hm n b hb (by omega)
    exact⟨c,.step h h1,h2,h3⟩
noncomputable def eY (env:Txt→Option Txt) (r:au):au:=pj (bM env) r
noncomputable def bO (env:Txt→Option Txt) (r:au):DoL×au:=
 if(eY env r).waits=true then(⟨1,(eY env r).asks,[],0⟩,eY env r)
 else((eY env r).over,if(eY env r).over.kind=2 then{eY env r with over:=do0} else eY env r)
structure ByL where
 env:Txt→Option Txt
 may:Txt→Bool
 outs:List Txt
structure bP where
 run:au
 wrote:List (Txt×Txt)
 reads:List KnL
 asks:Txt
 over:Bool
 why:Nat
def bP.has (b:bP) (p:Txt):Bool:=b.wrote.any fun x=>decide (x.1=p)
def eI (b:bP) (e:Nat):bP:={b with over:=true,why:=e}
def eL (y:ByL) (b:bP) (p d:Txt):bP:=if b.has p=true∨p∉y.outs then eI b 14 else{b with wrote:=b.wrote++[(p,d)]}
noncomputable def cL (y:ByL) (b:bP):Option bP:=
 if b.over=true then none
 else if(bO y.env b.run).1.kind=1 then(if y.may (bO y.env b.run).1.path=true then none else some (eI {b with run:=(bO y.env b.run).2} 13))
 else if(bO y.env b.run).1.kind=2 then some (eL y {b with run:=(bO y.env b.run).2} (bO y.env b.run).1.path (bO y.env b.run).1.data)
 else if(bO y.env b.run).1.kind=3 then some (if y.outs.any (fun p=>!b.has p)=true then eI {b with run:=(bO y.env b.run).2} 14 else{b with run:=(bO y.env b.run).2,over:=true})
 else some (eI {b with run:=(bO y.env b.run).2} (bO y.env b.run).1.why)
noncomputable def oC (y:ByL) (b:bP):bP:=if b.over=true then b else{b with run:=(bO y.env b.run).2,asks:=(bO y.env b.run).1.path}
noncomputable def goB (y:ByL) (b:bP):bP:=oC y (pj (cL y) b)
def lK (l:List bB):au:=⟨l,[],[],[],[],[],[],false,do0⟩
noncomputable def pN (y:ByL) (l:List bB):bP:=goB y ⟨lK l,[],[],[],false,0⟩
def gS (r:au) (k:KnL):au:={r with known:=r.known++[k],asks:=[],waits:=false}
noncomputable def iL (y:ByL) (b:bP) (k:KnL):bP:=goB y {b with reads:=b.reads++[k],run:=gS b.run k}
noncomputable def gK (y:ByL) (ans:Txt→Option KnL) (b:bP):Option bP:=if b.over=true then none else(ans b.asks).map (iL y b)
noncomputable def jY (y:ByL) (ans:Txt→Option KnL) (l:List bB):bP:=pj (gK y ans) (pN y l)
def lnK (k:KnL):Nat:=(ap k.data).length+1
def mK (l:List KnL):Nat:=(l.map lnK).sum
def sK (l:List KnL) (seen:List Txt):Nat:=((l.filter fun k=>decide (k.path∉seen)).map lnK).sum
def twL (l:List KnL):gB→Nat
 |.line _=>1
 |.told p _=>1+(match l.find? fun k=>decide (k.path=p) with|some k=>(ap k.data).length|none=>0)
def gb (l:List KnL) (t:List gB):Nat:=(t.map (twL l)).sum
def nuL (r:au):Nat:=r.cmds.length*(mK r.known+2)+sK r.known r.seen+gb r.known r.top
def jI (r:au):Nat:=if r.over.kind=0∧r.waits=false then 1 else 0
def muL (r:au):Nat:=nuL r+jI r
theorem eZ (r:au):jI r≤1:=by unfold jI;split<;>omega
theorem zc5 (l:List KnL) (s:List Txt):sK l s≤mK l:=by
 unfold sK mK
 induction l with
 |nil=>simp
 |cons k l ih=>
  rw[List.filter_cons]
  split
  ·simp only[List.map_cons,List.sum_cons];omega
  ·simp only[List.map_cons,List.sum_cons];omega
theorem wB (l:List KnL) (s:List Txt) (b:Txt):sK l (b::s)≤sK l s:=by
 unfold sK
 induction l with
 |nil=>simp
 |cons k l ih=>
  rw[List.filter_cons,List.filter_cons]
  by_cases h1:k.path∈s
  ·have h2:k.path∈b::s:=List.mem_cons_of_mem _ h1
   rw[if_neg (by rw[decide_eq_true_eq];exact fun h=>h h2),if_neg (by rw[decide_eq_true_eq];exact fun h=>h h1)]
   exact ih
  ·rw[if_pos (c:=decide (k.path∉s)=true) (by simpa using h1)]
   split
   ·simp only[List.map_cons,List.sum_cons];omega
   ·simp only[List.map_cons,List.sum_cons];omega
theorem vT (l:List KnL) (s:List Txt) (b:Txt) (k:KnL) (hk:(l.find? fun k=>decide (k.path=b))=some k) (hb:b∉s):sK l (b::s)+lnK k≤sK l s:=by
 induction l with
 |nil=>simp at hk
 |cons x l ih=>
  rw[List.find?_cons] at hk
  by_cases h1:x.path=b
  ·rw[decide_eq_true h1] at hk
   simp only[Option.some.injEq] at hk
   subst hk
   have h2:=wB l s b
   unfold sK at h2 ⊢
   rw[List.filter_cons,List.filter_cons,if_neg (by simp[h1]),if_pos (by simpa[h1] using hb)]
   simp only[List.map_cons,List.sum_cons]
   omega
  ·rw[decide_eq_false h1] at hk
   have h2:=ih hk
   unfold sK at h2 ⊢
   rw[List.filter_cons,List.filter_cons]
   by_cases h3:x.path∈s
   ·rw[if_neg (by simp[h3]),if_neg (by simpa using h3)]
    exact h2
   ·rw[if_pos (by simp[h3,h1]),if_pos (by simpa using h3)]
    simp only[List.map_cons,List.sum_cons]
    omega
theorem vE (l:List KnL) (t:List gB) (ls:List Txt):gb l (ls.map .line++t)=ls.length+gb l t:=by
 unfold gb
 rw[List.map_append,List.sum_append]
 congr 1
 induction ls with
 |nil=>rfl
 |cons x ls ih=>simp only[List.map_cons,List.sum_cons,ih,List.length_cons,twL];omega
theorem lp (r:au) (e:Nat):nuL (cM r e)=nuL r:=rfl
theorem i7 (r:au) (s:Txt):nuL (cY r s)=nuL r:=by unfold cY;split<;>rfl
theorem mW (r:au) (t:cS) (k:KnL):nuL (bq r t k)≤nuL r+(ap k.data).length:=by
 cases t with
 |read=>simp only[bq];split<;>simp[i7,lp]
 |try_=>simp only[bq];split<;>simp[i7]
 |scan=>
  simp only[bq]
  split
  ·simp only[nuL,vE];omega
  ·rw[lp];omega
theorem ue (r:au) (t:cS) (k:KnL) (ht:t≠.scan):nuL (bq r t k)=nuL r:=by
 cases t with
 |read=>simp only[bq];split<;>simp[i7,lp]
 |try_=>simp only[bq];split<;>simp[i7]
 |scan=>exact absurd rfl ht
theorem uw (r:au) (p:Txt) (t:cS) (h:r.knows p=none):muL (cx r p t)≤nuL r+1:=by
 unfold cx
 rw[h]
 simp only
 split
 ·have:jI (cM r 6)=0:=by simp[jI,cM]
  unfold muL
  rw[lp,this];omega
 ·have h1:jI {r with asks:=p,waits:=true,top:=.told p t::r.top}=0:=by simp[jI]
  have h2:twL r.known (.told p t)=1:=by
   unfold au.knows at h
   simp only[twL,h]
  unfold muL
  rw[h1]
  simp only[nuL,gb,List.map_cons,List.sum_cons,h2]
  omega
theorem np (env:Txt→Option Txt) (r r':au) (h:bM env r=some r'):muL r'<muL r:=by
 unfold bM at h
 split at h
 ·cases h
 ·rename_i hg
  simp only[not_or,Decidable.not_not,Bool.not_eq_true] at hg
  have hf:jI r=1:=by simp[jI,hg]
  have hmu:muL r=nuL r+1:=by unfold muL;rw[hf]
  split at h
  ·rename_i s t ht
   simp only[Option.some.injEq] at h
   subst h
   have h0:nuL r=nuL {r with top:=t}+1:=by simp only[nuL,ht,gb,List.map_cons,List.sum_cons,twL];omega
   unfold fS
   split
   ·rename_i a b hw
    split
    ·have h1:=eZ (cY {r with top:=t} (s++[10]))
     unfold muL
     rw[i7,hf];omega
    ·split
     ·have h1:=eZ {r with top:=t}
      unfold muL
      rw[hf];omega
     ·rename_i hb
      have hb':b∉r.seen:=hb
      cases hk:r.knows b with
      |none=>
       have h1:=uw {r with top:=t,seen:=b::r.seen} b .scan hk
       have h2:=wB r.known r.seen b
       have h3:nuL {r with top:=t,seen:=b::r.seen}≤nuL {r with top:=t}:=by simp only[nuL];omega
       rw[hmu]
       exact Nat.lt_of_le_of_lt h1 (by omega)
      |some k=>
       have h2:=vT r.known r.seen b k hk hb'
       unfold lnK at h2
       have h3:nuL {r with top:=t,seen:=b::r.seen}+((ap k.data).length+1)≤nuL {r with top:=t}:=by simp only[nuL];omega
       have e:cx {r with top:=t,seen:=b::r.seen} b .scan=bq {r with top:=t,seen:=b::r.seen} .scan k:=by
        have:au.knows {r with top:=t,seen:=b::r.seen} b=some k:=hk
        unfold cx
        rw[this]
       rw[e]
       have h1:=mW {r with top:=t,seen:=b::r.seen} .scan k
       have h4:=eZ (bq {r with top:=t,seen:=b::r.seen} .scan k)
       rw[hmu]
       unfold muL
       omega
   ·have h1:=eZ (cY {r with top:=t} (s++[10]))
    unfold muL
    rw[i7,hf];omega
  ·rename_i p k t ht
   simp only[Option.some.injEq] at h
   subst h
   cases hk:r.knows p with
   |none=>
    have hk2:(r.known.find? fun k=>decide (k.path=p))=none:=hk
    have h0:nuL r=nuL {r with top:=t}+1:=by simp only[nuL,ht,gb,List.map_cons,List.sum_cons,twL,hk2];omega
    have h1:nuL (bq {r with top:=t} k ⟨[],false,[]⟩)≤nuL {r with top:=t}:=mW {r with top:=t} k ⟨[],false,[]⟩
    have h4:=eZ (bq {r with top:=t} k ⟨[],false,[]⟩)
    simp only[Option.getD_none]
    rw[hmu]
    unfold muL
    omega
   |some x=>
    have hk2:(r.known.find? fun k=>decide (k.path=p))=some x:=hk
    have h0:nuL r=nuL {r with top:=t}+1+(ap x.data).length:=by simp only[nuL,ht,gb,List.map_cons,List.sum_cons,twL,hk2];omega
    have h1:=mW {r with top:=t} k x
    have h4:=eZ (bq {r with top:=t} k x)
    simp only[Option.getD_some]
    rw[hmu]
    unfold muL
    omega
  ·rename_i ht
   split at h
   ·rename_i c l hc
    simp only[Option.some.injEq] at h
    subst h
    have h0:nuL {r with cmds:=l}+(mK r.known+2)=nuL r:=by simp only[nuL,hc,List.length_cons,Nat.succ_mul];omega
    have hlow:∀x:au,nuL x≤nuL {r with cmds:=l}→muL x<muL r:=fun x hx=>by
     have:=eZ x
     rw[hmu];unfold muL;omega
    have hask:∀(p:Txt) (t:cS),t≠.scan→muL (cx {r with cmds:=l} p t)<muL r:=fun p t hts=>by
     cases hk:au.knows {r with cmds:=l} p with
     |none=>have:=uw {r with cmds:=l} p t hk;rw[hmu];omega
     |some k=>
      have e:cx {r with cmds:=l} p t=bq {r with cmds:=l} t k:=by unfold cx;rw[hk]
      rw[e]
      exact hlow _ (by rw[ue _ _ _ hts];exact Nat.le_refl _)
    have hscan:∀(a w:Txt),muL (cx {r with cmds:=l,word:=w,seen:=[a]} a .scan)<muL r:=fun a w=>by
     cases hk:au.knows {r with cmds:=l,word:=w,seen:=[a]} a with
     |none=>
      have h1:=uw {r with cmds:=l,word:=w,seen:=[a]} a .scan hk
      have h2:=zc5 r.known [a]
      have h3:nuL {r with cmds:=l,word:=w,seen:=[a]}≤nuL {r with cmds:=l}+mK r.known:=by simp only[nuL];omega
      rw[hmu];omega
     |some k=>
      have e:cx {r with cmds:=l,word:=w,seen:=[a]} a .scan=bq {r with cmds:=l,word:=w,seen:=[a]} .scan k:=by unfold cx;rw[hk]
      rw[e]
      have h1:=mW {r with cmds:=l,word:=w,seen:=[a]} .scan k
      have h2:=vT r.known [] a k hk (by simp)
      have h5:=zc5 r.known []
      unfold lnK at h2
      have h3:nuL {r with cmds:=l,word:=w,seen:=[a]}+(ap k.data).length≤nuL {r with cmds:=l}+mK r.known:=by simp only[nuL];omega
      have h4:=eZ (bq {r with cmds:=l,word:=w,seen:=[a]} .scan k)
      rw[hmu];unfold muL;omega
    exact nD (fun x=>muL x<muL r) env {r with cmds:=l} _ _ _ _ _ (fun t ht=>hask _ t ht) (hscan _ _) (fun x=>hlow _ (by rw[i7];exact Nat.le_refl _)) (fun e=>hlow _ (by rw[lp];exact Nat.le_refl _)) (hlow _ (Nat.le_refl _)) (hlow _ (Nat.le_refl _)) (fun x=>hlow _ (by unfold jB;rw[i7];exact Nat.le_refl _)) (fun x=>hlow _ (Nat.le_refl _))
   ·simp only[Option.some.injEq] at h
    subst h
    have:jI {r with over:=⟨3,[],[],0⟩}=0:=by exact if_neg (fun h=>Nat.noConfusion (show 3=0 from h.1))
    have h1:nuL {r with over:=⟨3,[],[],0⟩}=nuL r:=rfl
    rw[hmu];unfold muL;rw[this];omega
structure dJ (r r':au):Prop where
 known:r'.known=r.known
 cmds:r'.cmds.length≤r.cmds.length
 wr:r'.over.kind=2→r'.cmds.length<r.cmds.length
 ask:r'.waits=true→r'.knows r'.asks=none∧r'.known.length<500∧r'.over.kind=0
 kind:r'.over.kind≠1
theorem lu (r:au) (hw:r.waits=false) (e:Nat):dJ r (cM r e):=
 ⟨rfl,Nat.le_refl _,fun h=>by simp[cM] at h,fun h=>by simp[cM,hw] at h,by simp[cM]⟩
theorem m9 (r:au) (hw:r.waits=false) (hk:r.over.kind=0):dJ r r:=
 ⟨rfl,Nat.le_refl _,fun h=>by omega,fun h=>(by rw[hw] at h;cases h),by omega⟩
theorem lP (r:au) (hw:r.waits=false) (hk:r.over.kind=0) (s:Txt):dJ r (cY r s):=by
 unfold cY
 split
 ·exact lu r hw 6
 ·exact⟨rfl,Nat.le_refl _,fun h=>by simp[hk] at h,fun h=>by simp[hw] at h,by simp[hk]⟩
theorem wJ (r:au) (hw:r.waits=false) (hk:r.over.kind=0) (t:cS) (k:KnL):dJ r (bq r t k):=by
 cases t with
 |read=>simp only[bq];split;exact lP r hw hk _;exact lu r hw _
 |try_=>simp only[bq];split;exact lP r hw hk _;exact m9 r hw hk
 |scan=>
  simp only[bq]
  split
  ·exact⟨rfl,Nat.le_refl _,fun h=>by simp[hk] at h,fun h=>by simp[hw] at h,by simp[hk]⟩
  ·exact lu r hw _
theorem vG (r:au) (hw:r.waits=false) (hk:r.over.kind=0) (p:Txt) (t:cS):dJ r (cx r p t):=by
 unfold cx
 split
 ·exact wJ r hw hk t _
 ·rename_i hn
  split
  ·exact lu r hw _
  ·exact⟨rfl,Nat.le_refl _,fun h=>by simp[hk] at h,fun _=>⟨hn,by simp only;omega,hk⟩,by simp[hk]⟩
theorem dJ.from {r q r':au} (h:dJ q r') (h1:q.known=r.known) (h2:q.cmds.length≤r.cmds.length):dJ r r':=
 ⟨h.known.trans h1,Nat.le_trans h.cmds h2,fun e=>Nat.lt_of_lt_of_le (h.wr e) h2,h.ask,h.kind⟩
theorem zet (env:Txt→Option Txt) (r:au) (hw:r.waits=false) (hk:r.over.kind=0) (c:bB) (l:List bB) (hc:r.cmds=c::l):dJ r (doL env {r with cmds:=l} c):=by
 have bY:l.length<r.cmds.length:=by rw[hc];simp
 have F:∀(q r':au),dJ q r'→q.known=r.known→q.cmds=l→dJ r r':=fun q r' h h1 h2=>h.from h1 (by rw[h2];omega)
 exact nD (fun x=>dJ r x) env {r with cmds:=l} _ _ _ _ _ (fun t _=>F _ _ (vG {r with cmds:=l} hw hk _ _) rfl rfl) (F _ _ (vG {r with cmds:=l,word:=c.words.getD 2 [],seen:=[c.words.getD 1 []]} hw hk _ _) rfl rfl) (fun x=>F _ _ (lP {r with cmds:=l} hw hk _) rfl rfl) (fun e=>F _ _ (lu {r with cmds:=l} hw _) rfl rfl)
  ⟨rfl,by simp only;omega,fun _=>by simp only;omega,fun h=>by simp[hw] at h,by simp⟩ (F _ _ (m9 {r with cmds:=l} hw hk) rfl rfl) (fun x=>F _ _ (lP {r with cmds:=l,buffer:=[]} hw hk _) rfl rfl) (fun x=>⟨rfl,by simp only;omega,fun h=>by simp[hk] at h,fun h=>by simp[hw] at h,by simp[hk]⟩)
theorem zbY (r:au) (hw:r.waits=false) (hk:r.over.kind=0) (s:Txt):dJ r (fS r s):=by
 unfold fS
 split
 ·split
  ·exact lP r hw hk _
  ·split
   ·exact m9 r hw hk
   ·exact(vG {r with seen:=_::r.seen} hw hk _ _).from rfl (Nat.le_refl _)
 ·exact lP r hw hk _
theorem wA (env:Txt→Option Txt) (r r':au) (h:bM env r=some r'):dJ r r':=by
 unfold bM at h
 split at h
 ·cases h
 ·rename_i hg
  simp only[not_or,Decidable.not_not,Bool.not_eq_true] at hg
  obtain⟨hk,hw⟩:=hg
  split at h
  ·rename_i s t ht
   simp only[Option.some.injEq] at h
   subst h
   exact(zbY {r with top:=t} hw hk s).from rfl (Nat.le_refl _)
  ·rename_i p k t ht
   simp only[Option.some.injEq] at h
   subst h
   exact(wJ {r with top:=t} hw hk k _).from rfl (Nat.le_refl _)
  ·split at h
   ·rename_i c l hc
    simp only[Option.some.injEq] at h
    subst h
    exact zet env r hw hk c l hc
   ·simp only[Option.some.injEq] at h
    subst h
    exact⟨rfl,Nat.le_refl _,fun h=>by simp at h,fun h=>by simp[hw] at h,by simp⟩
structure zbK (env:Txt→Option Txt) (r r':au):Prop where
 steps:bT (bM env) r r'
 still:bM env r'=none
 ok:dJ r r'
theorem vu (env:Txt→Option Txt) (r:au) (hw:r.waits=false) (hk:r.over.kind=0):zbK env r (eY env r):=by
 obtain⟨b,h1,h2,h3⟩:=nE (f:=bM env) muL (fun x=>dJ r x) (fun a b ha h=>⟨by
  have h1:=wA env a b h
  exact⟨h1.known.trans ha.known,Nat.le_trans h1.cmds ha.cmds,fun e=>Nat.lt_of_lt_of_le (h1.wr e) ha.cmds,h1.ask,h1.kind⟩,np env a b h⟩) (muL r) r (m9 r hw hk) (Nat.le_refl _)
 unfold eY
 rw[eD h1 h2]
 exact⟨h1,h2,h3⟩
theorem ua (env:Txt→Option Txt) (r:au) (h:r.waits=true):bM env r=none:=by unfold bM;rw[if_pos (.inr h)]
structure zd2 (r:au) (d:DoL) (r':au):Prop where
 known:r'.known=r.known
 cmds:r'.cmds.length≤r.cmds.length
 rd:d.kind=1→r'.waits=true∧d.path=r'.asks∧r'.knows r'.asks=none∧r'.known.length<500∧r'.over.kind=0
 wr:d.kind=2→r'.cmds.length<r.cmds.length∧r'.waits=false∧r'.over.kind=0
theorem m8 (env:Txt→Option Txt) (r:au) (hw:r.waits=false) (hk:r.over.kind=0):zd2 r (bO env r).1 (bO env r).2:=by
 obtain⟨h1,h2,h3⟩:=vu env r hw hk
 unfold bO
 split
 ·rename_i h
  exact⟨h3.known,h3.cmds,fun _=>⟨h,rfl,h3.ask h⟩,fun e=>by simp at e⟩
 ·rename_i h
  refine⟨?_,?_,fun e=>absurd e h3.kind,fun e=>?_⟩
  ·simp only;split<;>exact h3.known
  ·simp only;split<;>exact h3.cmds
  ·simp only at e
   simp only[if_pos e]
   exact⟨h3.wr e,by simpa using h,rfl⟩
structure GoB (b:bP):Prop where
 kn:b.run.known=b.reads
 go:b.over=false→b.run.waits=false∧b.run.over.kind=0
def muB (b:bP):Nat:=b.run.cmds.length+(if b.over=true then 0 else 1)
theorem nU (y:ByL) (b b':bP) (hb:GoB b) (h:cL y b=some b'):GoB b'∧muB b'<muB b∧b'.reads=b.reads:=by
 unfold cL at h
 split at h
 ·cases h
 ·rename_i ho
  simp only[Bool.not_eq_true] at ho
  obtain⟨hw,hk⟩:=hb.go ho
  have hn:=m8 y.env b.run hw hk
  have hm:muB b=b.run.cmds.length+1:=by simp[muB,ho]
  have hkn:(bO y.env b.run).2.known=b.reads:=hn.known.trans hb.kn
  have hcm:=hn.cmds
  have hfail:∀e,GoB (eI {b with run:=(bO y.env b.run).2} e)∧muB (eI {b with run:=(bO y.env b.run).2} e)<muB b∧(eI {b with run:=(bO y.env b.run).2} e).reads=b.reads:=fun e=>
   ⟨⟨hkn,fun h=>by simp[eI] at h⟩,by rw[hm];simp only[muB,eI,if_true];omega,rfl⟩
  split at h
  ·split at h
   ·cases h
   ·simp only[Option.some.injEq] at h
    subst h
    exact hfail 13
  ·split at h
   ·rename_i hd
    simp only[Option.some.injEq] at h
    subst h
    obtain⟨h1,h2,h3⟩:=hn.wr hd
    unfold eL
    split
    ·exact hfail 14
    ·exact⟨⟨hkn,fun _=>⟨h2,h3⟩⟩,by rw[hm];simp only[muB,ho];simp;omega,rfl⟩
   ·split at h
    ·simp only[Option.some.injEq] at h
     subst h
     split
     ·exact hfail 14
     ·exact⟨⟨hkn,fun h=>by simp at h⟩,by rw[hm];simp only[muB,if_true];omega,rfl⟩
    ·simp only[Option.some.injEq] at h
     subst h
     exact hfail _
theorem zeN (y:ByL) (b:bP) (hb:GoB b):∃b',bT (cL y) b b'∧cL y b'=none∧GoB b'∧b'.reads=b.reads∧pj (cL y) b=b':=by
 obtain⟨b',h1,h2,h3⟩:=nE (f:=cL y) muB (fun x=>GoB x∧x.reads=b.reads) (fun a c ha h=>by
  obtain⟨h1,h2,h3⟩:=nU y a c ha.1 h
  exact⟨⟨h1,h3.trans ha.2⟩,h2⟩) (muB b) b ⟨hb,rfl⟩ (Nat.le_refl _)
 exact⟨b',h1,h2,h3.1,h3.2,eD h1 h2⟩
structure rQ (y:ByL) (b:bP):Prop where
 kn:b.run.known=b.reads
 ask:b.over=false→b.run.waits=true∧b.asks=b.run.asks∧b.run.knows b.asks=none∧b.run.known.length<500∧y.may b.asks=true∧b.run.over.kind=0
theorem wO (y:ByL) (b:bP) (hb:GoB b):rQ y (goB y b)∧(goB y b).reads=b.reads:=by
 obtain⟨b',h1,h2,h3,h4,h5⟩:=zeN y b hb
 unfold goB
 rw[h5]
 unfold oC
 by_cases ho:b'.over=true
 ·rw[if_pos ho]
  exact⟨⟨h3.kn,fun h=>by rw[ho] at h;cases h⟩,h4⟩
 ·rw[if_neg ho]
  have ho':b'.over=false:=by simpa using ho
  obtain⟨hw,hk⟩:=h3.go ho'
  have hn:=m8 y.env b'.run hw hk
  unfold cL at h2
  rw[if_neg ho] at h2
  split at h2
  ·rename_i hd
   split at h2
   ·rename_i hm
    obtain⟨n1,n2,n3,n4,n5⟩:=hn.rd hd
    refine⟨⟨hn.known.trans h3.kn,fun _=>⟨n1,n2,?_,n4,hm,n5⟩⟩,h4⟩
    simp only
    rw[n2];exact n3
   ·cases h2
  ·split at h2
   ·cases h2
   ·split at h2<;>cases h2
theorem ox (y:ByL) (l:List bB):rQ y (pN y l)∧(pN y l).reads=[]:=wO y _ ⟨rfl,fun _=>⟨rfl,rfl⟩⟩
theorem qd (y:ByL) (b:bP) (k:KnL) (hb:rQ y b) (ho:b.over=false):rQ y (iL y b k)∧(iL y b k).reads=b.reads++[k]:=
 wO y _ ⟨by simp[gS,hb.kn],fun _=>⟨rfl,(hb.ask ho).2.2.2.2.2⟩⟩
theorem nK {α:Type} (f:α→List Value) (sz:Nat) (hs:∀x,(f x).length=sz):∀(l:List α) (k:Nat) (hk:k<l.length) (j:Nat),j<sz→(l.flatMap f)[k*sz+j]?=(f l[k])[j]?
 |x::l,0,_,j,hj=>by rw[List.flatMap_cons,Nat.zero_mul,Nat.zero_add,List.getElem?_append_left (by rw[hs];exact hj)];rfl
 |x::l,k+1,hk,j,hj=>by
  rw[List.flatMap_cons,List.getElem?_append_right (by rw[hs,Nat.succ_mul];omega),hs,show(k+1)*sz+j-sz=k*sz+j by rw[Nat.succ_mul];omega]
  exact nK f sz hs l k (by simpa using hk) j hj
 |[],_,hk,_,_=>by simp at hk
theorem gE {α:Type} (f:α→List Value) (sz:Nat) (hs:∀x,(f x).length=sz):∀l:List α,(l.flatMap f).length=l.length*sz
 |[]=>by simp
 |x::l=>by rw[List.flatMap_cons,List.length_append,hs,gE f sz hs l,List.length_cons,Nat.succ_mul];omega
def aJ {α:Type} (w:World) (sz:Nat) (f:α→List Value) (v:Value) (l:List α):Prop:=am w sz v l.length (l.flatMap f)
theorem aJ.out {α:Type} {w:World} {sz:Nat} {f:α→List Value} {v:Value} {l:List α} (hs:∀x,(f x).length=sz) (h0:0<sz) (h:aJ w sz f v l):∃a c,v=.slice a l.length c∧l.length≤c∧c≤maxLen∧(a=none→c=0)∧
 (∀k,k<l.length→∃b off,a=some ⟨b,off,none⟩∧b<w.heap.size∧∀j (hj:j<l.length),w.rangeAt b (off+j*sz) (f l[j])):=by
 obtain⟨hl,a,c,rfl,hc,hm,hn,hx⟩:=h
 refine⟨a,c,rfl,hc,hm,hn,fun k hk=>?_⟩
 obtain⟨b,off,rfl,aK,hcell⟩:=hx (by intro e;have:=gE f sz hs l;rw[e] at this;have h1:1≤l.length*sz:=Nat.le_trans (by omega) (Nat.mul_le_mul (show 1≤l.length by omega) h0);simp at this;omega)
 refine⟨b,off,rfl,aK,fun j hj i u hu=>?_⟩
 have hi:i<sz:=by rw[←hs l[j]];exact(List.getElem?_eq_some_iff.1 hu).1
 rw[Nat.add_assoc]
 exact hcell _ _ (by rw[nK f sz hs l j hj i hi];exact hu)
theorem aJ.below {α:Type} {w w':World} {sz B:Nat} {f:α→List Value} {v:Value} {l:List α} (h:aJ w sz f v l) (hb:Below B w w') (hB:w.heap.size≤B):aJ w' sz f v l:=am.below h hb hB
theorem aQ {w W:World} (hW:Below w.heap.size w W) {b o:Nat} {cs:List Value} (h:w.rangeAt b o cs):W.rangeAt b o cs:=fun j v hv=>Below.keeps hW (h j v hv)
structure cZ (ty n:Nat):Prop where
 out:∃d:TypeDesc,Tryz.prog.underlying ty=some d∧d.isRow=true∧(Tryz.prog.info? ty).map (·.size)=some n
theorem zeT:cZ 31 32:=⟨_,Tryz.underlying31,rfl,by kernel_rfl⟩
theorem wZ:cZ 100 34:=⟨_,Tryz.underlying100,rfl,by kernel_rfl⟩
theorem cZ.ld {ty n:Nat} (h:cZ ty n) {w:World} {b o:Nat} {cs:List Value} (hr:w.rangeAt b o cs) (hl:cs.length=n):
 (Instr.loadAt ty (.pointer (some ⟨b,o,none⟩))).run Tryz.prog w=.ok (.agg cs.toArray) w:=by
 obtain⟨d,h1,h2,h3⟩:=h.out
 exact run_loadAt_mid w b o ty cs d hr h1 h2 (by rw[hl];exact h3)
section
variable {ops:Array Oper} {rest:List Oper} {o:Oper} {a:Act} {w w':World} {Q:Exit→Act→World→Prop} {C:World→Prop} {QA:Act→Prop} {v:Value}
theorem gA (hr:(execOp a.eval o).run Tryz.prog w=.ok (.value v) w') (h:wpList Tryz.prog ops Q rest (a.put o.dst v) w') (hw:Region.wanted o (yielded ops a.tmps)=true:=by rfl):wpList Tryz.prog ops Q (o::rest) a w:=by
 refine wpList_step fun K hK=>?_
 rw[if_pos hw]
 unfold Oper.wp
 rw[hr]
 exact hK _ _ h
theorem WQ.run (hr:∀W,C W→(execOp a.eval o).run Tryz.prog W=.ok (.value v) W) (h:WQ Tryz.prog ops C QA rest (a.put o.dst v)) (hw:Region.wanted o (yielded ops a.tmps)=true:=by rfl):WQ Tryz.prog ops C QA (o::rest) a:=by
 refine WQ.step fun K hK=>?_
 rw[if_pos hw]
 exact⟨v,fun W hW=>by unfold Oper.quietAt;rw[hr W hW];exact⟨rfl,rfl⟩,hK _ h⟩
theorem yh {ty n:Nat} (h:cZ ty n) {b off:Nat} {cs:List Value} {x:Operand} (hr:w.rangeAt b off cs) (hl:cs.length=n) (ho:o.op=.load ty x) (hx:a.eval x=.pointer (some ⟨b,off,none⟩)):
 (execOp a.eval o).run Tryz.prog w=.ok (.value (.agg cs.toArray)) w:=by
 unfold execOp
 simp only[ho,hx,Sem.run_bind,h.ld hr hl,Result.andThen_ok,Sem.run_pure]
theorem bX {ty n:Nat} (h:cZ ty n) {b off:Nat} {cs:List Value} {x:Operand} (hr:w.rangeAt b off cs) (hl:cs.length=n) (hk:wpList Tryz.prog ops Q rest (a.put o.dst (.agg cs.toArray)) w) (ho:o.op=.load ty x:=by rfl) (hx:a.eval x=.pointer (some ⟨b,off,none⟩):=by rfl) (hw:Region.wanted o (yielded ops a.tmps)=true:=by rfl):
 wpList Tryz.prog ops Q (o::rest) a w:=gA (yh h hr hl ho hx) hk hw
theorem WQ.ld {ty n:Nat} (h:cZ ty n) {b off:Nat} {cs:List Value} {x:Operand} (hr:∀W,C W→W.rangeAt b off cs) (hl:cs.length=n) (hk:WQ Tryz.prog ops C QA rest (a.put o.dst (.agg cs.toArray))) (ho:o.op=.load ty x:=by rfl) (hx:a.eval x=.pointer (some ⟨b,off,none⟩):=by rfl) (hw:Region.wanted o (yielded ops a.tmps)=true:=by rfl):
 WQ Tryz.prog ops C QA (o::rest) a:=WQ.run (fun W hW=>yh h (hr W hW) hl ho hx) hk hw
structure zb7 (t:TypeId) (x y:Array Value) (r:Bool):Prop where
 out:dq Tryz.prog 4 t (.agg x) (.agg y)=some r
 gd:Tryz.prog.eqGuardType Tryz.prog.depth t=false
theorem zeA {t:TypeId} {x' y':Array Value} {r:Bool} (h:zb7 t x' y' r) {x y:Operand} {t2:TypeId} (ho:o.op=.binOp .eql t x y t2) (hx:a.eval x=.agg x') (hy:a.eval y=.agg y'):
 (execOp a.eval o).run Tryz.prog w=.ok (.value (.bool r)) w:=by
 unfold execOp
 have heg:(eqGuard .eql t x y (.agg x') (.agg y')).run Tryz.prog w=.ok () w:=by simp[eqGuard,h.gd]
 simp only[ho,hx,hy,Sem.run_bind,heg,zbU,run_equal' h.out,Result.andThen_ok,Sem.run_pure]
theorem zek {t:TypeId} {x' y':Array Value} {r:Bool} (h:zb7 t x' y' r) {x y:Operand} {t2:TypeId} (ho:o.op=.binOp .neq t x y t2) (hx:a.eval x=.agg x') (hy:a.eval y=.agg y'):
 (execOp a.eval o).run Tryz.prog w=.ok (.value (.bool (!r))) w:=by
 unfold execOp
 have heg:(eqGuard .neq t x y (.agg x') (.agg y')).run Tryz.prog w=.ok () w:=by simp[eqGuard,h.gd]
 simp only[ho,hx,hy,Sem.run_bind,heg,zcx,run_equal' h.out,Result.andThen_ok,Sem.run_pure]
theorem WQ.eql {t:TypeId} {x' y':Array Value} {r:Bool} (h:zb7 t x' y' r) {x y:Operand} {t2:TypeId} (hk:WQ Tryz.prog ops C QA rest (a.put o.dst (.bool r))) (ho:o.op=.binOp .eql t x y t2:=by rfl) (hx:a.eval x=.agg x':=by rfl) (hy:a.eval y=.agg y':=by rfl) (hw:Region.wanted o (yielded ops a.tmps)=true:=by rfl):
 WQ Tryz.prog ops C QA (o::rest) a:=WQ.run (fun _ _=>zeA h ho hx hy) hk hw
theorem WQ.neq {t:TypeId} {x' y':Array Value} {r:Bool} (h:zb7 t x' y' r) {x y:Operand} {t2:TypeId} (hk:WQ Tryz.prog ops C QA rest (a.put o.dst (.bool (!r)))) (ho:o.op=.binOp .neq t x y t2:=by rfl) (hx:a.eval x=.agg x':=by rfl) (hy:a.eval y=.agg y':=by rfl) (hw:Region.wanted o (yielded ops a.tmps)=true:=by rfl):
 WQ Tryz.prog ops C QA (o::rest) a:=WQ.run (fun _ _=>zek h ho hx hy) hk hw
end
theorem ak {w:World} {b:Nat} {cs:List Value} {t:TypeId} {fr:Nat×Nat} (h:w.heap[b]?=some (.cells cs.toArray t fr)):w.rangeAt b 0 cs:=fun j v hv=>by
 rw[cell_of_row w b (0+j) cs.toArray t fr h,Nat.zero_add];simpa using hv
theorem lZ {w:World} {b o:Nat} {l r:List Value} (h:w.rangeAt b o (l++r)):w.rangeAt b o l∧w.rangeAt b (o+l.length) r:=
 ⟨fun j v hv=>h j v (by rw[List.getElem?_append_left (List.getElem?_eq_some_iff.1 hv).1];exact hv),fun j v hv=>by
  rw[Nat.add_assoc];exact h _ v (by rw[List.getElem?_append_right (by omega),Nat.add_sub_cancel_left];exact hv)⟩
theorem bF {w:World} {b o:Nat} {v:Value} {r:List Value} (h:w.rangeAt b o (v::r)):w.cell? ⟨b,o,none⟩=some v∧w.rangeAt b (o+1) r:=
 ⟨h 0 v rfl,fun j u hu=>by rw[show o+1+j=o+(j+1) by omega];exact h (j+1) u (by simpa using hu)⟩
structure TcM where
 t:TcL
 rv:Value
 ov:Value
def TcM.cells (x:TcM):List Value:=dgc x.t.key++[x.rv,x.ov]
def TcM.val (x:TcM):Value:=.agg x.cells.toArray
def gR (w:World) (x:TcM):Prop:=aJ w 34 RdL.cells x.rv x.t.reads∧aJ w 33 MdL.cells x.ov x.t.outs
theorem TcM.len (x:TcM):x.cells.length=34:=by simp[TcM.cells,eX]
theorem gR.below {w w':World} {B:Nat} {x:TcM} (h:gR w x) (hb:Below B w w') (hB:w.heap.size≤B):gR w' x:=⟨h.1.below hb hB,h.2.below hb hB⟩
theorem gR.keep {w w':World} {x:TcM} (h:gR w x) (hb:Below w.heap.size w w'):gR w' x:=h.below hb (Nat.le_refl _)
theorem TcM.parts {w:World} {b o:Nat} {x:TcM} (h:w.rangeAt b o x.cells):w.rangeAt b o (dgc x.t.key)∧w.cell? ⟨b,o+32,none⟩=some x.rv∧w.cell? ⟨b,o+33,none⟩=some x.ov:=by
 obtain⟨h1,h2⟩:=lZ h
 rw[eX] at h2
 obtain⟨h3,h4⟩:=bF h2
 exact⟨h1,h3,(bF h4).1⟩
theorem o6 {α:Type} {w:World} {sz:Nat} {f:α→List Value} {v:Value} {l:List α} (h:aJ w sz f v l):v.oneCell'=true:=by
 obtain⟨_,a,c,rfl,_⟩:=h;rfl
theorem gR.one {w:World} {x:TcM} (h:gR w x):∀u∈x.cells,u.oneCell'=true:=by
 intro u hu
 simp only[TcM.cells,List.mem_append,List.mem_cons,List.not_mem_nil,or_false] at hu
 rcases hu with hu|rfl|rfl
 ·exact kV _ u hu
 ·exact o6 h.1
 ·exact o6 h.2
structure aw (D:Nat→Prop) (w w':World):Prop where
 os:w'.os=w.os
 tape:w'.tape=w.tape
 output:w'.output=w.output
 size:w.heap.size≤w'.heap.size
 block:∀k,k<w.heap.size→¬D k→w'.heap[k]?=w.heap[k]?
theorem aw.refl (D:Nat→Prop) (w:World):aw D w w:=⟨rfl,rfl,rfl,Nat.le_refl _,fun _ _ _=>rfl⟩
theorem aw.of_below {D:Nat→Prop} {w w':World} (h:Below w.heap.size w w'):aw D w w':=⟨h.os,h.tape,h.output,h.size,fun k hk _=>h.block k hk⟩
theorem aw.trans {D D':Nat→Prop} {a b c:World} (h:aw D a b) (k:aw D' b c) (hD:∀i,i<a.heap.size→D' i→D i):aw D a c:=
 ⟨k.os.trans h.os,k.tape.trans h.tape,k.output.trans h.output,Nat.le_trans h.size k.size,fun i hi hd=>(k.block i (Nat.lt_of_lt_of_le hi h.size) (fun e=>hd (hD i hi e))).trans (h.block i hi hd)⟩
theorem aw.chain {D:Nat→Prop} {a b c:World} (h:aw D a b) (k:aw D b c):aw D a c:=h.trans k fun _ _ e=>e
theorem aw.then {D:Nat→Prop} {a b c:World} (h:aw D a b) (k:Below b.heap.size b c):aw D a c:=h.chain (aw.of_below k)
theorem aw.mono {D D':Nat→Prop} {a b:World} (h:aw D a b) (hD:∀i,i<a.heap.size→D i→D' i):aw D' a b:=
 ⟨h.os,h.tape,h.output,h.size,fun i hi hd=>h.block i hi (fun e=>hd (hD i hi e))⟩
theorem aw.below {D:Nat→Prop} {B:Nat} {w w':World} (h:aw D w w') (hB:B≤w.heap.size) (hD:∀i,D i→B≤i):Below B w w':=
 ⟨h.os,h.tape,h.output,h.size,fun k hk=>h.block k (by omega) (fun e=>by have:=hD k e;omega)⟩
structure aX (r:Nat) (w w':World):Prop where
 lt:r<w.heap.size
 foot:aw (fun b=>b=r) w w'
theorem aX.below {r B:Nat} {w w':World} (h:aX r w w') (hB:B≤r):Below B w w':=
 h.foot.below (by have:=h.lt;omega) (fun i e=>by omega)
theorem aX.trans {r:Nat} {a b c:World} (h:aX r a b) (k:aX r b c):aX r a c:=⟨h.lt,h.foot.chain k.foot⟩
theorem aX.then {r:Nat} {a b c:World} (h:aX r a b) (k:Below b.heap.size b c):aX r a c:=⟨h.lt,h.foot.then k⟩
theorem aX.setCell {w:World} (x:Addr) (v:Value) (hx:x.block<w.heap.size):aX x.block w (w.setCell x v):=by
 refine⟨hx,rfl,rfl,rfl,?_,fun k hk hne=>?_⟩
 ·unfold World.setCell;split<;>simp
 ·unfold World.setCell
  split
  all_goals(simp only[Array.getElem?_modify];rw[if_neg (fun e=>hne e.symm)])
theorem mD {w:World} {b:Nat} (o:Nat) (v:Value) (h:b<w.heap.size):aX b w (w.setCell ⟨b,o,none⟩ v):=aX.setCell ⟨b,o,none⟩ v h
def dX (w:World) (r:Nat) (o:Obj):World:={w with heap:=w.heap.setIfInBounds r o}
theorem jp {w:World} {r:Nat} (h:r<w.heap.size) (o:Obj):(dX w r o).heap[r]?=some o:=by
 simp[dX,h]
theorem e7 {w:World} {r:Nat} (h:r<w.heap.size) (o:Obj):aX r w (dX w r o):=
 ⟨h,rfl,rfl,rfl,by simp[dX],fun k _ hne=>by simp only[dX,Array.getElem?_setIfInBounds];rw[if_neg (fun e=>hne e.symm)]⟩
structure sU (kt:TypeId) {κ:Type} (kv:κ→Value):Prop where
 inj:∀a b,kv a=kv b→a=b
 check:∀(w:World) (em:Bool) (d:κ),(Instr.checkKey em 10000 kt (kv d)).run Tryz.prog w=.ok () w
 find:∀(w:World) (d:κ) (es:List MapEntry),(∀e∈es,∃x,e.key=kv x)→((Instr.findKey kt (kv d) es).run Tryz.prog w=.ok none w∧∀e∈es,e.key≠kv d)∨
  ∃j e,(Instr.findKey kt (kv d) es).run Tryz.prog w=.ok (some (j,e.val)) w∧es[j]?=some e∧e.key=kv d
 stays:∀(w:World) (d:κ),(Instr.keyThatStays (kv d) (kv d)).run Tryz.prog w=.ok (kv d) w
theorem ky (d:Dg):∃l,keyOf Tryz.prog 31 (dgv d)=some l:=by
 have hu:Tryz.prog.underlying 31=some (.array 32 5):=by kernel_rfl
 have hi:Tryz.prog.underlying 5=some (.int .u8):=by kernel_rfl
 have hk:Tryz.prog.keyType 31=true:=by kernel_rfl
 have hc:Tryz.prog.cellsOf 31=32:=by kernel_rfl
 have h1:Tryz.prog.cellsOf 5=1:=by kernel_rfl
 have hp:decide (0<Tryz.prog.types.size)=true:=by kernel_rfl
 have hp:=of_decide_eq_true hp
 obtain⟨n,hn⟩:∃n,Tryz.prog.types.size+1=n+2:=⟨Tryz.prog.types.size-1,by omega⟩
 have hf:(dgv d).formed Tryz.prog 31=true:=by
  unfold dgv Value.formed
  simp only[hu,hc,List.size_toArray,eX,beq_self_eq_true]
 have hl:∃L,Tryz.prog.keyLits (n+2) 31 (dgc d)=some L:=by
  unfold Program.keyLits
  simp only[hu,hc,eX,h1,if_true,Nat.mul_one]
  obtain⟨r,hr⟩:=MapFrom.mapM_some (l:=List.range 32) (f:=fun i=>Tryz.prog.keyLits (n+1) 5 (((dgc d).drop i).take 1)) (fun i hi2=>by
   have aK:i<d.1.length:=by rw[d.2];simpa using hi2
   have e:((dgc d).drop i).take 1=[Value.int .u8 (d.1[i].toNat:Int)]:=by
    unfold dgc Lib.byteCells
    rw[List.drop_eq_getElem_cons (by simpa using aK)]
    simp
   rw[e]
   refine⟨[.int .u8 (d.1[i].toNat:Int)],?_⟩
   unfold Program.keyLits
   simp only[hi]
   have hb:=d.1[i].toNat_lt
   have hw:(Lit.int .u8 (d.1[i].toNat:Int)).wf=true:=by
    have m1:IntKind.u8.min=0:=rfl
    have m2:IntKind.u8.max=255:=rfl
    simp only[Lit.wf,m1,m2,Bool.and_eq_true,decide_eq_true_eq]
    omega
   simp only[hw,and_self,if_true])
  exact⟨_,by rw[hr];rfl⟩
 obtain⟨L,hL⟩:=hl
 unfold keyOf
 simp only[hu,hk,hf,Bool.and_self,if_true,hn]
 show ∃l,(Tryz.prog.keyLits (n+2) 31 (dgc d)).map _=some l
 rw[hL]
 exact⟨_,rfl⟩
theorem zc8:sU 31 dgv:=by
 have K:WideMaps.KeyLaw Tryz.prog 31:=WideMaps.ArrKey.law (n:=32) (e:=5) ⟨by kernel_rfl,by kernel_rfl,by kernel_rfl,by kernel_rfl⟩
 refine⟨fun a b h=>?_,fun w em d=>?_,fun w d es h=>?_,fun w d=>?_⟩
 ·unfold dgv at h
  exact zcE (by simpa using h)
 ·obtain⟨l,hl⟩:=ky d
  exact K.check w em hl
 ·obtain⟨l,hl⟩:=ky d
  exact K.find w hl es (fun e he=>by obtain⟨x,hx⟩:=h e he;rw[hx];exact ky x)
 ·obtain⟨l,hl⟩:=ky d
  exact K.stays w hl
def du (l:List UInt8):Value:=.string (bs l)
theorem cU:sU 9 du:=by
 have hu:Tryz.prog.underlying 9=some .string:=by kernel_rfl
 refine⟨fun a b h=>?_,fun w em d=>?_,fun w d es h=>?_,fun w d=>?_⟩
 ·unfold du bs at h
  simpa using h
 ·exact MapKept.run_checkKey hu (d:=.string) (by simp[MapKept.IsKey,du]) em 9999
 ·unfold Instr.findKey
  rcases MapKept.findNow_spec (d:=.string) (k:=du d) (by simp[MapKept.IsKey,du]) es 0 (fun e he=>by obtain⟨x,hx⟩:=h e he;rw[hx];simp[MapKept.IsKey,du]) with⟨h1,h2⟩|⟨j,e,h1,h2,h3⟩
  ·exact .inl ⟨by simp[run_underlying hu,h1],h2⟩
  ·exact .inr ⟨j,e,by simp[run_underlying hu,h1],h2,h3⟩
 ·unfold Instr.keyThatStays du
  have:Instr.sameBits 10000 (.string (bs d)) (.string (bs d))=true:=by
   show((bs d).data==(bs d).data)=true
   simp
  simp[this]
theorem pz {α:Type} (f:α→α):∀(a:List α) (x:α) (b:List α),(a++x::b).modify a.length f=a++f x::b
 |[],x,b=>by simp
 |y::a,x,b=>by simp[List.modify_succ_cons,pz f a x b]
theorem zN {α:Type} {l:List α} {j:Nat} {x:α} (h:l[j]?=some x):∃a b,l=a++x::b∧a.length=j:=by
 obtain⟨aK,rfl⟩:=List.getElem?_eq_some_iff.1 h
 exact⟨l.take j,l.drop (j+1),by rw[←List.drop_eq_getElem_cons aK,List.take_append_drop],by rw[List.length_take];omega⟩
def fT {κ:Type} (kv:κ→Value) (M:κ→Option Value) (o:Obj):Prop:=
 ∃es clock,o=.map es clock∧(∀e∈es.toList,∃d,e.key=kv d)∧(es.toList.map (·.key)).Nodup∧∀d v,M d=some v↔∃e∈es.toList,e.key=kv d∧e.val=v
theorem fT.nil {κ:Type} (kv:κ→Value):fT kv (fun _=>none) (.map #[] 0):=⟨#[],0,rfl,by simp,by simp,by simp⟩
section
variable {κ:Type} {kt:TypeId} {kv:κ→Value} {M:κ→Option Value} {o:Obj} {w:World} {r:Nat} {t e:TypeId}
theorem fT.look (h:fT kv M o) (K:sU kt kv) (hm:w.heap[r]?=some o) (ht:Tryz.prog.underlying t=some (.map kt e)) {z:Value} (hz:(zeroValue e).run Tryz.prog w=.ok z w) (d:κ) (c:Bool):
 (Instr.lookup t (.map (some r)) (kv d) c).run Tryz.prog w=.ok (if c then .tuple #[(M d).getD z,.bool (M d).isSome] else(M d).getD z) w:=by
 obtain⟨es,clock,rfl,hk,hn,hM⟩:=h
 rcases K.find w d es.toList hk with⟨h1,h2⟩|⟨j,x,h1,h2,h3⟩
 ·have:M d=none:=by
   cases hd:M d with
   |none=>rfl
   |some v=>
    obtain⟨x,hx,hx2,_⟩:=(hM d v).1 hd
    exact absurd hx2 (h2 x hx)
  simp[Instr.lookup,run_underlying ht,MapKept.run_getObj_map hm,K.check,h1,hz,Result.andThen,this]
 ·have:M d=some x.val:=(hM d x.val).2 ⟨x,List.mem_of_getElem? h2,h3,rfl⟩
  simp[Instr.lookup,run_underlying ht,MapKept.run_getObj_map hm,K.check,h1,Result.andThen,this]
theorem fT.put [DecidableEq κ] (h:fT kv M o) (K:sU kt kv) (hm:w.heap[r]?=some o) (ht:Tryz.prog.underlying t=some (.map kt e)) (d:κ) (v:Value):
 ∃o',(Instr.mapUpdate t (.map (some r)) (kv d) v).run Tryz.prog w=.ok () (dX w r o')∧fT kv (fun x=>if x=d then some v else M x) o':=by
 obtain⟨es,clock,rfl,hk,hn,hM⟩:=h
 rcases K.find w d es.toList hk with⟨h1,h2⟩|⟨j,x,h1,h2,h3⟩
 ·refine⟨.map (es.push ⟨kv d,v,clock⟩) (clock+1),?_,⟨_,_,rfl,?_,?_,?_⟩⟩
  ·simp[Instr.mapUpdate,run_underlying ht,MapKept.run_getObj_map hm,K.check,h1,MapKept.run_setObj_map _ hm,Result.andThen,dX]
  ·intro y hy
   simp only[Array.toList_push,List.mem_append,List.mem_singleton] at hy
   rcases hy with hy|rfl
   ·exact hk y hy
   ·exact⟨d,rfl⟩
  ·simp only[Array.toList_push,List.map_append,List.map_cons,List.map_nil]
   refine List.nodup_append.2 ⟨hn,by simp,fun a ha b hb=>?_⟩
   simp only[List.mem_singleton] at hb
   subst hb
   obtain⟨y,hy,rfl⟩:=List.mem_map.1 ha
   exact h2 y hy
  ·intro x u
   simp only[Array.toList_push,List.mem_append,List.mem_singleton]
   by_cases hx:x=d
   ·subst hx
    simp only[if_true,Option.some.injEq]
    constructor
    ·rintro rfl
     exact⟨_,.inr rfl,rfl,rfl⟩
    ·rintro⟨y,hy|rfl,h5,h6⟩
     ·exact absurd h5 (h2 y hy)
     ·exact h6
   ·simp only[if_neg hx,hM]
    constructor
    ·rintro⟨y,hy,h5⟩
     exact⟨y,.inl hy,h5⟩
    ·rintro⟨y,hy|rfl,h5,h6⟩
     ·exact⟨y,hy,h5,h6⟩
     ·exact absurd (K.inj _ _ h5).symm hx
 ·have hj:es[j]?=some x:=by simpa using h2
  obtain⟨a,b,hab,rfl⟩:=zN h2
  have hl:(es.modify a.length (fun e'=>{e' with key:=kv d,val:=v})).toList=a++{x with key:=kv d,val:=v}::b:=by
   rw[Array.toList_modify,hab,pz]
  refine⟨.map (es.modify a.length (fun e'=>{e' with key:=kv d,val:=v})) clock,?_,⟨_,_,rfl,?_,?_,?_⟩⟩
  ·simp[Instr.mapUpdate,run_underlying ht,MapKept.run_getObj_map hm,K.check,h1,hj,h3,K.stays,MapKept.run_setObj_map _ hm,Result.andThen,dX]
  ·rw[hl]
   intro y hy
   simp only[List.mem_append,List.mem_cons] at hy
   rcases hy with hy|rfl|hy
   ·exact hk y (by rw[hab];simp[hy])
   ·exact⟨d,rfl⟩
   ·exact hk y (by rw[hab];simp[hy])
  ·rw[hl]
   rw[hab] at hn
   simpa[h3] using hn
  ·rw[hl]
   rw[hab] at hn hM
   intro y u
   have hp:=(List.perm_middle (l₁:=a.map (·.key)) (l₂:=b.map (·.key)) (a:=x.key)).nodup_iff.1 (by simpa using hn)
   have hno:∀z,z∈a∨z∈b→z.key≠x.key:=fun z hz e=>(List.nodup_cons.1 hp).1 (by rw[←e,←List.map_append];exact List.mem_map.2 ⟨z,by simpa using hz,rfl⟩)
   simp only[List.mem_append,List.mem_cons] at hM ⊢
   by_cases hx:y=d
   ·subst hx
    simp only[if_true,Option.some.injEq]
    constructor
    ·rintro rfl
     exact⟨_,.inr (.inl rfl),rfl,rfl⟩
    ·rintro⟨z,hz|rfl|hz,h5,h6⟩
     ·exact absurd (h5.trans h3.symm) (hno z (.inl hz))
     ·exact h6
     ·exact absurd (h5.trans h3.symm) (hno z (.inr hz))
   ·simp only[if_neg hx,hM]
    constructor
    ·rintro⟨z,hz|rfl|hz,h5,h6⟩
     ·exact⟨z,.inl hz,h5,h6⟩
     ·exact absurd (K.inj _ _ (h5.symm.trans h3)) hx
     ·exact⟨z,.inr (.inr hz),h5,h6⟩
    ·rintro⟨z,hz|rfl|hz,h5,h6⟩
     ·exact⟨z,.inl hz,h5,h6⟩
     ·exact absurd (K.inj _ _ h5).symm hx
     ·exact⟨z,.inr (.inr hz),h5,h6⟩
end
def pV (l:List (List UInt8)):List MapEntry:=l.zipIdx.map fun x=>⟨du x.1,.bool true,x.2⟩
def dM (l:List (List UInt8)):Obj:=.map (pV l).toArray l.length
theorem kQ {l:List (List UInt8)} {e:MapEntry} (h:e∈pV l):∃p∈l,e.key=du p∧e.val=.bool true:=by
 obtain⟨⟨p,i⟩,hx,rfl⟩:=List.mem_map.1 h
 exact⟨p,(List.mem_zipIdx' hx).2▸List.getElem_mem _,rfl,rfl⟩
theorem za8 {l:List (List UInt8)} {p:List UInt8} (h:p∈l):∃e∈pV l,e.key=du p:=by
 obtain⟨i,hi,rfl⟩:=List.getElem_of_mem h
 exact⟨_,List.mem_map.2 ⟨(l[i],i),List.mk_mem_zipIdx_iff_getElem?.2 (by simp[hi]),rfl⟩,rfl⟩
theorem kI {w:World} {r:Nat} {l:List (List UInt8)} (hm:w.heap[r]?=some (dM l)) (p:List UInt8) (b:Bool) (hb:decide (p∈l)=b):
 (Instr.lookup 195 (.map (some r)) (.string (bs p)) false).run Tryz.prog w=.ok (.bool b) w:=by
 have ht:Tryz.prog.underlying 195=some (.map 9 4):=by kernel_rfl
 have hz:(zeroValue 4).run Tryz.prog w=.ok (.bool false) w:=rfl
 unfold dM at hm
 have hk:∀e∈pV l,∃x,e.key=du x:=fun e he=>by obtain⟨q,_,h,_⟩:=kQ he;exact⟨q,h⟩
 have hc:∀em,(Instr.checkKey em 10000 9 (.string (bs p))).run Tryz.prog w=.ok () w:=fun em=>cU.check w em p
 rcases cU.find w p (pV l) hk with⟨h1,h2⟩|⟨j,x,h1,h2,h3⟩
 ·have:p∉l:=fun hp=>by obtain⟨e,he,h⟩:=za8 hp;exact h2 e he h
  rw[decide_eq_false this] at hb
  subst hb
  unfold du at h1
  simp[Instr.lookup,run_underlying ht,MapKept.run_getObj_map hm,hc,h1,hz,Result.andThen]
 ·obtain⟨q,hq,hq1,hq2⟩:=kQ (List.mem_of_getElem? h2)
  have:p=q:=cU.inj _ _ (h3.symm.trans hq1)
  subst this
  rw[decide_eq_true hq] at hb
  subst hb
  unfold du at h1
  simp[Instr.lookup,run_underlying ht,MapKept.run_getObj_map hm,hc,h1,hq2,Result.andThen]
theorem wk {w:World} {r:Nat} {l:List (List UInt8)} (hm:w.heap[r]?=some (dM l)) (p:List UInt8) (hb:p∉l):
 ∃W,(Instr.mapUpdate 195 (.map (some r)) (.string (bs p)) (.bool true)).run Tryz.prog w=.ok () W∧aX r w W∧W.heap[r]?=some (dM (l++[p])):=by
 have ht:Tryz.prog.underlying 195=some (.map 9 4):=by kernel_rfl
 have hr:r<w.heap.size:=(Array.getElem?_eq_some_iff.1 hm).1
 unfold dM at hm
 have hk:∀e∈pV l,∃x,e.key=du x:=fun e he=>by obtain⟨q,_,h,_⟩:=kQ he;exact⟨q,h⟩
 have hc:=cU.check w false p
 unfold du at hc
 have h1:(Instr.findKey 9 (.string (bs p)) (pV l)).run Tryz.prog w=.ok none w:=by
  rcases cU.find w p (pV l) hk with⟨h1,h2⟩|⟨j,x,h1,h2,h3⟩
  ·exact h1
  ·obtain⟨q,hq,hq1,hq2⟩:=kQ (List.mem_of_getElem? h2)
   exact absurd (cU.inj _ _ (h3.symm.trans hq1)▸hq) hb
 refine⟨dX w r (dM (l++[p])),?_,e7 hr _,jp hr _⟩
 have he:dM (l++[p])=.map ((pV l).toArray.push ⟨.string (bs p),.bool true,l.length⟩) (l.length+1):=by
  simp[dM,pV,List.zipIdx_append,du]
 rw[he]
 simp[Instr.mapUpdate,run_underlying ht,MapKept.run_getObj_map hm,hc,h1,MapKept.run_setObj_map _ hm,Result.andThen,dX]
end Go.Proofs.YtlbipokkdiiaiaaGreatDoor
namespace Go.Proofs
open Go.Shelf
def zfd:Go.Shelf.Ren:=⟨fun|169=>104|n=>n,fun|70=>213|9=>9|0=>0|72=>215|37=>49|127=>274|3=>3|5=>5|n=>n,fun|n=>n⟩
theorem zfR:Go.Proofs.Lays.n169 Tryz.prog zfd:={
 mixed:=by kernel_rfl
 f169:=Tryz.func104.trans (congrArg some (by kernel_rfl))
 t0:=Tryz.underlying0
 a0:=Tryz.isAgg0
 z0:=Tryz.sizeOf0
 v0:=Tryz.zeroValue0
 t3:=Tryz.underlying3
 a3:=Tryz.isAgg3
 z3:=Tryz.sizeOf3
 v3:=Tryz.zeroValue3
 t9:=Tryz.underlying9
 a9:=Tryz.isAgg9
 z9:=Tryz.sizeOf9
 v9:=Tryz.zeroValue9
 t37:=Tryz.underlying49
 a37:=Tryz.isAgg49
 z37:=Tryz.sizeOf49
 v37:=Tryz.zeroValue49
 t70:=Tryz.underlying213
 a70:=Tryz.isAgg213
 z70:=Tryz.sizeOf213
 v70:=Tryz.zeroValue213
 t72:=Tryz.underlying215
 a72:=Tryz.isAgg215
 z72:=Tryz.sizeOf215
 v72:=Tryz.zeroValue215
 t127:=Tryz.underlying274
 a127:=Tryz.isAgg274
 z127:=Tryz.sizeOf274
 v127:=Tryz.zeroValue274}
theorem zfg:Builder.Extra Tryz.prog zfd:={
 sizeBuilder:=by kernel_rfl
 liesBuilder:=by kernel_rfl
 t5:=Tryz.underlying5
 a5:=Tryz.isAgg5
 z5:=Tryz.sizeOf5
 v5:=Tryz.zeroValue5
 infoByte:=by kernel_rfl
 cellsByte:=by kernel_rfl
 sizeByte:=by kernel_rfl
 neB5:=by decide}
def zfz:Go.Shelf.Ren:=⟨fun|137=>187|217=>226|266=>287|n=>n,fun|9=>9|5=>5|3=>3|n=>n,fun|n=>n⟩
theorem zfT:Go.Proofs.Lays.n137 Tryz.prog zfz:={
 mixed:=by kernel_rfl
 f137:=Tryz.func187.trans (congrArg some (by kernel_rfl))
 f217:=Tryz.func226.trans (congrArg some (by kernel_rfl))
 f266:=Tryz.func287.trans (congrArg some (by kernel_rfl))
 t3:=Tryz.underlying3
 a3:=Tryz.isAgg3
 z3:=Tryz.sizeOf3
 v3:=Tryz.zeroValue3
 t5:=Tryz.underlying5
 a5:=Tryz.isAgg5
 z5:=Tryz.sizeOf5
 v5:=Tryz.zeroValue5
 t9:=Tryz.underlying9
 a9:=Tryz.isAgg9
 z9:=Tryz.sizeOf9
 v9:=Tryz.zeroValue9}
open Go.RowKit in
theorem Tryz.strings_IndexByte (s:ByteArray) (c:Int) (w:World):
 Calls Tryz.prog 187 #[.string s,.int .u8 c] w fun e w'=>e=.returned (.int .i64 (Lib.indexByte s.data.toList c.toNat.toUInt8))∧w'=w:=Any.strings_IndexByte zfT s c w
open Go.RowKit in
theorem Tryz.Builder_String_any_k (B b:Nat) (l:List UInt8) (w:World) (h:Lib.IsBuilderF 215 5 B b (Lib.byteCells l) w) (hBw:B≤w.heap.size):
 Calls Tryz.prog 104 #[.pointer (some ⟨b,0,none⟩)] w fun e w'=>e=.returned (.string ⟨l.toArray⟩)∧(Lib.IsBuilderF 215 5 B b (Lib.byteCells l) w'∧Below B w w'∧Lib.OthersKept 5 (some b) w w'):=Any.Builder_String_any_k zfR zfg B b l w h hBw
def zfr:Go.Shelf.Ren:=⟨fun|171=>102|243=>152|246=>172|283=>212|284=>213|285=>214|286=>215|129=>237|317=>269|318=>270|319=>271|320=>272|337=>307|338=>308|n=>n,fun|3=>3|9=>9|2=>2|4=>4|171=>342|0=>0|53=>29|37=>49|5=>5|173=>345|212=>390|51=>250|20=>20|213=>391|46=>184|232=>30|233=>440|n=>n,fun|17=>1|18=>6|19=>7|n=>n⟩
theorem zfK:Go.Proofs.LaysM.n171 Tryz.prog zfr:={
 mixed:=by kernel_rfl
 f129:=Tryz.func237.trans (congrArg some (by kernel_rfl))
 f171:=Tryz.func102.trans (congrArg some (by kernel_rfl))
 f243:=Tryz.func152.trans (congrArg some (by kernel_rfl))
 f246:=Tryz.func172.trans (congrArg some (by kernel_rfl))
 f283:=Tryz.func212.trans (congrArg some (by kernel_rfl))
 f284:=Tryz.func213.trans (congrArg some (by kernel_rfl))
 f285:=Tryz.func214.trans (congrArg some (by kernel_rfl))
 f286:=Tryz.func215.trans (congrArg some (by kernel_rfl))
 f317:=Tryz.func269.trans (congrArg some (by kernel_rfl))
 f318:=Tryz.func270.trans (congrArg some (by kernel_rfl))
 f319:=Tryz.func271.trans (congrArg some (by kernel_rfl))
 f320:=Tryz.func272.trans (congrArg some (by kernel_rfl))
 f337:=Tryz.func307.trans (congrArg some (by kernel_rfl))
 f338:=Tryz.func308.trans (congrArg some (by kernel_rfl))
 t0:=Tryz.underlying0
 a0:=Tryz.isAgg0
 z0:=Tryz.sizeOf0
 v0:=Tryz.zeroValue0
 t2:=Tryz.underlying2
 a2:=Tryz.isAgg2
 z2:=Tryz.sizeOf2
 v2:=Tryz.zeroValue2
 t3:=Tryz.underlying3
 a3:=Tryz.isAgg3
 z3:=Tryz.sizeOf3
 v3:=Tryz.zeroValue3
 t4:=Tryz.underlying4
 a4:=Tryz.isAgg4
 z4:=Tryz.sizeOf4
 v4:=Tryz.zeroValue4
 t5:=Tryz.underlying5
 a5:=Tryz.isAgg5
 z5:=Tryz.sizeOf5
 v5:=Tryz.zeroValue5
 t9:=Tryz.underlying9
 a9:=Tryz.isAgg9
 z9:=Tryz.sizeOf9
 v9:=Tryz.zeroValue9
 t20:=Tryz.underlying20
 a20:=Tryz.isAgg20
 z20:=Tryz.sizeOf20
 v20:=Tryz.zeroValue20
 t37:=Tryz.underlying49
 a37:=Tryz.isAgg49
 z37:=Tryz.sizeOf49
 v37:=Tryz.zeroValue49
 t46:=Tryz.underlying184
 a46:=Tryz.isAgg184
 z46:=Tryz.sizeOf184
 v46:=Tryz.zeroValue184
 t51:=Tryz.underlying250
 a51:=Tryz.isAgg250
 z51:=Tryz.sizeOf250
 v51:=Tryz.zeroValue250
 t53:=Tryz.underlying29
 a53:=Tryz.isAgg29
 z53:=Tryz.sizeOf29
 v53:=Tryz.zeroValue29
 t171:=Tryz.underlying342
 a171:=Tryz.isAgg342
 z171:=Tryz.sizeOf342
 v171:=Tryz.zeroValue342
 t173:=Tryz.underlying345
 a173:=Tryz.isAgg345
 z173:=Tryz.sizeOf345
 v173:=Tryz.zeroValue345
 t212:=Tryz.underlying390
 a212:=Tryz.isAgg390
 z212:=Tryz.sizeOf390
 v212:=Tryz.zeroValue390
 t213:=Tryz.underlying391
 a213:=Tryz.isAgg391
 z213:=Tryz.sizeOf391
 t232:=Tryz.underlying30
 a232:=Tryz.isAgg30
 z232:=Tryz.sizeOf30
 v232:=Tryz.zeroValue30
 t233:=Tryz.underlying440
 a233:=Tryz.isAgg440
 z233:=Tryz.sizeOf440
 v233:=Tryz.zeroValue440
 g17:=by kernel_rfl
 g18:=by kernel_rfl
 g19:=by kernel_rfl
 i0:=by kernel_rfl
 i2:=by kernel_rfl
 i3:=by kernel_rfl
 i4:=by kernel_rfl
 i5:=by kernel_rfl
 i9:=by kernel_rfl
 i20:=by kernel_rfl
 i37:=by kernel_rfl
 i46:=by kernel_rfl
 i51:=by kernel_rfl
 i53:=by kernel_rfl
 i171:=by kernel_rfl
 i173:=by kernel_rfl
 i212:=by kernel_rfl
 i232:=by kernel_rfl
 i233:=by kernel_rfl
 m17:=by kernel_rfl
 m18:=by kernel_rfl
 m19:=by kernel_rfl}
open Go.RowKit Go.Sort Go.Lib in
theorem Tryz.strconv_Itoa (n:Int) (h0: -9223372036854775808≤n) (h1:n≤9223372036854775807) (w:World) (htab:Lib.TabIs Tryz.prog w "internal/strconv.uint64pow10" .u64 Lib.pow10Tab):
 Calls Tryz.prog 102 #[.int .i64 n] w fun e w'=>e=.returned (.string ⟨(Lib.itoa n).toArray⟩)∧∃k os,w'=grow (w.drewN k) os:=Any.strconv_Itoa zfK n h0 h1 w htab
open Go.RowKit Go.Sort Go.Lib in
open Go.RowKit in
def zfx:Go.Shelf.Ren:=⟨fun|143=>185|219=>224|217=>226|225=>284|224=>285|267=>286|266=>287|314=>318|n=>n,fun|9=>9|3=>3|4=>4|5=>5|46=>184|146=>426|51=>250|n=>n,fun|1=>0|n=>n⟩
theorem zfk:Go.Proofs.Lays.n143 Tryz.prog zfx:={
 mixed:=by kernel_rfl
 f143:=Tryz.func185.trans (congrArg some (by kernel_rfl))
 f217:=Tryz.func226.trans (congrArg some (by kernel_rfl))
 f219:=Tryz.func224.trans (congrArg some (by kernel_rfl))
 f224:=Tryz.func285.trans (congrArg some (by kernel_rfl))
 f225:=Tryz.func284.trans (congrArg some (by kernel_rfl))
 f266:=Tryz.func287.trans (congrArg some (by kernel_rfl))
 f267:=Tryz.func286.trans (congrArg some (by kernel_rfl))
 f314:=Tryz.func318.trans (congrArg some (by kernel_rfl))
 t3:=Tryz.underlying3
 a3:=Tryz.isAgg3
 z3:=Tryz.sizeOf3
 v3:=Tryz.zeroValue3
 t4:=Tryz.underlying4
 a4:=Tryz.isAgg4
 z4:=Tryz.sizeOf4
 v4:=Tryz.zeroValue4
 t5:=Tryz.underlying5
 a5:=Tryz.isAgg5
 z5:=Tryz.sizeOf5
 v5:=Tryz.zeroValue5
 t9:=Tryz.underlying9
 a9:=Tryz.isAgg9
 z9:=Tryz.sizeOf9
 v9:=Tryz.zeroValue9
 t46:=Tryz.underlying184
 a46:=Tryz.isAgg184
 z46:=Tryz.sizeOf184
 v46:=Tryz.zeroValue184
 t51:=Tryz.underlying250
 a51:=Tryz.isAgg250
 z51:=Tryz.sizeOf250
 v51:=Tryz.zeroValue250
 t146:=Tryz.underlying426
 a146:=Tryz.isAgg426
 z146:=Tryz.sizeOf426
 v146:=Tryz.zeroValue426
 g1:=by kernel_rfl}
open Go.RowKit Go.Lib in
theorem Tryz.strings_Index_one (s:ByteArray) (c:UInt8) (w:World):
 Calls Tryz.prog 185 #[.string s,.string ⟨#[c]⟩] w fun e w'=>e=.returned (.int .i64 (Lib.indexByte s.data.toList c))∧w'=w:=Any.strings_Index_one zfk s c w
def zfq:Go.Shelf.Ren:=⟨fun|17=>143|15=>186|20=>225|n=>n,fun|9=>9|23=>271|4=>4|3=>3|0=>0|21=>21|n=>n,fun|n=>n⟩
theorem zfL:Go.Proofs.LaysGw.n17 Tryz.prog zfq:={
 mixed:=by kernel_rfl
 f15:=Tryz.func186.trans (congrArg some (by kernel_rfl))
 f17:=Tryz.func143.trans (congrArg some (by kernel_rfl))
 f20:=Tryz.func225.trans (congrArg some (by kernel_rfl))
 t0:=Tryz.underlying0
 a0:=Tryz.isAgg0
 z0:=Tryz.sizeOf0
 v0:=Tryz.zeroValue0
 i0:=by kernel_rfl
 t3:=Tryz.underlying3
 a3:=Tryz.isAgg3
 z3:=Tryz.sizeOf3
 v3:=Tryz.zeroValue3
 i3:=by kernel_rfl
 t4:=Tryz.underlying4
 a4:=Tryz.isAgg4
 z4:=Tryz.sizeOf4
 v4:=Tryz.zeroValue4
 i4:=by kernel_rfl
 t9:=Tryz.underlying9
 a9:=Tryz.isAgg9
 z9:=Tryz.sizeOf9
 v9:=Tryz.zeroValue9
 i9:=by kernel_rfl
 t21:=Tryz.underlying21
 a21:=Tryz.isAgg21
 z21:=Tryz.sizeOf21
 v21:=Tryz.zeroValue21
 i21:=by kernel_rfl
 t23:=Tryz.underlying271
 a23:=Tryz.isAgg271
 z23:=Tryz.sizeOf271
 v23:=Tryz.zeroValue271
 i23:=by kernel_rfl}
def zfH:Go.Shelf.Ren:=⟨fun|99=>131|206=>177|n=>n,fun|9=>9|4=>4|3=>3|n=>n,fun|n=>n⟩
theorem zfX:Go.Proofs.Lays.n99 Tryz.prog zfH:={
 mixed:=by kernel_rfl
 f99:=Tryz.func131.trans (congrArg some (by kernel_rfl))
 f206:=Tryz.func177.trans (congrArg some (by kernel_rfl))
 t3:=Tryz.underlying3
 a3:=Tryz.isAgg3
 z3:=Tryz.sizeOf3
 v3:=Tryz.zeroValue3
 t4:=Tryz.underlying4
 a4:=Tryz.isAgg4
 z4:=Tryz.sizeOf4
 v4:=Tryz.zeroValue4
 t9:=Tryz.underlying9
 a9:=Tryz.isAgg9
 z9:=Tryz.sizeOf9
 v9:=Tryz.zeroValue9}
open Go.RowKit Go.Lib in
theorem Tryz.strings_HasPrefix (s p:ByteArray) (w:World):
 Calls Tryz.prog 131 #[.string s,.string p] w fun e w'=>e=.returned (.bool (Lib.hasPrefix s.data.toList p.data.toList))∧w'=w:=Any.strings_HasPrefix zfX s p w
open Go.RowKit Go.Lib in
theorem Tryz.strings_ContainsFunc_grows (g:Nat) (lb:Array Value) (eg:∀args w,(callFunc g args).run Tryz.prog w=.ok (.enter g args) w) (p:Nat→Bool) (s:ByteArray) (w:World) (hp:PredGrows Tryz.prog g lb p w):
 Calls Tryz.prog 143 #[.string s,.func (.func g) #[] lb] w fun e w'=>e=.returned (.bool (decide (0≤Lib.idxFunc p true s)))∧Below w.heap.size w w':=Any.strings_ContainsFunc_grows zfL g lb eg p s w hp
end Go.Proofs
