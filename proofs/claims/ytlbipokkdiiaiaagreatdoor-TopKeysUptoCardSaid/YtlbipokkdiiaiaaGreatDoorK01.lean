/- Lemmas for TopKeysUpto: Base, PathPlain, F1, BytesOwn, QuietBelow, QuietHeld, QuietTail. -/
import Derived.WalkKit
import Derived.WalkSpells
import Derived.WalkLawsBesides
import Derived.Deep.QuietTactic
import Derived.BigQuiet
import Derived.WalkSmall
import Derived.Laws.AppendOwnNone
import Derived.Lib.Bytealg
import Derived.Shelf.GgClosure.StringsIndexFunc
import Derived.Lib.FieldsP
import Derived.Lib.Split
import Derived.Lib.IndexMore
import Derived.Lib.SlicesCompact
import Derived.Lib.Strings
import Derived.Lib.ItoaLen
import Derived.Test.YtlbipokkdiiaiaaGreatDoorChecked
import Derived.Laws.IdiomStrings
import Derived.Laws.BytesArg
import Derived.Lib.UnsafeStr
import Derived.Deep.Quiet
import Derived.Deep.RegionHeld3
import Derived.Deep.MidRow
import Derived.StillTail
namespace Go.Proofs.YtlbipokkdiiaiaaGreatDoor
open Go.RowKit
theorem hid {p:Prop} (h:p):Hid p:=h
theorem eqT {a b:Int} (h:a=b):(a==b)=true:=beq_iff_eq.2 h
theorem eqF {a b:Int} (h:a≠b):(a==b)=false:=beq_eq_false_iff_ne.2 h
theorem neT {a b:Int} (h:a≠b):(a !=b)=true:=bne_iff_ne.2 h
theorem neF {a b:Int} (h:a=b):(a !=b)=false:=by subst h;exact bne_self_eq_false _
def bs (l:List UInt8):ByteArray:=⟨l.toArray⟩
theorem kI (s:ByteArray):bs s.data.toList=s:=rfl
theorem wL (l:List UInt8):(bs l).data.toList=l:=rfl
theorem zbd {s t:ByteArray} (h:s.data.toList=t.data.toList):s=t:=by
 rw[←kI s,←kI t,h]
theorem aV (l:List UInt8):(bs l).size=l.length:=rfl
theorem xO (l:List UInt8):(bs l).toList=l:=by rw[ByteArray.toList_eq];rfl
theorem lY (l r:List UInt8):bs l++bs r=bs (l++r):=by
 apply zbd
 show(bs l++bs r).data.toList=l++r
 rw[ByteArray.data_append,Array.toList_append];rfl
theorem sj (l:List UInt8) (a:Array UInt8):bs l++ByteArray.mk a=bs (l++a.toList):=lY l a.toList
theorem rB (l:List UInt8) (a:Array UInt8):ByteArray.mk a++bs l=bs (a.toList++l):=lY a.toList l
theorem zag {l:List UInt8} {k:Nat} (h:k<(bs l).size):k<l.length:=h
theorem zeq (l:List UInt8) (k:Nat) (h:k<(bs l).size):(bs l)[k]=l[k]'(zag h):=rfl
theorem nW (l:List UInt8) (j k:Nat):(bs l).extract j k=bs ((l.drop j).take (k-j)):=by
 apply zbd
 show _=(l.drop j).take (k-j)
 rw[ByteArray.data_extract,Array.toList_extract,List.extract_eq_take_drop];rfl
attribute [go_sem] aV xO lY sj rB zeq nW
def kU (w w':World):Prop:=∃d,w'=w.drewN d
theorem kU.below {B:Nat} {w w':World} (h:kU w w'):Below B w w':=by
 obtain⟨d,rfl⟩:=h;exact⟨rfl,rfl,rfl,Nat.le_refl _,fun _ _=>rfl⟩
theorem Below.chain {w w1 w2:World} (h:Below w.heap.size w w1) (k:Below w1.heap.size w1 w2):Below w.heap.size w w2:=h.trans (k.mono h.size)
def ap (w:World) (size:Nat) (v:Value) (n:Nat) (xs:List Value):Prop:=
 xs.length=n*size∧∃a c,v=.slice a n c∧n≤c∧c≤maxLen∧(a=none→c=0)∧
  (xs≠[]→∃b off,a=some ⟨b,off,none⟩∧b<w.heap.size∧∀j u,xs[j]?=some u→w.cell? ⟨b,off+j,none⟩=some u)
theorem ap.below {w w':World} {B size:Nat} {v:Value} {n:Nat} {xs:List Value} (h:ap w size v n xs) (hb:Below B w w') (hB:w.heap.size≤B):ap w' size v n xs:=by
 obtain⟨hl,a,c,rfl,hc,hm,hn,hx⟩:=h
 refine⟨hl,a,c,rfl,hc,hm,hn,fun hne=>?_⟩
 obtain⟨b,off,rfl,aH,hcell⟩:=hx hne
 refine⟨b,off,rfl,Nat.lt_of_lt_of_le aH hb.size,fun j u hu=>?_⟩
 rw[←hcell j u hu]
 exact World.cell?_of_block (w:=w) (hb.block b (by omega))
theorem ap.of_owns {w:World} {base e size:Nat} {v:Value} {n:Nat} {xs:List Value} (h:w.ownsRow base e size v n xs) (hn:n≤maxLen):ap w size v n xs:=by
 obtain⟨hl,h⟩:=h
 refine⟨hl,?_⟩
 rcases h with⟨rfl,rfl⟩|⟨g,cap,cur,rfl,hb,hg,hc,hm,hs,ht⟩
 ·refine⟨none,0,rfl,Nat.le_refl _,Nat.zero_le _,fun _=>rfl,fun hne=>?_⟩
  rw[Nat.zero_mul] at hl
  exact absurd (List.eq_nil_of_length_eq_zero hl) hne
 ·refine⟨_,cap,rfl,hc,hm,fun h=>(by cases h),fun _=>⟨g,0,rfl,(Array.getElem?_eq_some_iff.1 hg).1,fun j u hu=>?_⟩⟩
  have:=World.ownsRow.cells (w:=w) (base:=base) (e:=e) (size:=size) (v:=.slice (some ⟨g,0,none⟩) n cap) (n:=n) (xs:=xs) ⟨hl,.inr ⟨g,cap,cur,rfl,hb,hg,hc,hm,hs,ht⟩⟩ (g:=g) rfl j u hu
  have hadd:(⟨g,0,none⟩:Addr).add j=⟨g,0+j,none⟩:=by unfold Addr.add;split<;>simp_all
  rwa [hadd] at this
theorem lM (w:World) (xs:Array Value) (e:TypeId) (fr:Nat×Nat):∀j u,xs.toList[j]?=some u→(w.alloc (.cells xs e fr)).cell? ((⟨w.heap.size,0,none⟩:Addr).add j)=some u:=by
 intro j u h
 have hadd:(⟨w.heap.size,0,none⟩:Addr).add j=⟨w.heap.size,j,none⟩:=by unfold Addr.add;split<;>simp_all
 rw[hadd,World.cell?_alloc_mark];simpa using h
theorem ap.nil (w:World) (size:Nat):ap w size (.slice none 0 0) 0 []:=⟨by simp,none,0,rfl,Nat.le_refl _,Nat.zero_le _,fun _=>rfl,fun h=>absurd rfl h⟩
def ag (ss:List (List UInt8)):List Value:=ss.map fun l=>Value.string (bs l)
theorem rH (ss:List (List UInt8)) (k:Nat) (h:k<ss.length):(ag ss)[k]?=some (.string (bs ss[k])):=by
 simp[ag,h]
theorem ap.str {w:World} {v:Value} {n:Nat} {ss:List (List UInt8)} (h:ap w 1 v n (ag ss)):n=ss.length∧∃a c,v=.slice a ss.length c∧ss.length≤c∧c≤maxLen∧
 (∀k,k<ss.length→∃b off,a=some ⟨b,off,none⟩∧b<w.heap.size∧∀j (hj:j<ss.length),w.cell? ⟨b,off+j,none⟩=some (.string (bs ss[j]))):=by
 obtain⟨hl,a,c,rfl,hc,hm, -,hx⟩:=h
 have hn:n=ss.length:=by simpa[ag] using hl.symm
 subst hn
 refine⟨rfl,a,c,rfl,hc,hm,fun k hk=>?_⟩
 obtain⟨b,off,rfl,aH,hcell⟩:=hx (by intro e;simp[ag] at e;subst e;simp at hk)
 exact⟨b,off,rfl,aH,fun j hj=>hcell j _ (rH ss j hj)⟩
theorem jj {α:Type} (l:List α) (k:Nat) (h:k<l.length):l.drop k=l[k]::l.drop (k+1):=List.drop_eq_getElem_cons h
theorem nF {α:Type} (l:List α) (k:Nat) (h:k<l.length):l.take (k+1)=l.take k++[l[k]]:=List.take_succ_eq_append_getElem h
theorem eH {P:Program} {w:World} {ops:Array Oper} {rest:List Oper} {o:Oper} {a:Act} {Q:Exit→Act→World→Prop} (hgd:o.guard=none) (s x:Operand) (t:TypeId)
 (ho:o.op=.call {callee:=.builtin .append,args:=#[s,x],argTypes:=#[t,t]})
 (base:Nat) (e:TypeId) (i:TypeInfo) (z:Value) (size bytes:Nat) (ht:P.underlying t=some (.slice e)) (hi:P.info? e=some i) (hz:i.zero=some z)
 (hsize:i.size=size) (hby:i.bytes=bytes) (hzs:z.cells.size=size) (hsz:0<size)
 (v:Value) (n:Nat) (xs:List Value) (hs:a.eval s=v) (hown:w.ownsRow base e size v n xs)
 (vx:Value) (m:Nat) (news:List Value) (hx:a.eval x=vx) (hsrc:ap w size vx m news) (h1:∀u∈news,u.oneCell'=true)
 (h63:n+m≤maxLen) (hbytes:(n+m)*bytes≤140737488355328) (hbase:base≤w.heap.size)
 (h:∀v' w',w'.ownsRow base e size v' (n+m) (xs++news)→w.grownBy w' v.ownBlock→wpList P ops Q rest (a.put o.dst v') w'):wpList P ops Q (o::rest) a w:=by
 obtain⟨hl,ad,c,rfl,hc,hm,hn,hcell⟩:=hsrc
 cases ad with
 |none=>
  have h0:c=0:=hn rfl
  subst h0
  obtain rfl:m=0:=by omega
  have hnil:news=[]:=List.eq_nil_of_length_eq_zero (by simpa using hl)
  subst hnil
  exact wpList_append_own_none hgd s x t ho base e i size ht hi v n xs hs hown hx (h v w (by simpa using hown) (World.grownBy.refl _ _))
 |some ad=>
  refine wpList_append_own w hgd s x t ho base e i z size bytes ht hi hz hsize hby hzs hsz v n xs hs hown ad m c news hx hl ?_ h1 h63 hbytes hbase (fun v' w' a b _=>h v' w' a b)
  intro j u hu
  by_cases hne:news=[]
  ·subst hne;simp at hu
  ·obtain⟨b,off,hb,_,aX⟩:=hcell hne
   obtain rfl:=Option.some.inj hb
   have hadd:(⟨b,off,none⟩:Addr).add j=⟨b,off+j,none⟩:=by unfold Addr.add;split<;>simp_all
   rw[hadd];exact aX j u hu
theorem ab (w:World) (o:Obj):Below w.heap.size w (w.alloc o):=(Below.refl _ _).alloc (Nat.le_refl _) _
theorem bz {w W:World} (hW:Below w.heap.size w W) {a:Addr} {v:Value} (h:w.cell? a=some v):W.cell? a=some v:=(hW.cell (World.block_lt_of_cell? w _ h)).trans h
end Go.Proofs.YtlbipokkdiiaiaaGreatDoor
namespace Go.Proofs.YtlbipokkdiiaiaaGreatDoor
open Go.RowKit
def dG (c:Nat):Bool:=(97≤c&&c≤122)||(65≤c&&c≤90)||(48≤c&&c≤57)||c==95||c==46||c==45||c==43
theorem mE {c:Nat} (h:dG c=true):c<128:=by
 simp only[dG,Bool.or_eq_true,Bool.and_eq_true,decide_eq_true_eq,beq_iff_eq] at h
 omega
def nN (l:List UInt8):Bool:=!l.isEmpty&&decide (l.length≤64)&&!(l==[46])&&!(l==[46,46])&&l.all fun b=>dG b.toNat
def zbJ (c:UInt8):List (List UInt8)→List (List UInt8)
 |[]=>[[c]]
 |p::ps=>(c::p)::ps
def cU:List UInt8→List (List UInt8)
 |[]=>[[]]
 |c::r=>if c=47 then[]::cU r else zbJ c (cU r)
def dY (l:List UInt8):Bool:=decide ((cU l).length≤16)&&(cU l).all nN
theorem kE (l:List UInt8) (c:UInt8): -1≤Lib.indexByte l c:=by
 induction l with
 |nil=>simp[Lib.indexByte]
 |cons b l ih=>
  unfold Lib.indexByte
  split
  ·omega
  ·split<;>omega
theorem zgz (l:List UInt8) (h:Lib.indexByte l 47<0):cU l=[l]:=by
 induction l with
 |nil=>rfl
 |cons b l ih=>
  have hg:=kE l 47
  unfold Lib.indexByte at h
  by_cases hb:(b==47)=true
  ·rw[if_pos hb] at h;omega
  ·rw[if_neg hb] at h
   have hi:Lib.indexByte l 47<0:=by
    by_cases h1:(Lib.indexByte l 47== -1)=true
    ·have:=eq_of_beq h1;omega
    ·rw[if_neg h1] at h;omega
   unfold cU
   rw[if_neg (by intro e;rw[e] at hb;simp at hb),ih hi];rfl
theorem wy (l:List UInt8):∀i:Nat,Lib.indexByte l 47=i→cU l=l.take i::cU (l.drop (i+1))∧i<l.length:=by
 induction l with
 |nil=>intro i h;simp[Lib.indexByte] at h
 |cons b l ih=>
  intro i h
  have hg:=kE l 47
  unfold Lib.indexByte at h
  by_cases hb:(b==47)=true
  ·rw[if_pos hb] at h
   obtain rfl:i=0:=by omega
   rw[eq_of_beq hb]
   refine⟨?_,by simp⟩
   rw[cU,if_pos rfl];rfl
  ·rw[if_neg hb] at h
   by_cases h1:(Lib.indexByte l 47== -1)=true
   ·rw[if_pos h1] at h;omega
   ·rw[if_neg h1] at h
    obtain⟨j,hj⟩:∃j:Nat,Lib.indexByte l 47=j:=by
     have:Lib.indexByte l 47≠-1:=fun e=>h1 (by rw[e];rfl)
     exact⟨(Lib.indexByte l 47).toNat,by omega⟩
    obtain⟨h2,h3⟩:=ih j hj
    obtain rfl:i=j+1:=by omega
    refine⟨?_,by simp;omega⟩
    rw[cU,if_neg (by intro e;rw[e] at hb;simp at hb),h2];rfl
theorem sq (s:ByteArray) (i:Nat) (h:(s.get! i).toNat<128):Utf8.decode s i=((s.get! i).toNat,1):=by
 unfold Utf8.decode;simp[h]
theorem ry (s:ByteArray) (i:Nat) (h:¬(s.get! i).toNat<128):128≤(Utf8.decode s i).1:=by
 unfold Utf8.decode
 simp only[Nat.add_zero]
 rw[if_neg h]
 split
 ·split
  ·simp;omega
  ·simp[Utf8.runeError]
 ·split
  ·split
   ·rename_i _ hc;simp at hc ⊢;omega
   ·simp[Utf8.runeError]
  ·split
   ·split
    ·rename_i _ hc;simp at hc ⊢;omega
    ·simp[Utf8.runeError]
   ·simp[Utf8.runeError]
theorem bs_get! (l:List UInt8) (k:Nat) (h:k<l.length):(bs l).get! k=l[k]:=by
 show(bs l).data[k]! =l[k]
 simp[bs,h]
theorem zbf (f:Nat):∀(l:List UInt8) (pos:Nat),l.length≤pos+f→(0≤Lib.idxFuncFrom (fun x=>!dG x) true (bs l) f pos↔(l.drop pos).all (fun b=>dG b.toNat)=false):=by
 induction f with
 |zero=>
  intro l pos h
  rw[List.drop_eq_nil_of_le (by omega)]
  simp[Lib.idxFuncFrom]
 |succ f ih=>
  intro l pos h
  unfold Lib.idxFuncFrom
  by_cases hp:pos<l.length
  ·rw[if_pos (id hp:pos<(bs l).size),jj l pos hp,List.all_cons]
   have hg:=bs_get! l pos hp
   by_cases hs:l[pos].toNat<128
   ·rw[sq _ _ (by rw[hg];exact hs),hg]
    by_cases hsg:dG l[pos].toNat=true
    ·rw[if_neg (by show ¬(!dG l[pos].toNat)=true;rw[hsg];simp),hsg,Bool.true_and]
     exact ih l (pos+1) (by omega)
    ·rw[Bool.not_eq_true] at hsg
     rw[if_pos (by rw[hsg];rfl),hsg]
     simp
   ·have hd:=ry (bs l) pos (by rw[hg];exact hs)
    have h1:dG (Utf8.decode (bs l) pos).1=false:=by
     rw[←Bool.not_eq_true];intro e;have:=mE e;omega
    have h2:dG l[pos].toNat=false:=by
     rw[←Bool.not_eq_true];intro e;have:=mE e;omega
    rw[if_pos (by rw[h1];rfl),h2]
    simp
  ·rw[if_neg (id hp:¬pos<(bs l).size),List.drop_eq_nil_of_le (by omega)];simp
theorem pY (l:List UInt8):decide (0≤Lib.idxFunc (fun x=>!dG x) true (bs l))=!(l.all fun b=>dG b.toNat):=by
 have h:=zbf l.length l 0 (by omega)
 rw[List.drop_zero] at h
 unfold Lib.idxFunc
 rw[show(bs l).size=l.length from rfl]
 by_cases hb:(l.all fun b=>dG b.toNat)=false
 ·rw[hb,decide_eq_true (h.2 hb)];rfl
 ·rw[Bool.not_eq_false] at hb
  rw[hb,decide_eq_false (fun h'=>by have:=h.1 h';rw[hb] at this;cases this)];rfl
abbrev Txt:=List UInt8
structure bS where
 words:List Txt
 rest:Txt
 deriving DecidableEq
structure KnL where
 path:Txt
 is:Bool
 data:Txt
 deriving DecidableEq
def spP (n:Nat):Bool:=n==32||n==9
def cb (s:Txt):List Txt:=(Lib.goFieldsP spP (bs s)).map fun x=>x.data.toList
def aq (s:Txt):List Txt:=
 if s=[] then[] else(Lib.splitB (bs [10]) 0 (Lib.countB (bs (Lib.trimSuffix s [10])) (bs [10])) (bs (Lib.trimSuffix s [10]))).map fun x=>x.data.toList
def iA:Txt:=[114,101,97,100]
def mS:Txt:=[116,114,121]
def fj:Txt:=[119,114,105,116,101]
def iq:Txt:=[115,99,97,110]
def j7:Txt:=[101,110,118]
def dN:Txt:=[107,101,101,112]
def fG:Txt:=[110,101,101,100]
def dO:Txt:=[115,111,114,116]
def dM:Txt:=[117,110,105,113]
def cH:Txt:=[117,112,112,101,114]
def cG:Txt:=[99,111,117,110,116]
def iu:Txt:=[102,97,105,108]
def eK:Txt:=[116,101,120,116]
def bR (n:Txt):Nat×Bool:=
 if n=iA∨n=mS∨n=fj then(2,true) else if n=iq then(3,true) else if n=j7∨n=dN∨n=fG then(2,false)
 else if n=dO∨n=dM∨n=cH∨n=cG∨n=iu then(1,false) else(0,false)
def qd (s:Txt):Txt:=(s.drop ((Lib.index s eK+4).toNat)).drop 1
def gE (s:Txt):Option (Option bS):=
 match cb s with
 |[]=>some none
 |x::l=>
  if x.headD 0=35 then some none
  else if x=eK then some (some ⟨[x],qd s⟩)
  else if(bR x).1≠(x::l).length∨(bR x).1=0∨(bR x).2=true∧dY (l.headD [])=false then none
  else some (some ⟨x::l,[]⟩)
def dL:Nat→List Txt→List bS×Option Nat
 |_,[]=>([],none)
 |i,s::l=>match gE s with
  |none=>([],some (i+1))
  |some none=>dL (i+1) l
  |some (some c)=>(c::(dL (i+1) l).1,(dL (i+1) l).2)
def cJ (s:Txt):Except Nat (List bS):=
 if s.length>65536∨(aq s).length>400 then .error 6 else match(dL 0 (aq s)).2 with|none=>.ok (dL 0 (aq s)).1|some _=>.error 3
inductive cR
 |read
 |try_
 |scan
 deriving DecidableEq
inductive gm
 |line (s:Txt)
 |told (p:Txt) (t:cR)
 deriving DecidableEq
structure DoL where
 kind:Nat
 path:Txt
 data:Txt
 why:Nat
 deriving DecidableEq
def do0:DoL:=⟨0,[],[],0⟩
structure aw where
 cmds:List bS
 top:List gm
 word:Txt
 seen:List Txt
 buffer:Txt
 known:List KnL
 asks:Txt
 waits:Bool
 over:DoL
def aw.knows (r:aw) (p:Txt):Option KnL:=r.known.find? fun k=>decide (k.path=p)
def cK (r:aw) (e:Nat):aw:={r with over:=⟨4,[],[],e⟩}
def cZ (r:aw) (s:Txt):aw:=if 65536<r.buffer.length+s.length then cK r 6 else{r with buffer:=r.buffer++s}
def bn (r:aw) (t:cR) (k:KnL):aw:=
 match t with
 |.read=>if k.is=true then cZ r k.data else cK r 10
 |.try_=>if k.is=true then cZ r k.data else r
 |.scan=>if k.is=true then{r with top:=(aq k.data).map .line++r.top} else cK r 10
def cy (r:aw) (p:Txt) (t:cR):aw:=
 match r.knows p with
 |some k=>bn r t k
 |none=>if 500≤r.known.length then cK r 6 else{r with asks:=p,waits:=true,top:=.told p t::r.top}
def fS (r:aw) (s:Txt):aw:=
 match cb s with
 |[a,b]=>if a≠r.word∨dY b=false then cZ r (s++[10]) else if b∈r.seen then r else cy {r with seen:=b::r.seen} b .scan
 |_=>cZ r (s++[10])
def jx (r:aw) (l:List Txt):aw:=cZ {r with buffer:=[]} (l.flatMap fun s=>s++[10])
def upB (c:UInt8):UInt8:=if 97≤c∧c≤122 then c-32 else c
def doA (env:Txt→Option Txt) (r:aw) (n a w s:Txt) (l:List Txt):aw:=
 if n=iA then cy r a .read
 else if n=mS then cy r a .try_
 else if n=iq then cy {r with word:=w,seen:=[a]} a .scan
 else if n=eK then cZ r (s++[10])
 else if n=j7 then(match env a with|none=>cK r 10|some v=>cZ r v)
 else if n=fj then{r with over:=⟨2,a,r.buffer,0⟩,buffer:=[]}
 else if n=fG then(if l.any (fun s=>Lib.contains s a)=true then r else cK r 15)
 else if n=iu then cK r 15
 else if n=dO then jx r (l.mergeSort fun x y=>decide (x≤y))
 else if n=dM then jx r (Lib.compact l)
 else if n=cH then{r with buffer:=r.buffer.map upB}
 else if n=cG then{r with buffer:=Lib.itoa (l.length:Int)++[10]}
 else if n=dN then jx r (l.filter fun s=>Lib.contains s a)
 else r
def doL (env:Txt→Option Txt) (r:aw) (c:bS):aw:=doA env r (c.words.getD 0 []) (c.words.getD 1 []) (c.words.getD 2 []) c.rest (aq r.buffer)
theorem nB (P:aw→Prop) (env:Txt→Option Txt) (r:aw) (n a w s:Txt) (l:List Txt) (h1:∀t,t≠cR.scan→P (cy r a t)) (h2:P (cy {r with word:=w,seen:=[a]} a .scan)) (h3:∀x,P (cZ r x)) (h4:∀e,P (cK r e))
 (h5:P {r with over:=⟨2,a,r.buffer,0⟩,buffer:=[]}) (h6:P r) (h7:∀x,P (jx r x)) (h8:∀x,P {r with buffer:=x}):P (doA env r n a w s l):=by
 unfold doA
 by_cases h:n=iA
 ·rw[if_pos h]
  exact h1 _ (by decide)
 rw[if_neg h]
 clear h
 by_cases h:n=mS
 ·rw[if_pos h]
  exact h1 _ (by decide)
 rw[if_neg h]
 clear h
 by_cases h:n=iq
 ·rw[if_pos h]
  exact h2
 rw[if_neg h]
 clear h
 by_cases h:n=eK
 ·rw[if_pos h]
  exact h3 _
 rw[if_neg h]
 clear h
 by_cases h:n=j7
 ·rw[if_pos h]
  cases env a with|none=>exact h4 _|some v=>exact h3 _
 rw[if_neg h]
 clear h
 by_cases h:n=fj
 ·rw[if_pos h]
  exact h5
 rw[if_neg h]
 clear h
 by_cases h:n=fG
 ·rw[if_pos h]
  by_cases hn:(l.any fun s=>Lib.contains s a)=true
  ·rw[if_pos hn];exact h6
  ·rw[if_neg hn];exact h4 _
 rw[if_neg h]
 clear h
 by_cases h:n=iu
 ·rw[if_pos h]
  exact h4 _
 rw[if_neg h]
 clear h
 by_cases h:n=dO
 ·rw[if_pos h]
  exact h7 _
 rw[if_neg h]
 clear h
 by_cases h:n=dM
 ·rw[if_pos h]
  exact h7 _
 rw[if_neg h]
 clear h
 by_cases h:n=cH
 ·rw[if_pos h]
  exact h8 _
 rw[if_neg h]
 clear h
 by_cases h:n=cG
 ·rw[if_pos h]
  exact h8 _
 rw[if_neg h]
 clear h
 by_cases h:n=dN
 ·rw[if_pos h]
  exact h7 _
 rw[if_neg h]
 clear h
 exact h6
def bO (env:Txt→Option Txt) (r:aw):Option aw:=
 if r.over.kind≠0∨r.waits=true then none
 else match r.top with
  |.line s::t=>some (fS {r with top:=t} s)
  |.told p k::t=>some (bn {r with top:=t} k ((r.knows p).getD ⟨[],false,[]⟩))
  |[]=>match r.cmds with
   |c::l=>some (doL env {r with cmds:=l} c)
   |[]=>some {r with over:=⟨3,[],[],0⟩}
set_option maxRecDepth 100000
theorem wQ:(Tryz.prog.info? 5).map (fun i=>(i.zero,i.size,i.bytes))=some (some (.int .u8 0),1,1):=by kernel_rfl
theorem aU (l:List UInt8):(Lib.byteCells l).length=l.length:=by simp[Lib.byteCells]
theorem pE (l:List UInt8):∀u∈Lib.byteCells l,u.oneCell'=true:=by
 intro u hu
 simp only[Lib.byteCells,List.mem_map] at hu
 obtain⟨s,_,rfl⟩:=hu;rfl
theorem pF (a b:List UInt8):Lib.byteCells (a++b)=Lib.byteCells a++Lib.byteCells b:=by simp[Lib.byteCells]
theorem jO (l:List UInt8) (k:Nat) (h:k<l.length):(Lib.byteCells l)[k]?=some (.int .u8 l[k].toNat):=by simp[Lib.byteCells,h]
theorem sR {w:World} {v:Value} {n:Nat} {l:List UInt8} (h:ap w 1 v n (Lib.byteCells l)):
 (convert 49 9 v).run Tryz.prog w=.ok (.string (bs l)) w:=by
 obtain⟨hl,a,c,rfl,hc,hm,hn,hx⟩:=h
 have hnl:n=l.length:=by rw[aU] at hl;omega
 subst hnl
 cases a with
 |none=>
  have h0:=hn rfl
  have hl0:l=[]:=List.eq_nil_of_length_eq_zero (by omega)
  subst hl0
  exact run_convert_bytes_nil (P:=Tryz.prog) (w:=w) 49 5 Tryz.underlying49 Tryz.underlying5 _ _ 9 Tryz.underlying9
 |some a=>
  refine run_convert_bytes_back w 49 9 5 a c l Tryz.underlying49 Tryz.underlying5 Tryz.underlying9 fun j hj=>?_
  obtain⟨b,off,hb, -,aX⟩:=hx (by intro e;have:=aU l;rw[e] at this;simp at this;omega)
  obtain rfl:=Option.some.inj hb
  have hadd:(⟨b,off,none⟩:Addr).add j=⟨b,off+j,none⟩:=by unfold Addr.add;split<;>simp_all
  rw[hadd];exact aX j _ (jO l j hj)
theorem mM {P:Program} {id:Nat} {Q:Exit→Act→World→Prop} {a:Act} {w:World} {l:List Oper} (hm:P.follows .mixedOrders=true) (hB:Region.lexB .any l.toArray=true)
 (h:wpQuiet P l.toArray (fun w'=>Below w.heap.size w w') (fun a'=>∀w',Below w.heap.size w w'→Q .normal a' w') l a):(Code.region id l.toArray true).wp P Q a w:=
 wp_region_quiet (C:=fun w'=>Below w.heap.size w w') hm hB ⟨rfl,rfl,rfl,Nat.le_refl _,fun _ _=>rfl⟩ (by simpa using h)
theorem zfr {P:Program} {f:FuncId} {args:Array Value} {w W:World} {v:Value} (hW:Below w.heap.size w W)
 (h:Calls P f args W fun e w'=>e=.returned v∧Below W.heap.size W w'):Calls P f args W fun e w''=>e=.returned v∧Below w.heap.size w w'':=
 h.mono fun _ _ ⟨he,hb⟩=>⟨he,Below.chain hW hb⟩
theorem Below.keeps {w W:World} (hW:Below w.heap.size w W) {a:Addr} {v:Value} (h:w.cell? a=some v):W.cell? a=some v:=(hW.cell (World.block_lt_of_cell? w _ h)).trans h
theorem nb:∀(x:Bool) (w:World),(Op.unary .not (.bool x)).run Tryz.prog w=.ok (.bool (!x)) w:=fun _ _=>rfl
theorem lx {w:World} {b:Nat} {o:Obj} (h:Hid (w.heap[b]?=some o)):b<w.heap.size:=(Array.getElem?_eq_some_iff.1 h.out).1
theorem an0 (w:World) (o:Obj):∃W,Hid (W=w.alloc o)∧Below w.heap.size w W∧W.heap[w.heap.size]?=some o:=⟨_,hid rfl,ab w _,heap_alloc_new w _⟩
theorem bc {w w1 w2:World} (h:Hid (Below w.heap.size w w1)) (k:Below w1.heap.size w1 w2):Hid (Below w.heap.size w w2):=hid (Below.chain h.out k)
structure WQ (P:Program) (ops:Array Oper) (C:World→Prop) (Q:Act→Prop) (l:List Oper) (a:Act):Prop where
 out:wpQuiet P ops C Q l a
theorem WQ.step {P:Program} {ops:Array Oper} {C:World→Prop} {Q:Act→Prop} {a:Act} {o:Oper} {rest:List Oper}
 (h:∀K:Act→Prop,(∀a,WQ P ops C Q rest a→K a)→if Region.wanted o (yielded ops a.tmps) then o.quiet P a C K else K (a.put o.dst undef)):WQ P ops C Q (o::rest) a:=
 ⟨wpQuiet_step (fun K hK=>h K (fun a ha=>hK a ha.out))⟩
theorem WQ.nil {P:Program} {ops:Array Oper} {C:World→Prop} {Q:Act→Prop} {a:Act} (h:Q a):WQ P ops C Q [] a:=⟨wpQuiet_nil h⟩
theorem aC {P:Program} {id:Nat} {Q:Exit→Act→World→Prop} {a:Act} {w:World} {l:List Oper} (hm:P.follows .mixedOrders=true) (hB:Region.lexB .any l.toArray=true)
 (h:WQ P l.toArray (fun w'=>Below w.heap.size w w') (fun a'=>∀w',Below w.heap.size w w'→Q .normal a' w') l a):(Code.region id l.toArray true).wp P Q a w:=mM hm hB h.out
structure WH (P:Program) (ops:Array Oper) (Q:Exit→Act→World→Prop) (S:World→Prop) (fuel:Nat) (listed:Array Bool) (a:Act) (w:World):Prop where
 out:wpAnyH P .any ops Q S fuel listed a w
variable {P:Program} {ops:Array Oper} {Q:Exit→Act→World→Prop} {S:World→Prop} {fuel:Nat} {listed:Array Bool} {a:Act} {w:World}
theorem ku {id:Nat} {l:List Oper} (hm:P.follows .mixedOrders=true) (h:WH P l.toArray Q S l.length (Array.replicate l.length false) a w.drew):(Code.region id l.toArray true).wp P Q a w:=
 wp_region_held (S:=S) hm (by simpa using h.out)
theorem WH.take (i:Nat) (dst:Option Tmp) {oi:Oper} (hi:ops[i]?=some oi) (hd:oi.dst=dst) (hs:Region.noSelect ops=true) (hf:Region.free .any ops listed i=true) (hr:(Region.ready .any ops listed).contains i=true)
 (hQ':∀v c a w,Q (.panic c) (a.put oi.dst v) w→Q (.panic c) a w) (hS:S w)
 (h:∃v,(Region.wanted oi (yielded ops a.tmps)=true∧∀W,S W→(execOp a.eval oi).run P W=.ok (.value v) W)∧WH P ops Q S fuel (listed.setIfInBounds i true) (a.put dst v) w):WH P ops Q S (fuel+1) listed a w:=by
 subst hd
 obtain⟨v,hy,h⟩:=h
 exact⟨wpAnyH_take hi hs hf hr (hQ' v) (.inl hy) hS h.out⟩
theorem WH.one (i:Nat) {oi:Oper} (hr:Region.ready .any ops listed=[i]) (hi:ops[i]?=some oi) (hw:Region.wanted oi (yielded ops a.tmps)=true)
 (h:∀K':Act→World→Prop,Shut (∀a w,S w→WH P ops Q S fuel (listed.setIfInBounds i true) a w→K' a w)→Oper.wp P oi a w K' Q):WH P ops Q S (fuel+1) listed a w:=
 ⟨wpAnyH_all hr (by simp) (fun j hj=>by
  obtain rfl:j=i:=by simpa using hj
  exact wpOp_step hi (fun K' hK=>by rw[if_pos hw];exact h K' (fun a w hS hW=>hK a w ⟨hS,hW.out⟩)))⟩
theorem zgg (i j:Nat) {oi oj:Oper} (hr:Region.ready .any ops listed=[i,j]) (hi:ops[i]?=some oi) (hw:Region.wanted oi (yielded ops a.tmps)=true) (hj:ops[j]?=some oj) (hv:Region.wanted oj (yielded ops a.tmps)=true)
 (h:∀K':Act→World→Prop,Shut (∀a w,S w→WH P ops Q S fuel (listed.setIfInBounds i true) a w→K' a w)→Oper.wp P oi a w K' Q)
 (h':∀K':Act→World→Prop,Shut (∀a w,S w→WH P ops Q S fuel (listed.setIfInBounds j true) a w→K' a w)→Oper.wp P oj a w K' Q):WH P ops Q S (fuel+1) listed a w:=
 ⟨wpAnyH_all hr (by simp) (fun k hk=>by
  rcases List.mem_cons.1 hk with rfl|hk
  ·exact wpOp_step hi (fun K' hK=>by rw[if_pos hw];exact h K' (fun a w hS hW=>hK a w ⟨hS,hW.out⟩))
  ·obtain rfl:k=j:=by simpa using hk
   exact wpOp_step hj (fun K' hK=>by rw[if_pos hv];exact h' K' (fun a w hS hW=>hK a w ⟨hS,hW.out⟩)))⟩
theorem zgt (i j k:Nat) {oi oj ok:Oper} (hr:Region.ready .any ops listed=[i,j,k]) (hi:ops[i]?=some oi) (hj:ops[j]?=some oj) (hk:ops[k]?=some ok)
 (hwi:Region.wanted oi (yielded ops a.tmps)=true) (hwj:Region.wanted oj (yielded ops a.tmps)=true) (hwk:Region.wanted ok (yielded ops a.tmps)=true)
 (h:∀K':Act→World→Prop,Shut (∀a w,S w→WH P ops Q S fuel (listed.setIfInBounds i true) a w→K' a w)→Oper.wp P oi a w K' Q)
 (h':∀K':Act→World→Prop,Shut (∀a w,S w→WH P ops Q S fuel (listed.setIfInBounds j true) a w→K' a w)→Oper.wp P oj a w K' Q)
 (h'':∀K':Act→World→Prop,Shut (∀a w,S w→WH P ops Q S fuel (listed.setIfInBounds k true) a w→K' a w)→Oper.wp P ok a w K' Q):WH P ops Q S (fuel+1) listed a w:=
 ⟨wpAnyH_all hr (by simp) (fun m hm=>by
  simp only[List.mem_cons,List.not_mem_nil,or_false] at hm
  rcases hm with rfl|rfl|rfl
  ·exact wpOp_step hi (fun K' hK=>by rw[if_pos hwi];exact h K' (fun a w hS hW=>hK a w ⟨hS,hW.out⟩))
  ·exact wpOp_step hj (fun K' hK=>by rw[if_pos hwj];exact h' K' (fun a w hS hW=>hK a w ⟨hS,hW.out⟩))
  ·exact wpOp_step hk (fun K' hK=>by rw[if_pos hwk];exact h'' K' (fun a w hS hW=>hK a w ⟨hS,hW.out⟩)))⟩
theorem zgh (i:Nat) (dst:Option Tmp) {oi:Oper} (hi:ops[i]?=some oi) (hd:oi.dst=dst) (hs:Region.noSelect ops=true) (hf:Region.free .any ops listed i=true) (hr:(Region.ready .any ops listed).contains i=true)
 (hQ':∀v c a w,Q (.panic c) (a.put oi.dst v) w→Q (.panic c) a w) (hS:S w) (hw:Region.wanted oi (yielded ops a.tmps)=true)
 (ty:TypeId) (x:Operand) (ho:oi.op=.load ty x) (b o:Nat) (hx:a.eval x=.pointer (some ⟨b,o,none⟩)) (cs:List Value) (d:TypeDesc) (hc:∀w,S w→w.rangeAt b o cs)
 (hu:P.underlying ty=some d) (hrow:d.isRow=true) (hsz:(P.info? ty).map (·.size)=some cs.length)
 (h:WH P ops Q S fuel (listed.setIfInBounds i true) (a.put dst (.agg cs.toArray)) w):WH P ops Q S (fuel+1) listed a w:=by
 subst hd
 exact⟨wpAnyH_take hi hs hf hr (hQ' _) (yieldsIf_load_mid hw ty x ho b o hx cs d hc hu hrow hsz) hS h.out⟩
theorem WH.done (hr:Region.ready .any ops listed=[]) (h:Q .normal a w):WH P ops Q S fuel listed a w:=⟨wpAnyH_done hr h fuel⟩
end Go.Proofs.YtlbipokkdiiaiaaGreatDoor
namespace Go.Proofs.YtlbipokkdiiaiaaGreatDoor
open Go.RowKit
section
variable {P:Program} {ops:Array Oper} {md:Region.Mode} {C:World→Prop}
def lr (md:Region.Mode) (ops:Array Oper) (s n:Nat):Bool:=
 (List.range n).all fun i=>decide (i<s)||(List.range (n+1)).any fun j=>decide (i<j)&&Region.waitsFor md ops j i
theorem pC {s n:Nat} {listed:Array Bool} (hs:lr md ops s n=true) (hc:Region.chainB md ops n=true) (hn:n<ops.size) (inv:HeadInv md ops n listed):
 ∀(d i:Nat),n-i=d→s≤i→i<n→listed.getD i true=false→∀t,n≤t→t∉Region.ready md ops listed:=by
 intro d
 induction d using Nat.strongRecOn with
 |_ d ih=>
  intro i hd hsi hi hun t ht hr
  obtain⟨_,ot,hot,hall⟩:=mem_ready.1 hr
  have htlt:t<ops.size:=(Array.getElem?_eq_some_iff.1 hot).1
  by_cases htn:t=n
  ·subst htn
   have h1:=List.all_eq_true.1 hs i (List.mem_range.2 hi)
   simp only[Bool.or_eq_true,decide_eq_true_eq] at h1
   rcases h1 with h1|h1
   ·omega
   obtain⟨j,hj,hj2⟩:=List.any_eq_true.1 h1
   simp only[Bool.and_eq_true,decide_eq_true_eq] at hj2
   obtain⟨oj,hoj,e,he,hb,hon⟩:=Region.waitsFor_spec hj2.2
   have hjle:j≤t:=by have:=List.mem_range.1 hj;omega
   by_cases hjt:j=t
   ·subst hjt
    have:oj=ot:=Option.some.inj (hoj.symm.trans hot)
    subst this
    have h2:=hall e he hb
    rw[hon,getD_both hun] at h2
    cases h2
   ·cases hl:listed.getD j false with
    |true=>
     have h2:=inv.closed j oj hoj hl e he hb
     rw[hon,getD_both hun] at h2
     cases h2
    |false=>
     have hjs:j<listed.size:=by rw[inv.size];omega
     exact ih (t-j) (by omega) j rfl (by omega) (by omega) (getD_in hjs hl) t (Nat.le_refl _) hr
  ·have h1:=List.all_eq_true.1 hc t (List.mem_range.2 htlt)
   simp only[Bool.or_eq_true,decide_eq_true_eq] at h1
   rcases h1 with h1|h1
   ·omega
   ·obtain⟨o',ho',e,he,hb,hon⟩:=Region.waitsFor_spec h1
    have:o'=ot:=Option.some.inj (ho'.symm.trans hot)
    subst this
    have h2:=hall e he hb
    rw[hon,getD_both (inv.tail (t-1) (by omega) (by omega))] at h2
    cases h2
def kS (P:Program) (md:Region.Mode) (ops:Array Oper) (C:World→Prop) (n:Nat) (L:Array Bool→Act→Prop):Nat→Array Bool→Act→Prop
 |0,listed,a=>L listed a
 |f+1,listed,a=>Region.ready md ops listed≠[]∧∀i∈Region.ready md ops listed,i<n∧qOp P ops C i (kS P md ops C n L f (listed.setIfInBounds i true)) a
theorem iV {n g:Nat} {L:Array Bool→Act→Prop} {Q':Exit→Act→World→Prop} (hL:∀listed a w,C w→L listed a→wpAnyH P md ops Q' (fun _=>True) g listed a w):
 ∀(f:Nat) (listed:Array Bool) (a:Act) (w:World),C w→kS P md ops C n L f listed a→wpAnyH P md ops Q' (fun _=>True) (f+g) listed a w
 |0,_,_,w,hw,h=>by rw[Nat.zero_add];exact hL _ _ w hw h
 |f+1,_,_,w,hw,h=>by
  rw[show f+1+g=(f+g)+1 by omega]
  exact⟨fun h0=>absurd h0 h.1,fun i hi=>wpOp_of_qOp hw (fun a' w' hw' h'=>⟨trivial,iV hL f _ a' w' hw' h'⟩) (h.2 i hi).2⟩
theorem pL {s n i:Nat} {oi:Oper} {v:Value} {L:Array Bool→Act→Prop} (hi:ops[i]?=some oi) (hsel:∀(j:Nat) (o:Oper) cs b,ops[j]?=some o→o.op≠.select cs b)
 (hs:lr md ops s n=true) (hc:Region.chainB md ops n=true) (hn:n<ops.size) (hsi:s≤i) (hin:i<n)
 (hdone:∀listed a,L listed a→∀j∈Region.ready md ops listed,n≤j):
 ∀(f:Nat) (listed:Array Bool) (a:Act),HeadInv md ops n listed→
  (∀j oj,ops[j]?=some oj→j≠i→listed.getD j true=false→(∀e∈oj.after,Region.binds md e=true→e.on≠i)→oi.apart ops oj=true)→
  i∈Region.ready md ops listed→YieldsIn P ops C oi v a→
  kS P md ops C n L f (listed.setIfInBounds i true) (a.put oi.dst v)→kS P md ops C n L (f+1) listed a:=by
 have early:∀{listed:Array Bool},HeadInv md ops n listed→i∈Region.ready md ops listed→∀j∈Region.ready md ops listed,j<n:=fun{listed} inv hr j hj=>by
  rcases Nat.lt_or_ge j n with h|h
  ·exact h
  ·exact absurd hj (pC hs hc hn inv _ i rfl hsi hin (mem_ready.1 hr).1 j h)
 intro f
 induction f with
 |zero=>
  intro listed a inv _ hr hy H
  refine⟨fun h=>(by rw[h] at hr;cases hr),fun j hj=>?_⟩
  have hjn:=early inv hr j hj
  refine⟨hjn,?_⟩
  by_cases hji:j=i
  ·subst hji;exact hy.qOp hi H
  ·have:=hdone _ _ H j (ready_mono hj hji)
   omega
 |succ f ih=>
  intro listed a inv hfree hr hy H
  have hun:=(mem_ready.1 hr).1
  refine⟨fun h=>(by rw[h] at hr;cases hr),fun j hj=>?_⟩
  have hjn:=early inv hr j hj
  refine⟨hjn,?_⟩
  by_cases hji:j=i
  ·subst hji;exact hy.qOp hi H
  ·have h1:=(H.2 j (ready_mono hj hji)).2
   obtain⟨hjun,oj,hoj,hall⟩:=mem_ready.1 hj
   have mR:∀e∈oj.after,Region.binds md e=true→e.on≠i:=fun e he hb heq=>by
    have h1:=hall e he hb
    rw[heq,getD_both hun] at h1
    cases h1
   have h2:=qOp_put hoj (hfree j oj hoj hji hjun mR) (fun cs b=>hsel i oi cs b hi) (fun cs b=>hsel j oj cs b hoj) hy h1
   have hfree':∀k ok,ops[k]?=some ok→k≠i→(listed.setIfInBounds j true).getD k true=false→
    (∀e∈ok.after,Region.binds md e=true→e.on≠i)→oi.apart ops ok=true:=fun k ok hk hki hun hno=>by
    refine hfree k ok hk hki ?_ hno
    by_cases hjk:j=k
    ·subst hjk;exact hjun
    ·rw[getD_set_ne true hjk] at hun;exact hun
   refine qOp_mono (fun a' h3=>ih (listed.setIfInBounds j true) a' (inv.set hj hjn) hfree' (ready_mono hr (Ne.symm hji)) h3.1 ?_) h2
   rw[Array.setIfInBounds_comm _ _ hji]
   exact h3.2
theorem mJ {s n g:Nat} {Lq:Act→Prop} (hsel:Region.noSelect ops=true) (hs:lr md ops s n=true) (hc:Region.chainB md ops n=true) (hn:n<ops.size):
 ∀(l:List Oper) (k:Nat) (listed:Array Bool) (a:Act),s≤k→(∀j,j<l.length→l[j]?=ops[k+j]?)→k+l.length=n→HeadInv md ops n listed→
 Region.lexHead md ops g l.length k listed=true→wpQuiet P ops C Lq l a→
 kS P md ops C n (fun listed' a'=>Region.seqB md ops g n listed'=true∧Lq a') l.length listed a
 |[],k,listed,a,_,_,hk,_,hB,h=>by
  have:k=n:=by simpa using hk
  subst this
  exact⟨by simpa[Region.lexHead] using hB,h⟩
 |o::l,k,listed,a,hsk,hl,hk,inv,hB,h=>by
  have h0:ops[k]?=some o:=by simpa using(hl 0 (by simp)).symm
  simp only[List.length_cons,Region.lexHead,Bool.and_eq_true] at hB
  obtain⟨⟨hr,hf⟩,hB'⟩:=hB
  have hkn:k<n:=by simp only[List.length_cons] at hk;omega
  have hr':k∈Region.ready md ops listed:=by simpa using hr
  have hst:qOp P ops C k (wpQuiet P ops C Lq l) a:=by unfold qOp;simp only[h0];exact h
  obtain⟨v,hy,hK⟩:=yieldsIn_of_qOp h0 hst
  exact pL h0 (Region.noSelect_spec hsel) hs hc hn hsk hkn (fun listed' a' hL=>seqB_ready hL.1) l.length listed a inv (Region.free_spec h0 hf) hr' hy
   (mJ hsel hs hc hn l (k+1) _ _ (by omega) (fun j hj=>by have:=hl (j+1) (by simp;omega);simpa[Nat.add_assoc,Nat.add_comm 1 j] using this) (by simp only[List.length_cons] at hk;omega) (inv.set hr' hkn) hB' hK)
theorem jC {Q':Exit→Act→World→Prop}:∀(l:List Oper) (k:Nat) (listed:Array Bool) (a:Act) (w:World),(∀j,l[j]?=ops[k+j]?)→
 Region.seqB md ops l.length k listed=true→wpList P ops Q' l a w→wpAnyH P md ops Q' (fun _=>True) l.length listed a w
 |[],_,_,_,_,_,hB,h=>⟨by simpa[Region.seqB] using hB,h⟩
 |o::l,k,listed,a,w,hl,hB,h=>by
  have h0:ops[k]?=some o:=by simpa using(hl 0).symm
  simp only[List.length_cons,Region.seqB,Bool.and_eq_true,decide_eq_true_eq] at hB
  refine⟨fun h1=>(by rw[hB.1] at h1;cases h1),fun i hi=>?_⟩
  rw[hB.1] at hi
  have hik:i=k:=by simpa using hi
  subst hik
  have hw:wpOp P ops Q' i (wpList P ops Q' l) a w:=by unfold wpOp;simp only[h0];exact h
  exact wpOp_mono (fun a' w' h'=>⟨trivial,jC l (i+1) _ a' w' (fun j=>by have:=hl (j+1);simpa[Nat.add_assoc,Nat.add_comm 1 j] using this) hB.2 h'⟩) hw
def vL (md:Region.Mode) (ops:Array Oper) (s:Nat) (listed:Array Bool):Bool:=
 decide (listed.size=ops.size)&&(List.range ops.size).all fun j=>listed.getD j true==decide (j<s)&&
  (decide (s≤j)||match ops[j]? with|some o=>o.after.all fun e=>!Region.binds md e||decide (e.on<s)|none=>true)
def w9 (md:Region.Mode) (ops:Array Oper) (s n:Nat) (listed:Array Bool):Bool:=
 Region.noSelect ops&&decide (s≤n)&&decide (n<ops.size)&&lr md ops s n&&Region.chainB md ops n&&vL md ops s listed&&Region.lexHead md ops (ops.size-n) (n-s) s listed
theorem vW {s n:Nat} {listed:Array Bool} (hs:s≤n) (hn:n<ops.size) (h:vL md ops s listed=true):HeadInv md ops n listed:=by
 simp only[vL,Bool.and_eq_true,decide_eq_true_eq,List.all_eq_true,Bool.or_eq_true,beq_iff_eq,List.mem_range] at h
 obtain⟨hz,h⟩:=h
 have hget:∀j,j<ops.size→listed.getD j true=decide (j<s):=fun j hj=>(h j hj).1
 have hget':∀j,j<ops.size→listed.getD j false=decide (j<s):=fun j hj=>by
  have:=hget j hj
  simp[hz,hj] at this ⊢;exact this
 refine⟨hz,fun j oj hoj hl e he hb=>?_,fun t ht htl=>?_⟩
 ·have hj:j<ops.size:=(Array.getElem?_eq_some_iff.1 hoj).1
  rw[hget' j hj] at hl
  have hjs:j<s:=by simpa using hl
  have h2:=(h j hj).2
  rcases h2 with h2|h2
  ·omega
  ·rw[hoj] at h2
   have h3:=(Array.all_eq_true_iff_forall_mem.1 h2) e he
   simp only[hb,Bool.not_true,Bool.false_or,decide_eq_true_eq] at h3
   rw[hget' e.on (by omega)]
   simpa using h3
 ·rw[hget t htl];simp;omega
end
variable {P:Program}
theorem WH.tail {Q:Exit→Act→World→Prop} {a:Act} {w w0:World} {l:List Oper} {listed:Array Bool} {fuel:Nat} (s n:Nat) (hf:fuel=(n-s)+(l.length-n)) (hB:w9 .any l.toArray s n listed=true) (hw:Below w0.heap.size w0 w)
 (h:WQ P l.toArray (fun w'=>Below w0.heap.size w0 w') (fun a'=>∀w',Below w0.heap.size w0 w'→wpList P l.toArray Q (l.drop n) a' w') ((l.take n).drop s) a):WH P l.toArray Q (fun _=>True) fuel listed a w:=by
 subst hf
 simp only[w9,Bool.and_eq_true,decide_eq_true_eq] at hB
 obtain⟨⟨⟨⟨⟨⟨hsel,hsn⟩,hn⟩,hs⟩,hc⟩,hst⟩,hlex⟩:=hB
 have hn':n<l.length:=by simpa using hn
 have htl:((l.take n).drop s).length=n-s:=by simp;omega
 have hdl:(l.drop n).length=l.toArray.size-n:=by simp
 have H:=mJ (md:=.any) (g:=l.toArray.size-n) hsel hs hc hn ((l.take n).drop s) s _ a (Nat.le_refl _) (fun j hj=>by
  have hj':j<n-s:=by rw[htl] at hj;exact hj
  simp[List.getElem?_drop,show s+j<n by omega]) (by rw[htl];omega) (vW hsn hn hst) (by rw[htl];exact hlex) h.out
 have:=iV (Q':=Q) (g:=l.toArray.size-n) (fun listed a' w' hw' hL=>by
  have:=jC (md:=.any) (Q':=Q) (l.drop n) n listed a' w' (fun j=>by simp[List.getElem?_drop]) (by rw[hdl];exact hL.1) (hL.2 w' hw')
  rwa [hdl] at this) _ _ _ w hw H
 rw[htl] at this
 exact⟨by simpa using this⟩
theorem ar {id:Nat} {Q:Exit→Act→World→Prop} {a:Act} {w:World} {l:List Oper} (n:Nat) (hm:P.follows .mixedOrders=true) (hB:w9 .any l.toArray 0 n (Array.replicate l.length false)=true)
 (h:WQ P l.toArray (fun w'=>Below w.heap.size w w') (fun a'=>∀w',Below w.heap.size w w'→wpList P l.toArray Q (l.drop n) a' w') (l.take n) a):(Code.region id l.toArray true).wp P Q a w:=by
 have hn:n<l.length:=by
  have hB':=hB
  simp only[w9,Bool.and_eq_true,decide_eq_true_eq] at hB'
  simpa using hB'.1.1.1.1.2
 exact ku (S:=fun _=>True) hm (WH.tail 0 n (by omega) hB (kU.below ⟨1,rfl⟩) (by simpa using h))
end Go.Proofs.YtlbipokkdiiaiaaGreatDoor
