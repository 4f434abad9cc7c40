/- Lemmas for TopKeysUpto: ExecOps1, ExecOps2, ExecOps3, ExecOps4, ExecOps5, ExecOps6, ExecOps7, ExecOps8. -/
import Derived.Test.YtlbipokkdiiaiaaGreatDoorK02
import Derived.Laws.BitsLemmas
import Derived.Lib.UnsafeStr
import Derived.Laws.BytesString
namespace Go.Proofs.YtlbipokkdiiaiaaGreatDoor.Exec
variable {P:Program} {m:Bij}
theorem dh {α β γ:Type} (s:Sem α) (f:α→Sem β) (g:β→Sem γ):(s >>= f) >>= g=s >>= fun a=>f a >>= g:=by
 show(s.bind f).bind g=s.bind fun a=>(f a).bind g
 induction s with
 |pure a=>rfl
 |halt h=>rfl
 |frozen a k ih=>simp only[Sem.bind];congr 1;funext b;exact ih b
 |_=>simp_all[Sem.bind]
theorem lA {α β:Type} (a:α) (f:α→Sem β):(Pure.pure a >>= f:Sem β)=f a:=rfl
theorem pM {α:Type} (s:Sem α):s.bind Sem.pure=s:=by
 induction s with
 |pure a=>rfl
 |halt h=>rfl
 |frozen a k ih=>simp only[Sem.bind];congr 1;funext b;exact ih b
 |_=>simp_all[Sem.bind]
theorem ib:LawfulMonad Sem:=LawfulMonad.mk' Sem (id_map:=fun s=>pM s) (pure_bind:=fun _ _=>rfl) (bind_assoc:=fun s f g=>dh s f g)
def EqR {α:Type}:Bij→α→α→Prop:=fun _ a b=>a=b
theorem dq {α:Type} (a:α):ay P EqR m (Pure.pure a) (Pure.pure a):=ay.pure (R:=EqR) (show a=a from rfl)
theorem gz {α β:Type} {R:Bij→α→β→Prop} (t:TypeId) {k:TypeInfo→Sem α} {k':TypeInfo→Sem β} (h:∀i,P.info? t=some i→ay P R m (k i) (k' i)):
 ay P R m (typeInfo t >>= k) (typeInfo t >>= k'):=by
 refine .program ?_
 show ay P R m (Sem.bind (match P.info? t with|some i=>Sem.pure i|none=>stuck "no such type") k) (Sem.bind (match P.info? t with|some i=>Sem.pure i|none=>stuck "no such type") k')
 cases hi:P.info? t with
 |none=>exact .halt
 |some i=>exact h i hi
theorem aF {α β:Type} {R:Bij→α→β→Prop} (t:TypeId) {k:TypeDesc→Sem α} {k':TypeDesc→Sem β} (h:∀i,P.underlying t=some i→ay P R m (k i) (k' i)):
 ay P R m (underlying t >>= k) (underlying t >>= k'):=by
 refine .program ?_
 show ay P R m (Sem.bind (match P.underlying t with|some i=>Sem.pure i|none=>stuck "no such type") k) (Sem.bind (match P.underlying t with|some i=>Sem.pure i|none=>stuck "no such type") k')
 cases hi:P.underlying t with
 |none=>exact .halt
 |some i=>exact h i hi
theorem bD {α β:Type} {R:Bij→α→β→Prop} (t:TypeId) {k:Nat→Sem α} {k':Nat→Sem β} (h:∀i,P.info? t=some i→ay P R m (k i.size) (k' i.size)):
 ay P R m (sizeOf t >>= k) (sizeOf t >>= k'):=by
 unfold sizeOf
 rw[dh,dh]
 exact gz t fun i hi=>h i hi
theorem lB {α β:Type} {R:Bij→α→β→Prop} (t:TypeId) {k:Bool→Sem α} {k':Bool→Sem β} (h:∀b,ay P R m (k b) (k' b)):
 ay P R m (isAgg t >>= k) (isAgg t >>= k'):=by
 unfold isAgg
 rw[dh,dh]
 exact aF t fun d _=>by cases d<;>exact h _
theorem eW {α β:Type} {R:Bij→α→β→Prop} (t:TypeId) {k:Value→Sem α} {k':Value→Sem β} (h:∀i v,P.info? t=some i→i.zero=some v→ay P R m (k v) (k' v)):
 ay P R m (zeroValue t >>= k) (zeroValue t >>= k'):=by
 unfold zeroValue
 rw[dh,dh]
 refine gz t fun i hi=>?_
 cases hz:i.zero with
 |none=>exact .halt
 |some v=>exact h i v hi hz
theorem io {α β:Type} {R:Bij→α→β→Prop} {v v':Value} (hv:ak m v v') {k:Int→Sem α} {k':Int→Sem β} (h:∀c n,v=.int c n→v'=.int c n→ay P R m (k n) (k' n)):
 ay P R m (asInt v >>= k) (asInt v' >>= k'):=by
 cases hv with
 |int c n=>exact h c n rfl rfl
 |pointer hp=>cases hp<;>exact .halt
 |_=>exact .halt
theorem fT {α β:Type} {R:Bij→α→β→Prop} {v v':Value} (hv:ak m v v') {k:IntKind×Int→Sem α} {k':IntKind×Int→Sem β} (h:∀c n,v=.int c n→v'=.int c n→ay P R m (k (c,n)) (k' (c,n))):
 ay P R m (asIntOf v >>= k) (asIntOf v' >>= k'):=by
 cases hv with
 |int c n=>exact h c n rfl rfl
 |pointer hp=>cases hp<;>exact .halt
 |_=>exact .halt
theorem pU {α β:Type} {R:Bij→α→β→Prop} {v v':Value} (hv:ak m v v') {k:Bool→Sem α} {k':Bool→Sem β} (h:∀b,v=.bool b→v'=.bool b→ay P R m (k b) (k' b)):
 ay P R m (asBool v >>= k) (asBool v' >>= k'):=by
 cases hv with
 |bool b=>exact h b rfl rfl
 |_=>exact .halt
theorem gn {α β:Type} {R:Bij→α→β→Prop} {v v':Value} (hv:ak m v v') {k:Addr→Sem α} {k':Addr→Sem β} (h:∀a a',dB m a a'→ay P R m (k a) (k' a')):
 ay P R m (Instr.sureAddr v >>= k) (Instr.sureAddr v' >>= k'):=by
 cases hv with
 |pointer hp=>cases hp with
  |none=>exact .halt
  |some ha=>exact h _ _ ha
 |_=>exact .halt
theorem pj {α β:Type} {R:Bij→α→β→Prop} {v v':Value} (hv:ak m v v') {k:Array Value→Sem α} {k':Array Value→Sem β} (h:∀a a',am m a a'→ay P R m (k a) (k' a')):
 ay P R m (asAgg v >>= k) (asAgg v' >>= k'):=by
 cases hv with
 |agg hs hc=>exact h _ _ ⟨hs,hc⟩
 |_=>exact .halt
theorem dB.add {a a':Addr} (h:dB m a a') (n:Nat):dB m (a.add n) (a'.add n):=by
 cases h with
 |mk k=>unfold Addr.add;split<;>exact .mk k
theorem am.push {c c':Array Value} (h:am m c c') {v v':Value} (hv:ak m v v'):am m (c.push v) (c'.push v'):=
 ⟨by simp[h.size],fun i a b=>by
  simp only[Array.size_push] at a b
  by_cases hi:i<c.size
  ·rw[Array.getElem_push_lt hi,Array.getElem_push_lt (h.size▸hi)];exact h.at_ i hi (h.size▸hi)
  ·have h1:i=c.size:=by omega
   have h2:i=c'.size:=by rw[←h.size];exact h1
   simp only[h1,Array.getElem_push_eq]
   have:(c'.push v')[c.size]'(by simp;have:=h.size;omega)=v':=by simp[h.size]
   rw[this];exact hv⟩
theorem am.nil:am m #[] #[]:=⟨rfl,fun i h=>by simp at h⟩
theorem am.one {v v':Value} (hv:ak m v v'):am m #[v] #[v']:=am.nil.push hv
theorem am.get {c c':Array Value} (h:am m c c') (i:Nat):aT (ak m) c[i]? c'[i]?:=by
 by_cases hi:i<c.size
 ·rw[Array.getElem?_eq_getElem hi,Array.getElem?_eq_getElem (h.size▸hi)];exact .some (h.at_ i hi _)
 ·rw[Array.getElem?_eq_none (by omega),Array.getElem?_eq_none (by have:=h.size;omega)];exact .none
theorem am.of_get {c c':Array Value} (hs:c.size=c'.size) (h:∀(i:Nat) (v v':Value),c[i]?=some v→c'[i]?=some v'→ak m v v'):am m c c':=
 ⟨hs,fun i a b=>h i _ _ (Array.getElem?_eq_getElem a) (Array.getElem?_eq_getElem b)⟩
theorem am.append {a a' b b':Array Value} (h:am m a a') (k:am m b b'):am m (a++b) (a'++b'):=by
 refine .of_get (by simp[h.size,k.size]) fun i v v' h1 h2=>?_
 rw[Array.getElem?_append] at h1 h2
 have hs:=h.size
 by_cases hi:i<a.size
 ·rw[if_pos hi] at h1;rw[if_pos (by omega)] at h2
  have:=h.get i;rw[h1,h2] at this;cases this with|some q=>exact q
 ·rw[if_neg hi] at h1;rw[if_neg (by omega)] at h2
  have:=k.get (i-a.size);rw[h1] at this;rw[hs,h2] at this;cases this with|some q=>exact q
theorem am.extract {a a':Array Value} (h:am m a a') (i j:Nat):am m (a.extract i j) (a'.extract i j):=by
 refine .of_get (by simp[h.size]) fun k v v' h1 h2=>?_
 rw[Array.getElem?_extract] at h1 h2
 have hs:=h.size
 rw[←hs] at h2
 split at h1
 ·rename_i hk;rw[if_pos hk] at h2
  have:=h.get (i+k);rw[h1,h2] at this;cases this with|some q=>exact q
 ·simp at h1
theorem am.of_cells {v v':Value} (h:ak m v v'):am m v.cells v'.cells:=by
 cases h with
 |agg hs hc=>exact⟨hs,hc⟩
 |_=>exact .one (by first|assumption|(constructor<;>assumption)|constructor)
inductive cO (m:Bij):List Value→List Value→Prop
 |nil:cO m [] []
 |cons {v v':Value} {l l':List Value}:ak m v v'→cO m l l'→cO m (v::l) (v'::l')
theorem cO.of_get:∀{l l':List Value},l.length=l'.length→(∀(i:Nat) v v',l[i]?=some v→l'[i]?=some v'→ak m v v')→cO m l l'
 |[],[],_,_=>.nil
 |v::l,v'::l',hs,h=>.cons (h 0 v v' rfl rfl) (cO.of_get (by simpa using hs) fun i a b h1 h2=>h (i+1) a b (by simpa using h1) (by simpa using h2))
theorem am.toList {a a':Array Value} (h:am m a a'):cO m a.toList a'.toList:=
 cO.of_get (by simpa using h.size) fun i v v' h1 h2=>by
  have:=h.get i
  rw[Array.getElem?_toList] at h1 h2
  rw[h1,h2] at this;cases this with|some q=>exact q
theorem cO.length {l l':List Value} (h:cO m l l'):l.length=l'.length:=by
 induction h with
 |nil=>rfl
 |cons _ _ ih=>simp[ih]
theorem cO.get {l l':List Value} (h:cO m l l') (i:Nat):aT (ak m) l[i]? l'[i]?:=by
 induction h generalizing i with
 |nil=>exact .none
 |cons hv _ ih=>cases i with
  |zero=>exact .some hv
  |succ i=>exact ih i
theorem cO.toArray {l l':List Value} (h:cO m l l'):am m l.toArray l'.toArray:=
 .of_get (by simpa using h.length) fun i v v' h1 h2=>by
  have:=h.get i
  rw[List.getElem?_toArray] at h1 h2
  rw[h1,h2] at this;cases this with|some q=>exact q
theorem am.map {α:Type} {f g:α→Value} (x:Array α) (h:∀a∈x,ak m (f a) (g a)):am m (x.map f) (x.map g):=
 .of_get (by simp) fun i v v' h1 h2=>by
  rw[Array.getElem?_map] at h1 h2
  cases hx:x[i]? with
  |none=>rw[hx] at h1;simp at h1
  |some a=>
   rw[hx] at h1 h2
   simp only[Option.map_some,Option.some.injEq] at h1 h2
   subst h1;subst h2
   exact h a (Array.mem_of_getElem? hx)
theorem ko {a a':Addr} (n:Nat):∀{m:Bij} (_:dB m a a') (i:Nat) {acc acc':Array Value},am m acc acc'→ay P am m (loadCellsFrom a i n acc) (loadCellsFrom a' i n acc'):=by
 induction n with
 |zero=>intro m ha i acc acc' h;exact .pure h
 |succ n ih=>intro m ha i acc acc' h;exact .load _ (ha.add i) fun v v' hv=>ih ha (i+1) (h.push hv)
theorem sN (t:TypeId) {a a':Addr} (ha:dB m a a'):ay P ak m (loadVar t a) (loadVar t a'):=by
 refine lB t fun b=>?_
 cases b with
 |false=>exact .load _ ha fun v v' hv=>.pure hv
 |true=>exact bD t fun i _=>(ko i.size ha 0 .nil).bind fun _ _ _ _ h=>.pure (.agg h.size h.at_)
end Go.Proofs.YtlbipokkdiiaiaaGreatDoor.Exec
namespace Go.Proofs.YtlbipokkdiiaiaaGreatDoor.Exec
variable {P:Program} {m:Bij}
inductive zgw (P:Program) {α:Type}:Sem α→Option α→Prop
 |pure (a:α):zgw P (.pure a) (some a)
 |program {k:Program→Sem α} {r:Option α}:zgw P (k P) r→zgw P (.program k) r
 |halt (h:Halt):zgw P (.halt h) none
def da (P:Program) {α:Type} (s:Sem α):Prop:=∃r,zgw P s r
theorem zgw.bind {α β:Type} {s:Sem α} {r:Option α} (h:zgw P s r) {f:α→Sem β} (hf:∀a,r=some a→da P (f a)):da P (s >>= f):=by
 show da P (s.bind f)
 induction h with
 |pure a=>exact hf a rfl
 |program _ ih=>obtain⟨r,hr⟩:=ih hf;exact⟨r,.program hr⟩
 |halt h=>exact⟨none,.halt h⟩
theorem da.bind {α β:Type} {s:Sem α} (h:da P s) {f:α→Sem β} (hf:∀a,da P (f a)):da P (s >>= f):=let⟨_,h⟩:=h;h.bind fun a _=>hf a
theorem da.pure {α:Type} (a:α):da P (Pure.pure a:Sem α):=⟨some a,.pure a⟩
theorem da.stuck {α:Type} (w:String):da P (Go.stuck w:Sem α):=⟨none,.halt _⟩
theorem da.typeInfo (t:TypeId):da P (Go.typeInfo t):=da.bind (s:=Go.program) ⟨_,.program (.pure P)⟩ fun p=>by cases p.info? t<;>first|exact .stuck _|exact .pure _
theorem da.sizeOf (t:TypeId):da P (Go.sizeOf t):=(da.typeInfo t).bind fun _=>.pure _
theorem pB {α β γ:Type} {R:Bij→β→γ→Prop} {s:Sem α} (h:da P s) {k:α→Sem β} {k':α→Sem γ} (hk:∀a,ay P R m (k a) (k' a)):ay P R m (s >>= k) (s >>= k'):=by
 obtain⟨r,h⟩:=h
 show ay P R m (s.bind k) (s.bind k')
 induction h with
 |pure a=>exact hk a
 |program _ ih=>exact .program ih
 |halt h=>exact .halt
theorem da.mapM {α β:Type} {f:α→Sem β} (h:∀a,da P (f a)) (x:Array α):da P (x.mapM f):=by
 have:=ib
 rw[Array.mapM_eq_foldlM,←Array.foldlM_toList]
 generalize #[]=acc
 induction x.toList generalizing acc with
 |nil=>exact .pure _
 |cons a l ih=>rw[List.foldlM_cons];exact da.bind (da.bind (h a) fun b=>.pure _) fun b=>ih b
theorem oK {a a':Addr} (ha:dB m a a') {l l':List Value} (h:cO m l l'):∀i,ay P (fun _ _ _=>True) m (storeCells a l i) (storeCells a' l' i):=by
 induction h with
 |nil=>intro i;exact .pure trivial
 |cons hv _ ih=>intro i;exact .store _ (ha.add i) hv (ih (i+1))
theorem ru (t:TypeId) {a a':Addr} (ha:dB m a a') {v v':Value} (hv:ak m v v'):ay P (fun _ _ _=>True) m (storeVar t a v) (storeVar t a' v'):=by
 have hc:=am.of_cells hv
 unfold storeVar
 refine bD t fun i _=>?_
 rw[hc.size]
 split
 ·exact .halt
 ·exact oK ha hc.toList 0
theorem kg (t:TypeId) {c c':Array Value} (h:am m c c'):ay P dB m (newRow t c) (newRow t c'):=
 .new (.cells t ⟨fun _=>rfl,fun h=>absurd rfl h⟩ h) fun _ _ _ _ hr=>.pure (.mk hr)
theorem pA (t:TypeId) {v v':Value} (h:ak m v v'):ay P dB m (newVar t v) (newVar t v'):=kg t (.of_cells h)
theorem uk (t:TypeId) {c c':Array Value} (h:am m c c') (off:Nat):ay P ak m (part t c off) (part t c' off):=by
 refine lB t fun b=>?_
 cases b with
 |true=>exact bD t fun i _=>.pure (.agg (h.extract _ _).size (h.extract _ _).at_)
 |false=>
  have:=h.get off
  show ay P ak m (match c[off]? with|some v=>Pure.pure v|none=>stuck "part: no such cell") (match c'[off]? with|some v=>Pure.pure v|none=>stuck "part: no such cell")
  cases hc:c[off]?<;>cases hc':c'[off]?<;>rw[hc,hc'] at this<;>cases this
  ·exact .halt
  ·rename_i q;exact .pure q
inductive bV (m:Bij):Next→Next→Prop
 |value {v v':Value}:ak m v v'→bV m (.value v) (.value v')
 |skip:bV m .skip .skip
 |enter (f:FuncId) {a a':Array Value}:am m a a'→bV m (.enter f a) (.enter f a')
 |round {l l':Nat} {f f':FuncId} {t t':Array Value} (x y:Code):m.r l l'→am m t t'→bV m (.round l f t x y) (.round l' f' t' x y)
theorem dw {s s':Sem Value} (h:ay P ak m s s'):ay P bV m (do pure (.value (←s))) (do pure (.value (←s'))):=h.bind fun _ _ _ _ k=>.pure (.value k)
theorem zeO {s s':Sem Unit} (h:ay P (fun _ _ _=>True) m s s'):ay P bV m (do s;pure .skip) (do s';pure .skip):=h.bind fun _ _ _ _ _=>.pure .skip
def ph (P:Program):Prop:=∀t i v,P.info? t=some i→i.zero=some v→∀m:Bij,ak m v v
theorem zd (hz:ph P) (t:TypeId):ay P ak m (Instr.alloc t true (.tuple #[])) (Instr.alloc t true (.tuple #[])):=
 eW t fun i v h1 h2=>(pA t (hz t i v h1 h2 m)).bind fun _ _ _ _ k=>.pure (.pointer (.some k))
theorem zc0 (t:TypeId) {v v':Value} (h:ak m v v'):ay P ak m (Instr.box t v) (Instr.box t v'):=(pA t h).bind fun _ _ _ _ k=>.pure (.pointer (.some k))
theorem vr (t:TypeId) {v v':Value} (h:ak m v v'):ay P ak m (Instr.loadAt t v) (Instr.loadAt t v'):=gn h fun _ _ k=>sN t k
theorem sy (t:TypeId) {v v' x x':Value} (h:ak m v v') (hx:ak m x x'):ay P (fun _ _ _=>True) m (Instr.storeAt t v x) (Instr.storeAt t v' x'):=gn h fun _ _ k=>ru t k hx
theorem s6 {v v':Value} (h:ak m v v') (i:Nat):ay P ak m (Instr.extract v i) (Instr.extract v' i):=by
 cases h with
 |@tuple c c' hs hc=>
  have:=am.get (m:=m) (c:=c) (c':=c') ⟨hs,hc⟩ i
  unfold Instr.extract
  cases hc:c[i]?<;>cases hc':c'[i]?<;>rw[hc,hc'] at this<;>cases this
  ·simp only[hc];exact .halt
  ·rename_i q;simp only[hc,hc'];exact .pure q
 |_=>exact .halt
theorem sk (f:Fn) (hf:jK m f f) {x x' c c':Array Value} (h1:am m x x') (h2:am m c c'):ay P ak m (Instr.makeFunc f x c) (Instr.makeFunc f x' c'):=
 .pure (.func hf h1.size h1.at_ h2.size h2.at_)
theorem kJ (t:TypeId) {v v':Value} (h:ak m v v'):ay P ak m (Instr.makeInterface t v) (Instr.makeInterface t v'):=
 aF t fun d _=>by cases d<;>first|exact .halt|exact .pure (.iface t h)
end Go.Proofs.YtlbipokkdiiaiaaGreatDoor.Exec
namespace Go.Proofs.YtlbipokkdiiaiaaGreatDoor.Exec
variable {P:Program} {m:Bij}
theorem qm {α β:Type} {R:Bij→α→β→Prop} (e:RuntimeError) (he:∀i c a s,e≠.typeAssertion i c a s) (hp:e≠.panicNil) (s:Sem β):ay P R m (runtimePanic e) s:=by
 refine .dead fun h=>?_
 cases e<;>first|rfl|exact absurd rfl (he _ _ _ _)|exact absurd rfl hp
theorem fL {α β:Type} {R:Bij→α→β→Prop} (k:IntKind) (x y:Int) (c:BoundsCode) (s:Sem β):ay P R m (boundsPanic k x y c) s:=by
 refine .dead fun h=>?_
 unfold boundsPanic
 split<;>rfl
theorem ui (s:TypeId) (f:Nat) (hf:r8 P s f=true) {v v':Value} (h:ak m v v'):ay P ak m (Instr.fieldAt s v f) (Instr.fieldAt s v' f):=by
 unfold Instr.fieldAt
 refine aF s fun d hd=>?_
 unfold r8 at hf
 rw[hd] at hf
 cases d with
 |struct fields=>
  simp only at hf ⊢
  cases hff:fields[f]? with
  |none=>exact .halt
  |some fl=>
   rw[hff] at hf
   simp only at hf ⊢
   refine gn h fun a a' ha=>?_
   unfold fieldPlace
   rw[dh,dh]
   refine bD fl.type fun i hi=>?_
   rw[hi] at hf
   have:¬i.size=0:=by simpa using hf
   rw[if_neg this,if_neg this]
   exact .pure (.pointer (.some (ha.add _)))
 |_=>exact .halt
theorem zu (s:TypeId) (f:Nat) {v v':Value} (h:ak m v v'):ay P ak m (Instr.field s v f) (Instr.field s v' f):=by
 unfold Instr.field
 refine aF s fun d hd=>?_
 cases d with
 |struct fields=>
  simp only
  cases hff:fields[f]? with
  |none=>exact .halt
  |some fl=>exact pj h fun a a' ha=>uk _ ha _
 |_=>exact .halt
def zbT (t:TypeId) (k:IntKind) (n:Int) (b:Option Addr) (len:Nat) (elem:TypeId):Sem Value:=do
 let tiny:=len≤1&&(match ←underlying t with|.array .. =>true|_=>false)
 match b with
 |some a=>
  if 0≤n∧n<len then pure (.pointer (some (a.add (n.toNat*(←sizeOf elem)))))
  else if tiny then unsupported (.noEntry "op/indexAddr.an index out of range at an array of length 0 or 1 (ledger 616)")
  else boundsPanic k n len .index
 |none=>boundsPanic k n 0 .index
theorem j9 (t:TypeId) (k:IntKind) (n:Int) {b b':Option Addr} (hb:aT (dB m) b b') (len:Nat) (elem:TypeId):ay P ak m (zbT t k n b len elem) (zbT t k n b' len elem):=by
 refine aF t fun d _=>?_
 cases hb with
 |none=>exact fL _ _ _ _ _
 |some ha=>
  simp only
  split
  ·exact bD elem fun i _=>.pure (.pointer (.some (ha.add _)))
  ·repeat' split
   all_goals first|exact .halt|exact fL _ _ _ _ _
theorem sQ (t:TypeId) {v v' x x':Value} (h:ak m v v') (hx:ak m x x'):ay P ak m (Instr.indexAt t v x) (Instr.indexAt t v' x'):=by
 unfold Instr.indexAt
 refine fT hx fun k n _ _=>?_
 simp only
 refine aF t fun d hd=>?_
 cases d with
 |array len elem=>
  cases h<;>first
   |exact .halt
   |(rename_i hp;cases hp<;>first|exact .halt|(rename_i ha;exact j9 t k n (.some ha) len elem))
 |slice elem=>
  cases h with
  |slice l c _ ha=>exact j9 t k n ha l elem
  |sliceU l c e hb _ _ _=>exact j9 t k n (.some (.mk hb)) l elem
  |_=>exact .halt
 |_=>exact .halt
theorem zn (t:TypeId) {v v' x x':Value} (h:ak m v v') (hx:ak m x x'):ay P ak m (Instr.index t v x) (Instr.index t v' x'):=by
 unfold Instr.index
 refine fT hx fun k n _ _=>?_
 simp only
 refine aF t fun d hd=>?_
 cases d with
 |array len elem=>
  cases h with
  |agg hs hc=>
   simp only
   split
   ·exact bD elem fun i _=>uk _ ⟨hs,hc⟩ _
   ·exact fL _ _ _ _ _
  |_=>exact .halt
 |string=>
  cases h with
  |string s=>
   simp only
   split
   ·exact .pure (.int _ _)
   ·exact fL _ _ _ _ _
  |_=>exact .halt
 |_=>exact .halt
theorem gF {v v':Value} (h:ak m v v') (y:Nat) (c:BoundsCode):ay P (fun _ a b=>a=b∧a≤y) m (Instr.sliceBound v y c) (Instr.sliceBound v' y c):=by
 unfold Instr.sliceBound
 refine fT h fun k n _ _=>?_
 simp only
 split
 ·exact .pure ⟨rfl,by omega⟩
 ·exact fL _ _ _ _ _
theorem aT.vmono {m':Bij} (h:m≤m') {x x':Option Value} (k:aT (ak m) x x'):aT (ak m') x x':=k.mono fun _ _=>ak.mono h
def zdM (l:Option Value) (h mm:Nat) (cd:BoundsCode):Sem (Nat×Nat×Nat):=
 match l with
 |some v=>do
  let l ←Instr.sliceBound v h cd
  pure (l,h,mm)
 |none=>pure (0,h,mm)
theorem zc {cap:Nat} {l l':Option Value} (hh:Nat) {mm:Nat} (hm:mm≤cap) (hl:aT (ak m) l l') (cd:BoundsCode):ay P (fun _ a b=>a=b∧a.2.2≤cap) m (zdM l hh mm cd) (zdM l' hh mm cd):=by
 cases hl with
 |none=>exact .pure ⟨rfl,hm⟩
 |some k=>exact(gF k _ _).bind fun _ _ _ _ e=>by obtain⟨rfl,_⟩:=e;exact .pure ⟨rfl,hm⟩
theorem ir (s:Bool) (len cap:Nat) {l l' h h' x x':Option Value} (hl:aT (ak m) l l') (hh:aT (ak m) h h') (hx:aT (ak m) x x'):
 ay P (fun _ a b=>a=b∧a.2.2≤cap) m (Instr.sliceBounds s len cap l h x) (Instr.sliceBounds s len cap l' h' x'):=by
 have fin:=fun{m:Bij} (hh mm:Nat) (hm:mm≤cap) (hl:aT (ak m) l l') (cd:BoundsCode)=>zc (P:=P) hh hm hl cd
 unfold Instr.sliceBounds
 cases hx with
 |none=>cases hh with
  |none=>exact fin len cap (Nat.le_refl _) hl _
  |some k=>
   simp only[lA]
   exact(gF k _ _).bind fun _ a b h1 e=>by obtain⟨rfl,_⟩:=e;exact fin a cap (Nat.le_refl _) (hl.vmono h1) _
 |some q=>cases hh with
  |none=>exact(gF q _ _).bind fun _ a b h1 e=>.dead fun h=>rfl
  |some k=>
   exact(gF q _ _).bind fun _ a b h1 e=>by
    obtain⟨rfl,ha⟩:=e
    exact(gF (k.mono h1) _ _).bind fun _ c d h2 e=>by obtain⟨rfl,_⟩:=e;exact fin c a ha ((hl.vmono h1).vmono h2) _
theorem qX (op:UnOp) {v v':Value} (h:ak m v v') (hv:(∃k n,v=.int k n)∨∃b,v=.bool b):ay P ak m (Op.unary op v) (Op.unary op v'):=by
 rcases hv with⟨k,n,rfl⟩|⟨b,rfl⟩<;>cases h<;>cases op<;>simp only[Op.unary,Op.intArith,Op.intBits]<;>first|exact .halt|exact .pure (.int _ _)|exact .pure (.bool _)
theorem uY (op:BinOp) (t:TypeId) (k k':IntKind) (a b:Int):ay P ak m (binOp op t (.int k a) (.int k' b)) (binOp op t (.int k a) (.int k' b)):=by
 cases op<;>simp only[binOp,Op.shift,Op.intArith,Op.intDiv,Op.intBits,Op.intCmp]<;>(repeat' split)<;>first|exact .halt|exact .pure (.int _ _)|exact .pure (.bool _)|exact qm _ (by simp) (by simp) _
theorem vv (op:BinOp) (t:TypeId) (a b:ByteArray):ay P ak m (binOp op t (.string a) (.string b)) (binOp op t (.string a) (.string b)):=by
 cases op<;>simp only[binOp,Op.stringOp]<;>(repeat' split)<;>first|exact .halt|exact .pure (.string _)|exact .pure (.bool _)
theorem lU (t:TypeId) {v v':Value} (h:ak m v v') (hv:(∃s,v=.string s)∨∃a l c,v=.slice a l c∧c<BIG) {l l' u u' x x':Option Value} (hl:aT (ak m) l l') (hu:aT (ak m) u u') (hx:aT (ak m) x x'):
 ay P ak m (Instr.sliceAt t v l u x) (Instr.sliceAt t v' l' u' x'):=by
 have hsl:ay P ak m (Instr.slice t v l u x) (Instr.slice t v' l' u' x'):=by
  unfold Instr.slice
  refine aF t fun d hd=>?_
  rcases hv with⟨s,rfl⟩|⟨a,n,c,rfl,hc⟩
  ·cases h
   cases d with
   |string=>
    simp only
    cases hx with
    |none=>exact(ir false s.size s.size hl hu .none).bind fun _ a b _ e=>by obtain⟨rfl,_⟩:=e;exact .pure (.string _)
    |some _=>exact .halt
   |pointer e=>exact .halt
   |_=>exact .halt
  ·cases h with
   |slice _ _ _ ha=>
    cases d with
    |slice elem=>
     simp only
     refine(ir true n c hl hu hx).bind fun m1 a b h1 e=>?_
     obtain⟨rfl,hle⟩:=e
     obtain⟨lo,hi,mx⟩:=a
     refine bD elem fun i _=>.pure (.slice _ _ (by simp only at hle ⊢;omega) ?_)
     split
     ·exact ha.mono fun _ _=>dB.mono h1
     ·cases ha with
      |none=>exact .none
      |some ha=>exact .some ((ha.mono h1).add _)
    |pointer e=>exact .halt
    |_=>exact .halt
   |sliceU l c e _ _ _ _=>exact absurd hc (by omega)
 unfold Instr.sliceAt
 refine aF t fun d hd=>?_
 cases d with
 |array n e=>
  rcases hv with⟨s,rfl⟩|⟨a,n,c,rfl,hc⟩<;>exact .halt
 |_=>exact hsl
end Go.Proofs.YtlbipokkdiiaiaaGreatDoor.Exec
namespace Go.Proofs.YtlbipokkdiiaiaaGreatDoor.Exec
variable {P:Program} {m:Bij}
theorem am.get! {c c':Array Value} (h:am m c c') (i:Nat):ak m c[i]! c'[i]! :=by
 have:=h.get i
 rw[getElem!_def,getElem!_def]
 cases hc:c[i]?<;>cases hc':c'[i]?<;>rw[hc,hc'] at this<;>cases this
 ·exact .bool _
 ·assumption
theorem oO {c c':Array Value} (h:am m c c') (n:Nat):am m ((Array.range n).map (c[· % c.size]!)) ((Array.range n).map (c'[· % c'.size]!)):=by
 rw[←h.size]
 exact .map _ fun a _=>h.get! _
inductive oX (m:Bij):List (Nat×Value)→List (Nat×Value)→Prop
 |nil:oX m [] []
 |cons (i:Nat) {v v':Value} {l l':List (Nat×Value)}:ak m v v'→oX m l l'→oX m ((i,v)::l) ((i,v')::l')
theorem oX.map {α:Type} {f g:α→Value}:∀(l:List (Nat×α)),(∀a∈l,ak m (f a.2) (g a.2))→oX m (l.map fun a=>(a.1,f a.2)) (l.map fun a=>(a.1,g a.2))
 |[],_=>.nil
 |a::l,h=>.cons a.1 (h a (by simp)) (oX.map l fun b hb=>h b (by simp[hb]))
theorem zan (off:Nat) {l l':List Value} (h:cO m l l'):∀(k:Nat) {c c':Array Value},am m c c'→
 am m ((l.zipIdx k).foldl (fun cs x=>cs.setIfInBounds (off+x.2) x.1) c) ((l'.zipIdx k).foldl (fun cs x=>cs.setIfInBounds (off+x.2) x.1) c'):=by
 induction h with
 |nil=>intro k c c' hc;exact hc
 |cons hv _ ih=>intro k c c' hc;simp only[List.zipIdx_cons,List.foldl_cons];exact ih (k+1) (hc.set hv _)
theorem oJ (place:Nat→Option (Nat×Nat)) {l l':List (Nat×Value)} (h:oX m l l'):∀{c c':Array Value},am m c c'→aT (am m) (Instr.fill place c l) (Instr.fill place c' l'):=by
 induction h with
 |nil=>intro c c' hc;exact .some hc
 |cons i hv _ ih=>
  intro c c' hc
  simp only[Instr.fill]
  cases place i with
  |none=>exact .none
  |some p=>
   obtain⟨off,size⟩:=p
   have hcs:=am.of_cells hv
   simp only
   rw[hcs.size,hc.size]
   split
   ·exact .none
   ·refine ih ?_
    have:=zan off hcs.toList 0 hc
    rw[←Array.foldl_toList,←Array.foldl_toList,Array.toList_zipIdx,Array.toList_zipIdx]
    exact this
theorem yE (hz:ph P) (t:TypeId) {l l':Array (Nat×Value)} (h:oX m l.toList l'.toList):ay P ak m (Instr.build t l) (Instr.build t l'):=by
 unfold Instr.build
 refine eW t fun i z h1 h2=>?_
 have hzr:=am.of_cells (hz t i z h1 h2 m)
 refine aF t fun d hd=>?_
 have fin:∀place,ay P ak m
  (match Instr.fill place z.cells l.toList with|some cells=>pure (.agg cells)|_=>stuck "build: no such field, or a part of the wrong size")
  (match Instr.fill place z.cells l'.toList with|some cells=>pure (.agg cells)|_=>stuck "build: no such field, or a part of the wrong size"):=by
  intro place
  have:=oJ place h hzr
  cases ha:Instr.fill place z.cells l.toList<;>cases hb:Instr.fill place z.cells l'.toList<;>rw[ha,hb] at this<;>cases this
  ·exact .halt
  ·rename_i q;exact .pure (.agg q.size q.at_)
 have fin2:∀place,ay P ak m
  (match Instr.fill place z.cells l.toList with|some cells=>pure (.agg cells)|_=>stuck "build: a part of the wrong size")
  (match Instr.fill place z.cells l'.toList with|some cells=>pure (.agg cells)|_=>stuck "build: a part of the wrong size"):=by
  intro place
  have:=oJ place h hzr
  cases ha:Instr.fill place z.cells l.toList<;>cases hb:Instr.fill place z.cells l'.toList<;>rw[ha,hb] at this<;>cases this
  ·exact .halt
  ·rename_i q;exact .pure (.agg q.size q.at_)
 cases d with
 |struct fields=>exact pB (da.mapM (fun f=>(da.sizeOf f.type).bind fun _=>.pure _) fields) fun places=>fin _
 |array n elem=>exact bD elem fun i _=>fin2 _
 |_=>exact .halt
theorem oD (hz:ph P) (t:TypeId) (n:Nat) (hn:n<BIG) {l l':Array (Nat×Value)} (h:oX m l.toList l'.toList):ay P ak m (Instr.buildSlice t n l) (Instr.buildSlice t n l'):=by
 unfold Instr.buildSlice
 refine aF t fun d hd=>?_
 cases d with
 |slice elem=>
  refine bD elem fun i _=>?_
  simp only
  split
  ·exact .halt
  ·have fin:∀z:Array Value,am m z z→ay P ak m
    (match Instr.fill (fun j=>some (j*i.size,i.size)) ((Array.range (n*i.size)).map (z[· % z.size]!)) l.toList with|some cells=>do pure (.slice (some (←newRow elem cells)) n n)|_=>stuck "buildSlice: a part of the wrong size")
    (match Instr.fill (fun j=>some (j*i.size,i.size)) ((Array.range (n*i.size)).map (z[· % z.size]!)) l'.toList with|some cells=>do pure (.slice (some (←newRow elem cells)) n n)|_=>stuck "buildSlice: a part of the wrong size"):=by
    intro z hzz
    have:=oJ (fun j=>some (j*i.size,i.size)) h (oO hzz (n*i.size))
    cases ha:Instr.fill (fun j=>some (j*i.size,i.size)) ((Array.range (n*i.size)).map (z[· % z.size]!)) l.toList<;>cases hb:Instr.fill (fun j=>some (j*i.size,i.size)) ((Array.range (n*i.size)).map (z[· % z.size]!)) l'.toList<;>rw[ha,hb] at this<;>cases this
    ·exact .halt
    ·rename_i q;exact(kg elem q).bind fun _ _ _ _ k=>.pure (.slice n n hn (.some k))
   split
   ·exact fin #[] .nil
   ·exact eW elem fun i2 z h1 h2=>fin z.cells (.of_cells (hz elem i2 z h1 h2 m))
 |_=>exact .halt
end Go.Proofs.YtlbipokkdiiaiaaGreatDoor.Exec
namespace Go.Proofs.YtlbipokkdiiaiaaGreatDoor.Exec
variable {P:Program} {m:Bij}
theorem zaR (n:Int):(IntKind.i64.wrap n).toNat<BIG:=by
 rw[IntKind.wrap_i64]
 unfold BIG
 omega
theorem tu (hz:ph P) (elem:TypeId) (n:Nat) {α β:Type} {R:Bij→α→β→Prop} {k:Array Value→Sem α} {k':Array Value→Sem β} (h:∀z,am m z z→ay P R m (k z) (k' z)):
 ay P R m (if n=0 then(do let z ←pure #[];k z) else(do let z ←zeroValue elem;let z ←pure z.cells;k z)) (if n=0 then(do let z ←pure #[];k' z) else(do let z ←zeroValue elem;let z ←pure z.cells;k' z)):=by
 split
 ·exact h _ .nil
 ·exact eW elem fun i z h3 h4=>h _ (.of_cells (hz elem i z h3 h4 m))
theorem zct {α β:Type} {R:Bij→α→β→Prop} (n:Nat) {k:Sem α} {k':Sem β} (h:ay P R m k k'):ay P R m (do askRoom n;k) (do askRoom n;k'):=by
 unfold askRoom
 split
 ·exact .mark h
 ·exact h
theorem pZ (hz:ph P) (t:TypeId) {l l' c c':Value} (hl:ak m l l') (hc:ak m c c'):ay P ak m (Instr.makeSlice t l c) (Instr.makeSlice t l' c'):=by
 unfold Instr.makeSlice
 refine aF t fun d hd=>?_
 cases d with
 |slice elem=>
  simp only
  refine io hl fun k1 n1 _ _=>?_
  refine io hc fun k2 n2 _ _=>?_
  refine gz elem fun i hi=>?_
  split
  ·split
   ·exact .dead fun h=>rfl
   ·split
    ·exact .dead fun h=>rfl
    ·exact .dead fun h=>rfl
  ·refine zct _ (bD elem fun i2 h2=>tu hz elem _ fun z hzz=>?_)
   exact(kg elem (oO hzz _)).bind fun _ _ _ _ k=>.pure (.slice _ _ (zaR n2) (.some k))
 |_=>exact .halt
theorem uc (t:TypeId) {r r':Option Value} (h:aT (ak m) r r'):ay P ak m (Instr.makeMap t r) (Instr.makeMap t r'):=by
 have fin:∀m:Bij,ay P ak m (do pure (.map (some (←newObj (.map #[] 0))))) (do pure (.map (some (←newObj (.map #[] 0))))):=fun m=>
  .new (.map 0 rfl fun i a=>by simp at a) fun _ _ _ _ hr=>.pure (.map (.some hr))
 unfold Instr.makeMap
 cases h with
 |none=>exact fin m
 |some h=>
  simp only
  refine aF t fun d hd=>?_
  cases d with
  |map k e=>exact io h fun _ _ _ _=>fin m
  |_=>exact .halt
theorem zj (t:TypeId) {v v':Value} (h:ak m v v'):ay P ak m (Instr.range t v) (Instr.range t v'):=by
 have fin:∀(m:Bij) (o o':Obj),jz m o o'→ay P ak m (do pure (.pointer (some ⟨←newObj o,0,none⟩))) (do pure (.pointer (some ⟨←newObj o',0,none⟩))):=fun m o o' ho=>
  .new ho fun _ _ _ _ hr=>.pure (.pointer (.some (.mk hr)))
 unfold Instr.range
 refine aF t fun d hd=>?_
 cases d with
 |string=>cases h with
  |string s=>exact fin _ _ _ (.stringIter s 0)
  |_=>exact .halt
 |map k e=>cases h with
  |map hr=>cases hr with
   |none=>exact fin _ _ _ (.mapIter 0 #[] 0 .none)
   |some hr=>
    refine .getObj hr fun o o' ho=>?_
    cases ho with
    |map n _ _=>exact fin _ _ _ (.mapIter n #[] n (.some hr))
    |_=>exact .halt
  |_=>exact .halt
 |_=>exact .halt
theorem zcc (ts:Array TypeId) (ty:TypeId) {a a':Array Value} (h:am m a a'):ay P ak m (Builtin.len_ ts ty a) (Builtin.len_ ts ty a'):=by
 unfold Builtin.len_
 have h0:=h.get 0
 cases ht:(ts[0]?:Option TypeId) with
 |none=>exact .halt
 |some t=>
  cases ha:(a[0]?:Option Value)<;>cases hb:(a'[0]?:Option Value)<;>rw[ha,hb] at h0<;>cases h0
  ·exact .halt
  ·rename_i x x' hx
   refine aF t fun d hd=>?_
   cases d with
   |string=>cases hx<;>first|exact .halt|exact .pure (.int _ _)
   |array n e=>exact .pure (.int _ _)
   |pointer arr=>
    refine aF arr fun d2 _=>?_
    cases d2<;>first|exact .halt|exact .pure (.int _ _)
   |slice e=>cases hx<;>first|exact .halt|exact .pure (.int _ _)
   |map k e=>cases hx with
    |map hr=>cases hr with
     |none=>exact .pure (.int _ _)
     |some hr=>
      refine .getObj hr fun o o' ho=>?_
      cases ho with
      |map n hs _=>
       show ay P ak m (Pure.pure (goInt _)) (Pure.pure (goInt _))
       rw[hs];exact .pure (.int _ _)
      |_=>exact .halt
    |_=>exact .halt
   |chan k e=>cases hx<;>first|exact .halt|exact .pure (.int _ _)
   |_=>exact .halt
end Go.Proofs.YtlbipokkdiiaiaaGreatDoor.Exec
namespace Go.Proofs.YtlbipokkdiiaiaaGreatDoor.Exec
variable {P:Program} {m:Bij} {h:H} {W:World}
theorem bw.objAt (hw:bw m h W) {r r':Nat} (hr:m.r r r') {o:Obj} {g:Bool} (hg:h.get r=some ⟨o,g⟩) (ho:∀c t f,o≠.cells c t f):∃o',W.heap[r']?=some o'∧jz m o o':=by
 obtain⟨o',h1,h2⟩:=hw.at_ hr hg
 cases h2 with
 |obj k=>exact⟨o',h1,k⟩
 |grow t _ _ _ _=>exact absurd rfl (ho _ _ _)
theorem dA {α:Type} {r:Nat} {o:Obj} (ho:W.heap[r]?=some o) (hc:∀c t f,o≠.cells c t f) (k:Obj→Sem α):(getObj r >>= k).run P W=(k o).run P W:=by
 show(Sem.getObj r (fun o=>(Sem.pure o).bind k)).run P W=_
 simp only[Sem.run,ho]
 rfl
theorem gV {r:Nat} {o x:Obj} (ho:W.heap[r]?=some o) (hc:∀c t f,o≠.cells c t f):(setObj r x).run P W=.ok () {W with heap:=W.heap.setIfInBounds r x}:=by
 show(Sem.setObj r x (.pure ())).run P W=_
 simp only[Sem.run,ho]
theorem od {α:Type} (p:α→Bool):Array.filter p #[]=#[]:=rfl
theorem oe {α:Type} (p:α→Bool) (e:α):Array.filter p #[e]=if p e then #[e] else #[]:=by
 apply Array.ext'
 rw[Array.toList_filter]
 cases h:p e<;>simp[List.filter,h]
theorem jb {q:Question} (hq:q.forced=true) {α:Type} (k:Nat→Sem α):(choose q >>= k).run P W=(k 0).run P W:=by
 show(Sem.choose q (fun n=>(Sem.pure n).bind k)).run P W=_
 simp only[Sem.run,hq,if_true];rfl
theorem ij {v v':Value} (h:ak m v v'):ak m (.tuple #[v]) (.tuple #[v']):=.tuple rfl (am.one h).at_
theorem jT {v v' u u':Value} (h:ak m v v') (k:ak m u u'):ak m (.tuple #[v,u]) (.tuple #[v',u']):=.tuple rfl ((am.one h).push k).at_
theorem oV {v v' u u' x x':Value} (h:ak m v v') (k:ak m u u') (l:ak m x x'):ak m (.tuple #[v,u,x]) (.tuple #[v',u',x']):=.tuple rfl (((am.one h).push k).push l).at_
theorem uC {e e':Array MapEntry} (hs:e.size=e'.size) (h:∀i (h:i<e.size) (h':i<e'.size),iH m e[i] e'[i]):(e.toList=[]→e'=#[])∧∀x,e.toList=[x]→∃x',e'=#[x']∧iH m x x':=by
 obtain⟨l⟩:=e
 obtain⟨l'⟩:=e'
 simp only[List.size_toArray] at hs h
 refine⟨fun k=>?_,fun x k=>?_⟩
 ·simp only at k
  subst k
  simp only[List.length_nil] at hs
  rw[List.eq_nil_of_length_eq_zero hs.symm]
 ·simp only at k
  subst k
  match l',hs,h with
  |[y],_,h=>exact⟨y,rfl,h 0 (by simp) (by simp)⟩
theorem wh {it it':Value} (hi:ak m it it') (hw:bw m h W) (ty:TypeId) {v:Value} {h':H} (he:oQ it h=some (v,h')):
 ∃m' v' W',(Instr.next it' false ty).run P W=.ok v' W'∧ak m' v v'∧Snd m h W m' h' W':=by
 unfold oQ at he
 split at he
 ·rename_i r
  cases hi with
  |pointer hp=>cases hp with
   |some ha=>cases ha with
    |@mk _ r' _ _ hr=>
     split at he
     ·rename_i a b c g hg
      obtain⟨o',q1,q2⟩:=hw.objAt hr hg (by simp)
      simp only[Option.some.injEq,Prod.mk.injEq] at he
      obtain⟨rfl,rfl⟩:=he
      cases q2 with
      |mapIter _ _ _ hm=>
       cases hm
       refine⟨m,_,W,?_,ij (.bool false),Snd.refl hw⟩
       simp only[Instr.next]
       rw[dA q1 (by simp)];rfl
     ·rename_i mm since seen last g hg
      obtain⟨o',q1,q2⟩:=hw.objAt hr hg (by simp)
      cases q2 with
      |mapIter _ _ _ hm=>
       cases hm with
       |@some _ mm' hm=>
       split at he
       ·rename_i es clock g2 hg2
        obtain⟨o2,p1,p2⟩:=hw.objAt hm hg2 (by simp)
        cases p2 with
        |@map _ es' _ hs hes=>
         have hl:=uC hs hes
         split at he
         ·rename_i hnil
          simp only[Option.some.injEq,Prod.mk.injEq] at he
          obtain⟨rfl,rfl⟩:=he
          obtain rfl:=hl.1 hnil
          refine⟨m,_,W,?_,ij (.bool false),Snd.refl hw⟩
          simp only[Instr.next]
          rw[dA q1 (by simp)]
          simp only
          rw[dA p1 (by simp)]
          simp only[od,Array.isEmpty_empty,if_true,Bool.not_true,Bool.and_false,Bool.false_and,Bool.false_eq_true,if_false]
          rw[jb (by simp[Question.forced])]
          simp[Sem.run_pure]
         ·rename_i e hone
          obtain⟨e',rfl,hk⟩:=hl.2 e hone
          have hb:=hk.born
          split at he
          ·rename_i hsn
           split at he
           ·rename_i aH
            simp only[Option.some.injEq,Prod.mk.injEq] at he
            obtain⟨rfl,rfl⟩:=he
            refine⟨m,_,W,?_,ij (.bool false),Snd.refl hw⟩
            simp only[Instr.next]
            rw[dA q1 (by simp)]
            simp only
            rw[dA p1 (by simp)]
            rw[hb] at hsn aH
            have hge:¬last≤e'.born:=by omega
            simp only[od,oe,hsn,Bool.not_true,Bool.false_eq_true,if_false,Array.isEmpty_empty,if_true]
            rw[if_neg (by simp[hge]),jb (by simp[Question.forced])]
            simp[Sem.run_pure]
           ·simp at he
          ·rename_i hsn
           split at he
           ·rename_i hc
            simp only[Option.some.injEq,Prod.mk.injEq] at he
            obtain⟨rfl,rfl⟩:=he
            have hp:=Snd.put hw hg hr (.obj (.mapIter since (seen.push e.born) clock (.some hm)))
            refine⟨m,_,_,?_,oV (.bool true) hk.key hk.val,hp⟩
            simp only[Instr.next]
            rw[dA q1 (by simp)]
            simp only
            rw[dA p1 (by simp)]
            rw[hb] at hsn hc ⊢
            simp only[Bool.and_eq_true,Bool.or_eq_true,decide_eq_true_eq] at hc
            have hlt2:¬since≤e'.born:=by omega
            have hcond:(!seen.isEmpty&&!(#[e']:Array MapEntry).isEmpty&&(#[e']:Array MapEntry).all (fun x=>decide (x.born≥last)))=false:=by
             rcases hc.1 with h1|h1
             ·simp[h1]
             ·have:¬last≤e'.born:=by omega
              simp[this]
            have hsn2:seen.contains e'.born=false:=by simpa using hsn
            simp only[oe,hsn2,Bool.not_false,if_true,hc.2,decide_true,hlt2,decide_false,Bool.false_eq_true,if_false]
            rw[if_neg (by rw[hcond];simp),jb (by simp[Question.forced])]
            simp[gV q1 (by simp)]
           ·simp at he
         ·simp at he
       ·simp at he
     ·simp at he
 ·simp at he
end Go.Proofs.YtlbipokkdiiaiaaGreatDoor.Exec
namespace Go.Proofs.YtlbipokkdiiaiaaGreatDoor.Exec
variable {P:Program} {m:Bij} {h:H} {W:World}
theorem zbj {it it':Value} (hi:ak m it it') (hw:bw m h W) {v:Value} (he:wB it h=some v):
 ∃v',(Instr.entry it').run P W=.ok v' W∧ak m v v':=by
 unfold wB at he
 split at he
 ·rename_i r
  cases hi with
  |pointer hp=>cases hp with
   |some ha=>cases ha with
    |@mk _ r' _ _ hr=>
     split at he
     ·rename_i mm a seen stepped g hg
      obtain⟨o',q1,q2⟩:=hw.objAt hr hg (by simp)
      cases q2 with
      |mapIter _ _ _ hm=>
       cases hm with
       |@some _ mm' hm=>
       split at he
       ·rename_i stamp es clock g2 hb hg2
        obtain⟨o2,p1,p2⟩:=hw.objAt hm hg2 (by simp)
        cases p2 with
        |@map _ es' _ hs hes=>
         have hl:=uC hs hes
         split at he
         ·rename_i e hone
          obtain⟨e',rfl,hk⟩:=hl.2 e hone
          split at he
          ·rename_i hc
           simp only[Option.some.injEq] at he
           subst he
           simp only[Bool.and_eq_true,beq_iff_eq] at hc
           obtain⟨rfl,hc⟩:=hc
           refine⟨_,?_,jT hk.key hk.val⟩
           simp only[Instr.entry]
           rw[dA q1 (by simp)]
           simp only[hb]
           rw[dA p1 (by simp)]
           rw[hk.born] at hc
           simp[hc]
          ·simp at he
         ·simp at he
       ·simp at he
     ·simp at he
 ·simp at he
theorem us {v v':Value} (h:ak m v v') (ty:TypeId):ay P ak m (Instr.next v true ty) (Instr.next v' true ty):=by
 unfold Instr.next
 cases h with
 |pointer hp=>cases hp with
  |none=>exact .halt
  |some ha=>cases ha with
   |@mk b b' o s hb=>
    cases o with
    |zero=>
     refine .getObj hb fun x x' hx=>?_
     cases hx with
     |stringIter s p=>
      show ay P ak m (if p<s.size then _ else _) (if p<s.size then _ else _)
      split
      ·exact .setObj hb (.stringIter _ _) (.pure (oV (.bool true) (.int _ _) (.int _ _)))
      ·exact .pure (ij (.bool false))
     |mapIter _ _ _ hm=>cases hm<;>exact .halt
     |_=>exact .halt
    |succ o=>exact .halt
 |_=>exact .halt
theorem qz {k:IntKind} {n y:Nat} (c:BoundsCode) (hn:n≤y):(Instr.sliceBound (.int k (n:Int)) y c).run P W=.ok n W:=by
 unfold Instr.sliceBound
 simp[asIntOf,hn]
theorem wU {x:Option Value} {d n:Nat} (h:ix? x d=some n):(x=none∧n=d)∨∃k,x=some (.int k (Int.ofNat n)):=by
 unfold ix? at h
 split at h
 ·left;simp_all
 ·right;simp_all
 ·simp at h
theorem wS {x x':Option Value} (h:aT (ak m) x x') {k:IntKind} {n:Int} (e:x=some (.int k n)):x'=some (.int k n):=by
 subst e;cases h with|some h=>cases h;rfl
theorem tm {x x':Option Value} (h:aT (ak m) x x') (e:x=none):x'=none:=by subst e;cases h;rfl
theorem ve {l c lo hi:Nat} {x y z:Option Value} {mx:Nat} (hx:(x=none∧lo=0)∨∃k,x=some (.int k (Int.ofNat lo))) (hy:(y=none∧hi=l)∨∃k,y=some (.int k (Int.ofNat hi)))
 (hz:(z=none∧mx=c)∨(y.isSome=true∧mx≤c∧∃k,z=some (.int k (Int.ofNat mx)))) (h1:lo≤hi) (h2:hi≤mx):(Instr.sliceBounds true l c x y z).run P W=.ok (lo,hi,mx) W:=by
 rcases hx with⟨rfl,rfl⟩|⟨k1,rfl⟩<;>rcases hy with⟨rfl,rfl⟩|⟨k2,rfl⟩<;>rcases hz with⟨rfl,rfl⟩|⟨h3,h4,k3,rfl⟩<;>
  first
  |(simp at h3;done)
  |(simp[Instr.sliceBounds,Sem.run_bind,qz,h1,h2,h4];done)
  |(simp[Instr.sliceBounds,Sem.run_bind,qz,h1,h2];done)
theorem zaO {t:TypeId} {b b' o l c e:Nat} (hb:m.r b b') (h1:l≤c) (h2:1≤e) (h3:o+c*e≤m.gr b) {lo hi mx lo' hi' mx':Option Value} (hl:aT (ak m) lo lo') (hu:aT (ak m) hi hi') (hm:aT (ak m) mx mx')
 {v:Value} (hv:vU P t ⟨b,o,none⟩ l (BIG+e) lo hi mx=some v):∃v',(Instr.sliceAt t (.slice (some ⟨b',o,none⟩) l c) lo' hi' mx').run P W=.ok v' W∧ak m v v':=by
 unfold vU i7 at hv
 cases hd:P.underlying t with
 |none=>simp[hd] at hv
 |some d=>
 cases d with
 |slice elem=>
  cases hi2:P.info? elem with
  |none=>simp[hd,hi2] at hv
  |some i=>
   cases hlo:ix? lo 0 with
   |none=>simp[hd,hi2,hlo] at hv
   |some lo0=>
   cases hhi:ix? hi l with
   |none=>simp[hd,hi2,hlo,hhi] at hv
   |some hi0=>
   simp only[hd,hi2,hlo,hhi,Option.map_some] at hv
   split at hv
   ·simp at hv
   ·rename_i hc
    have hc:e=i.size∧lo0≤hi0∧hi0≤l∧(lo0=0∨lo0<l):=by
     simp only[Bool.or_eq_true,not_or,Bool.not_eq_true',Bool.not_eq_false,beq_iff_eq,decide_eq_true_eq,decide_eq_false_iff_not] at hc
     obtain⟨⟨⟨p1,p2⟩,p3⟩,p4⟩:=hc
     refine⟨by simpa using p1,by simpa using p2,by simpa using p3,?_⟩
     simpa using p4
    obtain⟨rfl,hlu,hul,hz⟩:=hc
    have hadd:∀c2,(lo0=0∨lo0<c2)→(if c2=lo0 then(some ⟨b',o,none⟩:Option Addr) else(some ⟨b',o,none⟩:Option Addr).map (·.add (lo0*i.size)))=some ⟨b',o+lo0*i.size,none⟩:=by
     intro c2 h0
     split
     ·have:lo0=0:=by omega
      subst this;simp
     ·simp only[Option.map_some,Option.some.injEq,Addr.add]
      split
      ·rename_i h;simp[h]
      ·rfl
    have hadd2:(Addr.add ⟨b,o,none⟩ (lo0*i.size))=⟨b,o+lo0*i.size,none⟩:=by
     unfold Addr.add;split
     ·rename_i h;simp[h]
     ·rfl
    rw[hadd2] at hv
    have hmul:∀c2,lo0≤c2→lo0*i.size+(c2-lo0)*i.size=c2*i.size:=by intro c2 hc2;rw[←Nat.add_mul];congr 1;omega
    have xl:(lo'=none∧lo0=0)∨∃k,lo'=some (.int k (Int.ofNat lo0)):=by
     rcases wU hlo with⟨e1,e2⟩|⟨k,e1⟩
     ·exact .inl ⟨tm hl e1,e2⟩
     ·exact .inr ⟨k,wS hl e1⟩
    have xh:(hi'=none∧hi0=l)∨∃k,hi'=some (.int k (Int.ofNat hi0)):=by
     rcases wU hhi with⟨e1,e2⟩|⟨k,e1⟩
     ·exact .inl ⟨tm hu e1,e2⟩
     ·exact .inr ⟨k,wS hu e1⟩
    have hsz:∀w:World,(sizeOf elem).run P w=.ok i.size w:=fun w=>by simp[sizeOf,typeInfo,hi2]
    have run:∀mx0,((mx'=none∧mx0=c)∨(hi'.isSome=true∧mx0≤c∧∃k,mx'=some (.int k (Int.ofNat mx0))))→hi0≤mx0→(lo0=0∨lo0<mx0)→
     (Instr.sliceAt t (.slice (some ⟨b',o,none⟩) l c) lo' hi' mx').run P W=.ok (.slice (some ⟨b',o+lo0*i.size,none⟩) (hi0-lo0) (mx0-lo0)) W:=by
     intro mx0 hz0 hle h0
     have hr:=ve (P:=P) (W:=W) xl xh hz0 hlu hle
     have:=hadd mx0 h0
     unfold Instr.sliceAt Instr.slice
     simp only[Sem.run_bind,run_underlying hd,Result.andThen_ok,hr,hsz,this,Sem.run_pure]
    cases hm with
    |none=>
     simp only[Option.some.injEq] at hv
     subst hv
     exact⟨_,run c (.inl ⟨rfl,rfl⟩) (by omega) (by omega),.sliceU _ _ _ hb (by omega) h2 (by have:=hmul c (by omega);omega)⟩
    |some hm=>
     cases hm with
     |int k n=>
      cases n with
      |negSucc n=>simp at hv
      |ofNat n=>
       simp only at hv
       split at hv
       ·rename_i hc
        simp only[Bool.and_eq_true,decide_eq_true_eq,Bool.or_eq_true,beq_iff_eq] at hc
        obtain⟨⟨⟨⟨p1,p2⟩,p3⟩,p4⟩,p5⟩:=hc
        simp only[Option.some.injEq] at hv
        subst hv
        have his:hi'.isSome=true:=by cases hu<;>simp_all
        exact⟨_,run n (.inr ⟨his,by omega,k,rfl⟩) p3 p5,.slice _ _ (by omega) (.some (.mk hb))⟩
       ·simp at hv
     |_=>simp at hv
 |_=>simp[hd] at hv
end Go.Proofs.YtlbipokkdiiaiaaGreatDoor.Exec
namespace Go.Proofs.YtlbipokkdiiaiaaGreatDoor.Exec
variable {P:Program} {m:Bij} {h:H} {W:World}
theorem bw.of_heap {W':World} (hw:bw m h W) (e:W'.heap=W.heap):bw m h W':=
 ⟨fun n o hg=>by obtain⟨b,o',h1,h2,h3⟩:=hw.obj n o hg;exact⟨b,o',h1,by rw[e];exact h2,h3⟩,hw.fresh,fun n b k=>by rw[e];exact hw.ran n b k,hw.inj,hw.room,hw.le⟩
theorem Snd.of_heap {m':Bij} {h':H} {W1 W2 V:World} (k:Snd m h W m' h' W1) (e:W2.heap=W1.heap) (ev:V.heap=W.heap) (er:W2.os=V.os∧W2.tape=V.tape∧W2.output=V.output):Snd m h V m' h' W2:=
 ⟨k.le,k.rel.of_heap e,by rw[e,ev];exact k.size,fun b hb hn=>by rw[e,ev];exact k.block b (by rw[←ev];exact hb) hn,k.next,k.lim,k.dead,fun n b hr=>by rw[ev];exact k.new n b hr,er⟩
theorem zbD {α:Type} (a:Array α) (x y:α):(a.push x).setIfInBounds a.size y=a.push y:=by
 apply Array.ext_getElem?
 intro i
 by_cases hi:i=a.size
 ·subst hi;simp
 ·rw[Array.getElem?_setIfInBounds_ne (fun e=>hi e.symm),Array.getElem?_push,Array.getElem?_push,if_neg hi,if_neg hi]
theorem zaB {src dst e:TypeId} (h1:P.underlying src=some .string) (h2:P.underlying dst=some (.slice e)) (s:ByteArray) (hw:bw m h W) {v:Value} {h':H} (he:v6 P e s h=some (v,h')):
 ∃m' v' W',(convert src dst (.string s)).run P W=.ok v' W'∧ak m' v v'∧Snd m h W m' h' W':=by
 unfold v6 at he
 split at he
 ·rename_i ei hu hi
  split at he
  ·rename_i hc
   simp only[Bool.and_eq_true,beq_iff_eq,decide_eq_true_eq] at hc
   obtain⟨⟨hs1,hlim⟩,hsz⟩:=hc
   simp only[Option.some.injEq,Prod.mk.injEq] at he
   obtain⟨rfl,rfl⟩:=he
   let q:Question:=.appendCap s.size 0 e
   let cap:=q.cut (W.tape W.drawn q)
   have hcap:s.size≤cap∧cap<2^63:=by
    show s.size≤s.size+W.tape W.drawn q%(2^63-s.size)∧s.size+W.tape W.drawn q%(2^63-s.size)<2^63
    have:=Nat.mod_lt (W.tape W.drawn q) (show 0<2^63-s.size by omega)
    omega
   let elems:Array Value:=s.data.map fun b=>.int .u8 b.toNat
   let row:=elems++Array.replicate (cap-s.size) (.int .u8 0)
   have hds:s.data.size=s.size:=rfl
   have hrow:row.size=cap:=by simp[row,elems];omega
   have hrun:(convert src dst (.string s)).run P W=.ok (.slice (some ⟨W.heap.size,0,none⟩) s.size cap) (({W with drawn:=W.drawn+1,heap:=W.heap.push (.cells row e (0,0))}:World).freeze ⟨W.heap.size,row.size,none⟩ 1):=by
    simp only[convert,Sem.run_bind,run_underlying h1,run_underlying h2,run_underlying hu,Result.andThen_ok,Conv.stringToBytes]
    simp[choose,Sem.run,Question.forced,newRow,newObj,markStringish,shape,freeze,World.shape?,Sem.run_bind]
    simp only[World.alloc,World.drew,Array.getElem_push_eq,Sem.run,Result.andThen_ok]
    rfl
   obtain⟨m',p1,p2,p3⟩:=Snd.push hw hlim cap (o:=⟨.cells elems e (BIG,BIG+1),true⟩) (o':=.cells row e (cap,cap+1)) (fun m' hm hg=>by
    refine .grow e ⟨fun h=>absurd h (by simp),fun _=>⟨.inr (by omega),?_⟩⟩ ⟨by simp[row],fun i a b=>?_⟩ (by rw[hg];exact hrow) (by rw[hrow];simp only[BIG];omega)
    ·simp only[BIG];omega
    ·have:row[i]=elems[i]:=by simp[row,a]
     rw[this];simp only[elems,Array.getElem_map];exact .int _ _)
   refine⟨m',_,_,hrun,.sliceU s.size cap 1 p1 hcap.1 (Nat.le_refl _) (by rw[p2];omega),p3.of_heap ?_ rfl ?_⟩
   ·rw[mj (c:=row) (t:=e) (lo:=0) (hi:=0) (by simp) none (by simp)]
    simp only[beq_self_eq_true,if_true,zbD,hrow]
   ·simp[World.freeze]
  ·simp at he
 ·simp at he
theorem xE (a:Addr) (j:Nat):(a.add 1).add j=a.add (j+1):=by
 unfold Addr.add
 by_cases hj:j=0
 ·subst hj;simp
 ·simp[hj];omega
def vu (ns:List Int) (s:ByteArray):ByteArray:=ns.foldl (fun r n=>r.push (UInt8.ofNat n.toNat)) s
theorem jp {α:Type} (a:Addr) (k:Value→Sem α):aB P (load a >>= k) h=match h.cell? a with|some v=>aB P (k v) h|none=>none:=by
 show aB P (Sem.load .plain a fun v=>(Sem.pure v).bind k) h=_
 simp only[aB]
 cases h.cell? a<;>rfl
theorem fK:∀(n:Nat) (a:Addr) (acc:ByteArray) {s:ByteArray} {h1:H},aB P (loadBytes a acc n) h=some (s,h1)→
 h1=h∧∃ns:List Int,ns.length=n∧(∀(j:Nat) x,ns[j]?=some x→h.cell? (a.add j)=some (.int .u8 x))∧s=vu ns acc
 |0,a,acc,s,h1,he=>by
  simp only[loadBytes] at he
  obtain⟨rfl,rfl⟩:acc=s∧h=h1:=by simpa[aB,Pure.pure] using he
  exact⟨rfl,[],rfl,fun j x hx=>by simp at hx,rfl⟩
 |n+1,a,acc,s,h1,he=>by
  unfold loadBytes at he
  rw[jp] at he
  cases hc:h.cell? a with
  |none=>simp[hc] at he
  |some v=>
   rw[hc] at he
   dsimp only at he
   have hv:∃b,v=.int .u8 b:=by
    cases v<;>try(simp[stuck,aB] at he;done)
    rename_i k b
    cases k<;>try(simp[stuck,aB] at he;done)
    exact⟨b,rfl⟩
   obtain⟨b,rfl⟩:=hv
   obtain⟨h2,ns,h3,h4,h5⟩:=fK n (a.add 1) _ he
   refine⟨h2,b::ns,by simp[h3],fun j x hx=>?_,by rw[h5];rfl⟩
   cases j with
   |zero=>simp only[List.getElem?_cons_zero,Option.some.injEq] at hx;subst hx;simpa[Addr.add] using hc
   |succ j=>rw[←xE];exact h4 j x (by simpa using hx)
theorem mH:∀(ns:List Int) (a:Addr) (acc:ByteArray),(∀(j:Nat) x,ns[j]?=some x→W.cell? (a.add j)=some (.int .u8 x))→(loadBytes a acc ns.length).run P W=.ok (vu ns acc) W
 |[],a,acc,_=>by simp[loadBytes,vu]
 |x::ns,a,acc,hc=>by
  have h0:W.cell? a=some (.int .u8 x):=by simpa[Addr.add] using hc 0 x rfl
  have ih:=mH ns (a.add 1) (acc.push x.toNat.toUInt8) (fun j y hy=>by rw[xE];exact hc (j+1) y (by simpa using hy))
  simp only[List.length_cons,loadBytes,Sem.run_bind,run_load,h0,Result.andThen]
  rw[ih];rfl
theorem oA (hw:bw m h W) {a a':Addr} (ha:dB m a a') {ns:List Int} (hc:∀(j:Nat) x,ns[j]?=some x→h.cell? (a.add j)=some (.int .u8 x)):
 ∀(j:Nat) x,ns[j]?=some x→W.cell? (a'.add j)=some (.int .u8 x):=fun j x hx=>by
 obtain⟨v',h1,h2⟩:=hw.cell (ha.add j) (hc j x hx)
 cases h2;exact h1
theorem qR {src dst e:TypeId} (h1:P.underlying src=some (.slice e)) (h2:P.underlying dst=some .string) (h3:P.underlying e=some (.int .u8)) {a a':Addr} (ha:dB m a a') (n c:Nat) (hw:bw m h W)
 {s:ByteArray} {h':H} (he:aB P (loadBytes a .empty n) h=some (s,h')):(convert src dst (.slice (some a') n c)).run P W=.ok (.string s) W:=by
 obtain⟨_,ns,rfl,k1,rfl⟩:=fK n a _ he
 have k2:=oA hw ha k1
 rw[run_convert_bytes_string W src dst e _ _ _ h1 h3 h2]
 refine run_bytesToString W a' _ c ns ?_
 have:=run_loadCells_list (P:=P) W a' (ns.map (Value.int .u8)) (fun j v hv=>by
  rw[List.getElem?_map] at hv
  cases hx:ns[j]? with
  |none=>rw[hx] at hv;simp at hv
  |some x=>rw[hx] at hv;simp only[Option.map_some,Option.some.injEq] at hv;subst hv;exact k2 j x hx)
 simpa using this
theorem mT (ts:Array TypeId) (ty:TypeId) {a a':Array Value} (ha:am m a a') (hw:bw m h W) {v:Value} {h':H} (he:gh P ts a h=some (v,h')):
 ∃m' v' W',(Builtin.unsafeString_ ts ty a').run P W=.ok v' W'∧ak m' v v'∧Snd m h W m' h' W':=by
 unfold gh at he
 split at he
 ·rename_i pT p k n hts hargs
  have hl:=ha.toList
  rw[hargs] at hl
  have hargs':∃p',a'=#[.pointer p',.int k (Int.ofNat n)]∧aT (dB m) p p':=by
   generalize hz:a'.toList=l' at hl
   cases hl with
   |cons q1 q2=>cases q2 with
    |cons q3 q4=>cases q4 with
     |nil=>
      cases q1 with
      |pointer hp=>cases q3;exact⟨_,by rw[←Array.toArray_toList (xs:=a'),hz],hp⟩
  obtain⟨p',rfl,hp⟩:=hargs'
  split at he
  ·rename_i hn
   subst hn
   simp only[Option.some.injEq,Prod.mk.injEq] at he
   obtain⟨rfl,rfl⟩:=he
   refine⟨m,.string .empty,W,?_,.string _,Snd.refl hw⟩
   have hd:∀p:Option Addr,Builtin.unsafeString_ ts ty #[.pointer p,.int k (Int.ofNat 0)]=(do
    let n ←asInt (.int k (Int.ofNat 0))
    let some pt:=ts[0]?|stuck "unsafe.String: no argument types"
    if n<0 then runtimePanic (.error "unsafe.String: len out of range")
    if n>IntKind.i64.max then unsupported (.unsafePointer "String: a length above the largest int")
    match p with
    |none=>
     if n=0 then pure (.string .empty)
     else runtimePanic (.error "unsafe.String: ptr is nil and len is not zero")
    |some a=>
     if n=0 then pure (.string .empty)
     else if ←variablesAt a (←elemOf pt) n.toNat then do
      let s ←loadBytes a .empty n.toNat
      freeze a n.toNat
      pure (.string s)
     else unsupported (.unsafePointer "String: not so many bytes at ptr")):=fun p=>rfl
   rw[hd]
   cases p'<;>simp[hts,asInt,asIntOf]
  ·rename_i hn
   split at he
   ·rename_i a e hpt
    cases hp with
    |some hp=>
    split at he
    ·rename_i hc
     simp only[Bool.and_eq_true,decide_eq_true_eq,beq_iff_eq,Option.isNone_iff_eq_none] at hc
     obtain⟨⟨c1,c4⟩,c5⟩:=hc
     split at he
     ·rename_i c t lo hi g hg
      split at he
      ·rename_i hc2
       simp only[Bool.and_eq_true,decide_eq_true_eq,beq_iff_eq] at hc2
       obtain⟨⟨rfl,c6⟩,c7⟩:=hc2
       split at he
       ·rename_i s h1 hs
        simp only[Option.some.injEq,Prod.mk.injEq] at he
        obtain⟨rfl,rfl⟩:=he
        obtain⟨_,ns,bI,k1,rfl⟩:=fK n a _ hs
        have k2:=oA hw hp k1
        have k3:=mH (P:=P) ns _ .empty k2
        rw[bI] at k3
        cases hp with
        |@mk b b' o sp hb=>
         simp only at hg c5 c6 c7
         subst c5;subst c6
         obtain⟨o',q1,q2⟩:=hw.at_ hb hg
         obtain⟨c',⟨lo',hi'⟩,rfl,q3,q4,q5,q6⟩:=q2.row
         have hp:=Snd.put hw hg hb (zfB (n:=b) (t:=t) (g:=g) q3 (q4.freeze (i:=0) hn) q5 q6)
         refine⟨m,_,_,?_,.string _,hp⟩
         have hlies:liesAt P P.depth t (c'.size/P.cellsOf t) 0 t n=true:=by
          rw[c4,Nat.div_one]
          exact Lib.liesAt_bytes c4 _ _ (by have:=q3.size;omega)
         have hfz:=mj (i:=0) (n:=n) q1 none hn
         have hsh:W.shape? b'=some (t,c'.size):=by simp[World.shape?,q1]
         have hd:Builtin.unsafeString_ ts ty #[.pointer (some ⟨b',0,none⟩),.int k (Int.ofNat n)]=(do
          let n ←asInt (.int k (Int.ofNat n))
          let some pt:=ts[0]?|stuck "unsafe.String: no argument types"
          if n<0 then runtimePanic (.error "unsafe.String: len out of range")
          if n>IntKind.i64.max then unsupported (.unsafePointer "String: a length above the largest int")
          match(some ⟨b',0,none⟩:Option Addr) with
          |none=>
           if n=0 then pure (.string .empty)
           else runtimePanic (.error "unsafe.String: ptr is nil and len is not zero")
          |some a=>
           if n=0 then pure (.string .empty)
           else if ←variablesAt a (←elemOf pt) n.toNat then do
            let s ←loadBytes a .empty n.toNat
            freeze a n.toNat
            pure (.string s)
           else unsupported (.unsafePointer "String: not so many bytes at ptr")):=rfl
         have hmax':¬(9223372036854775807<(n:Int)):=by omega
         have hneg:¬((n:Int)<0):=by omega
         rw[hd]
         simp[hts,asInt,asIntOf,hmax',hneg,hn,variablesAt,hsh,hlies,elemOf,run_underlying hpt,k3,hfz]
       ·simp at he
      ·simp at he
     ·simp at he
    ·simp at he
   ·simp at he
 ·simp at he
end Go.Proofs.YtlbipokkdiiaiaaGreatDoor.Exec
