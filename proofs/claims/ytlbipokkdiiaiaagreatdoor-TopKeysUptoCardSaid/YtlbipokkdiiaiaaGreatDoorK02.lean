/- Lemmas for TopKeysUpto: ExecDef, ExecRel, ExecSound, ExecSound2. -/
import Derived.Calls
namespace Go.Proofs.YtlbipokkdiiaiaaGreatDoor.Exec
noncomputable section
inductive Tr (α:Type) where
 |leaf
 |node (l:Tr α) (o:Option α) (r:Tr α)
def Tr.get {α:Type} (_f:Nat) (t:Tr α):Nat→Option α:=
 Tr.rec (motive:=fun _=>Nat→Option α) (fun _=>none) (fun _ o _ gl gr n=>Nat.rec (motive:=fun _=>Option α) o (fun n _=>bif Nat.beq (n%2) 0 then gl (n/2) else gr (n/2)) n) t
def Tr.path {α:Type} (x:Option α) (f:Nat):Nat→Tr α:=
 Nat.rec (motive:=fun _=>Nat→Tr α) (fun _=>.leaf) (fun _ ih n=>Nat.rec (motive:=fun _=>Tr α) (.node .leaf x .leaf) (fun n _=>bif Nat.beq (n%2) 0 then .node (ih (n/2)) none .leaf else .node .leaf none (ih (n/2))) n) f
def Tr.set {α:Type} (f:Nat) (t:Tr α) (n:Nat) (x:Option α):Tr α:=
 Tr.rec (motive:=fun _=>Nat→Tr α) (fun n=>Tr.path x f n) (fun l o r sl sr n=>Nat.rec (motive:=fun _=>Tr α) (.node l x r) (fun n _=>bif Nat.beq (n%2) 0 then .node (sl (n/2)) o r else .node l o (sr (n/2))) n) t n
structure bZ where
 o:Obj
 grow:Bool
structure H where
 t:Tr bZ
 next:Nat
 lim:Nat
def D:Nat:=24
def BIG:Nat:=1180591620717411303424
def H.get (h:H) (n:Nat):Option bZ:=if n<h.next then Tr.get D h.t n else none
def H.put (h:H) (n:Nat) (o:bZ):H:={h with t:=Tr.set D h.t n (some o)}
def H.kill (h:H) (n:Nat):H:={h with t:=Tr.set D h.t n none}
def H.push (h:H) (o:bZ):H:={t:=Tr.set D h.t h.next (some o),next:=h.next+1,lim:=h.lim}
def H.cell? (h:H) (a:Addr):Option Value:=
 match h.get a.block with
 |some ⟨.cells c _ _,_⟩=>if a.spot.isSome then none else c[a.off]?
 |_=>none
def H.open? (h:H) (a:Addr) (k:Nat):Option (Array Value×TypeId×(Nat×Nat)×Bool):=
 match h.get a.block with
 |some ⟨.cells c t (lo,hi),g⟩=>
  if a.spot.isSome||!(decide (a.off+k≤c.size))||(decide (lo<a.off+k)&&decide (a.off<hi)) then none
  else some (c,t,(lo,hi),g)
 |_=>none
def aB {α:Type} (P:Program):Sem α→H→Option (α×H)
 |.pure a,h=>some (a,h)
 |.load _ a k,h=>match h.cell? a with
  |some v=>aB P (k v) h
  |none=>none
 |.store _ a v k,h=>match v with
  |.agg _|.tuple _=>none
  |v=>match h.open? a 1 with
   |some (c,t,fr,g)=>aB P k (h.put a.block ⟨.cells (c.setIfInBounds a.off v) t fr,g⟩)
   |_=>none
 |.new o k,h=>if h.next<h.lim then aB P (k h.next) (h.push ⟨o,false⟩) else none
 |.shape r k,h=>match h.get r with
  |some ⟨.cells c t _,false⟩=>aB P (k (some (t,c.size))) h
  |some ⟨.map ..,_⟩=>aB P (k none) h
  |_=>none
 |.freeze a n k,h=>match h.get a.block with
  |some ⟨.cells c t (lo,hi),g⟩=>aB P k (if n=0 then h else h.put a.block ⟨.cells c t (if lo==hi then(a.off,a.off+n) else(min lo a.off,max hi (a.off+n))),g⟩)
  |_=>none
 |.frozen a k,h=>match h.get a.block with
  |some ⟨.cells c _ (lo,hi),_⟩=>if !(decide (a.off<c.size))||(decide (lo<a.off+1)&&decide (a.off<hi)) then none else aB P (k false) h
  |_=>none
 |.getObj r k,h=>match h.get r with
  |some ⟨.cells ..,_⟩=>none
  |some ⟨o,_⟩=>aB P (k o) h
  |none=>none
 |.setObj r o k,h=>match h.get r,o with
  |some ⟨.cells ..,_⟩,_=>none
  |some _,.cells .. =>none
  |some _,o=>aB P k (h.put r ⟨o,false⟩)
  |none,_=>none
 |.choose q k,h=>if q.forced then aB P (k 0) h else none
 |.program k,h=>aB P (k P) h
 |.mark _ k,h=>aB P k h
 |_,_=>none
def nm:Value→Bool
 |.agg _|.tuple _=>false
 |_=>true
def zd1 (P:Program) (xT:TypeId) (size:Nat) (x:Value) (h:H):Option (Nat×List Value):=
 match x,P.underlying xT with
 |.slice none 0 _,some (.slice _)=>some (0,[])
 |.slice (some a) n _,some (.slice _)=>match aB P (loadCells a (n*size)) h with
  |some (c,_)=>if c.toList.all nm then some (n,c.toList) else none
  |none=>none
 |.string s,some .string=>if size==1 then some (s.size,s.data.toList.map fun b=>.int .u8 b.toNat) else none
 |_,_=>none
def zdY (P:Program) (base:Option Addr) (sLen size:Nat) (h:H):Option (List Value):=
 match base with
 |none=>if sLen=0 then some [] else none
 |some a=>match aB P (loadCells a (sLen*size)) h with
  |some (c,_)=>some c.toList
  |none=>none
def cj (row:Array Value) (off:Nat):List Value→Array Value
 |[]=>row
 |v::r=>cj (row.setIfInBounds off v) (off+1) r
def i7 (P:Program) (t:TypeId):Option (TypeId×TypeInfo):=
 match P.underlying t with
 |some (.slice e)=>(P.info? e).map fun i=>(e,i)
 |_=>none
def za3 (ei:TypeInfo) (need:Nat):Bool:=decide (1≤ei.size)&&decide (ei.size≤64)&&decide ((need+1200)*ei.bytes*8≤1099511627776)&&decide (need<1099511627776)
def mV (P:Program) (argTypes:Array TypeId) (args:Array Value) (h:H):Option (Value×H):=
 match argTypes.toList,args.toList with
 |[sT,xT],[.slice base sLen sCap,x]=>
  match i7 P sT with
  |some (elem,ei)=>
   match ei.zero,zd1 P xT ei.size x h with
   |some z,some (n,new)=>
    if !(z.cells.size==ei.size)||!za3 ei (sLen+n) then none
    else if sCap<BIG then
     if sLen+n≤sCap then
      match base with
      |none=>none
      |some a=>
       if !a.spot.isNone then none
       else if new.isEmpty then some (.slice base (sLen+n) sCap,h)
       else match h.open? (a.add (sLen*ei.size)) new.length with
       |some (c,t,fr,g)=>some (.slice base (sLen+n) sCap,h.put a.block ⟨.cells (cj c (a.off+sLen*ei.size) new) t fr,g⟩)
       |none=>none
     else match zdY P base sLen ei.size h with
      |some old=>if h.next<h.lim then some (.slice (some ⟨h.next,0,none⟩) (sLen+n) (BIG+ei.size),h.push ⟨.cells (old++new).toArray elem,true⟩) else none
      |none=>none
    else match base with
     |some ⟨b,0,none⟩=>
      if !(sCap==BIG+ei.size) then none
      else if new.isEmpty then(if n=0 then some (.slice base sLen sCap,h) else none)
      else match h.get b with
      |some ⟨.cells c t fr,true⟩=>
       if decide (sLen*ei.size≤c.size)&&t==elem&&(fr.1==fr.2||decide (fr.2≤sLen*ei.size)||decide (BIG≤fr.1))&&decide (h.next<h.lim) then
        some (.slice (some ⟨h.next,0,none⟩) (sLen+n) sCap,(h.kill b).push ⟨.cells (c.toList.take (sLen*ei.size)++new).toArray t fr,true⟩)
       else none
      |_=>none
     |_=>none
   |_,_=>none
  |none=>none
 |_,_=>none
def ix? (x:Option Value) (d:Nat):Option Nat:=
 match x with
 |none=>some d
 |some (.int _ (.ofNat n))=>some n
 |_=>none
def vU (P:Program) (t:TypeId) (a:Addr) (len cap:Nat) (lo hi mx:Option Value):Option Value:=
 match i7 P t,ix? lo 0,ix? hi len with
 |some (_,ei),some l,some u=>
  if !(cap==BIG+ei.size)||!(decide (l≤u))||!(decide (u≤len))||!(l==0||decide (l<len)) then none else
  match mx with
  |none=>some (.slice (some (a.add (l*ei.size))) (u-l) cap)
  |some (.int _ (.ofNat m))=>if hi.isSome&&decide (m<BIG)&&decide (u≤m)&&decide (m≤len)&&(l==0||decide (l<m)) then some (.slice (some (a.add (l*ei.size))) (u-l) (m-l)) else none
  |_=>none
 |_,_,_=>none
def v6 (P:Program) (elem:TypeId) (s:ByteArray) (h:H):Option (Value×H):=
 match P.underlying elem,P.info? elem with
 |some (.int .u8),some ei=>
  if ei.size==1&&h.next<h.lim&&s.size<1099511627776 then
   some (.slice (some ⟨h.next,0,none⟩) s.size (BIG+1),h.push ⟨.cells (s.data.map fun b=>.int .u8 b.toNat) elem (BIG,BIG+1),true⟩)
  else none
 |_,_=>none
def gh (P:Program) (argTypes:Array TypeId) (args:Array Value) (h:H):Option (Value×H):=
 match argTypes[0]?,args.toList with
 |some pT,[.pointer p,.int _ (.ofNat n)]=>
  if n=0 then some (.string .empty,h) else
  match p,P.underlying pT with
  |some a,some (.pointer e)=>
   if n<1099511627776&&(P.cellsOf e==1)&&a.spot.isNone then
    match h.get a.block with
    |some ⟨.cells c t (lo,hi),g⟩=>
     if t==e&&a.off==0&&decide (a.off+n≤c.size) then
      match aB P (loadBytes a .empty n) h with
      |some (s,_)=>some (.string s,h.put a.block ⟨.cells c t (if lo==hi then(a.off,a.off+n) else(min lo a.off,max hi (a.off+n))),g⟩)
      |none=>none
     else none
    |_=>none
   else none
  |_,_=>none
 |_,_=>none
def ke (args:Array Value):Option Value:=
 match args.toList with
 |[.slice none _ _]=>some (.pointer none)
 |[.slice (some a) l c]=>if(decide (c<BIG)&&decide (0<c))||(decide (BIG≤c)&&decide (0<l)) then some (.pointer (some a)) else none
 |_=>none
def m8 (P:Program) (src dst:TypeDesc) (x:Value) (h:H):Option Value:=
 match x with
 |.pointer (some a)=>
  match h.get a.block with
  |some ⟨.cells c e _,false⟩=>
   if a.spot.isNone&&decide (a.off<c.size) then
    match src,dst with
    |.pointer t,.unsafePointer=>if(P.info? t).any fun i=>i.size !=0 then some x else none
    |.unsafePointer,.pointer u=>if(P.info? u).isSome&&liesAt P P.depth e (c.size/P.cellsOf e) a.off u 1 then some x else none
    |_,_=>none
   else none
  |_=>none
 |_=>none
def m9 (P:Program) (fn:Func) (args:Array Value) (h:H):Option (Value×H):=
 if fn.origin== "" then
  match args.toList with
  |[x]=>if fn.name== "internal/abi.NoEscape" then some (x,h) else none
  |[.string _,.int _ _]=>if fn.name== "internal/bytealg.IndexByteString" then aB P (Extern.BytealgIndexByte.indexByte args) h
   else if fn.name== "internal/bytealg.CountString" then aB P (Extern.BytealgCount.count args) h else none
  |[.string _,.string _]=>if fn.name== "internal/bytealg.abigen_runtime_cmpstring" then aB P (Extern.BytealgCompare.compare args) h else none
  |_=>none
 else none
def bU:List Value→List Value→Option Bool
 |[],[]=>some true
 |.int k a::x,.int j b::y=>if k=j then(bU x y).map fun r=>a==b&&r else none
 |_,_=>none
def dF (P:Program) (t:TypeId) (c:Array Value) (off:Nat):Option Value:=
 match P.underlying t,P.info? t with
 |some (.struct _),some i|some (.array _ _),some i=>some (.agg (c.extract off (off+i.size)))
 |some _,some _=>c[off]?
 |_,_=>none
def cN (P:Program) (eq:TypeId→Value→Value→Option Bool) (c d:Array Value):List Field→Option Bool
 |[]=>some true
 |f::r=>if f.name= "_" then cN P eq c d r else
  match dF P f.type c f.offset,dF P f.type d f.offset with
  |some x,some y=>match eq f.type x y with
   |some true=>cN P eq c d r
   |some false=>some false
   |none=>none
  |_,_=>none
def bQ (P:Program):Nat→TypeId→Value→Value→Option Bool
 |0,_,_,_=>none
 |d+1,t,x,y=>match P.underlying t,x,y with
  |some (.int _),.int k a,.int j b=>if k=j then some (a==b) else none
  |some .string,.string a,.string b=>some (a==b)
  |some .bool,.bool a,.bool b=>some (a==b)
  |some (.array n e),.agg c,.agg d=>match P.underlying e,P.info? e with
   |some (.int _),some ei=>if ei.size==1&&c.size==n&&d.size==n then bU c.toList d.toList else none
   |_,_=>none
  |some (.struct fs),.agg c,.agg c'=>if P.stoodInHeld t then none else cN P (bQ P d) c c' fs.toList
  |_,_,_=>none
def o6 (P:Program) (t:TypeId) (k:Value):Bool:=
 match P.underlying t,k with
 |some (.int _),.int .. |some .string,.string _=>true
 |some (.array n e),.agg c=>match P.underlying e,P.info? e with
  |some (.int _),some ei=>ei.size==1&&c.size==n
  |_,_=>false
 |_,_=>false
def gb (P:Program) (key:TypeId) (k:Value):List MapEntry→Nat→Option (Option (Nat×Value))
 |[],_=>some none
 |e::es,i=>match bQ P 4 key k e.key with
  |some true=>some (some (i,e.val))
  |some false=>gb P key k es (i+1)
  |none=>none
def r9 (P:Program) (t:TypeId) (x k:Value) (ok:Bool) (h:H):Option Value:=
 match P.underlying t with
 |some (.map key elem)=>
  match(match x with
   |.map none=>some #[]
   |.map (some r)=>match h.get r with
    |some ⟨.map es _,_⟩=>some es
    |_=>none
   |_=>none:Option (Array MapEntry)) with
  |some es=>if o6 P key k then
   match gb P key k es.toList 0 with
   |some (some (_,v))=>some (if ok then .tuple #[v,.bool true] else v)
   |some none=>match(P.info? elem).bind (·.zero) with
    |some z=>some (if ok then .tuple #[z,.bool false] else z)
    |none=>none
   |none=>none
   else none
  |none=>none
 |_=>none
def nA (P:Program) (t:TypeId) (x k v:Value) (h:H):Option H:=
 match P.underlying t,x with
 |some (.map key _),.map (some r)=>match h.get r with
  |some ⟨.map es clock,_⟩=>if o6 P key k then
   match gb P key k es.toList 0 with
   |some (some (i,_))=>match es[i]? with
    |some e=>if Instr.sameBits 10000 e.key k then some (h.put r ⟨.map (es.modify i fun e=>{e with key:=k,val:=v}) clock,false⟩) else none
    |none=>none
   |some none=>some (h.put r ⟨.map (es.push {key:=k,val:=v,born:=clock}) (clock+1),false⟩)
   |none=>none
   else none
  |_=>none
 |_,_=>none
def r8 (P:Program) (s:TypeId) (f:Nat):Bool:=
 match P.underlying s with
 |some (.struct fields)=>match fields[f]? with
  |some f=>(P.info? f.type).any fun i=>i.size !=0
  |none=>false
 |_=>false
def dK (x y:Value):Bool:=
 match x,y with
 |.int ..,.int .. |.string _,.string _|.bool _,.bool _=>true
 |.pointer none,.pointer _|.pointer _,.pointer none=>true
 |.pointer (some a),.pointer (some b)=>a.block==b.block
 |.slice none _ _,.slice .. |.slice ..,.slice none _ _=>true
 |.map none,.map _|.map _,.map none=>true
 |.nilFunc,.nilFunc|.nilFunc,.func .. |.func ..,.nilFunc=>true
 |.nilIface,.iface .. |.iface ..,.nilIface|.nilIface,.nilIface=>true
 |_,_=>false
def y9 (P:Program) (t:TypeId) (x y:Value):Bool:=
 match x,y with
 |.pointer (some _),.pointer (some _)=>(match P.underlying t with
  |some (.pointer _)=>true
  |_=>false)
 |_,_=>true
def kO (b:BinOp) (x y:Value):Bool:=
 match x,y with
 |.int ..,.int .. |.string _,.string _=>true
 |_,_=>(match b with
  |.eql|.neq=>true
  |_=>false)
def oQ (it:Value) (h:H):Option (Value×H):=
 match it with
 |.pointer (some ⟨r,0,none⟩)=>match h.get r with
  |some ⟨.mapIter none _ _ _,_⟩=>some (.tuple #[.bool false],h)
  |some ⟨.mapIter (some mm) since seen last,_⟩=>match h.get mm with
   |some ⟨.map es clock,_⟩=>match es.toList with
    |[]=>some (.tuple #[.bool false],h)
    |[e]=>
     if seen.contains e.born then(if e.born<last then some (.tuple #[.bool false],h) else none)
     else if(seen.isEmpty||decide (e.born<last))&&decide (e.born<since) then some (.tuple #[.bool true,e.key,e.val],h.put r ⟨.mapIter (some mm) since (seen.push e.born) clock,false⟩)
     else none
    |_=>none
   |_=>none
  |_=>none
 |_=>none
def wB (it:Value) (h:H):Option Value:=
 match it with
 |.pointer (some ⟨r,0,none⟩)=>match h.get r with
  |some ⟨.mapIter (some mm) _ seen stepped,_⟩=>match seen.back?,h.get mm with
   |some stamp,some ⟨.map es clock,_⟩=>match es.toList with
    |[e]=>if clock==stepped&&e.born==stamp then some (.tuple #[e.key,e.val]) else none
    |_=>none
   |_,_=>none
  |_=>none
 |_=>none
def za7 (P:Program) (g:Value) (args:Array Value) (h:H):Option (Next×H):=
 match g with
 |.func (.func f) first captured=>match P.funcs[f]? with
  |some fn=>match fn.body with
   |some _=>some (.enter f ((first++args)++captured),h)
   |none=>(m9 P fn ((first++args)++captured) h).map fun(x,h)=>(.value x,h)
  |none=>none
 |.func (.yield l) first _=>match h.get l with
  |some ⟨.loop r,_⟩=>if(first++args).size=r.params.size then some (.round l 0 ((r.params.zip (first++args)).foldl (fun tmps (t,a)=>tmps.setIfInBounds t a) r.tmps) r.assign r.body,h) else none
  |_=>none
 |_=>none
def rC (P:Program) (r:Value) (name:String) (args:Array Value) (h:H):Option (Next×H):=
 match r with
 |.iface t v=>match P.info? t with
  |some i=>match i.methods.find? (·.name==name) with
   |some me=>match me.path.isEmpty,me.func,P.underlying t with
    |true,some (f,true),some (.pointer _)=>(match P.funcs[f]? with
     |some fn=>if fn.body.isSome then some (.enter f (#[v]++args),h) else none
     |none=>none)
    |_,_,_=>none
   |none=>none
  |none=>none
 |_=>none
def ny (P:Program) (e:TypeId):Bool:=
 match P.underlying e with
 |some (.int .u8)=>true
 |_=>false
def aop (P:Program) (ρ:Operand→Value) (o:Oper) (h:H):Option (Next×H):=
 let v (r:Option (Value×H)):Option (Next×H):=r.map fun(x,h)=>(.value x,h)
 let run:=aB P (execOp ρ o) h
 match o.op with
 |.call c=>match c.callee with
  |.builtin .append=>v (mV P c.argTypes (c.args.map ρ) h)
  |.builtin .unsafeString=>v (gh P c.argTypes (c.args.map ρ) h)
  |.builtin .unsafeSliceData=>v ((ke (c.args.map ρ)).map fun x=>(x,h))
  |.builtin .len=>run
  |.builtin .min=>match c.args.toList.map ρ with
   |[.int k x,.int _ y]=>some (.value (.int k (if y<x then y else x)),h)
   |_=>none
  |.builtin .max=>match c.args.toList.map ρ with
   |[.int k x,.int _ y]=>some (.value (.int k (if y>x then y else x)),h)
   |_=>none
  |.builtin _=>none
  |.value g=>za7 P (ρ g) (c.args.map ρ) h
  |.invoke r name=>rC P (ρ r) name (c.args.map ρ) h
 |.convert src dst x=>match P.underlying src,P.underlying dst,ρ x with
  |some _,some (.int k),.int _ n=>v (some (.int k (k.wrap n),h))
  |some _,some .string,.int _ n=>v (some (.string (Utf8.encode n),h))
  |some _,some .string,.string s=>v (some (.string s,h))
  |some .string,some (.slice e),.string s=>v (v6 P e s h)
  |some (.slice e),some .string,.slice none _ _=>if ny P e then v (some (.string .empty,h)) else none
  |some (.slice e),some .string,.slice (some a) n _=>if ny P e then
   match aB P (loadBytes a .empty n) h with
   |some (s,_)=>v (some (.string s,h))
   |none=>none
   else none
  |some .unsafePointer,some (.pointer u),y=>v ((m8 P .unsafePointer (.pointer u) y h).map fun x=>(x,h))
  |some (.pointer t),some .unsafePointer,y=>v ((m8 P (.pointer t) .unsafePointer y h).map fun x=>(x,h))
  |_,_,_=>none
 |.slice t x lo hi mx=>match ρ x with
  |.slice (some a) l c=>if c<BIG then run else v ((vU P t a l c (lo.map ρ) (hi.map ρ) (mx.map ρ)).map fun x=>(x,h))
  |.slice .. |.string _=>run
  |_=>none
 |.binOp b t x y _=>match b,ρ x,ρ y with
  |.eql,.agg c,.agg d=>if P.eqGuardType P.depth t then none else v ((bQ P 4 t (.agg c) (.agg d)).map fun r=>(.bool r,h))
  |.neq,.agg c,.agg d=>if P.eqGuardType P.depth t then none else v ((bQ P 4 t (.agg c) (.agg d)).map fun r=>(.bool (!r),h))
  |b,x,y=>if dK x y&&y9 P t x y&&kO b x y then run else none
 |.lookup t x k ok=>v ((r9 P t (ρ x) (ρ k) ok h).map fun x=>(x,h))
 |.mapUpdate t x k y=>(nA P t (ρ x) (ρ k) (ρ y) h).map fun h=>(.skip,h)
 |.nilCheck x=>match ρ x with
  |.pointer (some a)=>some (.value (.pointer (some a)),h)
  |.func (.func f) y z=>some (.value (.func (.func f) y z),h)
  |.iface t y=>some (.value (.iface t y),h)
  |.func (.yield l) y z=>some (.value (.func (.yield l) y z),h)
  |_=>none
 |.fieldAddr t _ f=>if r8 P t f then run else none
 |.unOp _ _ x=>match ρ x with
  |.int .. |.bool _=>run
  |_=>none
 |.buildSlice _ n _=>if n<BIG then run else none
 |.makeFunc (.func _) _ _=>run
 |.move _|.assign _|.pick .. |.alloc _|.box .. |.build .. |.load .. |.store .. |.makeMap .. |.makeSlice ..
 |.field .. |.indexAddr .. |.index .. |.range .. |.extract .. |.makeInterface .. =>run
 |.next it s=>if s then run else v (oQ (ρ it) h)
 |.entry it=>v ((wB (ρ it) h).map fun x=>(x,h))
 |_=>none
def lP:Value→Bool
 |.bool _|.int .. |.float .. |.complex .. |.string _|.nilFunc|.nilIface|.pointer none|.map none=>true
 |.slice none _ c=>decide (c<BIG)
 |_=>false
def vZ:Value→Bool
 |.agg c=>c.toList.all lP
 |.tuple c=>c.toList.all lP
 |.iface _ v=>lP v
 |.func (.func _) f c=>f.isEmpty&&c.isEmpty
 |v=>lP v
def di:Operand→Bool
 |.const v=>vZ v
 |.global _=>false
 |_=>true
inductive AEx where
 |normal|exit (id:Nat)|ret
structure T where
 t:Tr Value
 n:Nat
 round:Option Nat
 marks:List Nat
def T.get (t:T) (i:Nat):Value:=match Tr.get D t.t i with|some v=>v|none=>undef
def T.eval (t:T):Operand→Value
 |.tmp i=>t.get i
 |.const v=>v
 |.global g=>.pointer (some ⟨g,0,none⟩)
 |.func f=>.func (.func f) #[] #[]
def T.put (t:T) (d:Option Tmp) (v:Value):T:=match d with
 |some d=>if d<t.n then{t with t:=Tr.set D t.t d (some v)} else t
 |none=>t
def mF:Nat→Tr Value→List Value→Tr Value
 |_,t,[]=>t
 |i,t,v::r=>mF (i+1) (Tr.set D t i (some v)) r
def T.enter (args:Array Value) (n:Nat):T:={t:=mF 0 .leaf args.toList,n:=n,round:=none,marks:=[]}
def eY (ops:Array Oper) (t:T) (o:Oper):Bool:=
 match o.guard with
 |none=>true
 |some (j,want)=>match(ops[j]?).bind (·.dst) with
  |some d=>if d<t.n then(match t.get d with|.bool b=>b==want|_=>false) else false
  |none=>false
inductive zfl where
 |code (c:Code) (t:T)
 |call (f:FuncId) (args:Array Value)
inductive Res where
 |code (e:AEx) (t:T)
 |val (v:Value)
abbrev Rec:=zfl→H→Option (Res×H)
abbrev eF:=FuncId→Array Value→H→Option (Option (Value×H))
def mq (hk:eF) (P:Program) (rec:Rec) (h:H):Next→Option (Value×H)
 |.value v=>some (v,h)
 |.skip=>some (undef,h)
 |.enter f args=>match hk f args h with
  |some r=>r
  |none=>match rec (.call f args) h with
   |some (.val v,h)=>some (v,h)
   |_=>none
 |.round l _ tmps assign body=>
  if 10000≤tmps.size then none else
  match rec (.code assign {t:=mF 0 .leaf tmps.toList,n:=tmps.size,round:=some l,marks:=[]}) h with
  |some (.code .normal t,h)=>
   match t.marks,aB P (Instr.beginRound l) h with
   |[],some (_,h)=>match rec (.code body t) h with
    |some (.code e t,h)=>match t.marks with
     |[]=>(aB P (Instr.endRound l (match e with|.normal=>none|.exit id=>some (.exit id)|.ret=>some .ret)) h)
     |_=>none
    |_=>none
   |_,_=>none
  |_=>none
 |_=>none
def zah (hk:eF) (P:Program) (rec:Rec) (ops:Array Oper) (o:Oper) (t:T) (h:H):Option (T×H):=
 if eY ops t o then
  match(if o.op.operands.toList.all di then aop P t.eval o h else none) with
  |some (nx,h)=>match mq hk P rec h nx with
   |some (v,h)=>some (t.put o.dst v,h)
   |none=>none
  |none=>none
 else some (t.put o.dst undef,h)
def xN (hk:eF) (P:Program) (rec:Rec) (ops:Array Oper):List Oper→T→H→Option (T×H)
 |[],t,h=>some (t,h)
 |o::r,t,h=>match zah hk P rec ops o t h with
  |some (t,h)=>xN hk P rec ops r t h
  |none=>none
def eD (P:Program) (t:T) (h:H):List ResultVar→Option (List Value)
 |[]=>some []
 |.tmp i::r=>match eD P t h r with
  |some l=>some (t.get i::l)
  |none=>none
 |.cell a ty::r=>match t.get a with
  |.pointer (some x)=>match aB P (loadVar ty x) h,eD P t h r with
   |some (v,_),some l=>some (v::l)
   |_,_=>none
  |_=>none
def qF:List Value→Value
 |[v]=>v
 |l=>.tuple l.toArray
def mf:List Nat→H→Option H
 |[],h=>some h
 |r::l,h=>match h.get r with
  |some ⟨.deferred (some []),_⟩=>mf l (h.put r ⟨.deferred none,false⟩)
  |_=>none
def lT (hk:eF) (P:Program) (region:Rec→Array Oper→T→H→Option (T×H)) (rec:Rec):Rec
 |.call f args,h=>match P.funcs[f]? with
  |some fn=>match fn.body with
   |some c=>if !(decide (args.size≤fn.ntmps))||!(decide (fn.ntmps<10000)) then none else match rec (.code c (T.enter args fn.ntmps)) h with
    |some (.code e t,h)=>match e with
     |.exit _=>none
     |_=>match mf t.marks h with
      |some h=>match eD P t h fn.results.toList with
       |some l=>some (.val (qF l),h)
       |none=>none
      |none=>none
    |_=>none
   |none=>none
  |none=>none
 |.code c t,h=>match c with
  |.skip=>some (.code .normal t,h)
  |.label _=>some (.code .normal t,h)
  |.scope b=>rec (.code b t) h
  |.exit id=>some (.code (.exit id) t,h)
  |.ret=>some (.code .ret t,h)
  |.seq a b=>match rec (.code a t) h with
   |some (.code .normal t,h)=>rec (.code b t) h
   |r=>r
  |.cond c a b=>match t.eval c with
   |.bool true=>rec (.code a t) h
   |.bool false=>rec (.code b t) h
   |_=>none
  |.block id b=>match rec (.code b t) h with
   |some (.code (.exit id') t,h)=>if id'=id then some (.code .normal t,h) else some (.code (.exit id') t,h)
   |r=>r
  |.loop b=>match rec (.code b t) h with
   |some (.code .normal t,h)=>rec (.code (.loop b) t) h
   |r=>r
  |.region _ ops draw=>
   match(if draw then region rec ops t h else xN hk P rec ops ops.toList t h) with
   |some (t,h)=>some (.code .normal t,h)
   |none=>none
  |.rangeFunc g ps assign body=>
   match aB P (Instr.enterLoop 0 (((List.range t.n).map t.get).toArray) ps assign body t.round) h with
   |some ((l,mark),h)=>
    match(if di g then t.eval g else .nilFunc) with
    |.func (.func f) first captured=>if !((P.funcs[f]?).any fun fn=>fn.body.isSome) then none else match rec (.call f ((first++#[.func (.yield l) #[] #[]])++captured)) h with
     |some (.val _,h)=>match aB P (Instr.endLoop l) h with
      |some (j,h)=>
       let t:T:={t with marks:=(mark.filterMap fun d=>match d.target with|.collected r=>some r|_=>none)++t.marks}
       match j with
       |none=>some (.code .normal t,h)
       |some (.exit id)=>some (.code (.exit id) t,h)
       |some .ret=>some (.code .ret t,h)
       |_=>none
      |none=>none
     |_=>none
    |_=>none
   |none=>none
  |_=>none
def go (hk:eF) (P:Program) (region:Rec→Array Oper→T→H→Option (T×H)) (n:Nat):Rec:=
 Nat.rec (fun _ _=>none) (fun _ ih=>lT hk P region ih) n
end
structure Bij where
 r:Nat→Nat→Prop
 gr:Nat→Nat
 fn:∀{a b c},r a b→r a c→b=c
instance:LE Bij:=⟨fun m m'=>∀a b,m.r a b→m'.r a b∧m'.gr a=m.gr a⟩
theorem Bij.le_refl (m:Bij):m≤m:=fun _ _ h=>⟨h,rfl⟩
theorem Bij.le_trans {a b c:Bij} (h:a≤b) (k:b≤c):a≤c:=fun x y hx=>⟨(k x y (h x y hx).1).1,(k x y (h x y hx).1).2.trans (h x y hx).2⟩
inductive dB (m:Bij):Addr→Addr→Prop
 |mk {b b' o:Nat} {s:Option Nat}:m.r b b'→dB m ⟨b,o,s⟩ ⟨b',o,s⟩
inductive aT {α β:Type} (R:α→β→Prop):Option α→Option β→Prop
 |none:aT R none none
 |some {a:α} {b:β}:R a b→aT R (some a) (some b)
inductive jK (m:Bij):Fn→Fn→Prop
 |func (f:FuncId):jK m (.func f) (.func f)
 |method (s:String):jK m (.method s) (.method s)
 |methodOf (t:TypeId) (s:String):jK m (.methodOf t s) (.methodOf t s)
 |via (t:TypeId) (p:Array FieldStep) (f:FuncId) (b:Bool):jK m (.via t p f b) (.via t p f b)
 |yield {l l':Nat}:m.r l l'→jK m (.yield l) (.yield l')
inductive ak (m:Bij):Value→Value→Prop
 |bool (b:Bool):ak m (.bool b) (.bool b)
 |int (k:IntKind) (n:Int):ak m (.int k n) (.int k n)
 |float (k:FloatKind) (b:Nat):ak m (.float k b) (.float k b)
 |complex (k:FloatKind) (a b:Nat):ak m (.complex k a b) (.complex k a b)
 |string (s:ByteArray):ak m (.string s) (.string s)
 |pointer {a a':Option Addr}:aT (dB m) a a'→ak m (.pointer a) (.pointer a')
 |slice {a a':Option Addr} (l c:Nat):c<BIG→aT (dB m) a a'→ak m (.slice a l c) (.slice a' l c)
 |sliceU {b b' o:Nat} (l c e:Nat):m.r b b'→l≤c→1≤e→o+c*e≤m.gr b→ak m (.slice (some ⟨b,o,none⟩) l (BIG+e)) (.slice (some ⟨b',o,none⟩) l c)
 |map {r r':Option Nat}:aT m.r r r'→ak m (.map r) (.map r')
 |func {f f':Fn} {x x' c c':Array Value}:jK m f f'→x.size=x'.size→(∀i (h:i<x.size) (h':i<x'.size),ak m x[i] x'[i])→
  c.size=c'.size→(∀i (h:i<c.size) (h':i<c'.size),ak m c[i] c'[i])→ak m (.func f x c) (.func f' x' c')
 |chan:ak m (.chan none) (.chan none)
 |nilFunc:ak m .nilFunc .nilFunc
 |iface (t:TypeId) {v v':Value}:ak m v v'→ak m (.iface t v) (.iface t v')
 |nilIface:ak m .nilIface .nilIface
 |agg {c c':Array Value}:c.size=c'.size→(∀i (h:i<c.size) (h':i<c'.size),ak m c[i] c'[i])→ak m (.agg c) (.agg c')
 |tuple {c c':Array Value}:c.size=c'.size→(∀i (h:i<c.size) (h':i<c'.size),ak m c[i] c'[i])→ak m (.tuple c) (.tuple c')
structure am (m:Bij) (c c':Array Value):Prop where
 size:c.size=c'.size
 at_:∀i (h:i<c.size) (h':i<c'.size),ak m c[i] c'[i]
theorem dB.mono {m m':Bij} (h:m≤m') {a a':Addr}:dB m a a'→dB m' a a'
 |.mk k=>.mk (h _ _ k).1
theorem aT.mono {α β:Type} {R S:α→β→Prop} (h:∀a b,R a b→S a b) {a:Option α} {b:Option β}:aT R a b→aT S a b
 |.none=>.none
 |.some k=>.some (h _ _ k)
theorem jK.mono {m m':Bij} (h:m≤m') {f f':Fn}:jK m f f'→jK m' f f'
 |.func f=>.func f
 |.method s=>.method s
 |.methodOf t s=>.methodOf t s
 |.via t p f b=>.via t p f b
 |.yield k=>.yield (h _ _ k).1
theorem ak.mono {m m':Bij} (h:m≤m') {v v':Value} (k:ak m v v'):ak m' v v':=by
 induction k with
 |bool b=>exact .bool b
 |int k n=>exact .int k n
 |float k b=>exact .float k b
 |complex k a b=>exact .complex k a b
 |string s=>exact .string s
 |pointer k=>exact .pointer (k.mono fun _ _=>dB.mono h)
 |slice l c hc k=>exact .slice l c hc (k.mono fun _ _=>dB.mono h)
 |sliceU l c e k h1 h2 h3=>exact .sliceU l c e (h _ _ k).1 h1 h2 (by rw[(h _ _ k).2];exact h3)
 |map k=>exact .map (k.mono fun _ _ k=>(h _ _ k).1)
 |func hf hs _ hc _ ih1 ih2=>exact .func (hf.mono h) hs ih1 hc ih2
 |chan=>exact .chan
 |nilFunc=>exact .nilFunc
 |iface t _ ih=>exact .iface t ih
 |nilIface=>exact .nilIface
 |agg hs _ ih=>exact .agg hs ih
 |tuple hs _ ih=>exact .tuple hs ih
theorem am.mono {m m':Bij} (h:m≤m') {c c':Array Value} (k:am m c c'):am m' c c':=⟨k.size,fun i a b=>(k.at_ i a b).mono h⟩
structure iH (m:Bij) (e e':MapEntry):Prop where
 key:ak m e.key e'.key
 val:ak m e.val e'.val
 born:e.born=e'.born
def lv (n:Nat) (f f':Nat×Nat):Prop:=(f.1=f.2→f'.1=f'.2)∧(f'.1≠f'.2→(f.1≤f'.1∨n≤f'.1)∧f'.2≤f.2)
structure cE (m:Bij) (c c':Array Value):Prop where
 size:c.size≤c'.size
 at_:∀i (h:i<c.size) (h':i<c'.size),ak m c[i] c'[i]
inductive jz (m:Bij):Obj→Obj→Prop
 |cells {c c':Array Value} {fr fr':Nat×Nat} (t:TypeId):lv c'.size fr fr'→am m c c'→jz m (.cells c t fr) (.cells c' t fr')
 |map {e e':Array MapEntry} (n:Nat):e.size=e'.size→(∀i (h:i<e.size) (h':i<e'.size),iH m e[i] e'[i])→jz m (.map e n) (.map e' n)
 |stringIter (s:ByteArray) (p:Nat):jz m (.stringIter s p) (.stringIter s p)
 |mapIter {r r':Option Nat} (a:Nat) (b:Array Nat) (c:Nat):aT m.r r r'→jz m (.mapIter r a b c) (.mapIter r' a b c)
 |loop {l l':Loop}:l.state=l'.state→l.pending=l'.pending→am m l.tmps l'.tmps→l.params=l'.params→l.assign=l'.assign→l.body=l'.body→
  m.r l.defers l'.defers→jz m (.loop l) (.loop l')
 |deferred:jz m (.deferred (some [])) (.deferred (some []))
 |taken:jz m (.deferred none) (.deferred none)
inductive ic (m:Bij) (n:Nat):bZ→Obj→Prop
 |obj {o o':Obj}:jz m o o'→ic m n ⟨o,false⟩ o'
 |grow {c c':Array Value} {fr fr':Nat×Nat} (t:TypeId):lv c'.size fr fr'→cE m c c'→c'.size=m.gr n→c'.size<BIG→ic m n ⟨.cells c t fr,true⟩ (.cells c' t fr')
inductive ay (P:Program) {α β:Type} (R:Bij→α→β→Prop):Bij→Sem α→Sem β→Prop
 |pure {m:Bij} {a:α} {b:β}:R m a b→ay P R m (.pure a) (.pure b)
 |load {m:Bij} (md:Mode) {a a':Addr} {k:Value→Sem α} {k':Value→Sem β}:dB m a a'→(∀v v',ak m v v'→ay P R m (k v) (k' v'))→
  ay P R m (.load md a k) (.load md a' k')
 |store {m:Bij} (md:Mode) {a a':Addr} {v v':Value} {k:Sem α} {k':Sem β}:dB m a a'→ak m v v'→ay P R m k k'→ay P R m (.store md a v k) (.store md a' v' k')
 |new {m:Bij} {o o':Obj} {k:Nat→Sem α} {k':Nat→Sem β}:jz m o o'→(∀m' r r',m≤m'→m'.r r r'→ay P R m' (k r) (k' r'))→ay P R m (.new o k) (.new o' k')
 |shape {m:Bij} {r r':Nat} {k:Option (TypeId×Nat)→Sem α} {k':Option (TypeId×Nat)→Sem β}:m.r r r'→(∀s,ay P R m (k s) (k' s))→ay P R m (.shape r k) (.shape r' k')
 |freeze {m:Bij} {a a':Addr} (n:Nat) {k:Sem α} {k':Sem β}:dB m a a'→ay P R m k k'→ay P R m (.freeze a n k) (.freeze a' n k')
 |choose {m:Bij} {q:Question} {k:Nat→Sem α} {k':Nat→Sem β}:(q.forced=true→ay P R m (k 0) (k' 0))→ay P R m (.choose q k) (.choose q k')
 |frozen {m:Bij} {a a':Addr} {k:Bool→Sem α} {k':Bool→Sem β}:dB m a a'→(∀b,ay P R m (k b) (k' b))→ay P R m (.frozen a k) (.frozen a' k')
 |getObj {m:Bij} {r r':Nat} {k:Obj→Sem α} {k':Obj→Sem β}:m.r r r'→(∀o o',jz m o o'→ay P R m (k o) (k' o'))→ay P R m (.getObj r k) (.getObj r' k')
 |setObj {m:Bij} {r r':Nat} {o o':Obj} {k:Sem α} {k':Sem β}:m.r r r'→jz m o o'→ay P R m k k'→ay P R m (.setObj r o k) (.setObj r' o' k')
 |program {m:Bij} {k:Program→Sem α} {k':Program→Sem β}:ay P R m (k P) (k' P)→ay P R m (.program k) (.program k')
 |mark {m:Bij} {x y:Mark} {k:Sem α} {k':Sem β}:ay P R m k k'→ay P R m (.mark x k) (.mark y k')
 |dead {m:Bij} {s:Sem α} {s':Sem β}:(∀h,aB P s h=none)→ay P R m s s'
theorem ay.halt {P:Program} {α β:Type} {R:Bij→α→β→Prop} {m:Bij} {h:Halt} {s:Sem β}:ay P R m (.halt h) s:=.dead fun _=>rfl
theorem zfA {P:Program} {α γ:Type} (s:Sem α) (f:α→Sem γ):∀h,aB P s h=none→aB P (s.bind f) h=none:=by
 induction s with
 |pure a=>intro h he;simp[aB] at he
 |halt x=>intro h _;rfl
 |load md a k ih=>intro h he;simp only[Sem.bind,aB] at he ⊢;split<;>simp_all
 |store md a v k ih=>intro h he;cases v<;>simp only[Sem.bind,aB] at he ⊢<;>first|rfl|(split<;>simp_all)
 |new o k ih=>intro h he;simp only[Sem.bind,aB] at he ⊢;split<;>simp_all
 |shape r k ih=>intro h he;simp only[Sem.bind,aB] at he ⊢;split<;>simp_all
 |freeze a n k ih=>intro h he;simp only[Sem.bind,aB] at he ⊢;split<;>simp_all
 |frozen a k ih=>intro h he;simp only[Sem.bind,aB] at he ⊢;split<;>(try split)<;>simp_all
 |getObj r k ih=>intro h he;simp only[Sem.bind,aB] at he ⊢;split<;>simp_all
 |setObj r o k ih=>intro h he;simp only[Sem.bind,aB] at he ⊢;split<;>simp_all
 |choose q k ih=>intro h he;simp only[Sem.bind,aB] at he ⊢;split<;>simp_all
 |sys c k ih=>intro h _;rfl
 |program k ih=>intro h he;simp only[Sem.bind,aB] at he ⊢;exact ih _ _ he
 |mark x k ih=>intro h he;simp only[Sem.bind,aB] at he ⊢;exact ih _ he
theorem ay.bind {P:Program} {α β γ δ:Type} {R:Bij→α→β→Prop} {S:Bij→γ→δ→Prop} {m:Bij} {s:Sem α} {s':Sem β} {f:α→Sem γ} {f':β→Sem δ}
 (h:ay P R m s s') (hf:∀m' a b,m≤m'→R m' a b→ay P S m' (f a) (f' b)):ay P S m (s >>= f) (s' >>= f'):=by
 show ay P S m (s.bind f) (s'.bind f')
 induction h with
 |pure h=>exact hf _ _ _ (Bij.le_refl _) h
 |load md ha _ ih=>exact .load md ha fun v v' hv=>ih v v' hv hf
 |store md ha hv _ ih=>exact .store md ha hv (ih hf)
 |new ho _ ih=>exact .new ho fun m' r r' hm hr=>ih m' r r' hm hr fun m'' a b h=>hf m'' a b (Bij.le_trans hm h)
 |shape hr _ ih=>exact .shape hr fun s=>ih s hf
 |frozen ha _ ih=>exact .frozen ha fun b=>ih b hf
 |freeze n ha _ ih=>exact .freeze n ha (ih hf)
 |choose _ ih=>exact .choose fun hq=>ih hq hf
 |getObj hr _ ih=>exact .getObj hr fun o o' ho=>ih o o' ho hf
 |setObj hr ho _ ih=>exact .setObj hr ho (ih hf)
 |program _ ih=>exact .program (ih hf)
 |mark _ ih=>exact .mark (ih hf)
 |dead hd=>exact .dead fun h=>zfA _ _ h (hd h)
theorem zfv {α:Type} (f n:Nat):Tr.get f (.leaf:Tr α) n=none:=rfl
theorem zfx {α:Type} (f:Nat) (l r:Tr α) (o:Option α):Tr.get f (.node l o r) 0=o:=rfl
theorem zft {α:Type} (f:Nat) (l r:Tr α) (o:Option α) (n:Nat):Tr.get f (.node l o r) (n+1)=if n%2=0 then Tr.get f l (n/2) else Tr.get f r (n/2):=by
 show(bif Nat.beq (n%2) 0 then Tr.get f l (n/2) else Tr.get f r (n/2))=_
 rcases Nat.mod_two_eq_zero_or_one n with h|h<;>rw[h]<;>rfl
theorem zgp {α:Type} (x:Option α) (g:Nat):∀(f n k:Nat),n+2≤2^f→Tr.get g (Tr.path x f n) k=if k=n then x else none:=by
 intro f
 induction f with
 |zero=>intro n k h;simp at h
 |succ f ih=>
  intro n k h
  have h2:2^(f+1)=2*2^f:=by rw[Nat.pow_succ];omega
  cases n with
  |zero=>
   show Tr.get g (.node .leaf x .leaf) k=_
   cases k with
   |zero=>rfl
   |succ k=>rw[zft];simp[zfv]
  |succ n=>
   show Tr.get g (bif Nat.beq (n%2) 0 then .node (Tr.path x f (n/2)) none .leaf else .node .leaf none (Tr.path x f (n/2))) k=_
   rcases Nat.mod_two_eq_zero_or_one n with hn|hn<;>rw[hn]
   ·show Tr.get g (.node (Tr.path x f (n/2)) none .leaf) k=_
    cases k with
    |zero=>rw[zfx];simp
    |succ k=>
     rw[zft]
     rcases Nat.mod_two_eq_zero_or_one k with hk|hk<;>rw[hk]
     ·rw[if_pos rfl,ih (n/2) (k/2) (by omega)]
      by_cases e:k=n
      ·subst e;simp
      ·rw[if_neg (by omega),if_neg (by omega)]
     ·rw[if_neg (by omega),zfv,if_neg (by omega)]
   ·show Tr.get g (.node .leaf none (Tr.path x f (n/2))) k=_
    cases k with
    |zero=>rw[zfx];simp
    |succ k=>
     rw[zft]
     rcases Nat.mod_two_eq_zero_or_one k with hk|hk<;>rw[hk]
     ·rw[if_pos rfl,zfv,if_neg (by omega)]
     ·rw[if_neg (by omega),ih (n/2) (k/2) (by omega)]
      by_cases e:k=n
      ·subst e;simp
      ·rw[if_neg (by omega),if_neg (by omega)]
theorem zfu {α:Type} (f:Nat) (t:Tr α):∀(n k:Nat) (x:Option α),n+2≤2^f→Tr.get f (Tr.set f t n x) k=if k=n then x else Tr.get f t k:=by
 induction t with
 |leaf=>intro n k x h;exact zgp x f f n k h
 |node l o r ihl ihr=>
  intro n k x h
  cases n with
  |zero=>
   show Tr.get f (.node l x r) k=_
   cases k with
   |zero=>rfl
   |succ k=>rw[zft,zft,if_neg (Nat.succ_ne_zero k)]
  |succ n=>
   show Tr.get f (bif Nat.beq (n%2) 0 then .node (Tr.set f l (n/2) x) o r else .node l o (Tr.set f r (n/2) x)) k=_
   rcases Nat.mod_two_eq_zero_or_one n with hn|hn<;>rw[hn]
   ·show Tr.get f (.node (Tr.set f l (n/2) x) o r) k=_
    cases k with
    |zero=>rw[zfx,zfx];simp
    |succ k=>
     rw[zft,zft]
     rcases Nat.mod_two_eq_zero_or_one k with hk|hk<;>rw[hk]
     ·rw[if_pos rfl,if_pos rfl,ihl (n/2) (k/2) x (by omega)]
      by_cases e:k=n
      ·subst e;simp
      ·rw[if_neg (by omega),if_neg (by omega)]
     ·rw[if_neg (by omega),if_neg (by omega),if_neg (by omega)]
   ·show Tr.get f (.node l o (Tr.set f r (n/2) x)) k=_
    cases k with
    |zero=>rw[zfx,zfx];simp
    |succ k=>
     rw[zft,zft]
     rcases Nat.mod_two_eq_zero_or_one k with hk|hk<;>rw[hk]
     ·rw[if_pos rfl,if_pos rfl,if_neg (by omega)]
     ·simp only[Nat.one_ne_zero,if_false]
      rw[ihr (n/2) (k/2) x (by omega)]
      by_cases e:k=n
      ·subst e;simp
      ·rw[if_neg (by omega),if_neg (by omega)]
structure bw (m:Bij) (h:H) (W:World):Prop where
 obj:∀n o,h.get n=some o→∃b o',m.r n b∧W.heap[b]?=some o'∧ic m n o o'
 fresh:∀n,h.next≤n→n<h.lim→∀b,¬m.r n b
 ran:∀n b,m.r n b→b<W.heap.size
 inj:∀n k b,m.r n b→m.r k b→h.get n≠none→h.get k≠none→n=k
 room:h.lim+2≤2^D
 le:h.next≤h.lim
structure Snd (m:Bij) (h:H) (W:World) (m':Bij) (h':H) (W':World):Prop where
 le:m≤m'
 rel:bw m' h' W'
 size:W.heap.size≤W'.heap.size
 block:∀b,b<W.heap.size→(∀n,m.r n b→h.get n=none)→W'.heap[b]?=W.heap[b]?
 next:h.next≤h'.next
 lim:h'.lim=h.lim
 dead:∀n,n<h.next→h.get n=none→h'.get n=none
 new:∀n b,m'.r n b→m.r n b∨(h.next≤n∧n<h'.next∧(W.heap.size≤b∨∃k,m.r k b∧h.get k≠none))
 rest:W'.os=W.os∧W'.tape=W.tape∧W'.output=W.output
theorem zfJ {h:H} {n:Nat} (hn:h.next≤n):h.get n=none:=by unfold H.get;rw[if_neg (by omega)]
theorem zfV {h:H} {n:Nat} {o:bZ} (hg:h.get n=some o):n<h.next:=by
 unfold H.get at hg;split at hg
 ·assumption
 ·simp at hg
theorem Snd.refl {m:Bij} {h:H} {W:World} (hw:bw m h W):Snd m h W m h W:=
 ⟨Bij.le_refl m,hw,Nat.le_refl _,fun _ _ _=>rfl,Nat.le_refl _,rfl,fun _ _ k=>k,fun _ _ k=>.inl k,rfl,rfl,rfl⟩
theorem Snd.trans {m m' m2:Bij} {h h' h2:H} {W W' W2:World} (hw:bw m h W) (a:Snd m h W m' h' W') (b:Snd m' h' W' m2 h2 W2):Snd m h W m2 h2 W2:=by
 have dead:∀n b,m.r n b→h.get n=none→h'.get n=none:=fun n b hr hg=>by
  rcases Nat.lt_or_ge n h.next with h1|h1
  ·exact a.dead n h1 hg
  ·have h2:h.lim≤n:=by
    rcases Nat.lt_or_ge n h.lim with h3|h3
    ·exact absurd hr (hw.fresh n h1 h3 b)
    ·exact h3
   exact zfJ (by have:=a.rel.le;rw[a.lim] at this;omega)
 refine⟨Bij.le_trans a.le b.le,b.rel,Nat.le_trans a.size b.size,?_,Nat.le_trans a.next b.next,b.lim.trans a.lim,?_,?_,b.rest.1.trans a.rest.1,b.rest.2.1.trans a.rest.2.1,b.rest.2.2.trans a.rest.2.2⟩
 ·intro x hx hn
  refine(b.block x (Nat.lt_of_lt_of_le hx a.size) fun n hr=>?_).trans (a.block x hx hn)
  rcases a.new n x hr with k|⟨k1,k2,k3|⟨q,k3,k4⟩⟩
  ·exact dead n x k (hn n k)
  ·omega
  ·exact absurd (hn q k3) k4
 ·intro n hn hg;exact b.dead n (Nat.lt_of_lt_of_le hn a.next) (a.dead n hn hg)
 ·intro n x hr
  rcases b.new n x hr with k|⟨k1,k2,k3⟩
  ·rcases a.new n x k with q|⟨q1,q2,q3⟩
   ·exact .inl q
   ·exact .inr ⟨q1,Nat.lt_of_lt_of_le q2 b.next,q3⟩
  ·refine .inr ⟨Nat.le_trans a.next k1,k2,?_⟩
   rcases k3 with k3|⟨q,k3,k4⟩
   ·exact .inl (Nat.le_trans a.size k3)
   ·rcases a.new q x k3 with z|⟨z1,z2,z3⟩
    ·exact .inr ⟨q,z,fun hg=>k4 (dead q x z hg)⟩
    ·exact z3
theorem zfH {h:H} {n:Nat} (hr:h.lim+2≤2^D) (hl:h.next≤h.lim) (hn:n<h.next) (o:bZ) (k:Nat):(h.put n o).get k=if k=n then some o else h.get k:=by
 unfold H.get H.put
 simp only
 rw[zfu D h.t n k (some o) (by omega)]
 by_cases hk:k=n
 ·subst hk;simp[hn]
 ·simp[hk]
theorem zf7 {h:H} {n:Nat} (hr:h.lim+2≤2^D) (hl:h.next≤h.lim) (hn:n<h.next) (k:Nat):(h.kill n).get k=if k=n then none else h.get k:=by
 unfold H.get H.kill
 simp only
 rw[zfu D h.t n k none (by omega)]
 by_cases hk:k=n
 ·subst hk;simp
 ·simp[hk]
theorem zfE {h:H} (hr:h.lim+2≤2^D) (hl:h.next≤h.lim) (o:bZ) (k:Nat):(h.push o).get k=if k=h.next then some o else h.get k:=by
 unfold H.get H.push
 simp only
 rw[zfu D h.t h.next k (some o) (by omega)]
 by_cases hk:k=h.next
 ·subst hk;simp
 ·simp only[hk,if_false]
  by_cases h2:k<h.next
  ·rw[if_pos h2,if_pos (by omega)]
  ·rw[if_neg h2,if_neg (by omega)]
theorem bw.at_ {m:Bij} {h:H} {W:World} (hw:bw m h W) {n b:Nat} (hb:m.r n b) {o:bZ} (hg:h.get n=some o):∃o',W.heap[b]?=some o'∧ic m n o o':=by
 obtain⟨c,o',h1,h2,h3⟩:=hw.obj n o hg
 have:c=b:=m.fn h1 hb
 subst this
 exact⟨o',h2,h3⟩
theorem ic.row {m:Bij} {n:Nat} {c:Array Value} {t:TypeId} {fr:Nat×Nat} {g:Bool} {o':Obj} (h:ic m n ⟨.cells c t fr,g⟩ o'):
 ∃c' fr',o'=.cells c' t fr'∧cE m c c'∧lv c'.size fr fr'∧(g=false→c'.size=c.size)∧(g=true→c'.size=m.gr n∧c'.size<BIG):=by
 cases h with
 |obj h=>cases h with
  |@cells c c' fr fr' t hf hr=>exact⟨c',fr',rfl,⟨Nat.le_of_eq hr.size,hr.at_⟩,hf,fun _=>hr.size.symm,fun h=>by simp at h⟩
 |@grow c c' fr fr' t hf hr hs hb=>exact⟨c',fr',rfl,hr,hf,fun h=>by simp at h,fun _=>⟨hs,hb⟩⟩
theorem bw.cell {m:Bij} {h:H} {W:World} (hw:bw m h W) {a a':Addr} (ha:dB m a a') {v:Value} (hv:h.cell? a=some v):∃v',W.cell? a'=some v'∧ak m v v':=by
 cases ha with
 |@mk b b' o s hb=>
  unfold H.cell? at hv
  split at hv
  ·rename_i c t fr g hg
   obtain⟨o',h2,h3⟩:=hw.at_ hb hg
   obtain⟨c',fr',rfl,h4,h5,_,_⟩:=h3.row
   cases s with
   |some x=>simp at hv
   |none=>
    simp only[Option.isSome_none,Bool.false_eq_true,if_false] at hv
    obtain⟨hl,rfl⟩:=Array.getElem?_eq_some_iff.1 hv
    have hl':o<c'.size:=Nat.lt_of_lt_of_le hl h4.size
    exact⟨c'[o],by simp[World.cell?,h2,Array.getElem?_eq_getElem hl'],h4.at_ o hl hl'⟩
  ·simp at hv
theorem jz.mono {m m':Bij} (h:m≤m') {o o':Obj}:jz m o o'→jz m' o o'
 |.cells t fr k=>.cells t fr (k.mono h)
 |.map n hs k=>.map n hs fun i a b=>⟨(k i a b).key.mono h,(k i a b).val.mono h,(k i a b).born⟩
 |.stringIter s p=>.stringIter s p
 |.mapIter a b c k=>.mapIter a b c (k.mono fun _ _ k=>(h _ _ k).1)
 |.loop h1 h2 h4 h5 h6 h7 h8=>.loop h1 h2 (h4.mono h) h5 h6 h7 (h _ _ h8).1
 |.deferred=>.deferred
 |.taken=>.taken
theorem cE.mono {m m':Bij} (h:m≤m') {c c':Array Value} (k:cE m c c'):cE m' c c':=⟨k.size,fun i a b=>(k.at_ i a b).mono h⟩
theorem ic.mono {m m':Bij} (h:m≤m') {n b:Nat} (hb:m.r n b) {o:bZ} {o':Obj} (k:ic m n o o'):ic m' n o o':=by
 cases k with
 |obj k=>exact .obj (k.mono h)
 |grow t k1 k2 k3 k4=>exact .grow t k1 (k2.mono h) (by rw[(h _ _ hb).2];exact k3) k4
def Bij.add (m:Bij) (n b g:Nat) (hn:∀x,¬m.r n x):Bij where
 r x y:=m.r x y∨(x=n∧y=b)
 gr x:=if x=n then g else m.gr x
 fn:=by
  rintro a x y (h|⟨rfl,rfl⟩) (k|⟨h1,rfl⟩)
  ·exact m.fn h k
  ·subst h1;exact absurd h (hn _)
  ·exact absurd k (hn _)
  ·rfl
theorem Bij.le_add (m:Bij) (n b g:Nat) (hn:∀x,¬m.r n x):m≤m.add n b g hn:=fun x y hr=>⟨.inl hr,by
 show(if x=n then g else m.gr x)=m.gr x
 rw[if_neg (by rintro rfl;exact hn _ hr)]⟩
theorem Snd.push {m:Bij} {h:H} {W:World} (hw:bw m h W) (hr:h.next<h.lim) (g:Nat) {o:bZ} {o':Obj} (ho:∀m',m≤m'→m'.gr h.next=g→ic m' h.next o o'):
 ∃m',m'.r h.next W.heap.size∧m'.gr h.next=g∧Snd m h W m' (h.push o) {W with heap:=W.heap.push o'}:=by
 have hn:∀x,¬m.r h.next x:=hw.fresh _ (Nat.le_refl _) hr
 have hm:=m.le_add h.next W.heap.size g hn
 have hgr:(m.add h.next W.heap.size g hn).gr h.next=g:=by simp[Bij.add]
 refine⟨m.add h.next W.heap.size g hn,.inr ⟨rfl,rfl⟩,hgr,hm,⟨?_,?_,?_,?_,hw.room,?_⟩,by simp,?_,by simp[H.push],rfl,?_,?_,rfl,rfl,rfl⟩
 ·intro n x hx
  rw[zfE hw.room hw.le] at hx
  by_cases hk:n=h.next
  ·subst hk;simp only[if_true,Option.some.injEq] at hx;subst hx
   exact⟨W.heap.size,o',.inr ⟨rfl,rfl⟩,by simp,ho _ hm hgr⟩
  ·rw[if_neg hk] at hx
   obtain⟨b,y,h1,h2,h3⟩:=hw.obj n x hx
   have:=hw.ran _ _ h1
   exact⟨b,y,.inl h1,by simp[Array.getElem?_push,h2];omega,h3.mono hm h1⟩
 ·rintro n hn1 hn2 b (k|⟨rfl,rfl⟩)
  ·exact hw.fresh n (by simp[H.push] at hn1;omega) hn2 b k
  ·simp[H.push] at hn1;omega
 ·rintro n b (k|⟨rfl,rfl⟩)
  ·have:=hw.ran _ _ k;simp;omega
  ·simp
 ·rintro n k b (h1|⟨rfl,rfl⟩) (h2|⟨rfl,h3⟩) g1 g2
  ·rw[zfE hw.room hw.le] at g1 g2
   have e1:n≠h.next:=by rintro rfl;exact hn _ h1
   have e2:k≠h.next:=by rintro rfl;exact hn _ h2
   rw[if_neg e1] at g1;rw[if_neg e2] at g2
   exact hw.inj n k b h1 h2 g1 g2
  ·subst h3;have:=hw.ran _ _ h1;omega
  ·have:=hw.ran _ _ h2;omega
  ·rfl
 ·simp[H.push];omega
 ·intro c hc _;simp[Array.getElem?_push];omega
 ·intro n hn1 hg;rw[zfE hw.room hw.le,if_neg (by omega)];exact hg
 ·rintro n b (k|⟨rfl,rfl⟩)
  ·exact .inl k
  ·exact .inr ⟨Nat.le_refl _,by simp[H.push],.inl (Nat.le_refl _)⟩
theorem Snd.put {m:Bij} {h:H} {W:World} (hw:bw m h W) {n b:Nat} {x:bZ} (hg:h.get n=some x) (hb:m.r n b) {o:bZ} {o':Obj} (ho:ic m n o o'):
 Snd m h W m (h.put n o) {W with heap:=W.heap.setIfInBounds b o'}:=by
 have aH:=zfV hg
 have hbl:=hw.ran _ _ hb
 refine⟨Bij.le_refl m,⟨?_,hw.fresh,fun a c k=>by simpa using hw.ran a c k,?_,hw.room,hw.le⟩,by simp,?_,Nat.le_refl _,rfl,?_,fun _ _ k=>.inl k,rfl,rfl,rfl⟩
 ·intro k y hy
  rw[zfH hw.room hw.le aH] at hy
  by_cases hk:k=n
  ·subst hk;simp only[if_true,Option.some.injEq] at hy;subst hy
   exact⟨b,o',hb,by simp[hbl],ho⟩
  ·rw[if_neg hk] at hy
   obtain⟨c,z,h1,h2,h3⟩:=hw.obj k y hy
   have hne:b≠c:=fun e=>hk (hw.inj k n c h1 (e▸hb) (by rw[hy];simp) (by rw[hg];simp))
   exact⟨c,z,h1,by simp[hne,h2],h3⟩
 ·intro k l c h1 h2 g1 g2
  rw[zfH hw.room hw.le aH] at g1 g2
  refine hw.inj k l c h1 h2 ?_ ?_
  ·split at g1
   ·subst_vars;rw[hg];simp
   ·exact g1
  ·split at g2
   ·subst_vars;rw[hg];simp
   ·exact g2
 ·intro c _ hn
  have:b≠c:=fun e=>by have:=hn n (e▸hb);rw[hg] at this;simp at this
  simp[this]
 ·intro k _ hk
  rw[zfH hw.room hw.le aH]
  by_cases e:k=n
  ·subst e;rw[hg] at hk;simp at hk
  ·rw[if_neg e];exact hk
theorem am.set {m:Bij} {c c':Array Value} (h:am m c c') {v v':Value} (hv:ak m v v') (i:Nat):am m (c.setIfInBounds i v) (c'.setIfInBounds i v'):=
 ⟨by simp[h.size],fun j a b=>by
  simp only[Array.size_setIfInBounds] at a b
  by_cases hij:i=j
  ·subst hij;simpa using hv
  ·have e1:(c.setIfInBounds i v)[j]?=c[j]?:=Array.getElem?_setIfInBounds_ne hij
   have e2:(c'.setIfInBounds i v')[j]?=c'[j]?:=Array.getElem?_setIfInBounds_ne hij
   have:=h.at_ j a b
   rw[Array.getElem?_eq_getElem (by simpa using a),Array.getElem?_eq_getElem a,Option.some.injEq] at e1
   rw[Array.getElem?_eq_getElem (by simpa using b),Array.getElem?_eq_getElem b,Option.some.injEq] at e2
   rw[e1,e2];exact this⟩
theorem cE.set {m:Bij} {c c':Array Value} (h:cE m c c') {v v':Value} (hv:ak m v v') (i:Nat):cE m (c.setIfInBounds i v) (c'.setIfInBounds i v'):=
 ⟨by simpa using h.size,fun j a b=>by
  simp only[Array.size_setIfInBounds] at a b
  by_cases hij:i=j
  ·subst hij;simpa using hv
  ·have e1:(c.setIfInBounds i v)[j]?=c[j]?:=Array.getElem?_setIfInBounds_ne hij
   have e2:(c'.setIfInBounds i v')[j]?=c'[j]?:=Array.getElem?_setIfInBounds_ne hij
   have:=h.at_ j a b
   rw[Array.getElem?_eq_getElem (by simpa using a),Array.getElem?_eq_getElem a,Option.some.injEq] at e1
   rw[Array.getElem?_eq_getElem (by simpa using b),Array.getElem?_eq_getElem b,Option.some.injEq] at e2
   rw[e1,e2];exact this⟩
theorem zfB {m:Bij} {n:Nat} {c c':Array Value} {t:TypeId} {fr fr':Nat×Nat} {g:Bool} (h1:cE m c c') (h2:lv c'.size fr fr') (h3:g=false→c'.size=c.size) (h4:g=true→c'.size=m.gr n∧c'.size<BIG):
 ic m n ⟨.cells c t fr,g⟩ (.cells c' t fr'):=by
 cases g with
 |true=>exact .grow t h2 h1 (h4 rfl).1 (h4 rfl).2
 |false=>exact .obj (.cells t h2 ⟨(h3 rfl).symm,h1.at_⟩)
theorem zfU {h:H} {a:Addr} {k:Nat} {c:Array Value} {t:TypeId} {fr:Nat×Nat} {g:Bool} (he:h.open? a k=some (c,t,fr,g)):
 h.get a.block=some ⟨.cells c t fr,g⟩∧a.spot=none∧a.off+k≤c.size∧¬(fr.1<a.off+k∧a.off<fr.2):=by
 unfold H.open? at he
 split at he
 ·rename_i c0 t0 lo hi g0 hg
  split at he
  ·simp at he
  ·rename_i hc
   simp only[Option.some.injEq,Prod.mk.injEq] at he
   obtain⟨rfl,rfl,rfl,rfl⟩:=he
   refine⟨hg,?_,?_,?_⟩
   ·cases hs:a.spot<;>simp_all
   ·simp only[Bool.or_eq_true,not_or] at hc;have:=hc.1.2;simpa using this
   ·simp only[Bool.or_eq_true,not_or] at hc;have:=hc.2;simpa using this
 ·simp at he
theorem lv.clear {n i:Nat} {f f':Nat×Nat} (h:lv n f f') (hi:i<n) (hc:¬(f.1<i+1∧i<f.2)):¬(f'.1≤i∧i<f'.2):=by
 rintro⟨h1,h2⟩
 have hne:f'.1≠f'.2:=by omega
 obtain⟨h3,h4⟩:=h.2 hne
 apply hc
 omega
theorem oF {W:World} {b i:Nat} {c:Array Value} {t:TypeId} {fr:Nat×Nat} (hb:W.heap[b]?=some (.cells c t fr)) (v:Value):
 W.setCell ⟨b,i,none⟩ v={W with heap:=W.heap.setIfInBounds b (.cells (c.setIfInBounds i v) t fr)}:=by
 have hbl:b<W.heap.size:=(Array.getElem?_eq_some_iff.1 hb).1
 unfold World.setCell
 congr 1
 apply Array.ext_getElem?
 intro j
 by_cases hi2:b=j
 ·subst hi2;rw[Array.getElem?_modify,Array.getElem?_setIfInBounds_self_of_lt hbl,if_pos rfl,hb];rfl
 ·simp[Array.getElem?_modify,hi2]
theorem mj {W:World} {b i n:Nat} {c:Array Value} {t:TypeId} {lo hi:Nat} (hb:W.heap[b]?=some (.cells c t (lo,hi))) (s:Option Nat) (hn:n≠0):
 W.freeze ⟨b,i,s⟩ n={W with heap:=W.heap.setIfInBounds b (.cells c t (if lo==hi then(i,i+n) else(min lo i,max hi (i+n))))}:=by
 have hbl:b<W.heap.size:=(Array.getElem?_eq_some_iff.1 hb).1
 unfold World.freeze
 rw[if_neg hn]
 congr 1
 apply Array.ext_getElem?
 intro j
 by_cases hi2:b=j
 ·subst hi2;rw[Array.getElem?_modify,Array.getElem?_setIfInBounds_self_of_lt hbl,if_pos rfl,hb];rfl
 ·simp[Array.getElem?_modify,hi2]
theorem lv.freeze {k lo hi lo' hi' i n:Nat} (hn:n≠0) (h:lv k (lo,hi) (lo',hi')):
 lv k (if lo==hi then(i,i+n) else(min lo i,max hi (i+n))) (if lo'==hi' then(i,i+n) else(min lo' i,max hi' (i+n))):=by
 obtain⟨h1,h2⟩:=h
 simp only at h1 h2
 by_cases e:lo=hi
 ·have e':=h1 e
  subst e;subst e'
  simp only[beq_self_eq_true,if_true]
  exact⟨fun h=>h,fun _=>⟨.inl (Nat.le_refl _),Nat.le_refl _⟩⟩
 ·rw[if_neg (by simpa using e)]
  by_cases e':lo'=hi'
  ·subst e'
   simp only[beq_self_eq_true,if_true]
   exact⟨fun h=>by simp only at h;omega,fun _=>⟨.inl (by simp only;omega),by simp only;omega⟩⟩
  ·rw[if_neg (by simpa using e')]
   obtain⟨h3,h4⟩:=h2 e'
   refine⟨fun h=>by simp only at h;omega,fun _=>⟨?_,by simp only;omega⟩⟩
   simp only
   rcases h3 with h3|h3
   ·left;omega
   ·by_cases hik:i≤lo'
    ·left;omega
    ·right;omega
theorem zfy {P:Program} {α β:Type} {R:Bij→α→β→Prop} {m:Bij} {s:Sem α} {s':Sem β} (hs:ay P R m s s'):
 ∀{h h1:H} {a:α} {W:World},aB P s h=some (a,h1)→bw m h W→
  ∃m' b W',s'.run P W=.ok b W'∧R m' a b∧Snd m h W m' h1 W':=by
 induction hs with
 |@pure m a b hr=>
  intro h h1 a' W he hw
  simp only[aB,Option.some.injEq,Prod.mk.injEq] at he
  obtain⟨rfl,rfl⟩:=he
  exact⟨m,b,W,rfl,hr,Snd.refl hw⟩
 |@load m md a a' k k' ha _ ih=>
  intro h h1 x W he hw
  simp only[aB] at he
  cases hc:h.cell? a with
  |none=>simp[hc] at he
  |some v=>
   simp only[hc] at he
   obtain⟨v',hv1,hv2⟩:=hw.cell ha hc
   obtain⟨m',b,W',r2,r3,r4⟩:=ih v v' hv2 he hw
   exact⟨m',b,W',by simp only[Sem.run,hv1];exact r2,r3,r4⟩
 |@new m o o' k k' ho _ ih=>
  intro h h1 x W he hw
  simp only[aB] at he
  split at he
  ·rename_i hr
   obtain⟨m1,p1,p2,p3⟩:=Snd.push hw hr 0 (o:=⟨o,false⟩) (o':=o') fun m' hm _=>.obj (ho.mono hm)
   obtain⟨m',b,W',r2,r3,r4⟩:=ih m1 _ _ p3.le p1 he p3.rel
   exact⟨m',b,W',by simp only[Sem.run];exact r2,r3,p3.trans hw r4⟩
  ·simp at he
 |@shape m r r' k k' hr _ ih=>
  intro h h1 x W he hw
  simp only[aB] at he
  split at he
  ·rename_i c t fr hg
   obtain⟨o',q1,q2⟩:=hw.at_ hr hg
   obtain⟨c',fr',rfl,q3,q4,q5,_⟩:=q2.row
   obtain⟨m',b,W',r2,r3,r4⟩:=ih _ he hw
   refine⟨m',b,W',?_,r3,r4⟩
   simp only[Sem.run,World.shape?,q1]
   rw[q5 rfl];exact r2
  ·rename_i e c g hg
   obtain⟨o',q1,q2⟩:=hw.at_ hr hg
   cases q2 with
   |obj q2=>cases q2 with
    |map n q3 q4=>
     obtain⟨m',b,W',r2,r3,r4⟩:=ih _ he hw
     exact⟨m',b,W',by simp only[Sem.run,World.shape?,q1];exact r2,r3,r4⟩
  ·simp at he
 |@program m k k' _ ih=>
  intro h h1 x W he hw
  simp only[aB] at he
  obtain⟨m',b,W',r2,r3,r4⟩:=ih he hw
  exact⟨m',b,W',by simp only[Sem.run];exact r2,r3,r4⟩
 |@mark m x y k k' _ ih=>
  intro h h1 z W he hw
  simp only[aB] at he
  obtain⟨m',b,W',r2,r3,r4⟩:=ih he hw
  exact⟨m',b,W',by simp only[Sem.run];exact r2,r3,r4⟩
 |@choose m q k k' _ ih=>
  intro h h1 z W he hw
  simp only[aB] at he
  split at he
  ·rename_i hq
   obtain⟨m',b,W',r2,r3,r4⟩:=ih hq he hw
   exact⟨m',b,W',by simp only[Sem.run,hq,if_true];exact r2,r3,r4⟩
  ·simp at he
 |dead hd=>intro h h1 z W he hw;rw[hd h] at he;simp at he
 |@store m md a a' v v' k k' ha hv _ ih=>
  intro h h1 x W he hw
  cases ha with
  |@mk b b' o s hb=>
   have hva:∀c,v≠.agg c:=by rintro c rfl;simp[aB] at he
   have hvt:∀c,v≠.tuple c:=by rintro c rfl;simp[aB] at he
   have he2:∃c t fr g,h.open? ⟨b,o,s⟩ 1=some (c,t,fr,g)∧aB P k (h.put b ⟨.cells (c.setIfInBounds o v) t fr,g⟩)=some (x,h1):=by
    cases v<;>first|exact absurd rfl (hva _)|exact absurd rfl (hvt _)|(
     simp only[aB] at he
     split at he
     ·rename_i c t fr g hg;exact⟨c,t,fr,g,hg,he⟩
     ·simp at he)
   obtain⟨c,t,fr,g,ho,he3⟩:=he2
   obtain⟨hg,hs,hl,hf⟩:=zfU ho
   simp only at hg hs hl hf
   subst hs
   obtain⟨o',q1,q2⟩:=hw.at_ hb hg
   obtain⟨c',fr',rfl,q3,q4,q5,q6⟩:=q2.row
   have hl0:o<c.size:=by omega
   have hl':o<c'.size:=Nat.lt_of_lt_of_le hl0 q3.size
   have hp:=Snd.put hw hg hb (zfB (n:=b) (t:=t) (fr:=fr) (fr':=fr') (g:=g) (q3.set hv o) (by simpa using q4) (fun e=>by simpa using q5 e) (fun e=>by simpa using q6 e))
   obtain⟨m',z,W',r2,r3,r4⟩:=ih he3 hp.rel
   have hcell:W.cell? ⟨b',o,none⟩=some c'[o]:=by simp[World.cell?,q1,Array.getElem?_eq_getElem hl']
   have hfr:W.frozen? ⟨b',o,none⟩=false:=by
    have:=q4.clear hl' hf
    simp only[World.frozen?,q1];simpa using this
   refine⟨m',z,W',?_,r3,hp.trans hw r4⟩
   cases hv<;>first|exact absurd rfl (hva _)|exact absurd rfl (hvt _)|(simp only[Sem.run,hcell,hfr];rw[if_neg (by simp),oF q1];exact r2)
 |@frozen m a a' k k' ha _ ih=>
  intro h h1 x W he hw
  simp only[aB] at he
  split at he
  ·rename_i c t lo hi g hg
   split at he
   ·simp at he
   ·rename_i hc
    cases ha with
    |@mk b b' o s hb=>
     simp only at hg hc
     obtain⟨o',q1,q2⟩:=hw.at_ hb hg
     obtain⟨c',⟨lo',hi'⟩,rfl,q3,q4,q5,q6⟩:=q2.row
     obtain⟨m',y,W',r2,r3,r4⟩:=ih _ he hw
     refine⟨m',y,W',?_,r3,r4⟩
     simp only[Bool.or_eq_true,not_or] at hc
     have hl:o<c.size:=by have:=hc.1;simpa using this
     have hf:=q4.clear (Nat.lt_of_lt_of_le hl q3.size) (by have:=hc.2;simpa using this)
     have:W.frozen? ⟨b',o,s⟩=false:=by
      simp only[World.frozen?,q1];simpa using hf
     simp only[Sem.run,this];exact r2
  ·simp at he
 |@freeze m a a' n k k' ha _ ih=>
  intro h h1 x W he hw
  simp only[aB] at he
  split at he
  ·rename_i c t lo hi g hg
   cases ha with
   |@mk b b' o s hb=>
    simp only at hg he
    obtain⟨o',q1,q2⟩:=hw.at_ hb hg
    obtain⟨c',⟨lo',hi'⟩,rfl,q3,q4,q5,q6⟩:=q2.row
    by_cases hn:n=0
    ·subst hn
     simp only[if_true] at he
     obtain⟨m',y,W',r2,r3,r4⟩:=ih he hw
     exact⟨m',y,W',by simp only[Sem.run,World.freeze,if_true];exact r2,r3,r4⟩
    ·rw[if_neg hn] at he
     have hp:=Snd.put hw hg hb (zfB (n:=b) (t:=t) (g:=g) q3 (q4.freeze (i:=o) hn) q5 q6)
     obtain⟨m',y,W',r2,r3,r4⟩:=ih he hp.rel
     exact⟨m',y,W',by simp only[Sem.run];rw[mj q1 s hn];exact r2,r3,hp.trans hw r4⟩
  ·simp at he
 |@getObj m r r' k k' hr _ ih=>
  intro h h1 x W he hw
  simp only[aB] at he
  split at he
  ·simp at he
  ·rename_i o g hne hg
   obtain⟨o',q1,q2⟩:=hw.at_ hr hg
   cases q2 with
   |grow t _ _ _ _=>exact(hne _ _ _ rfl).elim
   |obj q2=>
    obtain⟨m',b,W',r2,r3,r4⟩:=ih o o' q2 he hw
    refine⟨m',b,W',?_,r3,r4⟩
    simp only[Sem.run,q1]
    cases q2 with
    |cells t fr _=>exact(hne _ _ _ rfl).elim
    |_=>exact r2
  ·simp at he
 |@setObj m r r' o o' k k' hr ho _ ih=>
  intro h h1 x W he hw
  cases hg:h.get r with
  |none=>simp[aB,hg] at he
  |some y=>
   obtain⟨y,g⟩:=y
   have hy:∀c t f,y≠.cells c t f:=by rintro c t f rfl;simp[aB,hg] at he
   have ho2:∀c t f,o≠.cells c t f:=by
    rintro c t f rfl;cases y<;>simp[aB,hg] at he
   have he':aB P k (h.put r ⟨o,false⟩)=some (x,h1):=by
    cases y<;>cases o<;>first|exact absurd rfl (hy _ _ _)|exact absurd rfl (ho2 _ _ _)|simpa[aB,hg] using he
   obtain⟨y',q1,q2⟩:=hw.at_ hr hg
   have hp:=Snd.put hw hg hr (.obj ho)
   obtain⟨m',z,W',r2,r3,r4⟩:=ih he' hp.rel
   refine⟨m',z,W',?_,r3,hp.trans hw r4⟩
   simp only[Sem.run,q1]
   cases q2 with
   |grow t _ _ _ _=>exact absurd rfl (hy _ _ _)
   |obj q2=>cases q2 with
    |cells t fr _=>exact absurd rfl (hy _ _ _)
    |_=>exact r2
end Go.Proofs.YtlbipokkdiiaiaaGreatDoor.Exec
