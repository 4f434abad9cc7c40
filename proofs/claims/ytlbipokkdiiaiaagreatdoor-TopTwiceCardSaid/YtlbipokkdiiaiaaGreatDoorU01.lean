/- Lemmas for TopTwice: ExecDef, ExecRel. -/
import Derived.Calls
namespace Go.Proofs.YtlbipokkdiiaiaaGreatDoor.Exec
noncomputable section
inductive Tr (α : Type) where
 | leaf
 | node (l : Tr α) (o : Option α) (r : Tr α)
def Tr.get {α : Type} (_f : Nat) (t : Tr α) : Nat → Option α :=
 Tr.rec (motive := fun _ => Nat → Option α) (fun _ => none) (fun _ o _ gl gr n => Nat.rec (motive := fun _ => Option α) o (fun n _ => bif Nat.beq (n % 2) 0 then gl (n / 2) else gr (n / 2)) n) t
def Tr.path {α : Type} (x : Option α) (f : Nat) : Nat → Tr α :=
 Nat.rec (motive := fun _ => Nat → Tr α) (fun _ => .leaf) (fun _ ih n => Nat.rec (motive := fun _ => Tr α) (.node .leaf x .leaf) (fun n _ => bif Nat.beq (n % 2) 0 then .node (ih (n / 2)) none .leaf else .node .leaf none (ih (n / 2))) n) f
def Tr.set {α : Type} (f : Nat) (t : Tr α) (n : Nat) (x : Option α) : Tr α :=
 Tr.rec (motive := fun _ => Nat → Tr α) (fun n => Tr.path x f n) (fun l o r sl sr n => Nat.rec (motive := fun _ => Tr α) (.node l x r) (fun n _ => bif Nat.beq (n % 2) 0 then .node (sl (n / 2)) o r else .node l o (sr (n / 2))) n) t n
structure AObj where
 o : Obj
 grow : Bool
structure H where
 t : Tr AObj
 next : Nat
 lim : Nat
def D : Nat := 24
def BIG : Nat := 1180591620717411303424
def H.get (h : H) (n : Nat) : Option AObj := if n < h.next then Tr.get D h.t n else none
def H.put (h : H) (n : Nat) (o : AObj) : H := { h with t := Tr.set D h.t n (some o) }
def H.kill (h : H) (n : Nat) : H := { h with t := Tr.set D h.t n none }
def H.push (h : H) (o : AObj) : H := { t := Tr.set D h.t h.next (some o), next := h.next + 1, lim := h.lim }
def H.cell? (h : H) (a : Addr) : Option Value :=
 match h.get a.block with
 | some ⟨.cells c _ _, _⟩ => if a.spot.isSome then none else c[a.off]?
 | _ => none
def H.open? (h : H) (a : Addr) (k : Nat) : Option (Array Value × TypeId × (Nat × Nat) × Bool) :=
 match h.get a.block with
 | some ⟨.cells c t (lo, hi), g⟩ =>
   if a.spot.isSome || !(decide (a.off + k ≤ c.size)) || (decide (lo < a.off + k) && decide (a.off < hi)) then none
   else some (c, t, (lo, hi), g)
 | _ => none
def ARun {α : Type} (P : Program) : Sem α → H → Option (α × H)
 | .pure a, h => some (a, h)
 | .load _ a k, h => match h.cell? a with
   | some v => ARun P (k v) h
   | none => none
 | .store _ a v k, h => match v with
   | .agg _ | .tuple _ => none
   | v => match h.open? a 1 with
     | some (c, t, fr, g) => ARun P k (h.put a.block ⟨.cells (c.setIfInBounds a.off v) t fr, g⟩)
     | _ => none
 | .new o k, h => if h.next < h.lim then ARun P (k h.next) (h.push ⟨o, false⟩) else none
 | .shape r k, h => match h.get r with
   | some ⟨.cells c t _, false⟩ => ARun P (k (some (t, c.size))) h
   | some ⟨.map .., _⟩ => ARun P (k none) h
   | _ => none
 | .freeze a n k, h => match h.get a.block with
   | some ⟨.cells c t (lo, hi), g⟩ => ARun P k (if n = 0 then h else h.put a.block ⟨.cells c t (if lo == hi then (a.off, a.off + n) else (min lo a.off, max hi (a.off + n))), g⟩)
   | _ => none
 | .frozen a k, h => match h.get a.block with
   | some ⟨.cells c _ (lo, hi), _⟩ => if !(decide (a.off < c.size)) || (decide (lo < a.off + 1) && decide (a.off < hi)) then none else ARun P (k false) h
   | _ => none
 | .getObj r k, h => match h.get r with
   | some ⟨.cells .., _⟩ => none
   | some ⟨o, _⟩ => ARun P (k o) h
   | none => none
 | .setObj r o k, h => match h.get r, o with
   | some ⟨.cells .., _⟩, _ => none
   | some _, .cells .. => none
   | some _, o => ARun P k (h.put r ⟨o, false⟩)
   | none, _ => none
 | .choose q k, h => if q.forced then ARun P (k 0) h else none
 | .program k, h => ARun P (k P) h
 | .mark _ k, h => ARun P k h
 | _, _ => none
def oneCell : Value → Bool
 | .agg _ | .tuple _ => false
 | _ => true
def aSrc (P : Program) (xT : TypeId) (size : Nat) (x : Value) (h : H) : Option (Nat × List Value) :=
 match x, P.underlying xT with
 | .slice none 0 _, some (.slice _) => some (0, [])
 | .slice (some a) n _, some (.slice _) => match ARun P (loadCells a (n * size)) h with
   | some (c, _) => if c.toList.all oneCell then some (n, c.toList) else none
   | none => none
 | .string s, some .string => if size == 1 then some (s.size, s.data.toList.map fun b => .int .u8 b.toNat) else none
 | _, _ => none
def aOld (P : Program) (base : Option Addr) (sLen size : Nat) (h : H) : Option (List Value) :=
 match base with
 | none => if sLen = 0 then some [] else none
 | some a => match ARun P (loadCells a (sLen * size)) h with
   | some (c, _) => some c.toList
   | none => none
def putCells (row : Array Value) (off : Nat) : List Value → Array Value
 | [] => row
 | v :: r => putCells (row.setIfInBounds off v) (off + 1) r
def elemInfo (P : Program) (t : TypeId) : Option (TypeId × TypeInfo) :=
 match P.underlying t with
 | some (.slice e) => (P.info? e).map fun i => (e, i)
 | _ => none
def fits (ei : TypeInfo) (need : Nat) : Bool := decide (1 ≤ ei.size) && decide (ei.size ≤ 64) && decide ((need + 1200) * ei.bytes * 8 ≤ 1099511627776) && decide (need < 1099511627776)
def aAppend (P : Program) (argTypes : Array TypeId) (args : Array Value) (h : H) : Option (Value × H) :=
 match argTypes.toList, args.toList with
 | [sT, xT], [.slice base sLen sCap, x] =>
   match elemInfo P sT with
   | some (elem, ei) =>
     match ei.zero, aSrc P xT ei.size x h with
     | some z, some (n, new) =>
       if !(z.cells.size == ei.size) || !fits ei (sLen + n) then none
       else if sCap < BIG then
        if sLen + n ≤ sCap then
         match base with
         | none => none
         | some a =>
           if !a.spot.isNone then none
           else if new.isEmpty then some (.slice base (sLen + n) sCap, h)
           else match h.open? (a.add (sLen * ei.size)) new.length with
           | some (c, t, fr, g) => some (.slice base (sLen + n) sCap, h.put a.block ⟨.cells (putCells c (a.off + sLen * ei.size) new) t fr, g⟩)
           | none => none
        else match aOld P base sLen ei.size h with
         | some old => if h.next < h.lim then some (.slice (some ⟨h.next, 0, none⟩) (sLen + n) (BIG + ei.size), h.push ⟨.cells (old ++ new).toArray elem, true⟩) else none
         | none => none
       else match base with
        | some ⟨b, 0, none⟩ =>
          if !(sCap == BIG + ei.size) then none
          else if new.isEmpty then (if n = 0 then some (.slice base sLen sCap, h) else none)
          else match h.get b with
          | some ⟨.cells c t fr, true⟩ =>
            if decide (sLen * ei.size ≤ c.size) && t == elem && (fr.1 == fr.2 || decide (fr.2 ≤ sLen * ei.size) || decide (BIG ≤ fr.1)) && decide (h.next < h.lim) then
             some (.slice (some ⟨h.next, 0, none⟩) (sLen + n) sCap, (h.kill b).push ⟨.cells (c.toList.take (sLen * ei.size) ++ new).toArray t fr, true⟩)
            else none
          | _ => none
        | _ => none
     | _, _ => none
   | none => none
 | _, _ => none
def ix? (x : Option Value) (d : Nat) : Option Nat :=
 match x with
 | none => some d
 | some (.int _ (.ofNat n)) => some n
 | _ => none
def aSlice (P : Program) (t : TypeId) (a : Addr) (len cap : Nat) (lo hi mx : Option Value) : Option Value :=
 match elemInfo P t, ix? lo 0, ix? hi len with
 | some (_, ei), some l, some u =>
   if !(cap == BIG + ei.size) || !(decide (l ≤ u)) || !(decide (u ≤ len)) || !(l == 0 || decide (l < len)) then none else
   match mx with
   | none => some (.slice (some (a.add (l * ei.size))) (u - l) cap)
   | some (.int _ (.ofNat m)) => if hi.isSome && decide (m < BIG) && decide (u ≤ m) && decide (m ≤ len) && (l == 0 || decide (l < m)) then some (.slice (some (a.add (l * ei.size))) (u - l) (m - l)) else none
   | _ => none
 | _, _, _ => none
def aBytes (P : Program) (elem : TypeId) (s : ByteArray) (h : H) : Option (Value × H) :=
 match P.underlying elem, P.info? elem with
 | some (.int .u8), some ei =>
   if ei.size == 1 && h.next < h.lim && s.size < 1099511627776 then
    some (.slice (some ⟨h.next, 0, none⟩) s.size (BIG + 1), h.push ⟨.cells (s.data.map fun b => .int .u8 b.toNat) elem (BIG, BIG + 1), true⟩)
   else none
 | _, _ => none
def aUnsafeString (P : Program) (argTypes : Array TypeId) (args : Array Value) (h : H) : Option (Value × H) :=
 match argTypes[0]?, args.toList with
 | some pT, [.pointer p, .int _ (.ofNat n)] =>
   if n = 0 then some (.string .empty, h) else
   match p, P.underlying pT with
   | some a, some (.pointer e) =>
     if n < 1099511627776 && (P.cellsOf e == 1) && a.spot.isNone then
      match h.get a.block with
      | some ⟨.cells c t (lo, hi), g⟩ =>
        if t == e && a.off == 0 && decide (a.off + n ≤ c.size) then
         match ARun P (loadBytes a .empty n) h with
         | some (s, _) => some (.string s, h.put a.block ⟨.cells c t (if lo == hi then (a.off, a.off + n) else (min lo a.off, max hi (a.off + n))), g⟩)
         | none => none
        else none
      | _ => none
     else none
   | _, _ => none
 | _, _ => none
def aSliceData (args : Array Value) : Option Value :=
 match args.toList with
 | [.slice none _ _] => some (.pointer none)
 | [.slice (some a) l c] => if (decide (c < BIG) && decide (0 < c)) || (decide (BIG ≤ c) && decide (0 < l)) then some (.pointer (some a)) else none
 | _ => none
def aUnsafe (P : Program) (src dst : TypeDesc) (x : Value) (h : H) : Option Value :=
 match x with
 | .pointer (some a) =>
   match h.get a.block with
   | some ⟨.cells c e _, false⟩ =>
     if a.spot.isNone && decide (a.off < c.size) then
      match src, dst with
      | .pointer t, .unsafePointer => if (P.info? t).any fun i => i.size != 0 then some x else none
      | .unsafePointer, .pointer u => if (P.info? u).isSome && liesAt P P.depth e (c.size / P.cellsOf e) a.off u 1 then some x else none
      | _, _ => none
     else none
   | _ => none
 | _ => none
def aExtern (P : Program) (fn : Func) (args : Array Value) (h : H) : Option (Value × H) :=
 if fn.origin == "" then
  match args.toList with
  | [x] => if fn.name == "internal/abi.NoEscape" then some (x, h) else none
  | [.string _, .int _ _] => if fn.name == "internal/bytealg.IndexByteString" then ARun P (Extern.BytealgIndexByte.indexByte args) h
    else if fn.name == "internal/bytealg.CountString" then ARun P (Extern.BytealgCount.count args) h else none
  | [.string _, .string _] => if fn.name == "internal/bytealg.abigen_runtime_cmpstring" then ARun P (Extern.BytealgCompare.compare args) h else none
  | _ => none
 else none
def sameInts : List Value → List Value → Option Bool
 | [], [] => some true
 | .int k a :: x, .int j b :: y => if k = j then (sameInts x y).map fun r => a == b && r else none
 | _, _ => none
def aPart (P : Program) (t : TypeId) (c : Array Value) (off : Nat) : Option Value :=
 match P.underlying t, P.info? t with
 | some (.struct _), some i | some (.array _ _), some i => some (.agg (c.extract off (off + i.size)))
 | some _, some _ => c[off]?
 | _, _ => none
def aEqFields (P : Program) (eq : TypeId → Value → Value → Option Bool) (c d : Array Value) : List Field → Option Bool
 | [] => some true
 | f :: r => if f.name = "_" then aEqFields P eq c d r else
   match aPart P f.type c f.offset, aPart P f.type d f.offset with
   | some x, some y => match eq f.type x y with
     | some true => aEqFields P eq c d r
     | some false => some false
     | none => none
   | _, _ => none
def aEqual (P : Program) : Nat → TypeId → Value → Value → Option Bool
 | 0, _, _, _ => none
 | d + 1, t, x, y => match P.underlying t, x, y with
   | some (.int _), .int k a, .int j b => if k = j then some (a == b) else none
   | some .string, .string a, .string b => some (a == b)
   | some .bool, .bool a, .bool b => some (a == b)
   | some (.array n e), .agg c, .agg d => match P.underlying e, P.info? e with
     | some (.int _), some ei => if ei.size == 1 && c.size == n && d.size == n then sameInts c.toList d.toList else none
     | _, _ => none
   | some (.struct fs), .agg c, .agg c' => if P.stoodInHeld t then none else aEqFields P (aEqual P d) c c' fs.toList
   | _, _, _ => none
def aKey (P : Program) (t : TypeId) (k : Value) : Bool :=
 match P.underlying t, k with
 | some (.int _), .int .. | some .string, .string _ => true
 | some (.array n e), .agg c => match P.underlying e, P.info? e with
   | some (.int _), some ei => ei.size == 1 && c.size == n
   | _, _ => false
 | _, _ => false
def aFind (P : Program) (key : TypeId) (k : Value) : List MapEntry → Nat → Option (Option (Nat × Value))
 | [], _ => some none
 | e :: es, i => match aEqual P 4 key k e.key with
   | some true => some (some (i, e.val))
   | some false => aFind P key k es (i + 1)
   | none => none
def aLookup (P : Program) (t : TypeId) (x k : Value) (ok : Bool) (h : H) : Option Value :=
 match P.underlying t with
 | some (.map key elem) =>
   match (match x with
    | .map none => some #[]
    | .map (some r) => match h.get r with
      | some ⟨.map es _, _⟩ => some es
      | _ => none
    | _ => none : Option (Array MapEntry)) with
   | some es => if aKey P key k then
     match aFind P key k es.toList 0 with
     | some (some (_, v)) => some (if ok then .tuple #[v, .bool true] else v)
     | some none => match (P.info? elem).bind (·.zero) with
       | some z => some (if ok then .tuple #[z, .bool false] else z)
       | none => none
     | none => none
     else none
   | none => none
 | _ => none
def aUpdate (P : Program) (t : TypeId) (x k v : Value) (h : H) : Option H :=
 match P.underlying t, x with
 | some (.map key _), .map (some r) => match h.get r with
   | some ⟨.map es clock, _⟩ => if aKey P key k then
     match aFind P key k es.toList 0 with
     | some (some (i, _)) => match es[i]? with
       | some e => if Instr.sameBits 10000 e.key k then some (h.put r ⟨.map (es.modify i fun e => { e with key := k, val := v }) clock, false⟩) else none
       | none => none
     | some none => some (h.put r ⟨.map (es.push { key := k, val := v, born := clock }) (clock + 1), false⟩)
     | none => none
     else none
   | _ => none
 | _, _ => none
def fieldOk (P : Program) (s : TypeId) (f : Nat) : Bool :=
 match P.underlying s with
 | some (.struct fields) => match fields[f]? with
   | some f => (P.info? f.type).any fun i => i.size != 0
   | none => false
 | _ => false
def pair (x y : Value) : Bool :=
 match x, y with
 | .int .., .int .. | .string _, .string _ | .bool _, .bool _ => true
 | .pointer none, .pointer _ | .pointer _, .pointer none => true
 | .pointer (some a), .pointer (some b) => a.block == b.block
 | .slice none _ _, .slice .. | .slice .., .slice none _ _ => true
 | .map none, .map _ | .map _, .map none => true
 | .nilFunc, .nilFunc | .nilFunc, .func .. | .func .., .nilFunc => true
 | .nilIface, .iface .. | .iface .., .nilIface | .nilIface, .nilIface => true
 | _, _ => false
def ptrs (P : Program) (t : TypeId) (x y : Value) : Bool :=
 match x, y with
 | .pointer (some _), .pointer (some _) => (match P.underlying t with
   | some (.pointer _) => true
   | _ => false)
 | _, _ => true
def plainOp (b : BinOp) (x y : Value) : Bool :=
 match x, y with
 | .int .., .int .. | .string _, .string _ => true
 | _, _ => (match b with
   | .eql | .neq => true
   | _ => false)
def aNextMap (it : Value) (h : H) : Option (Value × H) :=
 match it with
 | .pointer (some ⟨r, 0, none⟩) => match h.get r with
   | some ⟨.mapIter none _ _ _, _⟩ => some (.tuple #[.bool false], h)
   | some ⟨.mapIter (some mm) since seen last, _⟩ => match h.get mm with
     | some ⟨.map es clock, _⟩ => match es.toList with
       | [] => some (.tuple #[.bool false], h)
       | [e] =>
         if seen.contains e.born then (if e.born < last then some (.tuple #[.bool false], h) else none)
         else if (seen.isEmpty || decide (e.born < last)) && decide (e.born < since) then some (.tuple #[.bool true, e.key, e.val], h.put r ⟨.mapIter (some mm) since (seen.push e.born) clock, false⟩)
         else none
       | _ => none
     | _ => none
   | _ => none
 | _ => none
def aEntry (it : Value) (h : H) : Option Value :=
 match it with
 | .pointer (some ⟨r, 0, none⟩) => match h.get r with
   | some ⟨.mapIter (some mm) _ seen stepped, _⟩ => match seen.back?, h.get mm with
     | some stamp, some ⟨.map es clock, _⟩ => match es.toList with
       | [e] => if clock == stepped && e.born == stamp then some (.tuple #[e.key, e.val]) else none
       | _ => none
     | _, _ => none
   | _ => none
 | _ => none
def aCall (P : Program) (g : Value) (args : Array Value) (h : H) : Option (Next × H) :=
 match g with
 | .func (.func f) first captured => match P.funcs[f]? with
   | some fn => match fn.body with
     | some _ => some (.enter f ((first ++ args) ++ captured), h)
     | none => (aExtern P fn ((first ++ args) ++ captured) h).map fun (x, h) => (.value x, h)
   | none => none
 | .func (.yield l) first _ => match h.get l with
   | some ⟨.loop r, _⟩ => if (first ++ args).size = r.params.size then some (.round l 0 ((r.params.zip (first ++ args)).foldl (fun tmps (t, a) => tmps.setIfInBounds t a) r.tmps) r.assign r.body, h) else none
   | _ => none
 | _ => none
def aInvoke (P : Program) (r : Value) (name : String) (args : Array Value) (h : H) : Option (Next × H) :=
 match r with
 | .iface t v => match P.info? t with
   | some i => match i.methods.find? (·.name == name) with
     | some me => match me.path.isEmpty, me.func, P.underlying t with
       | true, some (f, true), some (.pointer _) => (match P.funcs[f]? with
         | some fn => if fn.body.isSome then some (.enter f (#[v] ++ args), h) else none
         | none => none)
       | _, _, _ => none
     | none => none
   | none => none
 | _ => none
def isBytes (P : Program) (e : TypeId) : Bool :=
 match P.underlying e with
 | some (.int .u8) => true
 | _ => false
def aop (P : Program) (ρ : Operand → Value) (o : Oper) (h : H) : Option (Next × H) :=
 let v (r : Option (Value × H)) : Option (Next × H) := r.map fun (x, h) => (.value x, h)
 let run := ARun P (execOp ρ o) h
 match o.op with
 | .call c => match c.callee with
   | .builtin .append => v (aAppend P c.argTypes (c.args.map ρ) h)
   | .builtin .unsafeString => v (aUnsafeString P c.argTypes (c.args.map ρ) h)
   | .builtin .unsafeSliceData => v ((aSliceData (c.args.map ρ)).map fun x => (x, h))
   | .builtin .len => run
   | .builtin .min => match c.args.toList.map ρ with
     | [.int k x, .int _ y] => some (.value (.int k (if y < x then y else x)), h)
     | _ => none
   | .builtin .max => match c.args.toList.map ρ with
     | [.int k x, .int _ y] => some (.value (.int k (if y > x then y else x)), h)
     | _ => none
   | .builtin _ => none
   | .value g => aCall P (ρ g) (c.args.map ρ) h
   | .invoke r name => aInvoke P (ρ r) name (c.args.map ρ) h
 | .convert src dst x => match P.underlying src, P.underlying dst, ρ x with
   | some _, some (.int k), .int _ n => v (some (.int k (k.wrap n), h))
   | some _, some .string, .int _ n => v (some (.string (Utf8.encode n), h))
   | some _, some .string, .string s => v (some (.string s, h))
   | some .string, some (.slice e), .string s => v (aBytes P e s h)
   | some (.slice e), some .string, .slice none _ _ => if isBytes P e then v (some (.string .empty, h)) else none
   | some (.slice e), some .string, .slice (some a) n _ => if isBytes P e then
     match ARun P (loadBytes a .empty n) h with
     | some (s, _) => v (some (.string s, h))
     | none => none
     else none
   | some .unsafePointer, some (.pointer u), y => v ((aUnsafe P .unsafePointer (.pointer u) y h).map fun x => (x, h))
   | some (.pointer t), some .unsafePointer, y => v ((aUnsafe P (.pointer t) .unsafePointer y h).map fun x => (x, h))
   | _, _, _ => none
 | .slice t x lo hi mx => match ρ x with
   | .slice (some a) l c => if c < BIG then run else v ((aSlice P t a l c (lo.map ρ) (hi.map ρ) (mx.map ρ)).map fun x => (x, h))
   | .slice .. | .string _ => run
   | _ => none
 | .binOp b t x y _ => match b, ρ x, ρ y with
   | .eql, .agg c, .agg d => if P.eqGuardType P.depth t then none else v ((aEqual P 4 t (.agg c) (.agg d)).map fun r => (.bool r, h))
   | .neq, .agg c, .agg d => if P.eqGuardType P.depth t then none else v ((aEqual P 4 t (.agg c) (.agg d)).map fun r => (.bool (!r), h))
   | b, x, y => if pair x y && ptrs P t x y && plainOp b x y then run else none
 | .lookup t x k ok => v ((aLookup P t (ρ x) (ρ k) ok h).map fun x => (x, h))
 | .mapUpdate t x k y => (aUpdate P t (ρ x) (ρ k) (ρ y) h).map fun h => (.skip, h)
 | .nilCheck x => match ρ x with
   | .pointer (some a) => some (.value (.pointer (some a)), h)
   | .func (.func f) y z => some (.value (.func (.func f) y z), h)
   | .iface t y => some (.value (.iface t y), h)
   | .func (.yield l) y z => some (.value (.func (.yield l) y z), h)
   | _ => none
 | .fieldAddr t _ f => if fieldOk P t f then run else none
 | .unOp _ _ x => match ρ x with
   | .int .. | .bool _ => run
   | _ => none
 | .buildSlice _ n _ => if n < BIG then run else none
 | .makeFunc (.func _) _ _ => run
 | .move _ | .assign _ | .pick .. | .alloc _ | .box .. | .build .. | .load .. | .store .. | .makeMap .. | .makeSlice ..
 | .field .. | .indexAddr .. | .index .. | .range .. | .extract .. | .makeInterface .. => run
 | .next it s => if s then run else v (aNextMap (ρ it) h)
 | .entry it => v ((aEntry (ρ it) h).map fun x => (x, h))
 | _ => none
def scal : Value → Bool
 | .bool _ | .int .. | .float .. | .complex .. | .string _ | .nilFunc | .nilIface | .pointer none | .map none => true
 | .slice none _ c => decide (c < BIG)
 | _ => false
def flat : Value → Bool
 | .agg c => c.toList.all scal
 | .tuple c => c.toList.all scal
 | .iface _ v => scal v
 | .func (.func _) f c => f.isEmpty && c.isEmpty
 | v => scal v
def okOperand : Operand → Bool
 | .const v => flat v
 | .global _ => false
 | _ => true
inductive AEx where
 | normal | exit (id : Nat) | ret
structure T where
 t : Tr Value
 n : Nat
 round : Option Nat
 marks : List Nat
def T.get (t : T) (i : Nat) : Value := match Tr.get D t.t i with | some v => v | none => undef
def T.eval (t : T) : Operand → Value
 | .tmp i => t.get i
 | .const v => v
 | .global g => .pointer (some ⟨g, 0, none⟩)
 | .func f => .func (.func f) #[] #[]
def T.put (t : T) (d : Option Tmp) (v : Value) : T := match d with
 | some d => if d < t.n then { t with t := Tr.set D t.t d (some v) } else t
 | none => t
def fillT : Nat → Tr Value → List Value → Tr Value
 | _, t, [] => t
 | i, t, v :: r => fillT (i + 1) (Tr.set D t i (some v)) r
def T.enter (args : Array Value) (n : Nat) : T := { t := fillT 0 .leaf args.toList, n := n, round := none, marks := [] }
def wantedT (ops : Array Oper) (t : T) (o : Oper) : Bool :=
 match o.guard with
 | none => true
 | some (j, want) => match (ops[j]?).bind (·.dst) with
   | some d => if d < t.n then (match t.get d with | .bool b => b == want | _ => false) else false
   | none => false
inductive Task where
 | code (c : Code) (t : T)
 | call (f : FuncId) (args : Array Value)
inductive Res where
 | code (e : AEx) (t : T)
 | val (v : Value)
abbrev Rec := Task → H → Option (Res × H)
abbrev Hook := FuncId → Array Value → H → Option (Option (Value × H))
def aNext (hk : Hook) (P : Program) (rec : Rec) (h : H) : Next → Option (Value × H)
 | .value v => some (v, h)
 | .skip => some (undef, h)
 | .enter f args => match hk f args h with
   | some r => r
   | none => match rec (.call f args) h with
     | some (.val v, h) => some (v, h)
     | _ => none
 | .round l _ tmps assign body =>
   if 10000 ≤ tmps.size then none else
   match rec (.code assign { t := fillT 0 .leaf tmps.toList, n := tmps.size, round := some l, marks := [] }) h with
   | some (.code .normal t, h) =>
     match t.marks, ARun P (Instr.beginRound l) h with
     | [], some (_, h) => match rec (.code body t) h with
       | some (.code e t, h) => match t.marks with
         | [] => (ARun P (Instr.endRound l (match e with | .normal => none | .exit id => some (.exit id) | .ret => some .ret)) h)
         | _ => none
       | _ => none
     | _, _ => none
   | _ => none
 | _ => none
def aoper (hk : Hook) (P : Program) (rec : Rec) (ops : Array Oper) (o : Oper) (t : T) (h : H) : Option (T × H) :=
 if wantedT ops t o then
  match (if o.op.operands.toList.all okOperand then aop P t.eval o h else none) with
  | some (nx, h) => match aNext hk P rec h nx with
    | some (v, h) => some (t.put o.dst v, h)
    | none => none
  | none => none
 else some (t.put o.dst undef, h)
def aops (hk : Hook) (P : Program) (rec : Rec) (ops : Array Oper) : List Oper → T → H → Option (T × H)
 | [], t, h => some (t, h)
 | o :: r, t, h => match aoper hk P rec ops o t h with
   | some (t, h) => aops hk P rec ops r t h
   | none => none
def aresults (P : Program) (t : T) (h : H) : List ResultVar → Option (List Value)
 | [] => some []
 | .tmp i :: r => match aresults P t h r with
   | some l => some (t.get i :: l)
   | none => none
 | .cell a ty :: r => match t.get a with
   | .pointer (some x) => match ARun P (loadVar ty x) h, aresults P t h r with
     | some (v, _), some l => some (v :: l)
     | _, _ => none
   | _ => none
def oneOf : List Value → Value
 | [v] => v
 | l => .tuple l.toArray
def aleave : List Nat → H → Option H
 | [], h => some h
 | r :: l, h => match h.get r with
   | some ⟨.deferred (some []), _⟩ => aleave l (h.put r ⟨.deferred none, false⟩)
   | _ => none
def exec (hk : Hook) (P : Program) (region : Rec → Array Oper → T → H → Option (T × H)) (rec : Rec) : Rec
 | .call f args, h => match P.funcs[f]? with
   | some fn => match fn.body with
     | some c => if !(decide (args.size ≤ fn.ntmps)) || !(decide (fn.ntmps < 10000)) then none else match rec (.code c (T.enter args fn.ntmps)) h with
       | some (.code e t, h) => match e with
         | .exit _ => none
         | _ => match aleave t.marks h with
           | some h => match aresults P t h fn.results.toList with
             | some l => some (.val (oneOf l), h)
             | none => none
           | none => none
       | _ => none
     | none => none
   | none => none
 | .code c t, h => match c with
   | .skip => some (.code .normal t, h)
   | .label _ => some (.code .normal t, h)
   | .scope b => rec (.code b t) h
   | .exit id => some (.code (.exit id) t, h)
   | .ret => some (.code .ret t, h)
   | .seq a b => match rec (.code a t) h with
     | some (.code .normal t, h) => rec (.code b t) h
     | r => r
   | .cond c a b => match t.eval c with
     | .bool true => rec (.code a t) h
     | .bool false => rec (.code b t) h
     | _ => none
   | .block id b => match rec (.code b t) h with
     | some (.code (.exit id') t, h) => if id' = id then some (.code .normal t, h) else some (.code (.exit id') t, h)
     | r => r
   | .loop b => match rec (.code b t) h with
     | some (.code .normal t, h) => rec (.code (.loop b) t) h
     | r => r
   | .region _ ops draw =>
     match (if draw then region rec ops t h else aops hk P rec ops ops.toList t h) with
     | some (t, h) => some (.code .normal t, h)
     | none => none
   | .rangeFunc g ps assign body =>
     match ARun P (Instr.enterLoop 0 (((List.range t.n).map t.get).toArray) ps assign body t.round) h with
     | some ((l, mark), h) =>
       match (if okOperand g then t.eval g else .nilFunc) with
       | .func (.func f) first captured => if !((P.funcs[f]?).any fun fn => fn.body.isSome) then none else match rec (.call f ((first ++ #[.func (.yield l) #[] #[]]) ++ captured)) h with
         | some (.val _, h) => match ARun P (Instr.endLoop l) h with
           | some (j, h) =>
             let t : T := { t with marks := (mark.filterMap fun d => match d.target with | .collected r => some r | _ => none) ++ t.marks }
             match j with
             | none => some (.code .normal t, h)
             | some (.exit id) => some (.code (.exit id) t, h)
             | some .ret => some (.code .ret t, h)
             | _ => none
           | none => none
         | _ => none
       | _ => none
     | none => none
   | _ => none
def go (hk : Hook) (P : Program) (region : Rec → Array Oper → T → H → Option (T × H)) (n : Nat) : Rec :=
 Nat.rec (fun _ _ => none) (fun _ ih => exec hk P region ih) n
end
end Go.Proofs.YtlbipokkdiiaiaaGreatDoor.Exec
namespace Go.Proofs.YtlbipokkdiiaiaaGreatDoor.Exec
structure Bij where
 r : Nat → Nat → Prop
 gr : Nat → Nat
 fn : ∀ {a b c}, r a b → r a c → b = c
instance : LE Bij := ⟨fun m m' => ∀ a b, m.r a b → m'.r a b ∧ m'.gr a = m.gr a⟩
theorem Bij.le_refl (m : Bij) : m ≤ m := fun _ _ h => ⟨h, rfl⟩
theorem Bij.le_trans {a b c : Bij} (h : a ≤ b) (k : b ≤ c) : a ≤ c := fun x y hx => ⟨(k x y (h x y hx).1).1, (k x y (h x y hx).1).2.trans (h x y hx).2⟩
inductive ARel (m : Bij) : Addr → Addr → Prop
 | mk {b b' o : Nat} {s : Option Nat} : m.r b b' → ARel m ⟨b, o, s⟩ ⟨b', o, s⟩
inductive OptRel {α β : Type} (R : α → β → Prop) : Option α → Option β → Prop
 | none : OptRel R none none
 | some {a : α} {b : β} : R a b → OptRel R (some a) (some b)
inductive FnRel (m : Bij) : Fn → Fn → Prop
 | func (f : FuncId) : FnRel m (.func f) (.func f)
 | method (s : String) : FnRel m (.method s) (.method s)
 | methodOf (t : TypeId) (s : String) : FnRel m (.methodOf t s) (.methodOf t s)
 | via (t : TypeId) (p : Array FieldStep) (f : FuncId) (b : Bool) : FnRel m (.via t p f b) (.via t p f b)
 | yield {l l' : Nat} : m.r l l' → FnRel m (.yield l) (.yield l')
inductive VRel (m : Bij) : Value → Value → Prop
 | bool (b : Bool) : VRel m (.bool b) (.bool b)
 | int (k : IntKind) (n : Int) : VRel m (.int k n) (.int k n)
 | float (k : FloatKind) (b : Nat) : VRel m (.float k b) (.float k b)
 | complex (k : FloatKind) (a b : Nat) : VRel m (.complex k a b) (.complex k a b)
 | string (s : ByteArray) : VRel m (.string s) (.string s)
 | pointer {a a' : Option Addr} : OptRel (ARel m) a a' → VRel m (.pointer a) (.pointer a')
 | slice {a a' : Option Addr} (l c : Nat) : c < BIG → OptRel (ARel m) a a' → VRel m (.slice a l c) (.slice a' l c)
 | sliceU {b b' o : Nat} (l c e : Nat) : m.r b b' → l ≤ c → 1 ≤ e → o + c * e ≤ m.gr b → VRel m (.slice (some ⟨b, o, none⟩) l (BIG + e)) (.slice (some ⟨b', o, none⟩) l c)
 | map {r r' : Option Nat} : OptRel m.r r r' → VRel m (.map r) (.map r')
 | func {f f' : Fn} {x x' c c' : Array Value} : FnRel m f f' → x.size = x'.size → (∀ i (h : i < x.size) (h' : i < x'.size), VRel m x[i] x'[i]) →
   c.size = c'.size → (∀ i (h : i < c.size) (h' : i < c'.size), VRel m c[i] c'[i]) → VRel m (.func f x c) (.func f' x' c')
 | chan : VRel m (.chan none) (.chan none)
 | nilFunc : VRel m .nilFunc .nilFunc
 | iface (t : TypeId) {v v' : Value} : VRel m v v' → VRel m (.iface t v) (.iface t v')
 | nilIface : VRel m .nilIface .nilIface
 | agg {c c' : Array Value} : c.size = c'.size → (∀ i (h : i < c.size) (h' : i < c'.size), VRel m c[i] c'[i]) → VRel m (.agg c) (.agg c')
 | tuple {c c' : Array Value} : c.size = c'.size → (∀ i (h : i < c.size) (h' : i < c'.size), VRel m c[i] c'[i]) → VRel m (.tuple c) (.tuple c')
structure RowRel (m : Bij) (c c' : Array Value) : Prop where
 size : c.size = c'.size
 at_ : ∀ i (h : i < c.size) (h' : i < c'.size), VRel m c[i] c'[i]
theorem ARel.mono {m m' : Bij} (h : m ≤ m') {a a' : Addr} : ARel m a a' → ARel m' a a'
 | .mk k => .mk (h _ _ k).1
theorem OptRel.mono {α β : Type} {R S : α → β → Prop} (h : ∀ a b, R a b → S a b) {a : Option α} {b : Option β} : OptRel R a b → OptRel S a b
 | .none => .none
 | .some k => .some (h _ _ k)
theorem FnRel.mono {m m' : Bij} (h : m ≤ m') {f f' : Fn} : FnRel m f f' → FnRel m' f f'
 | .func f => .func f
 | .method s => .method s
 | .methodOf t s => .methodOf t s
 | .via t p f b => .via t p f b
 | .yield k => .yield (h _ _ k).1
theorem VRel.mono {m m' : Bij} (h : m ≤ m') {v v' : Value} (k : VRel m v v') : VRel m' v v' := by
 induction k with
 | bool b => exact .bool b
 | int k n => exact .int k n
 | float k b => exact .float k b
 | complex k a b => exact .complex k a b
 | string s => exact .string s
 | pointer k => exact .pointer (k.mono fun _ _ => ARel.mono h)
 | slice l c hc k => exact .slice l c hc (k.mono fun _ _ => ARel.mono h)
 | sliceU l c e k h1 h2 h3 => exact .sliceU l c e (h _ _ k).1 h1 h2 (by rw [(h _ _ k).2]; exact h3)
 | map k => exact .map (k.mono fun _ _ k => (h _ _ k).1)
 | func hf hs _ hc _ ih1 ih2 => exact .func (hf.mono h) hs ih1 hc ih2
 | chan => exact .chan
 | nilFunc => exact .nilFunc
 | iface t _ ih => exact .iface t ih
 | nilIface => exact .nilIface
 | agg hs _ ih => exact .agg hs ih
 | tuple hs _ ih => exact .tuple hs ih
theorem RowRel.mono {m m' : Bij} (h : m ≤ m') {c c' : Array Value} (k : RowRel m c c') : RowRel m' c c' := ⟨k.size, fun i a b => (k.at_ i a b).mono h⟩
structure EntryRel (m : Bij) (e e' : MapEntry) : Prop where
 key : VRel m e.key e'.key
 val : VRel m e.val e'.val
 born : e.born = e'.born
def FrRel (n : Nat) (f f' : Nat × Nat) : Prop := (f.1 = f.2 → f'.1 = f'.2) ∧ (f'.1 ≠ f'.2 → (f.1 ≤ f'.1 ∨ n ≤ f'.1) ∧ f'.2 ≤ f.2)
structure HeadRel (m : Bij) (c c' : Array Value) : Prop where
 size : c.size ≤ c'.size
 at_ : ∀ i (h : i < c.size) (h' : i < c'.size), VRel m c[i] c'[i]
inductive ORel (m : Bij) : Obj → Obj → Prop
 | cells {c c' : Array Value} {fr fr' : Nat × Nat} (t : TypeId) : FrRel c'.size fr fr' → RowRel m c c' → ORel m (.cells c t fr) (.cells c' t fr')
 | map {e e' : Array MapEntry} (n : Nat) : e.size = e'.size → (∀ i (h : i < e.size) (h' : i < e'.size), EntryRel m e[i] e'[i]) → ORel m (.map e n) (.map e' n)
 | stringIter (s : ByteArray) (p : Nat) : ORel m (.stringIter s p) (.stringIter s p)
 | mapIter {r r' : Option Nat} (a : Nat) (b : Array Nat) (c : Nat) : OptRel m.r r r' → ORel m (.mapIter r a b c) (.mapIter r' a b c)
 | loop {l l' : Loop} : l.state = l'.state → l.pending = l'.pending → RowRel m l.tmps l'.tmps → l.params = l'.params → l.assign = l'.assign → l.body = l'.body →
   m.r l.defers l'.defers → ORel m (.loop l) (.loop l')
 | deferred : ORel m (.deferred (some [])) (.deferred (some []))
 | taken : ORel m (.deferred none) (.deferred none)
inductive NRel (m : Bij) (n : Nat) : AObj → Obj → Prop
 | obj {o o' : Obj} : ORel m o o' → NRel m n ⟨o, false⟩ o'
 | grow {c c' : Array Value} {fr fr' : Nat × Nat} (t : TypeId) : FrRel c'.size fr fr' → HeadRel m c c' → c'.size = m.gr n → c'.size < BIG → NRel m n ⟨.cells c t fr, true⟩ (.cells c' t fr')
inductive SRel (P : Program) {α β : Type} (R : Bij → α → β → Prop) : Bij → Sem α → Sem β → Prop
 | pure {m : Bij} {a : α} {b : β} : R m a b → SRel P R m (.pure a) (.pure b)
 | load {m : Bij} (md : Mode) {a a' : Addr} {k : Value → Sem α} {k' : Value → Sem β} : ARel m a a' → (∀ v v', VRel m v v' → SRel P R m (k v) (k' v')) →
   SRel P R m (.load md a k) (.load md a' k')
 | store {m : Bij} (md : Mode) {a a' : Addr} {v v' : Value} {k : Sem α} {k' : Sem β} : ARel m a a' → VRel m v v' → SRel P R m k k' → SRel P R m (.store md a v k) (.store md a' v' k')
 | new {m : Bij} {o o' : Obj} {k : Nat → Sem α} {k' : Nat → Sem β} : ORel m o o' → (∀ m' r r', m ≤ m' → m'.r r r' → SRel P R m' (k r) (k' r')) → SRel P R m (.new o k) (.new o' k')
 | shape {m : Bij} {r r' : Nat} {k : Option (TypeId × Nat) → Sem α} {k' : Option (TypeId × Nat) → Sem β} : m.r r r' → (∀ s, SRel P R m (k s) (k' s)) → SRel P R m (.shape r k) (.shape r' k')
 | freeze {m : Bij} {a a' : Addr} (n : Nat) {k : Sem α} {k' : Sem β} : ARel m a a' → SRel P R m k k' → SRel P R m (.freeze a n k) (.freeze a' n k')
 | choose {m : Bij} {q : Question} {k : Nat → Sem α} {k' : Nat → Sem β} : (q.forced = true → SRel P R m (k 0) (k' 0)) → SRel P R m (.choose q k) (.choose q k')
 | frozen {m : Bij} {a a' : Addr} {k : Bool → Sem α} {k' : Bool → Sem β} : ARel m a a' → (∀ b, SRel P R m (k b) (k' b)) → SRel P R m (.frozen a k) (.frozen a' k')
 | getObj {m : Bij} {r r' : Nat} {k : Obj → Sem α} {k' : Obj → Sem β} : m.r r r' → (∀ o o', ORel m o o' → SRel P R m (k o) (k' o')) → SRel P R m (.getObj r k) (.getObj r' k')
 | setObj {m : Bij} {r r' : Nat} {o o' : Obj} {k : Sem α} {k' : Sem β} : m.r r r' → ORel m o o' → SRel P R m k k' → SRel P R m (.setObj r o k) (.setObj r' o' k')
 | program {m : Bij} {k : Program → Sem α} {k' : Program → Sem β} : SRel P R m (k P) (k' P) → SRel P R m (.program k) (.program k')
 | mark {m : Bij} {x y : Mark} {k : Sem α} {k' : Sem β} : SRel P R m k k' → SRel P R m (.mark x k) (.mark y k')
 | dead {m : Bij} {s : Sem α} {s' : Sem β} : (∀ h, ARun P s h = none) → SRel P R m s s'
theorem SRel.halt {P : Program} {α β : Type} {R : Bij → α → β → Prop} {m : Bij} {h : Halt} {s : Sem β} : SRel P R m (.halt h) s := .dead fun _ => rfl
theorem ARun.bind_none {P : Program} {α γ : Type} (s : Sem α) (f : α → Sem γ) : ∀ h, ARun P s h = none → ARun P (s.bind f) h = none := by
 induction s with
 | pure a => intro h he; simp [ARun] at he
 | halt x => intro h _; rfl
 | load md a k ih => intro h he; simp only [Sem.bind, ARun] at he ⊢; split <;> simp_all
 | store md a v k ih => intro h he; cases v <;> simp only [Sem.bind, ARun] at he ⊢ <;> first | rfl | (split <;> simp_all)
 | new o k ih => intro h he; simp only [Sem.bind, ARun] at he ⊢; split <;> simp_all
 | shape r k ih => intro h he; simp only [Sem.bind, ARun] at he ⊢; split <;> simp_all
 | freeze a n k ih => intro h he; simp only [Sem.bind, ARun] at he ⊢; split <;> simp_all
 | frozen a k ih => intro h he; simp only [Sem.bind, ARun] at he ⊢; split <;> (try split) <;> simp_all
 | getObj r k ih => intro h he; simp only [Sem.bind, ARun] at he ⊢; split <;> simp_all
 | setObj r o k ih => intro h he; simp only [Sem.bind, ARun] at he ⊢; split <;> simp_all
 | choose q k ih => intro h he; simp only [Sem.bind, ARun] at he ⊢; split <;> simp_all
 | sys c k ih => intro h _; rfl
 | program k ih => intro h he; simp only [Sem.bind, ARun] at he ⊢; exact ih _ _ he
 | mark x k ih => intro h he; simp only [Sem.bind, ARun] at he ⊢; exact ih _ he
theorem SRel.bind {P : Program} {α β γ δ : Type} {R : Bij → α → β → Prop} {S : Bij → γ → δ → Prop} {m : Bij} {s : Sem α} {s' : Sem β} {f : α → Sem γ} {f' : β → Sem δ}
  (h : SRel P R m s s') (hf : ∀ m' a b, m ≤ m' → R m' a b → SRel P S m' (f a) (f' b)) : SRel P S m (s >>= f) (s' >>= f') := by
 show SRel P S m (s.bind f) (s'.bind f')
 induction h with
 | pure h => exact hf _ _ _ (Bij.le_refl _) h
 | load md ha _ ih => exact .load md ha fun v v' hv => ih v v' hv hf
 | store md ha hv _ ih => exact .store md ha hv (ih hf)
 | new ho _ ih => exact .new ho fun m' r r' hm hr => ih m' r r' hm hr fun m'' a b h => hf m'' a b (Bij.le_trans hm h)
 | shape hr _ ih => exact .shape hr fun s => ih s hf
 | frozen ha _ ih => exact .frozen ha fun b => ih b hf
 | freeze n ha _ ih => exact .freeze n ha (ih hf)
 | choose _ ih => exact .choose fun hq => ih hq hf
 | getObj hr _ ih => exact .getObj hr fun o o' ho => ih o o' ho hf
 | setObj hr ho _ ih => exact .setObj hr ho (ih hf)
 | program _ ih => exact .program (ih hf)
 | mark _ ih => exact .mark (ih hf)
 | dead hd => exact .dead fun h => ARun.bind_none _ _ h (hd h)
end Go.Proofs.YtlbipokkdiiaiaaGreatDoor.Exec
