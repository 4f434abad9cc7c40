/- Lemmas for TopKeysUpto: ExecOps9, ExecOpsA, ExecOpsB, ExecOpsC, ExecOpsD. -/
import Derived.Test.YtlbipokkdiiaiaaGreatDoorK03
import Derived.Laws.Externs
import Derived.KernelRfl
import Derived.ChangeKeysEq
import Derived.Laws.StructEq
namespace Go.Proofs.YtlbipokkdiiaiaaGreatDoor.Exec
variable {P:Program} {m:Bij} {h:H} {W:World}
theorem cB {a a':Array Value} (ha:am m a a') {l:List Value} (hl:a.toList=l):∃l',a'=l'.toArray∧cO m l l':=by
 refine⟨a'.toList,by simp,?_⟩
 rw[←hl];exact ha.toList
theorem rk (ts:Array TypeId) (ty:TypeId) {a a':Array Value} (ha:am m a a') {v:Value} (he:ke a=some v):
 ∃v',(Builtin.unsafeSliceData_ ts ty a').run P W=.ok v' W∧ak m v v':=by
 unfold ke at he
 split at he
 ·rename_i n c hl
  simp only[Option.some.injEq] at he
  subst he
  obtain⟨l',rfl,hl'⟩:=cB ha hl
  cases hl' with
  |cons q1 q2=>cases q2 with
   |nil=>cases q1 with
    |slice _ _ _ hp=>cases hp;exact⟨_,rfl,.pointer .none⟩
 ·rename_i a0 l c hl
  split at he
  ·rename_i hc
   simp only[Bool.or_eq_true,Bool.and_eq_true,decide_eq_true_eq] at hc
   simp only[Option.some.injEq] at he
   subst he
   obtain⟨l',rfl,hl'⟩:=cB ha hl
   cases hl' with
   |cons q1 q2=>cases q2 with
    |nil=>cases q1 with
     |slice _ _ hb hp=>
      cases hp with
      |some hp=>
       have h0:c≠0:=by omega
       exact⟨_,Lib.run_unsafeSliceData_row W ts ty _ _ _ h0,.pointer (.some hp)⟩
     |sliceU l c e hb h1 h2 h3=>exact⟨_,Lib.run_unsafeSliceData_row W ts ty _ _ _ (by omega),.pointer (.some (.mk hb))⟩
  ·simp at he
 ·simp at he
theorem rf {src dst:TypeId} {sd dd:TypeDesc} (h1:P.underlying src=some sd) (h2:P.underlying dst=some dd) {x x':Value} (hx:ak m x x') (hw:bw m h W) {v:Value} (he:m8 P sd dd x h=some v):
 ∃v',(convert src dst x').run P W=.ok v' W∧ak m v v':=by
 unfold m8 at he
 split at he
 ·rename_i a
  cases hx with
  |pointer hp=>cases hp with
   |@some a a' ha=>
    split at he
    ·rename_i c e fr hg
     split at he
     ·rename_i hc
      simp only[Bool.and_eq_true,decide_eq_true_eq,Option.isNone_iff_eq_none] at hc
      obtain⟨hsp,aH⟩:=hc
      cases ha with
      |@mk b b' o s hb=>
       simp only at hsp aH hg
       subst hsp
       obtain⟨o',q1,q2⟩:=hw.at_ hb hg
       obtain⟨c',fr',rfl,q3,q4,q5,q6⟩:=q2.row
       have hsz:=q5 rfl
       have hsh:W.shape? b'=some (e,c'.size):=by simp[World.shape?,q1]
       split at he
       ·rename_i t
        split at he
        ·rename_i hi
         simp only[Option.some.injEq] at he
         subst he
         refine⟨_,?_,.pointer (.some (.mk hb))⟩
         cases hti:P.info? t with
         |none=>rw[hti] at hi;simp at hi
         |some i=>
          rw[hti] at hi
          have hi0:¬i.size=0:=by simpa using hi
          have hge:¬c'.size≤o:=by omega
          simp[convert,run_underlying h1,run_underlying h2,Conv.unsafePointer,Conv.seenAt,viewAt,hsh,cellsIn,sizeOf,typeInfo,hti,hi0,hge]
        ·simp at he
       ·rename_i u
        split at he
        ·rename_i hl
         simp only[Option.some.injEq] at he
         subst he
         refine⟨_,?_,.pointer (.some (.mk hb))⟩
         simp only[Bool.and_eq_true] at hl
         obtain⟨hsome,hl⟩:=hl
         rw[←hsz] at hl
         cases hui:P.info? u with
         |none=>rw[hui] at hsome;simp at hsome
         |some i=>simp[convert,run_underlying h1,run_underlying h2,Conv.unsafePointer,Conv.seenAt,viewAt,hsh,sizeOf,typeInfo,variablesAt,hui,hl]
        ·simp at he
       ·simp at he
     ·simp at he
    ·simp at he
 ·simp at he
theorem kT {fn:Func} {n:String} {e:Array Value→Sem Value} (h1:fn.name=n) (h2:fn.origin= "") (f1:(Extern.allNextRows.lookup n).isNone=true) (f2:(Extern.allNextRows.lookup "").isNone=true)
 (f3:(Extern.allGenericRows.lookup n).isNone=true) (f4:(Extern.allTypedRows.lookup n).isNone=true) (f5:Extern.allRows.lookup n=some e):Extern.findNext fn=none∧Extern.find fn=some e:=by
 simp only[Option.isNone_iff_eq_none] at f1 f2 f3 f4
 subst h1
 constructor
 ·simp[Extern.findNext,h2,f1,f2]
 ·simp[Extern.find,f3,f4,f5]
theorem mZ {f:FuncId} {fn:Func} (hf:P.funcs[f]?=some fn) (hb:fn.body=none) {n:String} {e:Array Value→Sem Value} (h1:fn.name=n) (hn:(n== "runtime.NumGoroutine")=false) (hx:Extern.findNext fn=none∧Extern.find fn=some e)
 {a a':Array Value} (hs:ay P ak m (e a) (e a')) (hw:bw m h W) {v:Value} {h':H} (he:aB P (e a) h=some (v,h')):
 ∃m' v' W',(callFunc f a').run P W=.ok (.value v') W'∧ak m' v v'∧Snd m h W m' h' W':=by
 obtain⟨m',v',W',r1,r2,r3⟩:=zfy hs he hw
 refine⟨m',v',W',?_,r2,r3⟩
 rw[run_callFunc_extern hf (by rw[h1];exact hn) (by rw[hb];rfl) hx.1 hx.2,r1]
 rfl
theorem zN {f:FuncId} {fn:Func} (hf:P.funcs[f]?=some fn) (hb:fn.body=none) {a a':Array Value} (ha:am m a a') (hw:bw m h W) {v:Value} {h':H} (he:m9 P fn a h=some (v,h')):
 ∃m' v' W',(callFunc f a').run P W=.ok (.value v') W'∧ak m' v v'∧Snd m h W m' h' W':=by
 unfold m9 at he
 split at he
 ·rename_i ho
  have ho:fn.origin= "":=by simpa using ho
  split at he
  ·rename_i x hl
   obtain⟨l',rfl,hl'⟩:=cB ha hl
   have hargs:a=#[x]:=by rw[←Array.toArray_toList (xs:=a),hl]
   subst hargs
   cases hl' with
   |cons q1 q2=>cases q2 with
    |nil=>
     split at he
     ·rename_i hn
      have hn:fn.name= "internal/abi.NoEscape":=by simpa using hn
      exact mZ (a:=#[x]) (e:=Extern.AbiNoEscape.same) hf hb hn (by decide) (kT hn ho (by kernel_rfl) (by kernel_rfl) (by kernel_rfl) (by kernel_rfl) (by kernel_rfl)) (.pure q1) hw he
     ·simp at he
  ·rename_i s k c hl
   obtain⟨l',rfl,hl'⟩:=cB ha hl
   have hargs:a=#[.string s,.int k c]:=by rw[←Array.toArray_toList (xs:=a),hl]
   subst hargs
   cases hl' with
   |cons q1 q2=>cases q2 with
    |cons q3 q4=>cases q4 with
     |nil=>
      cases q1;cases q3
      split at he
      ·rename_i hn
       have hn:fn.name= "internal/bytealg.IndexByteString":=by simpa using hn
       refine mZ (e:=Extern.BytealgIndexByte.indexByte) hf hb hn (by decide) (kT hn ho (by kernel_rfl) (by kernel_rfl) (by kernel_rfl) (by kernel_rfl) (by kernel_rfl)) ?_ hw he
       cases k<;>first|exact .halt|skip
       have hd:Extern.BytealgIndexByte.indexByte #[.string s,.int .u8 c]=(match(List.range s.size).find? fun i=>s[i]! ==c.toNat.toUInt8 with|some i=>pure (goInt i)|none=>pure (goInt (-1))):=rfl
       show ay P ak m (Extern.BytealgIndexByte.indexByte #[.string s,.int .u8 c]) (Extern.BytealgIndexByte.indexByte #[.string s,.int .u8 c])
       rw[hd]
       split<;>exact .pure (.int _ _)
      ·split at he
       ·rename_i hn
        have hn:fn.name= "internal/bytealg.CountString":=by simpa using hn
        refine mZ (e:=Extern.BytealgCount.count) hf hb hn (by decide) (kT hn ho (by kernel_rfl) (by kernel_rfl) (by kernel_rfl) (by kernel_rfl) (by kernel_rfl)) ?_ hw he
        cases k<;>first|exact .halt|exact .pure (.int _ _)
       ·simp at he
  ·rename_i s t hl
   obtain⟨l',rfl,hl'⟩:=cB ha hl
   have hargs:a=#[.string s,.string t]:=by rw[←Array.toArray_toList (xs:=a),hl]
   subst hargs
   cases hl' with
   |cons q1 q2=>cases q2 with
    |cons q3 q4=>cases q4 with
     |nil=>
      cases q1;cases q3
      split at he
      ·rename_i hn
       have hn:fn.name= "internal/bytealg.abigen_runtime_cmpstring":=by simpa using hn
       refine mZ (e:=Extern.BytealgCompare.compare) hf hb hn (by decide) (kT hn ho (by kernel_rfl) (by kernel_rfl) (by kernel_rfl) (by kernel_rfl) (by kernel_rfl)) ?_ hw he
       exact .pure (.int _ _)
      ·simp at he
  ·simp at he
 ·simp at he
end Go.Proofs.YtlbipokkdiiaiaaGreatDoor.Exec
namespace Go.Proofs.YtlbipokkdiiaiaaGreatDoor.Exec
variable {P:Program} {m:Bij} {h:H} {W:World}
theorem vP {t:TypeId} {x x' y y':Value} (hx:ak m x x') (hy:ak m y y') (hp:dK x y=true) (hi:¬∃k a b,(∃j,x=.int k a∧y=.int j b)) (hs:¬∃a b,x=.string a∧y=.string b) (hq:y9 P t x y=true):
 ay P EqR m (Op.equal t x y) (Op.equal t x' y'):=by
 unfold Op.equal
 rw[show Op.maxDepth=9999+1 from rfl]
 generalize 9999=N
 simp only[Op.equalIn]
 refine aF t fun d hd=>?_
 cases hx with
 |bool a=>cases hy with
  |bool b=>cases d<;>first|exact .halt|exact dq _
  |_=>simp[dK] at hp
 |int k a=>cases hy with
  |int j b=>exact absurd ⟨k,a,b,j,rfl,rfl⟩ hi
  |_=>simp[dK] at hp
 |string a=>cases hy with
  |string b=>exact absurd ⟨a,b,rfl,rfl⟩ hs
  |_=>simp[dK] at hp
 |pointer ha=>cases hy with
  |pointer hb=>cases ha with
   |none=>cases hb with
    |none=>cases d<;>first|exact .halt|exact dq _
    |some hb=>cases d<;>first|exact .halt|exact dq _
   |some ha=>cases hb with
    |none=>cases d<;>first|exact .halt|exact dq _
    |some hb=>
     simp only[y9,hd] at hq
     cases d with
     |pointer e=>
      cases ha with
      |@mk b0 b0' o s h1=>cases hb with
       |@mk b1 b1' o2 s2 h2=>
        have lS:b0=b1:=by simpa[dK] using hp
        subst lS
        obtain rfl:=m.fn h1 h2
        have e1:((⟨b0,o,s⟩:Addr)==⟨b0,o2,s2⟩)=((⟨b0',o,s⟩:Addr)==⟨b0',o2,s2⟩):=by
         rw[Bool.eq_iff_iff];simp
        refine bD e fun i hi=>?_
        split
        ·unfold sameAddr
         simp only[beq_self_eq_true,if_true,e1]
         exact dq _
        ·rw[e1]
         split
         ·exact dq _
         ·exact .choose fun hf=>by simp[Question.forced] at hf
     |_=>simp at hq
  |_=>cases ha<;>simp[dK] at hp
 |slice l c hc ha=>cases hy with
  |slice l2 c2 hc2 hb=>cases ha<;>cases hb<;>first|(simp[dK] at hp;done)|(cases d<;>first|exact .halt|exact dq _)
  |sliceU l2 c2 e hb h1 h2 h3=>cases ha<;>first|(simp[dK] at hp;done)|(cases d<;>first|exact .halt|exact dq _)
  |_=>cases ha<;>simp[dK] at hp
 |sliceU l c e hb h1 h2 h3=>cases hy with
  |slice l2 c2 hc2 hb=>cases hb<;>first|(simp[dK] at hp;done)|(cases d<;>first|exact .halt|exact dq _)
  |_=>simp[dK] at hp
 |map ha=>cases hy with
  |map hb=>cases ha<;>cases hb<;>first|(simp[dK] at hp;done)|(cases d<;>first|exact .halt|exact dq _)
  |_=>cases ha<;>simp[dK] at hp
 |func hf h1 h2 h3 h4=>cases hy with
  |nilFunc=>cases d<;>first|exact .halt|exact dq _
  |_=>simp[dK] at hp
 |nilFunc=>cases hy with
  |nilFunc=>cases d<;>first|exact .halt|exact dq _
  |func hf h1 h2 h3 h4=>cases d<;>first|exact .halt|exact dq _
  |_=>simp[dK] at hp
 |iface t hv=>cases hy with
  |nilIface=>cases d<;>first|exact .halt|exact dq _
  |_=>simp[dK] at hp
 |nilIface=>cases hy with
  |nilIface=>cases d<;>first|exact .halt|exact dq _
  |iface t hv=>cases d<;>first|exact .halt|exact dq _
  |_=>simp[dK] at hp
 |_=>simp[dK] at hp
theorem sD (op:BinOp) (t:TypeId) (xo yo:Operand) {x x' y y':Value} (hx:ak m x x') (hy:ak m y y') (hp:dK x y=true):ay P (fun _ _ _=>True) m (eqGuard op t xo yo x y) (eqGuard op t xo yo x' y'):=by
 have nn:ay P (fun _ _ _=>True) m (eqGuard op t xo yo .nilIface .nilIface) (eqGuard op t xo yo .nilIface .nilIface):=by
  have hg:ay P EqR m (Op.eqGuardIn Op.maxDepth t .nilIface .nilIface) (Op.eqGuardIn Op.maxDepth t .nilIface .nilIface):=by
   rw[show Op.maxDepth=9999+1 from rfl]
   generalize 9999=N
   simp only[Op.eqGuardIn]
   exact aF t fun d hd=>by cases d<;>exact dq _
  have hu:ay P (fun _ _ _=>True) m (do if ←Op.eqGuardIn Op.maxDepth t .nilIface .nilIface then(unsupported (.noEntry "binop/eql: two nil values of an interface type with methods, neither of them the literal nil"):Sem Unit) else pure ())
   (do if ←Op.eqGuardIn Op.maxDepth t .nilIface .nilIface then(unsupported (.noEntry "binop/eql: two nil values of an interface type with methods, neither of them the literal nil"):Sem Unit) else pure ()):=
   hg.bind fun m1 a b _ e=>by
    cases e
    split
    ·exact .halt
    ·exact .pure trivial
  unfold eqGuard
  repeat' split
  all_goals first|exact .pure trivial|exact hu|(exfalso;simp_all;done)
 have other:∀a b:Value,(∀c d,¬(a=.agg c∧b=.agg d))→¬(a=.nilIface∧b=.nilIface)→eqGuard op t xo yo a b=pure ():=by
  intro a b h1 h2
  unfold eqGuard
  repeat' split
  all_goals first|rfl|exact absurd ⟨rfl,rfl⟩ h2|exact absurd ⟨rfl,rfl⟩ (h1 _ _)|simp_all
 by_cases hn:x=.nilIface∧y=.nilIface
 ·obtain⟨rfl,rfl⟩:=hn
  cases hx;cases hy;exact nn
 ·rw[other x y (by rintro c d ⟨rfl,rfl⟩;simp[dK] at hp) hn,other x' y' (by rintro c d ⟨rfl,rfl⟩;cases hx;cases hy;simp[dK] at hp) (by rintro⟨rfl,rfl⟩;cases hx;cases hy;exact hn ⟨rfl,rfl⟩)]
  exact .pure trivial
theorem w8 (t:TypeId) {x y:Value} (hp:dK x y=true) (hi:¬∃k a b,(∃j,x=.int k a∧y=.int j b)) (hs:¬∃a b,x=.string a∧y=.string b):
 binOp .eql t x y=(do pure (.bool (←Op.equal t x y)))∧binOp .neq t x y=(do pure (.bool (!(←Op.equal t x y)))):=by
 unfold dK at hp
 split at hp<;>first|exact⟨rfl,rfl⟩|(exfalso;exact hi ⟨_,_,_,_,rfl,rfl⟩)|(exfalso;exact hs ⟨_,_,rfl,rfl⟩)|(simp at hp;done)
theorem zv {x x' y y':Value} (hx:ak m x x') (hy:ak m y y') (hp:dK x y=true):dK x' y'=true:=by
 unfold dK at hp
 split at hp
 ·cases hx;cases hy;rfl
 ·cases hx;cases hy;rfl
 ·cases hx;cases hy;rfl
 ·cases hx with|pointer h1=>cases h1;cases hy;rfl
 ·cases hy with|pointer h1=>cases h1;cases hx with|pointer h2=>cases h2<;>rfl
 ·cases hx with|pointer h1=>cases h1 with|some h1=>cases h1 with|@mk b0 b0' o s h1=>cases hy with|pointer h2=>cases h2 with|some h2=>cases h2 with|@mk b1 b1' o2 s2 h2=>
   have e:b0=b1:=by simpa using hp
   subst e
   have:=m.fn h1 h2
   subst this
   simp[dK]
 ·cases hx with|slice _ _ _ h1=>cases h1;cases hy<;>rfl
 ·cases hy with|slice _ _ _ h1=>cases h1;cases hx with
   |slice _ _ _ h2=>cases h2<;>rfl
   |sliceU _ _ _ _ _ _ _=>rfl
 ·cases hx with|map h1=>cases h1;cases hy;rfl
 ·cases hy with|map h1=>cases h1;cases hx with|map h2=>cases h2<;>rfl
 ·cases hx;cases hy;rfl
 ·cases hx;cases hy;rfl
 ·cases hx;cases hy;rfl
 ·cases hx;cases hy;rfl
 ·cases hx;cases hy;rfl
 ·cases hx;cases hy;rfl
 ·simp at hp
theorem zO (op:BinOp) (t:TypeId) {x x' y y':Value} (hx:ak m x x') (hy:ak m y y') (hp:dK x y=true) (hq:y9 P t x y=true) (ho:kO op x y=true):ay P ak m (binOp op t x y) (binOp op t x' y'):=by
 by_cases hi:∃k a b,(∃j,x=.int k a∧y=.int j b)
 ·obtain⟨k,a,b,j,rfl,rfl⟩:=hi
  cases hx;cases hy;exact uY op t _ _ _ _
 ·by_cases hs:∃a b,x=.string a∧y=.string b
  ·obtain⟨a,b,rfl,rfl⟩:=hs
   cases hx;cases hy;exact vv op t _ _
  ·have hp':=zv hx hy hp
   have hi':¬∃k a b,(∃j,x'=.int k a∧y'=.int j b):=by
    rintro⟨k,a,b,j,rfl,rfl⟩;cases hx;cases hy;exact hi ⟨_,_,_,_,rfl,rfl⟩
   have hs':¬∃a b,x'=.string a∧y'=.string b:=by
    rintro⟨a,b,rfl,rfl⟩;cases hx;cases hy;exact hs ⟨_,_,rfl,rfl⟩
   have e1:=w8 t hp hi hs
   have e2:=w8 t hp' hi' hs'
   have hr:=vP (t:=t) hx hy hp hi hs hq
   have:op=.eql∨op=.neq:=by
    unfold kO at ho
    split at ho
    ·exact absurd ⟨_,_,_,_,rfl,rfl⟩ hi
    ·exact absurd ⟨_,_,rfl,rfl⟩ hs
    ·cases op<;>simp at ho<;>simp
   rcases this with rfl|rfl
   ·rw[e1.1,e2.1];exact hr.bind fun _ a b _ e=>by cases e;exact .pure (.bool _)
   ·rw[e1.2,e2.2];exact hr.bind fun _ a b _ e=>by cases e;exact .pure (.bool _)
end Go.Proofs.YtlbipokkdiiaiaaGreatDoor.Exec
namespace Go.Proofs.YtlbipokkdiiaiaaGreatDoor.Exec
variable {P:Program} {m:Bij} {h:H} {W:World}
theorem pX {l l' k k':List Value} (hl:cO m l l') (hk:cO m k k') {r:Bool} (h:bU l k=some r):bU l' k'=some r:=by
 induction hl generalizing k k' r with
 |nil=>cases hk with
  |nil=>exact h
  |cons _ _=>simp[bU] at h
 |@cons v v' l1 l1' hv hl ih=>cases hk with
  |nil=>cases hv<;>simp[bU] at h
  |@cons u u' k1 k1' hu hk=>
   cases hv<;>cases hu<;>first|(simp[bU] at h;done)|skip
   simp only[bU] at h ⊢
   split at h
   ·rename_i e
    rw[if_pos e]
    cases hs:bU l1 k1 with
    |none=>rw[hs] at h;simp at h
    |some r2=>rw[hs] at h;rw[ih hk hs];exact h
   ·simp at h
theorem qB (t:TypeId) {c c':Array Value} (hc:am m c c') (off:Nat):aT (ak m) (dF P t c off) (dF P t c' off):=by
 unfold dF
 cases P.underlying t with
 |none=>exact .none
 |some d=>cases P.info? t with
  |none=>cases d<;>exact .none
  |some i=>cases d<;>first|exact hc.get off|exact .some (.agg (hc.extract _ _).size (hc.extract _ _).at_)
theorem iO (eq:TypeId→Value→Value→Option Bool) (heq:∀t x x' y y' r,ak m x x'→ak m y y'→eq t x y=some r→eq t x' y'=some r) {c c' d d':Array Value} (hc:am m c c') (hd:am m d d'):
 ∀(fs:List Field) {r:Bool},cN P eq c d fs=some r→cN P eq c' d' fs=some r
 |[],r,h=>h
 |f::fs,r,h=>by
  simp only[cN] at h ⊢
  split at h
  ·rename_i e;rw[if_pos e];exact iO eq heq hc hd fs h
  ·rename_i e;rw[if_neg e]
   have h1:=qB (P:=P) f.type hc f.offset
   have h2:=qB (P:=P) f.type hd f.offset
   split at h
   ·rename_i x y hx hy
    rw[hx] at h1;rw[hy] at h2
    cases hx':dF P f.type c' f.offset<;>rw[hx'] at h1<;>cases h1
    cases hy':dF P f.type d' f.offset<;>rw[hy'] at h2<;>cases h2
    rename_i q1 _ q2
    simp only
    split at h
    ·rename_i e2;rw[heq _ _ _ _ _ _ q1 q2 e2];exact iO eq heq hc hd fs h
    ·rename_i e2;rw[heq _ _ _ _ _ _ q1 q2 e2];exact h
    ·simp at h
   ·simp at h
theorem ig:∀(n:Nat) (t:TypeId) {x x' y y':Value} {r:Bool},ak m x x'→ak m y y'→bQ P n t x y=some r→bQ P n t x' y'=some r
 |0,_,_,_,_,_,_,_,_,h=>by simp[bQ] at h
 |n+1,t,x,x',y,y',r,hx,hy,h=>by
  simp only[bQ] at h ⊢
  cases hd:P.underlying t with
  |none=>simp[hd] at h
  |some d=>
   rw[hd] at h
   cases d with
   |int k=>split at h<;>first|(simp at h;done)|(rename_i e;simp only[Option.some.injEq,reduceCtorEq] at e;done)|(cases hx;cases hy;exact h)
   |string=>split at h<;>first|(simp at h;done)|(rename_i e;simp only[Option.some.injEq,reduceCtorEq] at e;done)|(cases hx;cases hy;exact h)
   |bool=>split at h<;>first|(simp at h;done)|(rename_i e;simp only[Option.some.injEq,reduceCtorEq] at e;done)|(cases hx;cases hy;exact h)
   |array len e=>
    cases hx with
    |agg hs hc=>cases hy with
     |agg hs2 hc2=>
      simp only at h ⊢
      split at h
      ·rename_i k i h1 h2
       rw[←hs,←hs2]
       split at h
       ·rename_i e1;rw[if_pos e1]
        exact pX (am.toList ⟨hs,hc⟩) (am.toList ⟨hs2,hc2⟩) h
       ·simp at h
      ·simp at h
     |_=>simp at h
    |_=>simp at h
   |struct fs=>
    cases hx with
    |agg hs hc=>cases hy with
     |agg hs2 hc2=>
      simp only at h ⊢
      split at h
      ·simp at h
      ·rename_i e;rw[if_neg e]
       exact iO _ (fun t x x' y y' r h1 h2 h3=>ig n t h1 h2 h3) ⟨hs,hc⟩ ⟨hs2,hc2⟩ _ h
     |_=>simp at h
    |_=>simp at h
   |_=>simp at h
theorem gH {t:TypeId} {c:Array Value} {off:Nat} {v:Value} (hp:dF P t c off=some v):(part t c off).run P W=.ok v W:=by
 unfold dF at hp
 cases hd:P.underlying t with
 |none=>simp[hd] at hp
 |some d=>
  cases hi:P.info? t with
  |none=>cases d<;>simp[hd,hi] at hp
  |some i=>
   cases d<;>simp only[hd,hi] at hp<;>simp[part,isAgg,run_underlying hd,sizeOf,typeInfo,hi]<;>first|(rw[hp];rfl)|simpa using hp
theorem qI (N:Nat) {e:TypeId} {k:IntKind} (hd:P.underlying e=some (.int k)) {i:TypeInfo} (hi:P.info? e=some i) (hs:i.size=1) (xs ys:Array Value):
 ∀(n j:Nat) {r:Bool},j+n=xs.size→xs.size=ys.size→bU (xs.toList.drop j) (ys.toList.drop j)=some r→(Op.eqItems (N+1) e (P.cellsOf e) xs ys (List.range' j n)).run P W=.ok r W
 |0,j,r,h1,h2,h=>by
  rw[List.drop_eq_nil_of_le (by simp;omega),List.drop_eq_nil_of_le (by simp;omega)] at h
  simp only[bU,Option.some.injEq] at h
  subst h;simp[Op.eqItems]
 |n+1,j,r,h1,h2,h=>by
  have hx:j<xs.toList.length:=by simp;omega
  have hy:j<ys.toList.length:=by simp;omega
  rw[List.drop_eq_getElem_cons hx,List.drop_eq_getElem_cons hy] at h
  have hc:P.cellsOf e=1:=by simp[Program.cellsOf,hi,hs]
  cases ha:xs.toList[j]<;>cases hb:ys.toList[j]<;>rw[ha,hb] at h<;>first|(simp[bU] at h;done)|skip
  rename_i k1 a k2 b
  simp only[bU] at h
  split at h
  ·rename_i ek
   subst ek
   have p1:dF P e xs (j*P.cellsOf e)=some (.int k1 a):=by
    simp only[dF,hd,hi,hc,Nat.mul_one]
    rw[←Array.getElem?_toList,List.getElem?_eq_getElem hx,ha]
   have p2:dF P e ys (j*P.cellsOf e)=some (.int k1 b):=by
    simp only[dF,hd,hi,hc,Nat.mul_one]
    rw[←Array.getElem?_toList,List.getElem?_eq_getElem hy,hb]
   cases hr:bU (xs.toList.drop (j+1)) (ys.toList.drop (j+1)) with
   |none=>rw[hr] at h;simp at h
   |some r2=>
    rw[hr] at h
    simp only[Option.map_some,Option.some.injEq] at h
    have ih:=qI N hd hi hs xs ys n (j+1) (by omega) h2 hr
    simp only[List.range'_succ,Op.eqItems,Sem.run_bind,gH p1,gH p2,Result.andThen_ok,run_equalIn_int W N e k1 k a b hd]
    cases hab:(a==b)
    ·rw[hab] at h;simp only[Bool.false_and] at h;subst h;simp
    ·rw[hab] at h;simp only[Bool.true_and] at h;subst h;simpa using ih
  ·simp at h
theorem l8:∀(n:Nat) (t:TypeId) {x y:Value} {r:Bool} (N:Nat),n<N→bQ P n t x y=some r→(Op.equalIn N t x y).run P W=.ok r W
 |0,_,_,_,_,_,_,h=>by simp[bQ] at h
 |n+1,t,x,y,r,0,hN,h=>by omega
 |n+1,t,x,y,r,N+1,hN,h=>by
  simp only[bQ] at h
  cases hd:P.underlying t with
  |none=>simp[hd] at h
  |some d=>
   rw[hd] at h
   cases d with
   |int k=>
    cases x<;>cases y<;>simp only[reduceCtorEq] at h
    rename_i k1 a k2 b
    split at h
    ·rename_i e;subst e
     simp only[Option.some.injEq] at h;subst h
     exact run_equalIn_int W N t k1 k a b hd
    ·simp at h
   |string=>
    cases x<;>cases y<;>simp only[reduceCtorEq] at h
    simp only[Option.some.injEq] at h;subst h
    simp[Op.equalIn,run_underlying hd]
   |bool=>
    cases x<;>cases y<;>simp only[reduceCtorEq] at h
    simp only[Option.some.injEq] at h;subst h
    simp[Op.equalIn,run_underlying hd]
   |array len e=>
    cases x<;>cases y<;>simp only[reduceCtorEq] at h
    rename_i c c'
    split at h
    ·rename_i k i h1 h2
     split at h
     ·rename_i hc
      simp only[Bool.and_eq_true,beq_iff_eq] at hc
      obtain⟨⟨c1,c2⟩,c3⟩:=hc
      rw[run_equalIn_array (w:=W) N c c' hd h2]
      obtain⟨N,rfl⟩:∃M,N=M+1:=⟨N-1,by omega⟩
      rw[List.range_eq_range']
      exact qI N h1 h2 c1 c c' len 0 (by omega) (by omega) (by simpa using h)
     ·simp at h
    ·simp at h
   |struct fs=>
    cases x<;>cases y<;>simp only[reduceCtorEq] at h
    rename_i c c'
    split at h
    ·simp at h
    ·rename_i hp
     have hf:P.fieldsOf t=fs:=by simp[Program.fieldsOf,hd]
     rw[run_equalIn_struct W N t c c' (by rw[hf];exact hd) (by simpa using hp),hf]
     have go:∀(l:List Field) {r:Bool},cN P (bQ P n) c c' l=some r→(Op.eqFields N c c' l).run P W=.ok r W:=by
      intro l
      induction l with
      |nil=>intro r h;simp only[cN,Option.some.injEq] at h;subst h;simp[Op.eqFields]
      |cons f l ih=>
       intro r h
       simp only[cN] at h
       split at h
       ·rename_i e;simp only[Op.eqFields,e,ne_eq,not_true_eq_false,if_false];exact ih h
       ·rename_i e
        simp only[Op.eqFields,e,ne_eq,not_false_eq_true,if_true]
        split at h
        ·rename_i u v hu hv
         simp only[Sem.run_bind,gH hu,gH hv,Result.andThen_ok]
         split at h
         ·rename_i e2;rw[l8 n f.type N (by omega) e2];simpa using ih h
         ·rename_i e2;rw[l8 n f.type N (by omega) e2];simp only[Option.some.injEq] at h;subst h;simp
         ·simp at h
        ·simp at h
     exact go fs.toList h
   |_=>simp at h
end Go.Proofs.YtlbipokkdiiaiaaGreatDoor.Exec
namespace Go.Proofs.YtlbipokkdiiaiaaGreatDoor.Exec
variable {P:Program} {m:Bij} {h:H} {W:World}
theorem tj {t:TypeId} {k k':Value} (hk:ak m k k') (h:o6 P t k=true):o6 P t k'=true:=by
 unfold o6 at h ⊢
 cases hd:P.underlying t with
 |none=>simp[hd] at h
 |some d=>
  rw[hd] at h
  cases d with
  |int j=>cases hk<;>first|(simp at h;done)|rfl
  |string=>cases hk<;>first|(simp at h;done)|rfl
  |array n e=>cases hk with
   |agg hs hc=>simp only at h ⊢;rw[←hs];exact h
   |_=>simp at h
  |_=>simp at h
theorem jH (e:TypeId) {j:IntKind} (hd:P.underlying e=some (.int j)) {i:TypeInfo} (hi:P.info? e=some i) (hs:i.size=1) (b:Bool) (N:Nat) (cs:Array Value):
 ∀(l:List Nat),(∀x∈l,x<cs.size)→(forIn l PUnit.unit fun x _=>(do Instr.checkKey b (N+1) e (←part e cs (x*(←sizeOf e)));pure (ForInStep.yield PUnit.unit):Sem (ForInStep PUnit))).run P W=.ok PUnit.unit W
 |[],_=>by simp
 |x::l,hl=>by
  have hx:x<cs.size:=hl x (by simp)
  have p1:dF P e cs x=some cs[x]:=by simp[dF,hd,hi,hx]
  have hck:∀v,(Instr.checkKey b (N+1) e v).run P W=.ok () W:=by
   intro v
   unfold Instr.checkKey
   simp only[Sem.run_bind,run_underlying hd,Result.andThen_ok]
   rfl
  have hsz:(sizeOf e).run P W=.ok 1 W:=by simp[sizeOf,typeInfo,hi,hs]
  have ih:=jH e hd hi hs b N cs l (fun y hy=>hl y (by simp[hy]))
  simp only[List.forIn_cons,Sem.run_bind,hsz,Result.andThen_ok,Nat.mul_one,gH p1,hck,Sem.run_pure]
  exact ih
theorem xy {t:TypeId} {k:Value} (h:o6 P t k=true) (b:Bool):(Instr.checkKey b 10000 t k).run P W=.ok () W:=by
 rw[show(10000:Nat)=9998+1+1 from rfl]
 generalize 9998=N
 unfold o6 at h
 cases hd:P.underlying t with
 |none=>simp[hd] at h
 |some d=>
  rw[hd] at h
  unfold Instr.checkKey
  simp only[Sem.run_bind,run_underlying hd,Result.andThen_ok]
  cases d with
  |int j=>cases k<;>first|(simp at h;done)|rfl
  |string=>cases k<;>first|(simp at h;done)|rfl
  |array n e=>cases k with
   |agg c=>
    simp only at h
    split at h
    ·rename_i j i h1 h2
     simp only[Bool.and_eq_true,beq_iff_eq] at h
     obtain⟨c1,c2⟩:=h
     have:=jH (W:=W) e h1 h2 c1 b N c (List.range' 0 n) (by intro x hx;simp at hx;omega)
     simp only[Std.Legacy.Range.forIn_eq_forIn_range',Std.Legacy.Range.size,Nat.sub_zero,Nat.add_one_sub_one,Nat.div_one]
     rw[Sem.run_bind,this];rfl
    ·simp at h
   |_=>simp at h
  |_=>simp at h
theorem run_equal' {t:TypeId} {x y:Value} {r:Bool} (h:bQ P 4 t x y=some r):(Op.equal t x y).run P W=.ok r W:=l8 4 t 10000 (by omega) h
theorem kw {t:TypeId} {d:TypeDesc} (hd:P.underlying t=some d) {k x:Value} (hk:o6 P t k=true) {r:Bool} (h:bQ P 4 t k x=some r):(∀n e,d≠.array n e)→Instr.sameNow d k x=some r:=by
 intro hn
 unfold o6 at hk
 rw[hd] at hk
 simp only[bQ,hd] at h
 cases d with
 |int j=>
  cases k<;>first|(simp at hk;done)|skip
  cases x<;>simp only[reduceCtorEq] at h
  split at h
  ·rename_i e;simp only[Instr.sameNow,if_pos e];exact h
  ·simp at h
 |string=>
  cases k<;>first|(simp at hk;done)|skip
  cases x<;>simp only[reduceCtorEq] at h
  exact h
 |array n e=>exact absurd rfl (hn n e)
 |_=>simp at hk
theorem kW {t:TypeId} {k:Value} (hk:o6 P t k=true) {es:List MapEntry} {r:Option (Nat×Value)} (h:gb P t k es 0=some r):(Instr.findKey t k es).run P W=.ok r W:=by
 unfold Instr.findKey
 cases hd:P.underlying t with
 |none=>simp[o6,hd] at hk
 |some d=>
  simp only[Sem.run_bind,run_underlying hd,Result.andThen_ok]
  by_cases ha:∃n e,d=.array n e
  ·obtain⟨n,e,rfl⟩:=ha
   have go:∀(es:List MapEntry) (i:Nat) {r},gb P t k es i=some r→(Instr.findAsking t k es i).run P W=.ok r W:=by
    intro es
    induction es with
    |nil=>intro i r h;simp only[gb,Option.some.injEq] at h;subst h;rfl
    |cons x es ih=>
     intro i r h
     simp only[gb] at h
     simp only[Instr.findAsking,Sem.run_bind]
     split at h
     ·rename_i e2;rw[run_equal' e2];simp only[Option.some.injEq] at h;subst h;simp
     ·rename_i e2;rw[run_equal' e2];simpa using ih (i+1) h
     ·simp at h
   cases es with
   |nil=>simp only[gb,Option.some.injEq] at h;subst h;rfl
   |cons x es=>
    have hnow:Instr.findNow (.array n e) k (x::es) 0=none:=by
     simp only[Instr.findNow]
     cases k<;>cases hx:x.key<;>rfl
    rw[hnow]
    exact go _ 0 h
  ·have go:∀(es:List MapEntry) (i:Nat) {r},gb P t k es i=some r→Instr.findNow d k es i=some r:=by
    intro es
    induction es with
    |nil=>intro i r h;exact h
    |cons x es ih=>
     intro i r h
     simp only[gb] at h
     simp only[Instr.findNow]
     split at h
     ·rename_i e2;rw[kw hd hk e2 (fun n e he=>ha ⟨n,e,he⟩)];exact h
     ·rename_i e2;rw[kw hd hk e2 (fun n e he=>ha ⟨n,e,he⟩)];exact ih (i+1) h
     ·simp at h
   rw[go es 0 h];rfl
inductive kN (m:Bij):List MapEntry→List MapEntry→Prop
 |nil:kN m [] []
 |cons {e e':MapEntry} {l l':List MapEntry}:iH m e e'→kN m l l'→kN m (e::l) (e'::l')
theorem kN.of_get:∀{l l':List MapEntry},l.length=l'.length→(∀(i:Nat) (h:i<l.length) (h':i<l'.length),iH m l[i] l'[i])→kN m l l'
 |[],[],_,_=>.nil
 |v::l,v'::l',hs,h=>.cons (h 0 (by simp) (by simp)) (kN.of_get (by simpa using hs) fun i a b=>h (i+1) (by simpa using a) (by simpa using b))
theorem jr {t:TypeId} {k k':Value} (hk:ak m k k') {es es':List MapEntry} (he:kN m es es'):∀(i:Nat) {r:Option (Nat×Value)},gb P t k es i=some r→
 ∃r',gb P t k' es' i=some r'∧aT (fun a b=>a.1=b.1∧ak m a.2 b.2) r r':=by
 induction he with
 |nil=>intro i r h;simp only[gb,Option.some.injEq] at h;subst h;exact⟨none,rfl,.none⟩
 |cons h1 _ ih=>
  intro i r h
  simp only[gb] at h ⊢
  split at h
  ·rename_i e2
   rw[ig 4 t hk h1.key e2]
   simp only[Option.some.injEq] at h;subst h
   exact⟨_,rfl,.some ⟨rfl,h1.val⟩⟩
  ·rename_i e2
   rw[ig 4 t hk h1.key e2]
   exact ih (i+1) h
  ·simp at h
end Go.Proofs.YtlbipokkdiiaiaaGreatDoor.Exec
namespace Go.Proofs.YtlbipokkdiiaiaaGreatDoor.Exec
variable {P:Program} {m:Bij} {h:H} {W:World}
theorem zb7 {f:Value→Value→Bool} {l l' k k':List Value} (hl:cO m l l') (hk:cO m k k') (hf:∀x x' y y',ak m x x'→ak m y y'→f x y=true→f x' y'=true) (h:((l.zip k).all fun(x,y)=>f x y)=true):((l'.zip k').all fun(x,y)=>f x y)=true:=by
 induction hl generalizing k k' with
 |nil=>simp
 |cons hv _ ih=>cases hk with
  |nil=>simp
  |cons hu hk=>
   simp only[List.zip_cons_cons,List.all_cons,Bool.and_eq_true] at h ⊢
   exact⟨hf _ _ _ _ hv hu h.1,ih hk h.2⟩
theorem sF {a b a' b':Option Addr} (ha:aT (dB m) a a') (hb:aT (dB m) b b') (h:(a==b)=true):(a'==b')=true:=by
 have e:a=b:=by simpa using h
 subst e
 cases ha with
 |none=>cases hb;rfl
 |some h1=>cases hb with
  |some h2=>cases h1 with
   |mk h1=>cases h2 with
    |mk h2=>rw[m.fn h1 h2];simp
theorem zp:∀(n:Nat) {x x' y y':Value},ak m x x'→ak m y y'→Instr.sameBits n x y=true→Instr.sameBits n x' y'=true:=by
 intro n
 induction n with
 |zero=>
  intro x x' y y' hx hy h
  unfold Instr.sameBits at h
  split at h<;>first|(simp at h;done)|(exfalso;omega)|skip
  ·cases hx;cases hy;exact h
  ·cases hx;cases hy;exact h
  ·cases hx;cases hy;exact h
  ·cases hx;cases hy;exact h
  ·cases hx;cases hy;exact h
  ·cases hx with|pointer h1=>cases hy with|pointer h2=>exact sF h1 h2 h
  ·cases hx;cases hy;rfl
  ·cases hx;cases hy;rfl
 |succ n ih=>
  intro x x' y y' hx hy h
  unfold Instr.sameBits at h
  split at h<;>first|(simp at h;done)|skip
  ·cases hx;cases hy;exact h
  ·cases hx;cases hy;exact h
  ·cases hx;cases hy;exact h
  ·cases hx;cases hy;exact h
  ·cases hx;cases hy;exact h
  ·cases hx with|pointer h1=>cases hy with|pointer h2=>exact sF h1 h2 h
  ·cases hx;cases hy;rfl
  ·cases hx;cases hy;rfl
  ·rename_i e
   obtain rfl:n=_:=by simpa using e
   cases hx with|iface t h1=>cases hy with|iface u h2=>
    simp only[Instr.sameBits,Bool.and_eq_true] at h ⊢
    exact⟨h.1,ih h1 h2 h.2⟩
  ·rename_i e
   obtain rfl:n=_:=by simpa using e
   cases hx with|agg h1 h2=>cases hy with|agg h3 h4=>
    simp only[Instr.sameBits,Bool.and_eq_true] at h ⊢
    exact⟨by rw[←h1,←h3];exact h.1,zb7 (am.toList ⟨h1,h2⟩) (am.toList ⟨h3,h4⟩) (fun _ _ _ _ a b c=>ih a b c) h.2⟩
noncomputable def jf (x:Value) (h:H):Option (Array MapEntry):=
 match x with
 |.map none=>some #[]
 |.map (some r)=>match h.get r with
  |some ⟨.map es _,_⟩=>some es
  |_=>none
 |_=>none
def oR (x:Value) (K:Array MapEntry→Sem Value):Sem Value:=
 match x with
 |.map none=>do
  let es ←pure #[]
  K es
 |.map (some r)=>do
  let .map es _ ←getObj r|(do
   let es ←stuck "Lookup: map expected"
   K es)
  let es ←pure es
  K es
 |_=>do
  let es ←stuck "Lookup: map expected"
  K es
theorem zr (hz:ph P) {t:TypeId} {x x' k k':Value} (hx:ak m x x') (hk:ak m k k') (ok:Bool) (hw:bw m h W) {v:Value} (he:r9 P t x k ok h=some v):
 ∃v',(Instr.lookup t x' k' ok).run P W=.ok v' W∧ak m v v':=by
 unfold r9 at he
 cases hd:P.underlying t with
 |none=>simp[hd] at he
 |some d=>
 rw[hd] at he
 cases d with
 |map key elem=>
  simp only at he
  change (match jf x h with|some es=>_|none=>none)=some v at he
  have hes:∃es es',jf x h=some es∧(∀K,(oR x' K).run P W=(K es').run P W)∧kN m es.toList es'.toList:=by
   cases hz:jf x h with
   |none=>rw[hz] at he;simp at he
   |some es=>
   clear he
   unfold jf at hz
   refine⟨es,?_⟩
   cases hx with
   |map hr=>cases hr with
    |none=>simp only[Option.some.injEq] at hz;subst hz;exact⟨#[],rfl,fun K=>rfl,.nil⟩
    |some hr=>
     simp only at hz
     split at hz
     ·rename_i es2 cl g hg
      simp only[Option.some.injEq] at hz
      subst hz
      obtain⟨o',q1,q2⟩:=hw.objAt hr hg (by simp)
      cases q2 with
      |@map _ es' _ hs hes=>
       refine⟨es',rfl,fun K=>?_,.of_get (by simpa using hs) fun i a b=>by simpa using hes i (by simpa using a) (by simpa using b)⟩
       simp only[oR]
       rw[dA q1 (by simp)];rfl
     ·simp at hz
   |_=>simp at hz
  obtain⟨es,es',h1,h2,h3⟩:=hes
  rw[h1] at he
  simp only at he
  split at he
  ·rename_i hkey
   have hkey':=tj hk hkey
   have hck:=xy (W:=W) hkey' es'.isEmpty
   have fin:(Instr.lookup t x' k' ok).run P W=((Instr.findKey key k' es'.toList).run P W).andThen fun r W=>(match r with
    |some (_,v)=>pure (if ok then .tuple #[v,.bool true] else v)
    |none=>do
     let v ←zeroValue elem
     pure (if ok then .tuple #[v,.bool false] else v):Sem Value).run P W:=by
    have hl:Instr.lookup t x' k' ok=(do
     let .map key elem ←underlying t|stuck "Lookup: map type expected"
     oR x' fun es=>do
      Instr.checkKey es.isEmpty 10000 key k'
      let(v,b) ←match ←Instr.findKey key k' es.toList with
       |some (_,v)=>pure (v,true)
       |none=>pure (←zeroValue elem,false)
      pure (if ok then .tuple #[v,.bool b] else v)):=rfl
    rw[hl]
    simp only[Sem.run_bind,run_underlying hd,Result.andThen_ok,h2,hck]
    congr 1
   split at he
   ·rename_i i w hf
    obtain⟨r',f1,f2⟩:=jr hk h3 0 hf
    cases f2 with
    |some f2=>
     simp only[Option.some.injEq] at he
     subst he
     refine⟨_,by rw[fin,kW hkey' f1];rfl,?_⟩
     cases ok
     ·exact f2.2
     ·exact jT f2.2 (.bool true)
   ·rename_i hf
    obtain⟨r',f1,f2⟩:=jr hk h3 0 hf
    cases f2
    split at he
    ·rename_i z hzz
     simp only[Option.some.injEq] at he
     subst he
     simp only[Option.bind_eq_some_iff] at hzz
     obtain⟨i,hi,hzz⟩:=hzz
     have hr:(zeroValue elem).run P W=.ok z W:=by simp[zeroValue,typeInfo,hi,hzz]
     refine⟨if ok then .tuple #[z,.bool false] else z,by rw[fin,kW hkey' f1];simp only[Result.andThen_ok,Sem.run_bind,hr,Sem.run_pure],?_⟩
     cases ok
     ·exact hz elem i z hi hzz m
     ·exact jT (hz elem i z hi hzz m) (.bool false)
    ·simp at he
   ·simp at he
  ·simp at he
 |_=>simp at he
end Go.Proofs.YtlbipokkdiiaiaaGreatDoor.Exec
