/- Lemmas for TopKeysUpto: ExecReg3, ExecReg4, ExecReg5, ExecReg6, ExecReg7. -/
import Derived.Test.YtlbipokkdiiaiaaGreatDoorK27
namespace Go.Proofs.YtlbipokkdiiaiaaGreatDoor.Exec
variable {P:Program} {m:Bij} {W:World}
structure Pd (N base:Nat) (m:Bij) (hH:H) (W:World) (i:Nat) (ob:bZ):Prop where
 lt:base+i<hH.next
 iN:i<N
 ex:∃b o',m.r (base+i) b∧W.heap[b]?=some o'∧ic m (base+i) ob o'∧∀n,m.r n b→n=base+i∨(hH.get n=none∧∀i2,i2<N→n≠base+i2)
theorem Pd.put {N base:Nat} {hH:H} {i:Nat} {ob:bZ} (hw:bw m hH W) (hp:Pd N base m hH W i ob):
 bw m (hH.put (base+i) ob) W∧(∀n,(hH.put (base+i) ob).get n=if n=base+i then some ob else hH.get n)∧∀i2 ob2,i2≠i→Pd N base m hH W i2 ob2→Pd N base m (hH.put (base+i) ob) W i2 ob2:=by
 obtain⟨aH,hN,b,o',h1,h2,h3,h4⟩:=hp
 have hg:∀n,(hH.put (base+i) ob).get n=if n=base+i then some ob else hH.get n:=fun n=>zfH hw.room hw.le aH ob n
 refine⟨⟨fun n o ho=>?_,hw.fresh,hw.ran,fun n k c g1 g2 g3 g4=>?_,hw.room,hw.le⟩,hg,fun i2 ob2 hne hp2=>?_⟩
 ·rw[hg] at ho
  split at ho
  ·rename_i e;subst e
   simp only[Option.some.injEq] at ho;subst ho
   exact⟨b,o',h1,h2,h3⟩
  ·exact hw.obj n o ho
 ·rw[hg] at g3 g4
  by_cases e1:n=base+i
  ·subst e1
   by_cases e2:k=base+i
   ·exact e2.symm
   ·rw[if_neg e2] at g4
    have:b=c:=m.fn h1 g1
    subst this
    rcases h4 k g2 with q|⟨q,_⟩
    ·exact q.symm
    ·exact absurd q g4
  ·rw[if_neg e1] at g3
   by_cases e2:k=base+i
   ·subst e2
    have:b=c:=m.fn h1 g2
    subst this
    rcases h4 n g1 with q|⟨q,_⟩
    ·exact q
    ·exact absurd q g3
   ·rw[if_neg e2] at g4
    exact hw.inj n k c g1 g2 g3 g4
 ·obtain⟨k1,k2,b2,o2,q1,q2,q3,q4⟩:=hp2
  refine⟨k1,k2,b2,o2,q1,q2,q3,fun n hn=>?_⟩
  rcases q4 n hn with q|⟨q,q5⟩
  ·exact .inl q
  ·refine .inr ⟨?_,q5⟩
   rw[hg,if_neg (q5 i hN)];exact q
theorem ie {N base bj:Nat}:∀(pd:List (Nat×bZ)) (hH:H),bw m hH W→(∀i ob,(i,ob)∈pd→bj.testBit i=true→Pd N base m hH W i ob)→(pd.map (·.1)).Nodup→
 bw m (eJ base bj pd hH) W∧(eJ base bj pd hH).next=hH.next∧(eJ base bj pd hH).lim=hH.lim∧(∀n,hH.get n=none→(∀i,i<N→bj.testBit i=true→n≠base+i)→(eJ base bj pd hH).get n=none)∧
  ∀i ob,Pd N base m hH W i ob→(∀ob2,(i,ob2)∈pd→bj.testBit i=false)→Pd N base m (eJ base bj pd hH) W i ob
 |[],hH,hw,_,_=>⟨hw,rfl,rfl,fun n hn _=>hn,fun i ob hp _=>hp⟩
 |(i,ob)::pd,hH,hw,hp,hnd=>by
  simp only[List.map_cons,List.nodup_cons] at hnd
  simp only[eJ]
  split
  ·rename_i hb
   obtain⟨w1,g1,k1⟩:=Pd.put hw (hp i ob (by simp) hb)
   have hne:∀i2 ob2,(i2,ob2)∈pd→i2≠i:=fun i2 ob2 hm e=>by
    subst e;exact hnd.1 (List.mem_map.2 ⟨_,hm,rfl⟩)
   obtain⟨a1,a2,a3,a4,a5⟩:=ie pd (hH.put (base+i) ob) w1 (fun i2 ob2 hm hb2=>k1 i2 ob2 (hne i2 ob2 hm) (hp i2 ob2 (by simp[hm]) hb2)) hnd.2
   refine⟨a1,a2,a3,fun n hn hne2=>a4 n ?_ hne2,fun i2 ob2 hp2 hnb=>a5 i2 ob2 (k1 i2 ob2 ?_ hp2) fun ob3 hm=>hnb ob3 (by simp[hm])⟩
   ·rw[g1,if_neg (hne2 i (hp i ob (by simp) hb).iN hb)];exact hn
   ·rintro rfl
    rw[hnb ob (by simp)] at hb;simp at hb
  ·rename_i hb
   obtain⟨a1,a2,a3,a4,a5⟩:=ie pd hH hw (fun i2 ob2 hm hb2=>hp i2 ob2 (by simp[hm]) hb2) hnd.2
   exact⟨a1,a2,a3,a4,fun i2 ob2 hp2 hnb=>a5 i2 ob2 hp2 fun ob3 hm=>hnb ob3 (by simp[hm])⟩
section
variable {hk:eF} {rec:Rec} {ops:Array Oper} {bef:Array Nat} {base:Nat} {t:T} {h0:H} {es:List Ent} {t':T} {h':H} {p':List (Nat×bZ)} {st:Nat→T×H×List (Nat×bZ)}
theorem Rg.nodup (R:Rg hk P rec ops bef base t h0 es t' h' p' st):∀(j:Nat),j≤ops.size→((st j).2.2.map (·.1)).Nodup:=by
 intro j
 induction j with
 |zero=>intro _;rw[R.tr.first];simp
 |succ j ih=>
  intro hj
  have hnd:=ih (by omega)
  obtain⟨p,hp⟩:=R.get (i:=j) (by omega)
  obtain⟨f,q1,_,q3,_,_⟩:=R.make hp
  generalize hpd:(st (j+1)).2.2=pd' at *
  cases q3 with
  |no _=>exact hnd
  |ld _ _ _ _ _ _=>exact hnd
  |flt v h2 hw hop=>
   cases hg:h2.get (base+j) with
   |none=>exact hnd
   |some ob2=>
    simp only[List.map_cons,List.nodup_cons]
    refine⟨fun hm=>?_,hnd⟩
    obtain⟨⟨i,ob⟩,h1,h2⟩:=List.mem_map.1 hm
    simp only at h2;subst h2
    have:=(R.pd i (by omega) i ob h1).1
    omega
  |ch nx h2 v h3 hw hop hn=>exact(hnd.sublist ((List.filter_sublist).map _))
structure Inv (N:Nat) (bef:Array Nat) (base:Nat) (t:T) (es:List Ent) (ops:Array Oper) (hH:H) (m0:Bij) (h:H) (W0:World) (ro:Option Nat) (listed:Array Bool) (c:Nat) (m:Bij) (a:Act) (W:World):Prop where
 size:listed.size=N
 cle:c≤N
 cut:∀k,du es k→(listed.getD k false=true↔k<c)
 down:∀j,j<N→listed.getD j false=true→∀k,(bef.getD j 0).testBit k=true→listed.getD k false=true
 snd:Snd m0 h W0 m hH W
 tin:∀i o e d,ops[i]?=some o→es[i]?=some e→o.dst=some d→listed.getD i false=true→ak m e.v (a.tmps.getD d undef)
 tout:∀x,(∀i o,ops[i]?=some o→o.dst=some x→listed.getD i false=false)→ak m (t.get x) (a.tmps.getD x undef)
 asz:t.n=a.tmps.size
 marks:ll m t.marks a.defers
 round:aT m.r t.round ro
 next:base+N≤hH.next
 dead:∀i,i<N→(∀k,du es k→k<c→(bef.getD k 0).testBit i=false)→hH.get (base+i)=none
 new:∀i,i<N→listed.getD i false=false→∀b,¬m.r (base+i) b
 pend:∀i e ob,listed.getD i false=true→es[i]?=some e→e.ob=some ob→(∀k,du es k→k<c→(bef.getD k 0).testBit i=false)→Pd N base m hH W i ob
end
end Go.Proofs.YtlbipokkdiiaiaaGreatDoor.Exec
namespace Go.Proofs.YtlbipokkdiiaiaaGreatDoor.Exec
variable {P:Program} {m:Bij} {W:World}
theorem nV (a:Act) (d:Tmp) (v:Value) (x:Nat) (hd:@LT.lt Nat _ d a.tmps.size):(a.put (some d) v).tmps.getD x undef=if x=d then v else a.tmps.getD x undef:=by
 show(a.tmps.setIfInBounds d v).getD x undef=_
 rw[Array.getD_eq_getD_getElem?]
 by_cases hx:x=d
 ·subst hx;rw[if_pos rfl,Array.getElem?_setIfInBounds_self_of_lt hd];rfl
 ·rw[if_neg hx,Array.getElem?_setIfInBounds_ne (fun e=>hx e.symm),←Array.getD_eq_getD_getElem?]
theorem gM (l:Array Bool) (i:Nat) (hi:i<l.size):(l.setIfInBounds i true).getD i false=true:=by
 rw[Array.getD_eq_getD_getElem?,Array.getElem?_setIfInBounds_self_of_lt hi];rfl
theorem cf (l:Array Bool) (i j:Nat) (h:i≠j):(l.setIfInBounds i true).getD j false=l.getD j false:=by
 rw[Array.getD_eq_getD_getElem?,Array.getElem?_setIfInBounds_ne h,←Array.getD_eq_getD_getElem?]
theorem rO (l:Array Bool) (i:Nat) (hi:i<l.size):l.getD i true=l.getD i false:=by
 rw[Array.getD_eq_getD_getElem?,Array.getD_eq_getD_getElem?,Array.getElem?_eq_getElem hi];rfl
section
variable {hk:eF} {rec:Rec} {ops:Array Oper} {bef:Array Nat} {base:Nat} {t:T} {h0:H} {es:List Ent} {t':T} {h':H} {p':List (Nat×bZ)} {st:Nat→T×H×List (Nat×bZ)}
 {hH:H} {m0:Bij} {h:H} {W0:World} {ro:Option Nat} {listed:Array Bool} {c:Nat} {a:Act}
theorem Inv.bits (R:Rg hk P rec ops bef base t h0 es t' h' p' st) (I:Inv ops.size bef base t es ops hH m0 h W0 ro listed c m a W) {i:Nat} {o:Oper} (ho:ops[i]?=some o)
 (hr:∀e∈o.after,Region.binds .any e=true→listed.getD e.on false=true) {k:Nat} (hb:(bef.getD i 0).testBit k=true):listed.getD k false=true:=by
 obtain⟨e,h1,h2,h3⟩:=R.ok.bit ho hb
 have hl:=hr e h1 h2
 rcases h3 with rfl|h3
 ·exact hl
 ·have:=R.ok.low i o ho e h1 h2
  have hi:=(Array.getElem?_eq_some_iff.1 ho).1
  exact I.down e.on (by omega) hl k h3
theorem Inv.look (R:Rg hk P rec ops bef base t h0 es t' h' p' st) (I:Inv ops.size bef base t es ops hH m0 h W0 ro listed c m a W) {i:Nat} {o:Oper} (ho:ops[i]?=some o)
 (hr:∀e∈o.after,Region.binds .any e=true→listed.getD e.on false=true) {y:Tmp} (hy:(.tmp y∈o.op.operands)∨∃g b,o.guard=some (g,b)∧(ops[g]?).bind (·.dst)=some y):
 ak m ((st i).1.get y) (a.tmps.getD y undef):=by
 have hi:=(Array.getElem?_eq_some_iff.1 ho).1
 by_cases hex:∃(j:Nat) (p:Oper),ops[j]?=some p∧p.dst=some y
 ·obtain⟨j,p,hp,hd⟩:=hex
  have hb:=R.ok.looks i o ho y hy j p hp hd
  have hl:=I.bits R ho hr hb
  have aH:=R.ok.lt i ho hb
  obtain⟨e,q1,_⟩:=R.make hp
  rw[R.tin hp q1 hd i aH (by omega)]
  exact I.tin j p e y hp q1 hd hl
 ·rw[R.tout i (by omega) fun j p _ hp hd=>hex ⟨j,p,hp,hd⟩]
  exact I.tout y fun j p hp hd=>absurd ⟨j,p,hp,hd⟩ hex
theorem Inv.operands (R:Rg hk P rec ops bef base t h0 es t' h' p' st) (I:Inv ops.size bef base t es ops hH m0 h W0 ro listed c m a W) {i:Nat} {o:Oper} (ho:ops[i]?=some o)
 (hr:∀e∈o.after,Region.binds .any e=true→listed.getD e.on false=true) (hok:o.op.operands.toList.all di=true):∀x∈o.op.operands,ak m ((st i).1.eval x) (a.eval x):=by
 intro x hx
 have hxk:=List.all_eq_true.1 hok x (by simpa using hx)
 cases x with
 |tmp y=>exact I.look R ho hr (.inl hx)
 |const v=>exact iM hxk
 |global g=>simp[di] at hxk
 |func f=>exact .func (.func f) rfl (fun i h=>by simp at h) rfl (fun i h=>by simp at h)
theorem Inv.wanted (R:Rg hk P rec ops bef base t h0 es t' h' p' st) (I:Inv ops.size bef base t es ops hH m0 h W0 ro listed c m a W) {i:Nat} {o:Oper} (ho:ops[i]?=some o)
 (hr:∀e∈o.after,Region.binds .any e=true→listed.getD e.on false=true):Region.wanted o (yielded ops a.tmps)=eY ops (st i).1 o:=by
 have hi:=(Array.getElem?_eq_some_iff.1 ho).1
 have hn:=(R.tn i (by omega)).1
 have hs:=I.asz
 unfold Region.wanted eY
 cases hg:o.guard with
 |none=>rfl
 |some g=>
  obtain⟨j,w⟩:=g
  simp only[yielded]
  cases hd:(ops[j]?).bind (·.dst) with
  |none=>rfl
  |some d=>
   simp only[Option.bind_some]
   have this:=I.look R ho hr (y:=d) (.inr ⟨j,w,hg,hd⟩)
   by_cases aH:d<(st i).1.n
   ·have hd':@LT.lt Nat _ d (st i).1.n:=aH
    have hl:@LT.lt Nat _ d a.tmps.size:=by omega
    rw[Array.getD_eq_getD_getElem?,Array.getElem?_eq_getElem hl] at this
    simp only[Option.getD_some] at this
    rw[Array.getElem?_eq_getElem hl,if_pos aH]
    generalize (st i).1.get d=x at *
    generalize a.tmps[d]=y at *
    cases this<;>simp
   ·have hd':¬@LT.lt Nat _ d (st i).1.n:=aH
    rw[Array.getElem?_eq_none (by omega),if_neg aH];simp
theorem Inv.next_ (R:Rg hk P rec ops bef base t h0 es t' h' p' st) (I:Inv ops.size bef base t es ops hH m0 h W0 ro listed c m a W) {i:Nat} {o:Oper} {e:Ent} (ho:ops[i]?=some o) (he:es[i]?=some e)
 (hun:listed.getD i false=false) (hr:∀e∈o.after,Region.binds .any e=true→listed.getD e.on false=true) {m':Bij} (hm:m≤m') {v':Value} (hv:ak m' e.v v') {c':Nat} {hH':H} {W':World} (h1:c'≤ops.size)
 (h2:∀k,du es k→((listed.setIfInBounds i true).getD k false=true↔k<c')) (h3:Snd m0 h W0 m' hH' W') (h4:base+ops.size≤hH'.next)
 (h5:∀i,i<ops.size→(∀k,du es k→k<c'→(bef.getD k 0).testBit i=false)→hH'.get (base+i)=none)
 (h6:∀j,j<ops.size→(listed.setIfInBounds i true).getD j false=false→∀b,¬m'.r (base+j) b)
 (h7:∀j e ob,(listed.setIfInBounds i true).getD j false=true→es[j]?=some e→e.ob=some ob→(∀k,du es k→k<c'→(bef.getD k 0).testBit j=false)→Pd ops.size base m' hH' W' j ob):
 Inv ops.size bef base t es ops hH' m0 h W0 ro (listed.setIfInBounds i true) c' m' (a.put o.dst v') W':=by
 have hi:=(Array.getElem?_eq_some_iff.1 ho).1
 have hil:i<listed.size:=by rw[I.size];exact hi
 have hsz:=I.asz
 refine⟨by simpa using I.size,h1,h2,?_,h3,?_,?_,?_,?_,I.round.mono fun _ _ q=>(hm _ _ q).1,h4,h5,h6,h7⟩
 ·intro j hj hl k hb
  by_cases hki:i=k
  ·subst hki;exact gM _ _ hil
  ·rw[cf _ _ _ hki]
   by_cases hji:i=j
   ·subst hji;exact I.bits R ho hr hb
   ·rw[cf _ _ _ hji] at hl;exact I.down j hj hl k hb
 ·intro j p f d hp hf hd hl
  by_cases hji:i=j
  ·subst hji
   rw[ho] at hp;cases hp
   rw[he] at hf;cases hf
   have aH:@LT.lt Nat _ d t.n:=R.ok.dst i o d ho hd
   rw[hd,nV a d v' d (by omega),if_pos rfl];exact hv
  ·rw[cf _ _ _ hji] at hl
   have hold:=(I.tin j p f d hp hf hd hl).mono hm
   cases hod:o.dst with
   |none=>exact hold
   |some d2=>
    have aH:@LT.lt Nat _ d2 t.n:=R.ok.dst i o d2 ho hod
    rw[nV a d2 v' d (by omega),if_neg (by rintro rfl;exact hji (R.ok.one i j o p d ho hp hod hd))];exact hold
 ·intro x hx
  have hold:=(I.tout x fun j p hp hd=>by
   have:=hx j p hp hd
   by_cases hji:i=j
   ·subst hji;exact hun
   ·rwa [cf _ _ _ hji] at this).mono hm
  cases hod:o.dst with
  |none=>exact hold
  |some d2=>
   have aH:@LT.lt Nat _ d2 t.n:=R.ok.dst i o d2 ho hod
   rw[nV a d2 v' x (by omega),if_neg (by
    rintro rfl
    have:=hx i o ho hod
    rw[gM _ _ hil] at this;simp at this)]
   exact hold
 ·cases hod:o.dst with
  |none=>exact hsz
  |some d2=>show t.n=(a.tmps.setIfInBounds d2 v').size;simpa using hsz
 ·cases hod:o.dst with
  |none=>exact I.marks.mono hm
  |some d2=>exact I.marks.mono hm
end
end Go.Proofs.YtlbipokkdiiaiaaGreatDoor.Exec
namespace Go.Proofs.YtlbipokkdiiaiaaGreatDoor.Exec
variable {P:Program} {m:Bij} {W:World}
theorem rr:∀(n:Nat) {x y:Value},jw n x y=true→x=y:=by
 intro n
 induction n with
 |zero=>
  intro x y h
  unfold jw at h
  split at h<;>first|(simp at h;done)|(exfalso;omega)|skip
  ·simpa using h
  ·simpa using h
  ·rename_i a b;congr 1;exact ByteArray.ext (by simpa using h)
  ·simpa using h
  ·simp only[Bool.and_eq_true,beq_iff_eq] at h;obtain⟨⟨rfl,rfl⟩,rfl⟩:=h;rfl
  ·simpa using h
  ·rfl
  ·rfl
  all_goals(rename_i e;simp at e)
 |succ n ih=>
  have all:∀(l k:List Value),l.length=k.length→((l.zip k).all fun(a,b)=>jw n a b)=true→l=k:=by
   intro l
   induction l with
   |nil=>intro k h _;cases k<;>simp_all
   |cons a l ih2=>
    intro k h1 h2
    cases k with
    |nil=>simp at h1
    |cons b k=>
     simp only[List.zip_cons_cons,List.all_cons,Bool.and_eq_true] at h2
     rw[ih h2.1,ih2 k (by simpa using h1) h2.2]
  have arr:∀(a b:Array Value),a.size=b.size→((a.toList.zip b.toList).all fun(a,b)=>jw n a b)=true→a=b:=fun a b h1 h2=>by
   have:=all a.toList b.toList (by simpa using h1) h2
   exact Array.ext' this
  intro x y h
  unfold jw at h
  split at h<;>first|(simp at h;done)|skip
  ·simpa using h
  ·simpa using h
  ·rename_i a b;congr 1;exact ByteArray.ext (by simpa using h)
  ·simpa using h
  ·simp only[Bool.and_eq_true,beq_iff_eq] at h;obtain⟨⟨rfl,rfl⟩,rfl⟩:=h;rfl
  ·simpa using h
  ·rfl
  ·rfl
  ·rename_i e
   obtain rfl:n=_:=by simpa using e
   simp only[Bool.and_eq_true,beq_iff_eq] at h
   obtain⟨⟨⟨⟨rfl,h2⟩,h3⟩,h4⟩,h5⟩:=h
   rw[arr _ _ h2 h4,arr _ _ h3 h5]
  ·rename_i e
   obtain rfl:n=_:=by simpa using e
   simp only[Bool.and_eq_true,beq_iff_eq] at h
   rw[h.1,ih h.2]
  ·rename_i e
   obtain rfl:n=_:=by simpa using e
   simp only[Bool.and_eq_true,beq_iff_eq] at h
   rw[arr _ _ h.1 h.2]
theorem tH {ρ ρ':Operand→Value} {o:Oper} {ty:TypeId} {x:Operand} (hop:o.op=.load ty x) {hH:H} {v:Value} (hl:eE P ρ o hH=some v) (hx:ak m (ρ x) (ρ' x)) (hw:bw m hH W):
 ∃v',(execOp ρ' o).run P W=.ok (.value v') W∧ak m v v':=by
 have hd:∀ρ:Operand→Value,execOp ρ o=(do pure (.value (←Instr.loadAt ty (ρ x)))):=fun ρ=>by
  obtain⟨_,op,_,_,_,_⟩:=o
  simp only at hop
  subst hop
  rfl
 unfold eE at hl
 split at hl
 ·rename_i v2 h2 hr
  simp only[Option.some.injEq] at hl
  subst hl
  rw[hd] at hr
  rw[hd]
  generalize hX:ρ' x=X at hx
  generalize ρ x=Y at hx hr
  have hp:∃ad,Y=.pointer (some ad):=by
   cases Y with
   |pointer ad=>cases ad with
    |some ad=>exact⟨ad,rfl⟩
    |none=>simp[Instr.loadAt,Instr.sureAddr,stuck,Bind.bind,Sem.bind,aB] at hr
   |_=>simp[Instr.loadAt,Instr.sureAddr,stuck,Bind.bind,Sem.bind,aB] at hr
  obtain⟨ad,rfl⟩:=hp
  cases hx with
  |pointer hp=>cases hp with
   |@some _ ad' ha=>
    have hr2:aB P ((loadVar ty ad).bind fun v=>Sem.pure (Next.value v)) hH=some (Next.value v2,h2):=hr
    have hsome:∃q,aB P (loadVar ty ad) hH=some q:=by
     cases hq:aB P (loadVar ty ad) hH with
     |some q=>exact⟨q,rfl⟩
     |none=>rw[zfA _ _ _ hq] at hr2;simp at hr2
    obtain⟨⟨u,h3⟩,hq⟩:=hsome
    rw[zfN _ _ _ hq] at hr2
    simp only[aB,Option.some.injEq,Prod.mk.injEq,Next.value.injEq] at hr2
    obtain⟨rfl,rfl⟩:=hr2
    obtain⟨_,v',k1,k2⟩:=qN hq ha hw
    refine⟨v',?_,k2⟩
    show((loadVar ty ad').bind fun v=>Sem.pure (Next.value v)).run P W=_
    have:(loadVar ty ad' >>= fun v=>(pure (.value v):Sem Next)).run P W=.ok (.value v') W:=by rw[Sem.run_bind,k1];rfl
    exact this
 ·simp at hl
section
variable {hk:eF} {rec:Rec} {ops:Array Oper} {bef:Array Nat} {base:Nat} {t:T} {h0:H} {es:List Ent} {t':T} {h':H} {p':List (Nat×bZ)} {st:Nat→T×H×List (Nat×bZ)}
 {m0:Bij} {h:H} {W0:World} {ro:Option Nat} {listed:Array Bool} {c:Nat} {a:Act}
theorem lf (R:Rg hk P rec ops bef base t h0 es t' h' p' st) {j k:Nat} {e f:Ent} (he:es[j]?=some e) (hf:es[k]?=some f) (hc:f.ch=true):
 (k<j→e.ch=true→(bef.getD j 0).testBit k=true)∧
 (k<j→e.ch=false→e.ld=true→(bef.getD j 0).testBit k=true∨∃v,eE P e.t.eval e.o f.h=some v∧jw 3 e.v v=true)∧
 (j<k→e.ld=true→(bef.getD k 0).testBit j=true∨∃v,eE P e.t.eval e.o f.g=some v∧jw 3 e.v v=true):=by
 have h1:=List.all_eq_true.1 R.chk (e,j) (by rw[List.mem_zipIdx_iff_getElem?];simpa using he)
 have h2:=List.all_eq_true.1 h1 (f,k) (by rw[List.mem_zipIdx_iff_getElem?];simpa using hf)
 simp only[hc,Bool.not_true,Bool.false_or] at h2
 refine⟨fun hkj hce=>?_,fun hkj hce hld=>?_,fun hjk hld=>?_⟩
 ·rw[if_pos hkj,if_pos hce] at h2;exact h2
 ·rw[if_pos hkj,if_neg (by simp[hce]),if_pos hld] at h2
  rcases Bool.or_eq_true_iff.1 h2 with h3|h3
  ·exact .inl h3
  ·right
   cases hl:eE P e.t.eval e.o f.h with
   |none=>rw[hl] at h3;simp at h3
   |some v=>rw[hl] at h3;exact⟨v,rfl,by simpa using h3⟩
 ·rw[if_neg (by omega),if_pos hjk,if_pos hld] at h2
  rcases Bool.or_eq_true_iff.1 h2 with h3|h3
  ·exact .inl h3
  ·right
   cases hl:eE P e.t.eval e.o f.g with
   |none=>rw[hl] at h3;simp at h3
   |some v=>rw[hl] at h3;exact⟨v,rfl,by simpa using h3⟩
theorem zbX (R:Rg hk P rec ops bef base t h0 es t' h' p' st) (I:Inv ops.size bef base t es ops (st c).2.1 m0 h W0 ro listed c m a W) {i:Nat} {o:Oper} {e:Ent} (ho:ops[i]?=some o) (he:es[i]?=some e)
 (hun:listed.getD i false=false) (hr:∀e∈o.after,Region.binds .any e=true→listed.getD e.on false=true) (hch:e.ch=false) (hld:e.ld=true) (hl:eE P e.t.eval e.o (st i).2.1=some e.v):
 eE P e.t.eval e.o (st c).2.1=some e.v:=by
 have hi:=(Array.getElem?_eq_some_iff.1 ho).1
 have fin:∀{hX:H},(∃v,eE P e.t.eval e.o hX=some v∧jw 3 e.v v=true)→eE P e.t.eval e.o hX=some e.v:=fun⟨v,h1,h2⟩=>by rw[h1,rr 3 h2]
 rcases Nat.lt_or_ge i c with hic|hic
 ·by_cases hex:∃k,i≤k∧k<c∧du es k
  ·
   have hlast:∃k,i≤k∧k<c∧du es k∧∀k2,k<k2→k2<c→¬du es k2:=by
    obtain⟨k,h1,h2,h3⟩:=hex
    have:∃q,(q<c-i∧du es (c-1-q))∧∀q2,(q2<c-i∧du es (c-1-q2))→q≤q2:=eC ⟨c-1-k,by omega,by rw[show c-1-(c-1-k)=k by omega];exact h3⟩
    obtain⟨q,⟨q1,q2⟩,q3⟩:=this
    refine⟨c-1-q,by omega,by omega,q2,fun k2 z1 z2 z3=>?_⟩
    have:=q3 (c-1-k2) ⟨by omega,by rw[show c-1-(c-1-k2)=k2 by omega];exact z3⟩
    omega
   obtain⟨k,h1,h2,h3,h4⟩:=hlast
   obtain⟨f,f1,f2⟩:=h3
   have hki:i<k:=by
    rcases Nat.lt_or_ge i k with q|q
    ·exact q
    ·have:k=i:=by omega
     subst this
     rw[he] at f1;cases f1;rw[hch] at f2;simp at f2
   have hkl:=(I.cut k ⟨f,f1,f2⟩).2 h2
   have hkN:=R.lt f1
   obtain⟨p,hp⟩:=R.get hkN
   obtain⟨f',g1,_,g3,_,g5⟩:=R.make hp
   rw[f1] at g1;cases g1
   have heq:(st c).2.1=f.g:=by
    rw[←R.const c (k+1) (by omega) I.cle (fun k2 z1 z2=>h4 k2 (by omega) z2),g5]
   rw[heq]
   rcases(lf R he f1 f2).2.2 hki hld with q|q
   ·have:=I.down k hkN hkl i q
    rw[hun] at this;simp at this
   ·exact fin q
  ·rw[←R.const c i (by omega) I.cle (fun k z1 z2 z3=>hex ⟨k,z1,z2,z3⟩)];exact hl
 ·by_cases hex:∃k,c≤k∧k<i∧du es k
  ·obtain⟨k,⟨h1,h2,h3⟩,h4⟩:=eC hex
   obtain⟨f,f1,f2⟩:=h3
   have hnl:listed.getD k false=false:=by
    cases hq:listed.getD k false with
    |false=>rfl
    |true=>have:=(I.cut k ⟨f,f1,f2⟩).1 hq;omega
   obtain⟨p,hp⟩:=R.get (R.lt f1)
   obtain⟨f',g1,_,g3,_,g5⟩:=R.make hp
   rw[f1] at g1;cases g1
   have heq:(st c).2.1=f.h:=by
    rw[R.const k c h1 (by omega) (fun k2 z1 z2 z3=>by have:=h4 k2 ⟨z1,by omega,z3⟩;omega),g3.same.2.2.1]
   rw[heq]
   rcases(lf R he f1 f2).2.1 h2 hch hld with q|q
   ·have:=I.bits R ho hr q
    rw[hnl] at this;simp at this
   ·exact fin q
  ·rw[R.const i c hic (by omega) (fun k z1 z2 z3=>hex ⟨k,z1,z2,z3⟩)];exact hl
end
end Go.Proofs.YtlbipokkdiiaiaaGreatDoor.Exec
namespace Go.Proofs.YtlbipokkdiiaiaaGreatDoor.Exec
variable {P:Program} {m:Bij} {W:World}
section
variable {hk:eF} {rec:Rec} {ops:Array Oper} {bef:Array Nat} {base:Nat} {t:T} {h0:H} {es:List Ent} {t':T} {h':H} {p':List (Nat×bZ)} {st:Nat→T×H×List (Nat×bZ)}
 {m0:Bij} {h:H} {W0:World} {ro:Option Nat} {listed:Array Bool} {c:Nat} {a:Act}
theorem zbR (I:Inv ops.size bef base t es ops (st c).2.1 m0 h W0 ro listed c m a W) {i:Nat} {e:Ent} (he:es[i]?=some e) (hch:e.ch=false):∀k,du es k→((listed.setIfInBounds i true).getD k false=true↔k<c):=fun k hc=>by
 have hki:i≠k:=by
  rintro rfl
  obtain⟨f,f1,f2⟩:=hc
  rw[he] at f1;cases f1
  rw[hch] at f2;simp at f2
 rw[cf _ _ _ hki];exact I.cut k hc
theorem uf (I:Inv ops.size bef base t es ops (st c).2.1 m0 h W0 ro listed c m a W) {i:Nat} (hi:i<ops.size):∀j,j<ops.size→(listed.setIfInBounds i true).getD j false=false→i≠j∧∀b,¬m.r (base+j) b:=fun j hj hl=>by
 by_cases hij:i=j
 ·subst hij;rw[gM _ _ (by rw[I.size];exact hi)] at hl;simp at hl
 ·rw[cf _ _ _ hij] at hl;exact⟨hij,I.new j hj hl⟩
theorem zeF (g:Good P) (hs:jG P rec) (hh:gy P hk) (R:Rg hk P rec ops bef base t h0 es t' h' p' st) (hbase:h.next=base) (hw0:bw m0 h W0) (hlim:base+ops.size≤h.lim)
 (I:Inv ops.size bef base t es ops (st c).2.1 m0 h W0 ro listed c m a W) {i:Nat} {o:Oper} (ho:ops[i]?=some o) (hun:listed.getD i false=false) (hr:∀e∈o.after,Region.binds .any e=true→listed.getD e.on false=true)
 {K:Act→World→Prop} {Q:Exit→Act→World→Prop} (hK:∀c' m' a' W',Inv ops.size bef base t es ops (st c').2.1 m0 h W0 ro (listed.setIfInBounds i true) c' m' a' W'→K a' W'):wpOpIn (Fr ro) 0 P ops Q i K a W:=by
 have hi:=(Array.getElem?_eq_some_iff.1 ho).1
 obtain⟨e,he,hok,hm,htt,hhh⟩:=R.make ho
 have hρ:=I.operands R ho hr hok
 have hwant:=I.wanted R ho hr
 have hwr:=I.snd.rel
 unfold wpOpIn
 simp only[ho,hwant]
 have still:∀(m':Bij) (v':Value) (W':World),m≤m'→ak m' e.v v'→e.ch=false→Snd m0 h W0 m' (st c).2.1 W'→(∀j,j<ops.size→i≠j→listed.getD j false=false→∀b,¬m'.r (base+j) b)→
  (∀ob,e.ob=some ob→(∀k,du es k→k<c→(bef.getD k 0).testBit i=false)→Pd ops.size base m' (st c).2.1 W' i ob)→
  (∀j f ob,i≠j→Pd ops.size base m (st c).2.1 W j ob→es[j]?=some f→f.ob=some ob→Pd ops.size base m' (st c).2.1 W' j ob)→K (a.put o.dst v') W':=by
  intro m' v' W' k1 k2 k3 k4 k5 k6 k7
  refine hK c m' _ W' (I.next_ R ho he hun hr k1 k2 I.cle (zbR I he k3) k4 I.next I.dead ?_ ?_)
  ·intro j hj hl
   obtain⟨q1,q2⟩:=uf I hi j hj hl
   rw[cf _ _ _ q1] at hl
   exact k5 j hj q1 hl
  ·intro j f ob hl hf hob hno
   by_cases hij:i=j
   ·subst hij
    rw[he] at hf;cases hf
    exact k6 ob hob hno
   ·rw[cf _ _ _ hij] at hl
    exact k7 j f ob hij (I.pend j f ob hl hf hob hno) hf hob
 generalize hpd':(st (i+1)).2.2=pd' at hm
 cases hm with
 |no hw=>
  rw[hw]
  simp only[Bool.false_eq_true,if_false]
  exact⟨fun _ _=>trivial,still m undef W (Bij.le_refl m) gJ rfl I.snd (fun j hj _ hl=>I.new j hj hl) (fun ob h=>by simp at h) (fun j f ob _ h _ _=>h)⟩
 |ld v ty x hw hop hl=>
  rw[hw]
  simp only[if_true]
  have hnow:=zbX R I ho he hun hr rfl rfl hl
  obtain⟨v',r1,r2⟩:=tH hop hnow (hρ x (by rw[hop];simp[Op.operands])) hwr
  refine⟨fun _ _=>trivial,?_⟩
  rw[Oper.semAt_eq _ _ _ (fun c hc=>by rw[hop] at hc;cases hc),r1]
  exact still m v' W (Bij.le_refl m) r2 rfl I.snd (fun j hj _ hl=>I.new j hj hl) (fun ob h=>by simp at h) (fun j f ob _ h _ _=>h)
 |flt v h2 hw hop=>
  rw[hw]
  simp only[if_true]
  have hnew:=I.new i hi hun
  have htiny:bw m ⟨.leaf,base+i,base+i+1⟩ W:=by
   have hg:∀n,(⟨.leaf,base+i,base+i+1⟩:H).get n=none:=fun n=>by unfold H.get;simp[zfv]
   refine⟨fun n o ho=>(by rw[hg] at ho;simp at ho),fun n h1 h2=>?_,hwr.ran,fun n k b _ _ g1 _=>absurd (hg n) g1,?_,by simp⟩
   ·have:n=base+i:=by simp only at h1 h2;omega
    subst this;exact hnew
   ·have:=hw0.room
    simp only;omega
  have hge:∀n,(⟨.leaf,base+i,base+i+1⟩:H).get n=none:=fun n=>by unfold H.get;simp[zfv]
  obtain⟨m1,nx',W1,r1,r2,r3⟩:=mo g hρ htiny hop
  refine⟨fun _ _=>trivial,?_⟩
  rw[Oper.semAt_eq _ _ _ (oz hop),r1]
  cases r2 with
  |@value _ v' hv=>
  have hnewp:∀n b,m1.r n b→m.r n b∨(n=base+i∧W.heap.size≤b):=fun n b hn=>by
   rcases r3.new n b hn with q|⟨q1,q2,q3⟩
   ·exact .inl q
   ·have hl:=r3.rel.le
    rw[r3.lim] at hl
    simp only at q1 hl
    refine .inr ⟨by omega,?_⟩
    rcases q3 with q3|⟨k,_,q4⟩
    ·exact q3
    ·exact absurd (hge k) q4
  have hblk:∀b,b<W.heap.size→W1.heap[b]?=W.heap[b]?:=fun b hb=>r3.block b hb fun n _=>hge n
  have hnx:=I.next
  have hsnd:Snd m0 h W0 m1 (st c).2.1 W1:=by
   refine⟨Bij.le_trans I.snd.le r3.le,⟨fun n x hx=>?_,fun n h1 h2 b hb=>?_,r3.rel.ran,fun n k b h1 h2 g1 g2=>?_,hwr.room,hwr.le⟩,Nat.le_trans I.snd.size r3.size,fun b hb hn=>?_,I.snd.next,I.snd.lim,I.snd.dead,fun n b hn=>?_,r3.rest.1.trans I.snd.rest.1,r3.rest.2.1.trans I.snd.rest.2.1,r3.rest.2.2.trans I.snd.rest.2.2⟩
   ·obtain⟨b,o',q1,q2,q3⟩:=hwr.obj n x hx
    exact⟨b,o',(r3.le _ _ q1).1,by rw[hblk b (hwr.ran _ _ q1)];exact q2,q3.mono r3.le q1⟩
   ·rcases hnewp n b hb with q|⟨q1,_⟩
    ·exact hwr.fresh n h1 h2 b q
    ·omega
   ·have dead:(∃k,du es k∧k<c∧(bef.getD k 0).testBit i=true)∨(st c).2.1.get (base+i)=none:=by
     by_cases hq:∃k,du es k∧k<c∧(bef.getD k 0).testBit i=true
     ·exact .inl hq
     ·right
      refine I.dead i hi fun k hk1 hk2=>?_
      cases hb:(bef.getD k 0).testBit i with
      |false=>rfl
      |true=>exact absurd ⟨k,hk1,hk2,hb⟩ hq
    have hdead:(st c).2.1.get (base+i)=none:=by
     rcases dead with⟨k,k1,k2,k3⟩|q
     ·have:=I.down k (by have:=R.lt k1.choose_spec.1;exact this) ((I.cut k k1).2 k2) i k3
      rw[hun] at this;simp at this
     ·exact q
    rcases hnewp n b h1 with q|⟨rfl,_⟩
    ·rcases hnewp k b h2 with q2|⟨rfl,_⟩
     ·exact hwr.inj n k b q q2 g1 g2
     ·exact absurd hdead g2
    ·exact absurd hdead g1
   ·rw[hblk b (Nat.lt_of_lt_of_le hb I.snd.size)];exact I.snd.block b hb hn
   ·rcases hnewp n b hn with q|⟨rfl,q⟩
    ·exact I.snd.new n b q
    ·exact .inr ⟨by rw[hbase];omega,by omega,.inl (Nat.le_trans I.snd.size q)⟩
  refine still m1 v' W1 r3.le hv rfl hsnd (fun j hj hij hl b hb=>?_) (fun ob hob hno=>?_) (fun j f ob hij hp _ _=>?_)
  ·rcases hnewp _ b hb with q|⟨q,_⟩
   ·exact I.new j hj hl b q
   ·omega
  ·simp only at hob
   obtain⟨b,o',q1,q2,q3⟩:=r3.rel.obj _ _ hob
   have hbw:W.heap.size≤b:=by
    rcases hnewp _ b q1 with q|⟨_,q⟩
    ·exact absurd q (hnew b)
    ·exact q
   refine⟨by omega,hi,b,o',q1,q2,q3,fun n hn=>?_⟩
   rcases hnewp n b hn with q|⟨q,_⟩
   ·have:=hwr.ran _ _ q;omega
   ·exact .inl q
  ·obtain⟨k1,k2,b,o',q1,q2,q3,q4⟩:=hp
   have hbw:=hwr.ran _ _ q1
   refine⟨k1,k2,b,o',(r3.le _ _ q1).1,by rw[hblk b hbw];exact q2,q3.mono r3.le q1,fun n hn=>?_⟩
   rcases hnewp n b hn with q|⟨_,q⟩
   ·exact q4 n q
   ·omega
 |ch nx h2 v h3 hw hop hn=>
  rw[hw]
  simp only[if_true]
  have hchain:du es i:=⟨_,he,rfl⟩
  have hcut:∀k,du es k→(k<c↔k<i):=fun k hk=>by
   obtain⟨f,f1,f2⟩:=id hk
   constructor
   ·intro hkc
    have hl:=(I.cut k hk).2 hkc
    rcases Nat.lt_trichotomy k i with q|q|q
    ·exact q
    ·subst q;rw[hun] at hl;simp at hl
    ·have hb:=(lf R f1 he rfl).1 q f2
     have:=I.down k (R.lt f1) hl i hb
     rw[hun] at this;simp at this
   ·intro hki
    exact(I.cut k hk).1 (I.bits R ho hr ((lf R he f1 f2).1 hki rfl))
  have hHi:(st c).2.1=(st i).2.1:=by
   rcases Nat.lt_or_ge i c with q|q
   ·exact(R.const c i (by omega) I.cle fun k z1 z2 z3=>by
     have:=(hcut k z3).1 z2
     omega).symm
   ·exact R.const i c q (by omega) fun k z1 z2 z3=>by
     have:=(hcut k z3).2 z2
     omega
  have hpdf:∀j ob,(j,ob)∈(st i).2.2→(bef.getD i 0).testBit j=true→Pd ops.size base m (st i).2.1 W j ob:=fun j ob hmem hb=>by
   obtain⟨z1,⟨f,f1,f2⟩,z3⟩:=R.pd i (by omega) j ob hmem
   have hl:=I.bits R ho hr hb
   rw[←hHi]
   exact I.pend j f ob hl f1 f2 fun k hk hkc=>z3 k ((hcut k hk).1 hkc) hk
  have hwi:bw m (st i).2.1 W:=by rw[←hHi];exact hwr
  obtain⟨a1,a2,a3,a4,a5⟩:=ie (N:=ops.size) (base:=base) (bj:=bef.getD i 0) (st i).2.2 (st i).2.1 hwi hpdf (R.nodup i (by omega))
  have hnx:base+ops.size≤(st i).2.1.next:=by rw[←hHi];exact I.next
  obtain⟨m1,nx',W1,r1,r2,r3⟩:=mo g hρ a1 hop
  refine⟨fun _ _=>trivial,?_⟩
  rw[Oper.semAt_eq _ _ _ (oz hop),r1]
  refine nM hs hh r2 hn r3.rel fun m2 v' W2 hv q=>?_
  have hall:=r3.trans a1 q
  have hbefore:Snd m0 h W0 m (eJ base (bef.getD i 0) (st i).2.2 (st i).2.1) W:=by
   have hI:=I.snd
   rw[hHi] at hI
   refine⟨hI.le,a1,hI.size,hI.block,by rw[a2];exact hI.next,by rw[a3];exact hI.lim,fun n hn1 hn2=>a4 n (hI.dead n hn1 hn2) fun j hj _=>by omega,fun n b hn1=>by rw[a2];exact hI.new n b hn1,hI.rest⟩
  have hfull:=hbefore.trans hw0 hall
  have hst:(st (i+1)).2.1=h3:=hhh
  rw[←hst] at hfull hall
  have hnext2:base+ops.size≤(st (i+1)).2.1.next:=by
   have:=hall.next
   rw[a2] at this;omega
  refine hK (i+1) m2 _ W2 (I.next_ R ho he hun hr hall.le hv (by omega) ?_ hfull hnext2 ?_ ?_ ?_)
  ·intro k hk
   by_cases hik:i=k
   ·subst hik
    rw[gM _ _ (by rw[I.size];exact hi)];simp
   ·rw[cf _ _ _ hik,I.cut k hk,hcut k hk];omega
  ·intro j hj hno
   refine hall.dead (base+j) (by rw[a2];omega) (a4 _ ?_ fun j2 hj2 hb2 he2=>?_)
   ·rw[←hHi]
    exact I.dead j hj fun k hk hkc=>hno k hk (by have:=(hcut k hk).1 hkc;omega)
   ·have:j2=j:=by omega
    subst this
    rw[hno i hchain (by omega)] at hb2;simp at hb2
  ·intro j hj hl b hb
   obtain⟨q1,q2⟩:=uf I hi j hj hl
   rcases hall.new _ b hb with z|⟨z1,_,_⟩
   ·exact q2 b z
   ·rw[a2] at z1;omega
  ·intro j f ob hl hf hob hno
   have hij:i≠j:=by
    rintro rfl
    rw[he] at hf;cases hf
    simp at hob
   rw[cf _ _ _ hij] at hl
   have hpj:=I.pend j f ob hl hf hob fun k hk hkc=>hno k hk (by have:=(hcut k hk).1 hkc;omega)
   rw[hHi] at hpj
   obtain⟨k1,k2,b,o',q1,q2,q3,q4⟩:=a5 j ob hpj fun ob2 _=>hno i hchain (by omega)
   have hbw:=a1.ran _ _ q1
   have hdj:(eJ base (bef.getD i 0) (st i).2.2 (st i).2.1).get (base+j)=none:=by
    refine a4 _ ?_ fun j2 hj2 hb2 he2=>?_
    ·rw[←hHi]
     exact I.dead j k2 fun k hk hkc=>hno k hk (by have:=(hcut k hk).1 hkc;omega)
    ·have:j2=j:=by omega
     subst this
     rw[hno i hchain (by omega)] at hb2;simp at hb2
   have hdeadb:∀n,m.r n b→(eJ base (bef.getD i 0) (st i).2.2 (st i).2.1).get n=none:=fun n hnb=>by
    rcases q4 n hnb with z|⟨z,_⟩
    ·rw[z];exact hdj
    ·exact z
   refine⟨by omega,k2,b,o',(hall.le _ _ q1).1,by rw[hall.block b hbw hdeadb];exact q2,q3.mono hall.le q1,fun n hnb=>?_⟩
   rcases hall.new n b hnb with z|⟨z1,z2,z3⟩
   ·rcases q4 n z with z4|⟨z4,z5⟩
    ·exact .inl z4
    ·refine .inr ⟨?_,z5⟩
     rcases Nat.lt_or_ge n (eJ base (bef.getD i 0) (st i).2.2 (st i).2.1).next with y|y
     ·exact hall.dead n y z4
     ·rcases Nat.lt_or_ge n (eJ base (bef.getD i 0) (st i).2.2 (st i).2.1).lim with y2|y2
      ·exact absurd z (a1.fresh n y y2 b)
      ·have hl1:=hall.rel.le
       have hl2:=hall.lim
       exact zfJ (by omega)
   ·rcases z3 with z3|⟨k,z3,z4⟩
    ·omega
    ·exact absurd (hdeadb k z3) z4
end
end Go.Proofs.YtlbipokkdiiaiaaGreatDoor.Exec
namespace Go.Proofs.YtlbipokkdiiaiaaGreatDoor.Exec
variable {P:Program} {m:Bij} {W:World}
def mP:Nat→Array Bool→Nat
 |0,_=>0
 |n+1,l=>mP n l+(if l.getD n false then 0 else 1)
theorem sP:∀(n:Nat) (l:Array Bool),mP n l=0→∀i,i<n→l.getD i false=true
 |0,_,_,i,hi=>by omega
 |n+1,l,h,i,hi=>by
  simp only[mP] at h
  by_cases hin:i=n
  ·subst hin
   cases hl:l.getD i false with
   |true=>rfl
   |false=>rw[hl] at h;simp at h
  ·exact sP n l (by omega) i (by omega)
theorem yO (n:Nat) (l:Array Bool) (i:Nat) (hi:n≤i):mP n (l.setIfInBounds i true)=mP n l:=by
 induction n with
 |zero=>rfl
 |succ n ih=>simp only[mP];rw[ih (by omega),cf _ _ _ (by omega)]
theorem xm:∀(n:Nat) (l:Array Bool) (i:Nat),i<n→i<l.size→l.getD i false=false→mP n (l.setIfInBounds i true)+1=mP n l
 |0,_,i,h,_,_=>by omega
 |n+1,l,i,h,h2,h3=>by
  simp only[mP]
  by_cases hin:i=n
  ·subst hin
   rw[yO i l i (Nat.le_refl _),gM _ _ h2,h3];simp
  ·have:=xm n l i (by omega) h2 h3
   rw[cf _ _ _ hin];omega
theorem zef (n:Nat) (l:Array Bool):mP n l≤n:=by
 induction n with
 |zero=>exact Nat.le_refl _
 |succ n ih=>simp only[mP];split<;>omega
theorem zL {hk:eF} (g:Good P) (hh:gy P hk) (hmix:P.follows .mixedOrders=true):pg P (lC hk P):=by
 intro rec hs ops t h t' h' he id m W a ro ht hw
 unfold lC at he
 dsimp only at he
 split at he
 ·rename_i hc0
  simp only[Bool.and_eq_true,decide_eq_true_eq] at hc0
  obtain⟨hok,hlim⟩:=hc0
  split at he
  ·rename_i es t2 h2 p2 hat
   split at he
   ·rename_i hchk
    simp only[Option.some.injEq,Prod.mk.injEq] at he
    obtain⟨rfl,rfl⟩:=he
    obtain⟨st,htr⟩:=qU _ _ _ _ _ hat
    obtain⟨bef,hbef⟩:∃bef,bef=Region.before ops:=⟨_,rfl⟩
    rw[←hbef] at hok hchk htr
    have R:Rg hk P rec ops bef h.next t (mh ops.size h) es t2 h2 p2 st:=⟨htr,zbA hok,hchk,ht.room⟩
    obtain⟨b1,b2,b3⟩:=l9 ops.size h hw.room hlim
    refine wpIn_region_any hmix ?_
    obtain⟨W0,hW0⟩:∃W0:World,W0={W with drawn:=W.drawn+1}:=⟨_,rfl⟩
    rw[←hW0]
    have hheap:W0.heap=W.heap:=by rw[hW0]
    have hw0:bw m h W0:=hw.of_heap hheap
    have hfalse:∀i,(Array.replicate ops.size false).getD i false=false:=fun i=>by
     rw[Array.getD_eq_getD_getElem?,Array.getElem?_replicate];split<;>rfl
    have h0st:(st 0).2.1=mh ops.size h:=by rw[htr.first]
    have I0:Inv ops.size bef h.next t es ops (st 0).2.1 m h W0 ro (Array.replicate ops.size false) 0 m a W0:=by
     rw[h0st]
     refine⟨by simp,by omega,fun k _=>by rw[hfalse];simp,fun j _ hl=>by rw[hfalse] at hl;simp at hl,?_,fun i o e d _ _ _ hl=>by rw[hfalse] at hl;simp at hl,fun x _=>ht.get x,ht.size,ht.marks,ht.round,by rw[b1];exact Nat.le_refl _,
      fun i hi _=>by rw[b3];exact zfJ (by omega),fun i hi _=>hw.fresh _ (by omega) (by omega),fun i e ob hl=>by rw[hfalse] at hl;simp at hl⟩
     refine⟨Bij.le_refl m,⟨fun n o hn=>hw0.obj n o (by rw[←b3];exact hn),fun n h1 h2=>hw0.fresh n (by omega) (by rw[←b2];exact h2),hw0.ran,fun n k b h1 h2 g1 g2=>hw0.inj n k b h1 h2 (by rw[←b3];exact g1) (by rw[←b3];exact g2),by rw[b2];exact hw.room,by rw[b1,b2];exact hlim⟩,
      Nat.le_refl _,fun _ _ _=>rfl,by rw[b1];omega,b2,fun n _ hn=>by rw[b3];exact hn,fun _ _ k=>.inl k,rfl,rfl,rfl⟩
    have fin:∀(listed:Array Bool) (c:Nat) (m1:Bij) (a1:Act) (W1:World),Inv ops.size bef h.next t es ops (st c).2.1 m h W0 ro listed c m1 a1 W1→(∀i,i<ops.size→listed.getD i false=true)→
     jQ m h W ro .normal t2 (eJ h.next (2^ops.size-1) p2 h2) .normal a1 W1:=by
     intro listed c m1 a1 W1 I hall
     have hsize:ops.toList.length=ops.size:=by simp
     have hlast:=htr.last
     rw[hsize] at hlast
     have hcN:∀k,du es k→k<c:=fun k hk=>(I.cut k hk).1 (hall k (R.lt hk.choose_spec.1))
     have heq:(st c).2.1=h2:=by
      rw[R.const ops.size c I.cle (Nat.le_refl _) fun k z1 _ z3=>by have:=hcN k z3;omega,hlast]
     have hI:=I.snd
     rw[heq] at hI
     have hp2:p2=(st ops.size).2.2:=by rw[hlast]
     have hpd:∀j ob,(j,ob)∈p2→(2^ops.size-1).testBit j=true→Pd ops.size h.next m1 h2 W1 j ob:=fun j ob hm _=>by
      rw[hp2] at hm
      obtain⟨z1,⟨f,f1,f2⟩,z3⟩:=R.pd ops.size (Nat.le_refl _) j ob hm
      rw[←heq]
      exact I.pend j f ob (hall j z1) f1 f2 fun k hk _=>z3 k (R.lt hk.choose_spec.1) hk
     have hnd:=R.nodup ops.size (Nat.le_refl _)
     rw[←hp2] at hnd
     obtain⟨a1',a2,a3,a4,_⟩:=ie (N:=ops.size) (base:=h.next) (bj:=2^ops.size-1) p2 h2 hI.rel hpd hnd
     have hfin:Snd m h W0 m1 (eJ h.next (2^ops.size-1) p2 h2) W1:=
      ⟨hI.le,a1',hI.size,hI.block,by rw[a2];exact hI.next,by rw[a3];exact hI.lim,fun n hn1 hn2=>a4 n (hI.dead n hn1 hn2) fun j _ _=>by omega,fun n b hn1=>by rw[a2];exact hI.new n b hn1,hI.rest⟩
     have ht2:t2=(st ops.size).1:=by rw[hlast]
     obtain⟨n1,n2,n3⟩:=R.tn ops.size (Nat.le_refl _)
     refine⟨.normal,m1,hfin.of_heap rfl hheap.symm (by have:=hfin.rest;rw[hW0] at this;exact this),?_⟩
     rw[ht2]
     refine⟨fun x=>?_,by rw[n1];exact I.asz,by rw[n2];exact I.round,by rw[n3];exact I.marks,by rw[n1];exact ht.room⟩
     by_cases hex:∃(j:Nat) (p:Oper),ops[j]?=some p∧p.dst=some x
     ·obtain⟨j,p,hp,hd⟩:=hex
      have hj:=(Array.getElem?_eq_some_iff.1 hp).1
      obtain⟨e,q1,_⟩:=R.make hp
      rw[R.tin hp q1 hd ops.size hj (Nat.le_refl _)]
      exact I.tin j p e x hp q1 hd (hall j hj)
     ·rw[R.tout ops.size (Nat.le_refl _) fun j p _ hp hd=>hex ⟨j,p,hp,hd⟩]
      exact I.tout x fun j p hp hd=>absurd ⟨j,p,hp,hd⟩ hex
    have noneLeft:∀(listed:Array Bool),listed.size=ops.size→Region.ready .any ops listed=[]→∀i,i<ops.size→listed.getD i false=true:=by
     intro listed hsz hnil i
     induction i using Nat.strongRecOn with
     |_ i ih=>
      intro hi
      cases hl:listed.getD i false with
      |true=>rfl
      |false=>
       have:i∈Region.ready .any ops listed:=by
        refine mem_ready.2 ⟨by rw[rO _ _ (by omega)];exact hl,ops[i],Array.getElem?_eq_getElem hi,fun e hea hb=>?_⟩
        have:=R.ok.low i ops[i] (Array.getElem?_eq_getElem hi) e hea hb
        exact ih e.on this (by omega)
       rw[hnil] at this;cases this
    have main:∀(fuel:Nat) (listed:Array Bool) (c:Nat) (m1:Bij) (a1:Act) (W1:World),Inv ops.size bef h.next t es ops (st c).2.1 m h W0 ro listed c m1 a1 W1→mP ops.size listed≤fuel→
     wpAnyIn (Fr ro) 0 P .any ops (jQ m h W ro .normal t2 (eJ h.next (2^ops.size-1) p2 h2)) fuel listed a1 W1:=by
     intro fuel
     induction fuel with
     |zero=>
      intro listed c m1 a1 W1 I hc
      have hall:=sP ops.size listed (by omega)
      refine⟨?_,fin listed c m1 a1 W1 I hall⟩
      cases hrd:Region.ready .any ops listed with
      |nil=>rfl
      |cons i r=>
       have hm:i∈Region.ready .any ops listed:=by rw[hrd];simp
       obtain⟨h1,o,h3,_⟩:=mem_ready.1 hm
       have hi:=(Array.getElem?_eq_some_iff.1 h3).1
       rw[rO _ _ (by rw[I.size];exact hi),hall i hi] at h1;simp at h1
     |succ fuel ih=>
      intro listed c m1 a1 W1 I hc
      refine⟨fun hnil=>fin listed c m1 a1 W1 I (noneLeft listed I.size hnil),fun i hi=>?_⟩
      obtain⟨h1,o,h3,h4⟩:=mem_ready.1 hi
      have hil:=(Array.getElem?_eq_some_iff.1 h3).1
      rw[rO _ _ (by rw[I.size];exact hil)] at h1
      refine zeF g hs hh R rfl hw0 hlim I h3 h1 (fun e hea hb=>h4 e hea hb) fun c' m' a' W' I'=>ih _ c' m' a' W' I' ?_
      have:=xm ops.size listed i hil (by rw[I.size];exact hil) h1
      omega
    exact main ops.size _ 0 m a W0 I0 (zef _ _)
   ·simp at he
  ·simp at he
 ·simp at he
theorem oS {hk:eF} (g:Good P) (hh:gy P hk) (hmix:P.follows .mixedOrders=true) (n:Nat) {f:FuncId} {args:Array Value} {h h':H} {v:Value} (he:go hk P (lC hk P) n (.call f args) h=some (.val v,h'))
 {m:Bij} {W:World} {args':Array Value} (ha:am m args args') (hw:bw m h W):CallsIn Fence.wide 0 P f args' W (pO m h W v h'):=
 (zbW g hh (zL g hh hmix) n).call f args h v h' he m W args' ha hw
end Go.Proofs.YtlbipokkdiiaiaaGreatDoor.Exec
