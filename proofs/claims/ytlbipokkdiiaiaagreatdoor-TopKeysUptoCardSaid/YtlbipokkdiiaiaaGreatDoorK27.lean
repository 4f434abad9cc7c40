/- Lemmas for TopKeysUpto: ExecCode1, ExecCode2, ExecCode3, ExecCode4, ExecReg, ExecReg1, ExecReg2. -/
import Derived.Test.YtlbipokkdiiaiaaGreatDoorK26
import Derived.RangeFuncLeaves
import Derived.Test.YtlbipokkdiiaiaaGreatDoorK02
import Derived.OrdersIn
namespace Go.Proofs.YtlbipokkdiiaiaaGreatDoor.Exec
variable {P:Program} {m:Bij}
def Fr (ro:Option Nat):Fence:={Fence.wide with round:=ro}
inductive ll (m:Bij):List Nat→List Deferred→Prop
 |nil:ll m [] []
 |cons {r b:Nat} {l:List Nat} {l':List Deferred}:m.r r b→ll m l l'→ll m (r::l) ({target:=.collected b,args:=#[]}::l')
theorem ll.mono {m':Bij} (h:m≤m') {l:List Nat} {l':List Deferred} (k:ll m l l'):ll m' l l':=by
 induction k with
 |nil=>exact .nil
 |cons hr _ ih=>exact .cons (h _ _ hr).1 ih
theorem ll.append {l k:List Nat} {l' k':List Deferred} (h:ll m l l') (g:ll m k k'):ll m (l++k) (l'++k'):=by
 induction h with
 |nil=>exact g
 |cons hr _ ih=>exact .cons hr ih
theorem nY {v:Value} (h:lP v=true):ak m v v:=by
 cases v with
 |pointer a=>cases a with
  |none=>exact .pointer .none
  |some a=>simp[lP] at h
 |slice a l c=>cases a with
  |none=>exact .slice l c (by simpa[lP] using h) .none
  |some a=>simp[lP] at h
 |map a=>cases a with
  |none=>exact .map .none
  |some a=>simp[lP] at h
 |bool b=>exact .bool b
 |int k n=>exact .int k n
 |float k n=>exact .float k n
 |complex k a b=>exact .complex k a b
 |string s=>exact .string s
 |nilFunc=>exact .nilFunc
 |nilIface=>exact .nilIface
 |_=>simp[lP] at h
theorem tZ {c:Array Value} (h:c.toList.all lP=true):am m c c:=
 .of_get rfl fun i v v' h1 h2=>by
  rw[h1] at h2;cases h2
  have:v∈c.toList:=by
   rw[←Array.getElem?_toList] at h1
   exact List.mem_of_getElem? h1
  exact nY (List.all_eq_true.1 h v this)
theorem iM {v:Value} (h:vZ v=true):ak m v v:=by
 cases v with
 |agg c=>exact .agg rfl (tZ h).at_
 |tuple c=>exact .tuple rfl (tZ h).at_
 |iface t v=>exact .iface t (nY h)
 |func f x c=>cases f with
  |func f=>
   simp only[vZ,Bool.and_eq_true,Array.isEmpty_iff] at h
   obtain⟨rfl,rfl⟩:=h
   exact .func (.func f) rfl (fun i a=>by simp at a) rfl (fun i a=>by simp at a)
  |_=>simp[vZ,lP] at h
 |_=>exact nY h
structure eu (m:Bij) (t:T) (ro:Option Nat) (a:Act):Prop where
 get:∀i,ak m (t.get i) (a.tmps.getD i undef)
 size:t.n=a.tmps.size
 round:aT m.r t.round ro
 marks:ll m t.marks a.defers
 room:t.n+2≤2^D
theorem eu.mono {m':Bij} (h:m≤m') {t:T} {ro:Option Nat} {a:Act} (k:eu m t ro a):eu m' t ro a:=
 ⟨fun i=>(k.get i).mono h,k.size,k.round.mono fun _ _ q=>(h _ _ q).1,k.marks.mono h,k.room⟩
theorem gJ:ak m undef undef:=.tuple rfl fun i h=>by simp at h
theorem eu.put {t:T} {ro:Option Nat} {a:Act} (k:eu m t ro a) (d:Option Tmp) {v v':Value} (hv:ak m v v'):eu m (t.put d v) ro (a.put d v'):=by
 cases d with
 |none=>exact k
 |some d=>
  unfold T.put Act.put
  by_cases hd:d<t.n
  ·have hd':@LT.lt Nat _ d t.n:=hd
   simp only[hd,if_true]
   refine⟨fun i=>?_,by simpa using k.size,k.round,k.marks,k.room⟩
   have:=k.get i
   have hsz:=k.size
   have hroom:=k.room
   simp only[T.get] at this ⊢
   rw[zfu D t.t d i (some v) (by omega)]
   by_cases hi:i=d
   ·subst hi
    simp only[if_true]
    rw[Array.getD_eq_getD_getElem?,Array.getElem?_setIfInBounds_self_of_lt (by omega)]
    exact hv
   ·simp only[if_neg hi]
    rw[Array.getD_eq_getD_getElem?,Array.getElem?_setIfInBounds_ne (fun e=>hi e.symm),←Array.getD_eq_getD_getElem?]
    exact this
  ·have hd':¬@LT.lt Nat _ d t.n:=hd
   simp only[hd,if_false]
   have:a.tmps.setIfInBounds d v'=a.tmps:=by
    have:=k.size
    exact Array.setIfInBounds_eq_of_size_le (by omega)
   rw[this];exact k
theorem eu.eval {t:T} {ro:Option Nat} {a:Act} (k:eu m t ro a) (x:Operand) (hx:di x=true):ak m (t.eval x) (a.eval x):=by
 cases x with
 |tmp i=>exact k.get i
 |const v=>exact iM hx
 |global g=>simp[di] at hx
 |func f=>exact .func (.func f) rfl (fun i h=>by simp at h) rfl (fun i h=>by simp at h)
theorem eu.wanted {t:T} {ro:Option Nat} {a:Act} (k:eu m t ro a) (ops:Array Oper) (o:Oper):Region.wanted o (yielded ops a.tmps)=eY ops t o:=by
 unfold Region.wanted eY
 cases o.guard with
 |none=>rfl
 |some g=>
  obtain⟨j,w⟩:=g
  simp only[yielded]
  cases hd:(ops[j]?).bind (·.dst) with
  |none=>rfl
  |some d=>
   have hs:=k.size
   simp only[Option.bind_some]
   by_cases aH:d<t.n
   ·have hd':@LT.lt Nat _ d t.n:=aH
    have hl:@LT.lt Nat _ d a.tmps.size:=by omega
    have:=k.get d
    rw[Array.getD_eq_getD_getElem?,Array.getElem?_eq_getElem hl] at this
    simp only[Option.getD_some] at this
    rw[Array.getElem?_eq_getElem hl,if_pos aH]
    generalize t.get d=x at *
    generalize a.tmps[d]=y at *
    cases this<;>simp
   ·have hd':¬@LT.lt Nat _ d t.n:=aH
    rw[Array.getElem?_eq_none (by omega),if_neg aH];simp
theorem qM:∀(l:List Value) (i:Nat) (t:Tr Value) (k:Nat),i+l.length+2≤2^D→Tr.get D (mF i t l) k=if i≤k∧k<i+l.length then l[k-i]? else Tr.get D t k
 |[],i,t,k,_=>by simp[mF];omega
 |v::l,i,t,k,h=>by
  simp only[List.length_cons] at h
  rw[mF,qM l (i+1) _ k (by omega),zfu D t i k (some v) (by omega)]
  simp only[List.length_cons]
  by_cases h1:k=i
  ·subst h1;rw[if_neg (by omega),if_pos rfl,if_pos (by omega)];simp
  ·by_cases h2:i+1≤k∧k<i+1+l.length
   ·rw[if_pos h2,if_pos (by omega)]
    have:k-i=(k-(i+1))+1:=by omega
    rw[this];simp
   ·rw[if_neg h2,if_neg h1,if_neg (by omega)]
theorem eu.fill {l:List Value} {l':Array Value} (h:cO m l l'.toList) (n:Nat) (ro ro':Option Nat) (hr:aT m.r ro ro') (hn:n+2≤2^D) (hl:l.length≤n):
 eu m {t:=mF 0 .leaf l,n:=n,round:=ro,marks:=[]} ro' {tmps:=l'++Array.replicate (n-l'.size) undef,defers:=[]}:=by
 have bI:=h.length
 simp only[Array.length_toList] at bI
 refine⟨fun i=>?_,by simp;omega,hr,.nil,hn⟩
 simp only[T.get]
 rw[qM l 0 .leaf i (by omega),zfv,Array.getD_eq_getD_getElem?,Array.getElem?_append]
 have:=h.get i
 rw[show l'.toList[i]?=l'[i]? from Array.getElem?_toList] at this
 by_cases hi:i<l.length
 ·rw[if_pos (by omega),if_pos (by omega)]
  simp only[Nat.sub_zero]
  cases ha:l[i]?<;>cases hb:l'[i]?<;>rw[ha,hb] at this<;>cases this
  ·exact gJ
  ·assumption
 ·rw[if_neg (by omega),if_neg (by omega),Array.getElem?_replicate]
  change ak m undef _
  split<;>exact gJ
inductive EX:AEx→Exit→Prop
 |normal:EX .normal .normal
 |exit (id:Nat):EX (.exit id) (.exit id)
 |ret:EX .ret .ret
def jQ (m:Bij) (h:H) (W:World) (ro:Option Nat) (e:AEx) (t':T) (h':H):Exit→Act→World→Prop:=fun x a' W'=>EX e x∧∃m',Snd m h W m' h' W'∧eu m' t' ro a'
def pO (m:Bij) (h:H) (W:World) (v:Value) (h':H):Ending→World→Prop:=fun e W'=>∃v' m',e=.returned v'∧ak m' v v'∧Snd m h W m' h' W'
structure jG (P:Program) (rec:Rec):Prop where
 code:∀c t h e t' h',rec (.code c t) h=some (.code e t',h')→∀m W a ro,eu m t ro a→bw m h W→c.wpIn (Fr ro) 0 P (jQ m h W ro e t' h') a W
 call:∀f args h v h',rec (.call f args) h=some (.val v,h')→∀m W args',am m args args'→bw m h W→CallsIn Fence.wide 0 P f args' W (pO m h W v h')
def gy (P:Program) (hk:eF):Prop:=∀f args h v h',hk f args h=some (some (v,h'))→∀m W args',am m args args'→bw m h W→CallsIn Fence.wide 0 P f args' W (pO m h W v h')
end Go.Proofs.YtlbipokkdiiaiaaGreatDoor.Exec
namespace Go.Proofs.YtlbipokkdiiaiaaGreatDoor.Exec
variable {P:Program} {m:Bij}
theorem pz {l l':Nat} (hl:m.r l l'):ay P (fun _ _ _=>True) m (Instr.beginRound l) (Instr.beginRound l'):=by
 refine .getObj hl fun o o' ho=>?_
 cases ho with
 |@loop r r' p1 p2 p3 p4 p5 p6 p7=>
  refine .setObj hl (.loop rfl p2 p3 p4 p5 p6 p7) ?_
  show ay P _ m (match r.state with|.ready=>pure ()|.done=>runtimePanic _|.busy=>runtimePanic _|.exhausted=>runtimePanic _) (match r'.state with|.ready=>pure ()|.done=>runtimePanic _|.busy=>runtimePanic _|.exhausted=>runtimePanic _)
  rw[←p1]
  cases r.state<;>first|exact .pure trivial|exact qm _ (by simp) (by simp) _
 |_=>exact .halt
theorem r6 {l l':Nat} (hl:m.r l l') (j:Option Code):ay P ak m (Instr.endRound l j) (Instr.endRound l' j):=by
 refine .getObj hl fun o o' ho=>?_
 cases ho with
 |@loop r r' p1 p2 p3 p4 p5 p6 p7=>exact .setObj hl (.loop rfl rfl p3 p4 p5 p6 p7) (.pure (.bool _))
 |_=>exact .halt
theorem tP {l l':Nat} (hl:m.r l l'):ay P EqR m (Instr.endLoop l) (Instr.endLoop l'):=by
 refine .getObj hl fun o o' ho=>?_
 cases ho with
 |@loop r r' p1 p2 p3 p4 p5 p6 p7=>
  show ay P _ m (if r.state==.busy then(do (runtimePanic _:Sem PUnit);setObj l (.loop {r with state:=.exhausted});pure r.pending) else(do setObj l (.loop {r with state:=.exhausted});pure r.pending))
   (if r'.state==.busy then(do (runtimePanic _:Sem PUnit);setObj l' (.loop {r' with state:=.exhausted});pure r'.pending) else(do setObj l' (.loop {r' with state:=.exhausted});pure r'.pending))
  rw[←p1]
  split
  ·exact .dead fun h=>rfl
  ·exact .setObj hl (.loop rfl p2 p3 p4 p5 p6 p7) (by rw[←p2];exact dq _)
 |_=>exact .halt
theorem pP (f f':FuncId) {t t':Array Value} (ht:am m t t') (ps:Array Tmp) (x y:Code) {a a':Option Nat} (ha:aT m.r a a'):
 ay P (fun m p q=>m.r p.1 q.1∧∃k,ll m k q.2∧(p.2.filterMap fun d=>match d.target with|.collected r=>some r|_=>none)=k) m (Instr.enterLoop f t ps x y a) (Instr.enterLoop f' t' ps x y a'):=by
 cases ha with
 |none=>
  refine .new .deferred fun m1 r r' h1 hr=>?_
  refine .new (.loop rfl rfl (ht.mono h1) rfl rfl rfl hr) fun m2 l l' h2 hl=>?_
  exact .pure ⟨hl,[r],.cons (h2 _ _ hr).1 .nil,rfl⟩
 |some ha=>
  refine .getObj ha fun o o' ho=>?_
  cases ho with
  |@loop r r' p1 p2 p3 p4 p5 p6 p7=>
   refine .new (.loop rfl rfl ht rfl rfl rfl p7) fun m2 l l' h2 hl=>?_
   exact .pure ⟨hl,[],.nil,rfl⟩
  |_=>exact .halt
theorem nM {hk:eF} {rec:Rec} (hs:jG P rec) (hh:gy P hk) {ro:Option Nat} {nx nx':Next} (hn:bV m nx nx') {h h':H} {v:Value} {W:World} (he:mq hk P rec h nx=some (v,h')) (hw:bw m h W)
 {o:Oper} {a:Act} {next:Act→World→Prop} {Q:Exit→Act→World→Prop} (hnext:∀m' v' W',ak m' v v'→Snd m h W m' h' W'→next (a.put o.dst v') W'):o.uponIn (Fr ro) 0 P a next Q (.ok nx' W):=by
 cases hn with
 |value hv=>
  simp only[mq,Option.some.injEq,Prod.mk.injEq] at he
  obtain⟨rfl,rfl⟩:=he
  exact hnext m _ W hv (Snd.refl hw)
 |skip=>
  simp only[mq,Option.some.injEq,Prod.mk.injEq] at he
  obtain⟨rfl,rfl⟩:=he
  exact hnext m _ W gJ (Snd.refl hw)
 |@enter f args args' ha=>
  have hc:CallsIn Fence.wide 0 P f args' W (pO m h W v h'):=by
   simp only[mq] at he
   split at he
   ·rename_i r hr
    subst he
    exact hh f args h v h' hr m W args' ha hw
   ·split at he
    ·rename_i v2 h2 hr
     simp only[Option.some.injEq,Prod.mk.injEq] at he
     obtain⟨rfl,rfl⟩:=he
     exact hs.call f args h _ _ hr m W args' ha hw
    ·simp at he
  have hc':CallsIn (Fr ro) 0 P f args' W (pO m h W v h'):=hc
  refine⟨fun hd=>by simp[Fr,Fence.wide] at hd,hc'.mono fun e W' hq=>?_⟩
  obtain⟨v',m',rfl,q1,q2⟩:=hq
  exact hnext m' v' W' q1 q2
 |@round l l' f f' t t' x y hl ht=>
  refine⟨fun hd=>by simp[Fr,Fence.wide] at hd,?_⟩
  simp only[mq] at he
  split at he
  ·simp at he
  ·rename_i hsz
   split at he
   ·rename_i t1 h1 hr1
    split at he
    ·rename_i u h2 hm0 hb
     split at he
     ·rename_i e t2 h3 hr2
      split at he
      ·rename_i hm2
       have hts:=ht.size
       have ht0:eu m {t:=mF 0 .leaf t.toList,n:=t.size,round:=some l,marks:=[]} (some l') {tmps:=t',defers:=[]}:=by
        have hdd:(10000:Nat)+2≤2^D:=by decide
        have aH:t.size+2≤2^D:=by omega
        have:=eu.fill (m:=m) (l:=t.toList) (l':=t') ht.toList t.size (some l) (some l') (.some hl) aH (by simp)
        have e0:t'++Array.replicate (t.size-t'.size) undef=t':=by
         rw[←hts,Nat.sub_self];simp
        rw[e0] at this
        exact this
       refine roundIn_of_wpIn trivial ?_
       have w1:=hs.code x _ h .normal t1 h1 hr1 m W _ (some l') ht0 hw
       refine wpIn_mono w1 fun ex a1 W1 hq=>?_
       obtain⟨hex,m1,hs1,ht1⟩:=hq
       cases hex
       obtain⟨m2,u',W2,r1,_,r3⟩:=zfy (pz (hs1.le _ _ hl).1) hb hs1.rel
       refine⟨W2,r1,?_⟩
       have w2:=hs.code y t1 h2 e t2 h3 hr2 m2 W2 a1 (some l') (ht1.mono r3.le) r3.rel
       refine wpIn_mono w2 fun ex2 a2 W3 hq2=>?_
       obtain⟨hex2,m3,hs3,ht3⟩:=hq2
       have hl3:=(hs3.le _ _ (r3.le _ _ (hs1.le _ _ hl).1).1).1
       have fin:∀j,aB P (Instr.endRound l j) h3=some (v,h')→∃v' W4,(Instr.endRound l' j).run P W3=.ok v' W4∧next (a.put o.dst v') W4:=by
        intro j hj
        obtain⟨m4,v',W4,z1,z2,z3⟩:=zfy (r6 hl3 j) hj hs3.rel
        exact⟨v',W4,z1,hnext m4 v' W4 z2 (hs1.trans hw (r3.trans hs1.rel (hs3.trans r3.rel z3)))⟩
       cases hex2 with
       |normal=>exact fin none he
       |exit id=>exact fin (some (.exit id)) he
       |ret=>exact fin (some .ret) he
      ·simp at he
     ·simp at he
    ·simp at he
   ·simp at he
end Go.Proofs.YtlbipokkdiiaiaaGreatDoor.Exec
namespace Go.Proofs.YtlbipokkdiiaiaaGreatDoor.Exec
variable {P:Program} {m:Bij}
theorem oz {ρ:Operand→Value} {o:Oper} {h h':H} {nx:Next} (he:aop P ρ o h=some (nx,h')):∀c,o.op≠.defer c:=by
 intro c hc
 unfold aop at he
 rw[hc] at he
 simp at he
theorem zd4 {l:List Operand} {t:T} {ro:Option Nat} {a:Act} (ht:eu m t ro a) (h:l.all di=true):∀x∈l,ak m (t.eval x) (a.eval x):=fun x hx=>ht.eval x (List.all_eq_true.1 h x hx)
theorem tA {hk:eF} {rec:Rec} (g:Good P) (hs:jG P rec) (hh:gy P hk) {ops:Array Oper} {o:Oper} {t t':T} {h h':H} (he:zah hk P rec ops o t h=some (t',h')) {ro:Option Nat} {a:Act} {W:World}
 (ht:eu m t ro a) (hw:bw m h W) {next:Act→World→Prop} {Q:Exit→Act→World→Prop} (hnext:∀m' a' W',eu m' t' ro a'→Snd m h W m' h' W'→next a' W'):
 if Region.wanted o (yielded ops a.tmps) then o.wpIn (Fr ro) 0 P a W next Q else(∀f,o.about P W a.eval=some f→(Fr ro).fn f)∧next (a.put o.dst undef) W:=by
 rw[ht.wanted ops o]
 unfold zah at he
 split at he
 ·rename_i hw1
  rw[if_pos hw1]
  split at he
  ·rename_i nx h1 hop
   split at hop
   ·rename_i hok
    split at he
    ·rename_i v h2 hnx
     simp only[Option.some.injEq,Prod.mk.injEq] at he
     obtain⟨rfl,rfl⟩:=he
     have hρ:∀x∈o.op.operands,ak m (t.eval x) (a.eval x):=fun x hx=>zd4 ht hok x (by simpa using hx)
     obtain⟨m1,nx',W1,r1,r2,r3⟩:=mo g hρ hw hop
     refine⟨fun _ _=>trivial,?_⟩
     rw[Oper.semAt_eq _ _ _ (oz hop),r1]
     exact nM hs hh r2 hnx r3.rel fun m2 v' W2 hv q=>hnext m2 _ W2 (((ht.mono r3.le).mono q.le).put o.dst hv) (r3.trans hw q)
    ·simp at he
   ·simp at hop
  ·simp at he
 ·rename_i hw1
  rw[if_neg hw1]
  simp only[Option.some.injEq,Prod.mk.injEq] at he
  obtain⟨rfl,rfl⟩:=he
  exact⟨fun _ _=>trivial,hnext m _ W (ht.put o.dst gJ) (Snd.refl hw)⟩
theorem pq {hk:eF} {rec:Rec} (g:Good P) (hs:jG P rec) (hh:gy P hk) {ops:Array Oper} {ro:Option Nat} {Q:Exit→Act→World→Prop}:∀(l:List Oper) (i:Nat) {m:Bij} {t t':T} {h h':H} {a:Act} {W:World},ops.toList.drop i=l→
 xN hk P rec ops l t h=some (t',h')→eu m t ro a→bw m h W→(∀m' a' W',eu m' t' ro a'→Snd m h W m' h' W'→Q .normal a' W')→wpOpsIn (Fr ro) 0 P ops Q (List.range' i l.length) a W
 |[],i,m,t,t',h,h',a,W,hd,he,ht,hw,hq=>by
  simp only[xN,Option.some.injEq,Prod.mk.injEq] at he
  obtain⟨rfl,rfl⟩:=he
  exact hq m a W ht (Snd.refl hw)
 |o::l,i,m,t,t',h,h',a,W,hd,he,ht,hw,hq=>by
  simp only[xN] at he
  split at he
  ·rename_i t1 h1 ho
   have hi:i<ops.toList.length:=by
    rcases Nat.lt_or_ge i ops.toList.length with k|k
    ·exact k
    ·rw[List.drop_eq_nil_of_le k] at hd;simp at hd
   rw[List.drop_eq_getElem_cons hi] at hd
   simp only[List.cons.injEq] at hd
   obtain⟨e1,e2⟩:=hd
   have hoi:ops[i]?=some o:=by
    rw[←Array.getElem?_toList,List.getElem?_eq_getElem hi,e1]
   simp only[List.length_cons,List.range'_succ,wpOpsIn,hoi]
   exact tA g hs hh ho ht hw fun m1 a1 W1 ht1 hs1=>pq g hs hh l (i+1) e2 he ht1 hs1.rel fun m2 a2 W2 ht2 hs2=>hq m2 a2 W2 ht2 (hs1.trans hw hs2)
  ·simp at he
def pg (P:Program) (region:Rec→Array Oper→T→H→Option (T×H)):Prop:=
 ∀rec,jG P rec→∀ops t h t' h',region rec ops t h=some (t',h')→∀id m W a ro,eu m t ro a→bw m h W→(Code.region id ops true).wpIn (Fr ro) 0 P (jQ m h W ro .normal t' h') a W
theorem jQ.trans {h h1 h2:H} {W W1:World} {m1:Bij} {ro:Option Nat} {e:AEx} {t2:T} (hw:bw m h W) (hs:Snd m h W m1 h1 W1) {x:Exit} {a:Act} {W2:World} (hc:jQ m1 h1 W1 ro e t2 h2 x a W2):jQ m h W ro e t2 h2 x a W2:=by
 obtain⟨k1,m2,k2,k3⟩:=hc
 exact⟨k1,m2,hs.trans hw k2,k3⟩
theorem zfN {α γ:Type} (s:Sem α) (f:α→Sem γ) {a:α} {h2:H}:∀h,aB P s h=some (a,h2)→aB P (s.bind f) h=aB P (f a) h2:=by
 induction s with
 |pure b=>intro h he;simp only[aB,Option.some.injEq,Prod.mk.injEq] at he;obtain⟨rfl,rfl⟩:=he;rfl
 |halt x=>intro h he;simp[aB] at he
 |load md a k ih=>intro h he;simp only[Sem.bind,aB] at he ⊢;split at he<;>simp_all
 |store md a v k ih=>intro h he;cases v<;>simp only[Sem.bind,aB] at he ⊢<;>first|(simp at he;done)|(split at he<;>simp_all)
 |new o k ih=>intro h he;simp only[Sem.bind,aB] at he ⊢;split at he<;>simp_all
 |shape r k ih=>intro h he;simp only[Sem.bind,aB] at he ⊢;split at he<;>simp_all
 |freeze a n k ih=>intro h he;simp only[Sem.bind,aB] at he ⊢;split at he<;>simp_all
 |frozen a k ih=>
  intro h he
  simp only[Sem.bind,aB] at he ⊢
  split at he
  ·rename_i hg
   split at he
   ·simp at he
   ·rename_i hc
    rw[if_neg hc]
    exact ih _ _ he
  ·simp at he
 |getObj r k ih=>intro h he;simp only[Sem.bind,aB] at he ⊢;split at he<;>simp_all
 |setObj r o k ih=>intro h he;simp only[Sem.bind,aB] at he ⊢;split at he<;>simp_all
 |choose q k ih=>intro h he;simp only[Sem.bind,aB] at he ⊢;split at he<;>simp_all
 |sys c k ih=>intro h he;simp[aB] at he
 |program k ih=>intro h he;simp only[Sem.bind,aB] at he ⊢;exact ih _ _ he
 |mark x k ih=>intro h he;simp only[Sem.bind,aB] at he ⊢;exact ih _ he
theorem lk:∀(n i:Nat) (a:Addr) (acc:Array Value) {h:H} {c:Array Value} {h1:H},aB P (loadCellsFrom a i n acc) h=some (c,h1)→h1=h
 |0,i,a,acc,h,c,h1,he=>by
  simp only[loadCellsFrom] at he
  obtain⟨rfl,rfl⟩:acc=c∧h=h1:=by simpa[aB,Pure.pure] using he
  rfl
 |n+1,i,a,acc,h,c,h1,he=>by
  unfold loadCellsFrom at he
  rw[jp] at he
  split at he
  ·exact lk n (i+1) a _ he
  ·simp at he
theorem run_load' {a:Addr} {v:Value} {W:World} (h:W.cell? a=some v):(load a).run P W=.ok v W:=by
 show(Sem.load .plain a .pure).run P W=_
 simp only[Sem.run,h]
theorem qN {h h1:H} {W:World} {ty:TypeId} {x x':Addr} {v:Value} (he:aB P (loadVar ty x) h=some (v,h1)) (hx:dB m x x') (hw:bw m h W):h1=h∧∃v',(loadVar ty x').run P W=.ok v' W∧ak m v v':=by
 have hag:∀d,P.underlying ty=some d→isAgg ty=(do let d ←underlying ty;match d with|.struct _=>pure true|.array _ _=>pure true|_=>pure false):=fun _ _=>rfl
 have hcase:(∃b,∀k:Bool→Sem Value,(∀h,aB P (isAgg ty >>= k) h=aB P (k b) h)∧(∀W,(isAgg ty >>= k).run P W=(k b).run P W))∨(∀k:Bool→Sem Value,∀h,aB P (isAgg ty >>= k) h=none):=by
  cases hd:P.underlying ty with
  |none=>
   right;intro k h
   show aB P (Sem.bind (Sem.bind (match P.underlying ty with|some i=>Sem.pure i|none=>stuck "no such type") _) k) h=none
   rw[hd];rfl
  |some d=>
   left
   have e:∀k:Bool→Sem Value,isAgg ty >>= k=Sem.program fun p=>Sem.bind (Sem.bind (match p.underlying ty with|some i=>Sem.pure i|none=>stuck "no such type") fun d=>match d with|.struct _|.array _ _=>Sem.pure true|_=>Sem.pure false) k:=fun k=>rfl
   cases d<;>first
    |exact⟨true,fun k=>⟨fun h=>by rw[e];simp only[aB,hd];rfl,fun W=>by rw[e];simp only[Sem.run,hd];rfl⟩⟩
    |exact⟨false,fun k=>⟨fun h=>by rw[e];simp only[aB,hd];rfl,fun W=>by rw[e];simp only[Sem.run,hd];rfl⟩⟩
 unfold loadVar at he ⊢
 rcases hcase with⟨b,hb⟩|hb
 ·rw[(hb _).1] at he
  rw[(hb _).2]
  cases b with
  |false=>
   simp only[Bool.false_eq_true,if_false] at he ⊢
   have:(load x:Sem Value)=load x >>= Sem.pure:=rfl
   rw[this,jp] at he
   split at he
   ·rename_i u hc
    obtain⟨rfl,rfl⟩:u=v∧h=h1:=by simpa[aB] using he
    obtain⟨v',q1,q2⟩:=hw.cell hx hc
    exact⟨rfl,v',run_load' q1,q2⟩
   ·simp at he
  |true=>
   simp only[if_true] at he ⊢
   cases hi:P.info? ty with
   |none=>
    have:aB P (do let __do_lift ←sizeOf ty;let __do_lift ←loadCells x __do_lift;pure (Value.agg __do_lift)) h=none:=by
     show aB P (Sem.bind (Sem.bind (match P.info? ty with|some i=>Sem.pure i|none=>stuck "no such type") _) _) h=none
     rw[hi];rfl
    rw[this] at he;simp at he
   |some i=>
    have e1:aB P (do let __do_lift ←sizeOf ty;let __do_lift ←loadCells x __do_lift;pure (Value.agg __do_lift)) h=aB P (do let c ←loadCells x i.size;pure (Value.agg c)) h:=by
     show aB P (Sem.bind (Sem.bind (match P.info? ty with|some i=>Sem.pure i|none=>stuck "no such type") _) _) h=_
     rw[hi];rfl
    rw[e1] at he
    have bind_some:∀{α β:Type} (s:Sem α) (f:α→Sem β) (h:H) r,aB P (s >>= f) h=some r→∃a h2,aB P s h=some (a,h2):=by
     intro α β s f h r hr
     cases hs:aB P s h with
     |some q=>exact⟨q.1,q.2,rfl⟩
     |none=>rw[show aB P (s >>= f) h=none from zfA s f h hs] at hr;simp at hr
    obtain⟨c,h2,hc⟩:=bind_some _ _ _ _ he
    obtain⟨k1,l',k2,k3⟩:=fP hc hw hx
    have hr:=run_loadCells_list (P:=P) W x' l' k3
    rw[←k2.length,k1] at hr
    have e2:aB P (do let c ←loadCells x i.size;pure (Value.agg c)) h=some (.agg c,h2):=zfN _ _ _ hc
    rw[e2] at he
    simp only[Option.some.injEq,Prod.mk.injEq] at he
    obtain⟨rfl,rfl⟩:=he
    have hrow:am m c l'.toArray:=by
     have:=k2.toArray
     simpa using this
    refine⟨lk _ _ _ _ hc,.agg l'.toArray,?_,.agg hrow.size hrow.at_⟩
    simp[sizeOf,typeInfo,hi,hr]
 ·rw[hb] at he;simp at he
def wW (tmps:Array Value):ResultVar→Sem Value
 |.tmp t=>pure (tmps.getD t undef)
 |.cell a t=>do loadVar t (←asAddr (tmps.getD a undef))
theorem gp {h:H} {W:World} {t:T} {ro:Option Nat} {a:Act} (ht:eu m t ro a) (hw:bw m h W):∀(l:List ResultVar) {vs:List Value},eD P t h l=some vs→
 ∃vs',cO m vs vs'∧(l.mapM (wW a.tmps)).run P W=.ok vs' W
 |[],vs,h1=>by
  simp only[eD,Option.some.injEq] at h1;subst h1
  exact⟨[],.nil,rfl⟩
 |.tmp i::l,vs,h1=>by
  have:=ib
  simp only[eD] at h1
  split at h1
  ·rename_i l2 h2
   simp only[Option.some.injEq] at h1;subst h1
   obtain⟨vs',q1,q2⟩:=gp ht hw l h2
   refine⟨a.tmps.getD i undef::vs',.cons (ht.get i) q1,?_⟩
   rw[List.mapM_cons,Sem.run_bind]
   simp only[wW,Sem.run_pure,Result.andThen_ok,Sem.run_bind,q2]
  ·simp at h1
 |.cell ad ty::l,vs,h1=>by
  have:=ib
  simp only[eD] at h1
  split at h1
  ·rename_i x hx
   split at h1
   ·rename_i v h3 l2 hv h2
    simp only[Option.some.injEq] at h1;subst h1
    obtain⟨vs',q1,q2⟩:=gp ht hw l h2
    have hg:=ht.get ad
    rw[hx] at hg
    generalize hX:a.tmps.getD ad undef=X at hg
    cases hg with
    |pointer hp=>cases hp with
     |@some _ x' ha=>
      obtain⟨_,v',k1,k2⟩:=qN hv ha hw
      refine⟨v'::vs',.cons k2 q1,?_⟩
      rw[List.mapM_cons,Sem.run_bind]
      simp only[wW,hX,asAddr,lA,k1,Sem.run_pure,Result.andThen_ok,Sem.run_bind,q2]
   ·simp at h1
  ·simp at h1
theorem tV {h:H} {W:World} {t:T} {ro:Option Nat} {a:Act} (ht:eu m t ro a) (hw:bw m h W) (fn:Func) {vs:List Value} (hr:eD P t h fn.results.toList=some vs):
 ∃v',(results fn a.tmps).run P W=.ok v' W∧ak m (qF vs) v':=by
 have:=ib
 obtain⟨vs',q1,q2⟩:=gp ht hw fn.results.toList hr
 have hd:results fn a.tmps=(do
  let vs ←fn.results.mapM (wW a.tmps)
  pure (if h:vs.size=1 then vs[0] else .tuple vs)):=by
  unfold results
  congr 1
 rw[hd,Sem.run_bind,Array.mapM_eq_mapM_toList,map_eq_pure_bind,Sem.run_bind,q2]
 simp only[Result.andThen_ok,Sem.run_pure]
 refine⟨_,rfl,?_⟩
 cases q1 with
 |nil=>exact .tuple rfl fun i a=>by simp at a
 |cons hv hl=>cases hl with
  |nil=>simpa[qF] using hv
  |cons hu hl2=>
   have hrow:=(cO.cons hv (cO.cons hu hl2)).toArray
   simp only[qF,List.size_toArray,List.length_cons]
   rw[dif_neg (by omega)]
   exact .tuple hrow.size hrow.at_
theorem mw {fn:Func} {tmps:Array Value} {R:Ending→World→Prop} {ro:Option Nat}:∀(l:List Nat) {l':List Deferred} {m:Bij} {h h':H} {W:World},ll m l l'→mf l h=some h'→bw m h W→
 (∀m' W',Snd m h W m' h' W'→LeavesIn (Fr ro) 0 P fn tmps R [] .returning W')→LeavesInM (Fr ro) 0 P fn tmps R l' .returning W
 |[],l',m,h,h',W,hm,he,hw,hk=>by
  cases hm
  simp only[mf,Option.some.injEq] at he
  subst he
  exact hk m W (Snd.refl hw)
 |r::l,l',m,h,h',W,hm,he,hw,hk=>by
  cases hm with
  |@cons _ b _ l2 hr hm=>
   simp only[mf] at he
   split at he
   ·rename_i g hg
    obtain⟨o',q1,q2⟩:=hw.objAt hr hg (by simp)
    cases q2
    have hp:=Snd.put hw hg hr (.obj .taken)
    refine⟨by simp,.inl ⟨b,_,rfl,?_,mw l (hm.mono hp.le) he hp.rel fun m' W' hs=>hk m' W' (hp.trans hw hs)⟩⟩
    unfold Instr.takeDeferred
    rw[dA q1 (by simp)]
    simp only[Sem.run_bind]
    rw[gV q1 (by simp)]
    rfl
   ·simp at he
end Go.Proofs.YtlbipokkdiiaiaaGreatDoor.Exec
namespace Go.Proofs.YtlbipokkdiiaiaaGreatDoor.Exec
variable {P:Program} {m:Bij}
theorem eC {p:Nat→Prop} (h:∃k,p k):∃k,p k∧∀j,p j→k≤j:=by
 obtain⟨k,hk⟩:=h
 induction k using Nat.strongRecOn with
 |_ k ih=>
  by_cases hj:∃j,j<k∧p j
  ·obtain⟨j,h1,h2⟩:=hj;exact ih j h1 h2
  ·exact⟨k,hk,fun j hp=>Nat.le_of_not_lt fun aH=>hj ⟨j,aH,hp⟩⟩
theorem uy {F:Fence} {d:Nat} {c:Code} {Q:Exit→Act→World→Prop} (J:Nat→Act→World→Prop) {n:Nat} {a:Act} {w:World} (h0:J n a w)
 (round:∀k a w,J k a w→c.wpIn F d P (Exit.then (fun a' w'=>∃j,j<k∧J j a' w') Q) a w):(Code.loop c).wpIn F d P Q a w:=by
 classical
 refine wpIn_loop (fun a w=>∃k,J k a w) (fun a w=>if h:∃k,J k a w then(eC h).choose else 0) ⟨n,h0⟩ fun a w hI=>?_
 have hs:=(eC hI).choose_spec
 refine wpIn_mono (round _ a w hs.1) fun e a' w' hq=>?_
 cases e with
 |normal=>
  obtain⟨j,hj,hJ⟩:=hq
  refine⟨⟨j,hJ⟩,?_⟩
  rw[dif_pos hI,dif_pos ⟨j,hJ⟩]
  exact Nat.lt_of_le_of_lt ((eC ⟨j,hJ⟩).choose_spec.2 j hJ) hj
 |_=>exact hq
def zer (Q:Exit→Act→World→Prop):Exit→Act→World→Prop
 |.goto _,_,_=>False
 |e,a,w=>Q e a w
theorem eh {b:Frame} {a:Act} {k:List Item} {cs:List Frame} {w:World} {c:Code}:step P (lone (b.atR a (.code (.scope c)::k)) cs w)=.next (lone (b.atR a (.code c::.inScope c::k)) cs w):=
 step_lone_go (by simp[stepG,stepG.exec,Frame.atR])
theorem pW {b:Frame} {a:Act} {k:List Item} {cs:List Frame} {w:World} {c:Code}:step P (lone (b.atR a (.inScope c::k)) cs w)=.next (lone (b.atR a k) cs w):=
 step_lone_go (by simp[stepG,stepG.exec,Frame.atR])
theorem vh {F:Fence} {d:Nat} {c:Code} {Q:Exit→Act→World→Prop} {a:Act} {w:World} (h:c.wpIn F d P (zer Q) a w):(Code.scope c).wpIn F d P Q a w:=by
 intro b k cs hro hb hr
 have h0:(lone (b.atR a (.code (.scope c)::k)) cs w).fenced P F:=fenced_calm hb hr rfl
 obtain⟨e,a₁,w₁,hq,harr⟩:=h b (.inScope c::k) cs hro hb hr
 have hx:∀id,exitTo id (.inScope c::k)=exitTo id k:=fun id=>by simp[exitTo]
 cases e with
 |normal=>exact⟨.normal,a₁,w₁,hq,.head h0 eh (StepsIn.trans harr (.one (fenced_calm hb hr rfl) pW))⟩
 |exit id=>exact⟨.exit id,a₁,w₁,hq,fun k' hk=>.head h0 eh (harr.1 k' (by rw[hx];exact hk)),fun hr' hk=>let⟨k₁,h1,h2⟩:=harr.2 hr' (by rw[hx];exact hk);⟨k₁,h1,.head h0 eh h2⟩⟩
 |goto l=>exact hq.elim
 |ret=>exact⟨_,a₁,w₁,hq,.of_steps (.one h0 eh) harr⟩
 |panic ch=>exact⟨_,a₁,w₁,hq,.of_steps (.one h0 eh) harr⟩
 |outgrown=>exact⟨_,a₁,w₁,hq,.of_steps (.one h0 eh) harr⟩
theorem zbv {t:T} {ro:Option Nat} {a:Act} (ht:eu m t ro a):am m (((List.range t.n).map t.get).toArray) a.tmps:=by
 refine .of_get (by simpa using ht.size) fun i v v' h1 h2=>?_
 have:=ht.get i
 rw[Array.getD_eq_getD_getElem?,h2] at this
 rw[List.getElem?_toArray,List.getElem?_map] at h1
 have hi:i<t.n:=by
  have:=(Array.getElem?_eq_some_iff.1 h2).1
  have:=ht.size
  omega
 rw[List.getElem?_range hi] at h1
 simp only[Option.map_some,Option.some.injEq] at h1
 subst h1
 exact this
theorem yG {hk:eF} {region:Rec→Array Oper→T→H→Option (T×H)} {rec:Rec} (hs:jG P rec) (f:FuncId) (args:Array Value) (h:H) (v:Value) (h':H)
 (he:lT hk P region rec (.call f args) h=some (.val v,h')) (m:Bij) (W:World) (args':Array Value) (ha:am m args args') (hw:bw m h W):CallsIn Fence.wide 0 P f args' W (pO m h W v h'):=by
 simp only[lT] at he
 split at he
 ·rename_i fn hf
  split at he
  ·rename_i c hb
   split at he
   ·simp at he
   ·rename_i hsz
    simp only[Bool.or_eq_true,not_or,Bool.not_eq_true',decide_eq_false_iff_not] at hsz
    have hs1:args.size≤fn.ntmps:=by
     have:=hsz.1;simpa using this
    have hs2:fn.ntmps<10000:=by
     have:=hsz.2;simpa using this
    split at he
    ·rename_i e t h1 hr
     have hdd:(10000:Nat)+2≤2^D:=by decide
     have hn:fn.ntmps+2≤2^D:=by omega
     have ht0:=eu.fill (m:=m) ha.toList fn.ntmps none none .none hn (by simpa using hs1)
     have w1:=hs.code c _ h e t h1 hr m W _ none ht0 hw
     have fin:(e=.normal∨e=.ret)→(match mf t.marks h1 with
      |some h=>match eD P t h fn.results.toList with
       |some l=>some (Res.val (qF l),h)
       |none=>none
      |none=>none)=some (.val v,h')→CallsIn Fence.wide 0 P f args' W (pO m h W v h'):=by
      intro hee hq
      split at hq
      ·rename_i h2 hl
       split at hq
       ·rename_i vs hres
        simp only[Option.some.injEq,Prod.mk.injEq,Res.val.injEq] at hq
        obtain⟨rfl,rfl⟩:=hq
        refine callsIn_of_wp_marks (F:=Fence.wide) hf hb trivial ?_
        refine wpIn_mono w1 fun x a1 W1 hx=>?_
        obtain⟨hex,m1,k1,k2⟩:=hx
        have key:LeavesInM (Fr none) 0 P fn a1.tmps (pO m h W (qF vs) h2) a1.defers .returning W1:=by
         refine mw t.marks k2.marks hl k1.rel fun m2 W2 hs2=>?_
         obtain⟨v',q1,q2⟩:=tV (k2.mono hs2.le) hs2.rel fn hres
         exact⟨v',q1,v',m2,rfl,q2,k1.trans hw hs2⟩
        rcases hee with rfl|rfl<;>cases hex<;>exact key
       ·simp at hq
      ·simp at hq
     cases e with
     |exit id=>simp at he
     |normal=>exact fin (.inl rfl) he
     |ret=>exact fin (.inr rfl) he
    ·simp at he
  ·simp at he
 ·simp at he
theorem qp {t:T} {ro:Option Nat} {a:Act} (ht:eu m t ro a) {c:Operand} {b:Bool} (h:t.eval c=.bool b):a.eval c=.bool b:=by
 cases c with
 |tmp i=>
  have:=ht.get i
  simp only[T.eval] at h
  rw[h] at this
  show a.tmps.getD i undef=.bool b
  generalize a.tmps.getD i undef=X at this
  cases this;rfl
 |const v=>exact h
 |global g=>simp[T.eval] at h
 |func f=>simp[T.eval] at h
theorem yS {hk:eF} {region:Rec→Array Oper→T→H→Option (T×H)} {rec:Rec} (g:Good P) (hh:gy P hk) (hrg:pg P region) (hs:jG P rec) (c:Code) (hloop:∀b,c≠.loop b) (t:T) (h:H) (e:AEx) (t':T) (h':H)
 (he:lT hk P region rec (.code c t) h=some (.code e t',h')) (m:Bij) (W:World) (a:Act) (ro:Option Nat) (ht:eu m t ro a) (hw:bw m h W):c.wpIn (Fr ro) 0 P (jQ m h W ro e t' h') a W:=by
 have here:∀x,some (Res.code x t,h)=some (Res.code e t',h')→∀y,EX x y→jQ m h W ro e t' h' y a W:=by
  intro x hq y hy
  simp only[Option.some.injEq,Prod.mk.injEq,Res.code.injEq] at hq
  obtain⟨⟨rfl,rfl⟩,rfl⟩:=hq
  exact⟨hy,m,Snd.refl hw,ht⟩
 cases c with
 |skip=>exact wpIn_skip (here .normal he _ .normal)
 |label l=>exact wpIn_label (here .normal he _ .normal)
 |exit id=>exact wpIn_exit (here (.exit id) he _ (.exit id))
 |ret=>exact wpIn_ret (here .ret he _ .ret)
 |scope b=>
  refine vh (wpIn_mono (hs.code b t h e t' h' he m W a ro ht hw) fun x a1 W1 hq=>?_)
  obtain⟨hex,_⟩:=id hq
  cases hex<;>exact hq
 |seq x y=>
  simp only[lT] at he
  split at he
  ·rename_i t1 h1 hr
   refine wpIn_seq (wpIn_mono (hs.code x t h .normal t1 h1 hr m W a ro ht hw) fun ex a1 W1 hq=>?_)
   obtain⟨hex,m1,k1,k2⟩:=hq
   cases hex
   exact wpIn_mono (hs.code y t1 h1 e t' h' he m1 W1 a1 ro k2 k1.rel) fun ex2 a2 W2 hq2=>hq2.trans hw k1
  ·rename_i hne
   refine wpIn_seq (wpIn_mono (hs.code x t h e t' h' he m W a ro ht hw) fun ex a1 W1 hq=>?_)
   obtain⟨hex,_⟩:=id hq
   cases hex with
   |normal=>exact absurd he (hne _ _)
   |exit id=>exact hq
   |ret=>exact hq
 |cond c x y=>
  simp only[lT] at he
  split at he
  ·rename_i hc
   exact wpIn_cond (qp ht hc) (hs.code x t h e t' h' he m W a ro ht hw)
  ·rename_i hc
   exact wpIn_cond (qp ht hc) (hs.code y t h e t' h' he m W a ro ht hw)
  ·simp at he
 |block bid b=>
  simp only[lT] at he
  split at he
  ·rename_i id' t1 h1 hr
   refine wpIn_block (wpIn_mono (hs.code b t h (.exit id') t1 h1 hr m W a ro ht hw) fun ex a1 W1 hq=>?_)
   obtain⟨hex,m1,k1,k2⟩:=hq
   cases hex
   split at he
   ·rename_i hid
    simp only[Option.some.injEq,Prod.mk.injEq,Res.code.injEq] at he
    obtain⟨⟨rfl,rfl⟩,rfl⟩:=he
    simp only[Exit.inBlock,hid,if_true]
    exact⟨.normal,m1,k1,k2⟩
   ·rename_i hid
    simp only[Option.some.injEq,Prod.mk.injEq,Res.code.injEq] at he
    obtain⟨⟨rfl,rfl⟩,rfl⟩:=he
    simp only[Exit.inBlock,hid,if_false]
    exact⟨.exit id',m1,k1,k2⟩
  ·rename_i hne
   refine wpIn_block (wpIn_mono (hs.code b t h e t' h' he m W a ro ht hw) fun ex a1 W1 hq=>?_)
   obtain⟨hex,_⟩:=id hq
   cases hex with
   |normal=>exact hq
   |exit id=>exact absurd he (hne _ _ _)
   |ret=>exact hq
 |region id ops draw=>
  simp only[lT] at he
  split at he
  ·rename_i t1 h1 hr
   simp only[Option.some.injEq,Prod.mk.injEq,Res.code.injEq] at he
   obtain⟨⟨rfl,rfl⟩,rfl⟩:=he
   cases draw with
   |true=>exact hrg rec hs ops t h t1 h1 (by simpa using hr) id m W a ro ht hw
   |false=>
    refine wpIn_region ?_
    rw[List.range_eq_range']
    have hr:xN hk P rec ops ops.toList t h=some (t1,h1):=by simpa using hr
    have:=pq (Q:=jQ m h W ro .normal t1 h1) g hs hh ops.toList 0 (by simp) hr ht hw fun m' a' W' k1 k2=>⟨.normal,m',k2,k1⟩
    simpa using this
  ·simp at he
 |rangeFunc gf ps x y=>
  simp only[lT] at he
  split at he
  ·rename_i l mark h1 hen
   split at he
   ·rename_i f first captured hgv
    split at hgv
    ·rename_i hok
     split at he
     ·simp at he
     ·rename_i hbody
      split at he
      ·rename_i v h2 hr
       split at he
       ·rename_i j h3 hend
        refine wpIn_rangeFunc fun fn _=>?_
        obtain⟨m1,q,W1,r1,r2,r3⟩:=zfy (pP 0 fn (zbv ht) ps x y ht.round) hen hw
        obtain⟨l',mark'⟩:=q
        obtain⟨hl,km,hkm,hkm2⟩:=r2
        have hev:=ht.eval gf hok
        rw[hgv] at hev
        generalize hX:a.eval gf=X at hev
        cases hev with
        |@func _ f' _ first' _ cap' hf s1 e1 s2 e2=>
        cases hf
        simp only[Bool.not_eq_true',Bool.not_eq_false,Option.any_eq_true] at hbody
        have hbody:∃fn c,P.funcs[f]?=some fn∧fn.body=some c:=by
         cases hfn:P.funcs[f]? with
         |none=>simp[hfn] at hbody
         |some fn=>
          cases lS:fn.body with
          |none=>simp[hfn,lS] at hbody
          |some c=>exact⟨fn,c,rfl,lS⟩
        obtain⟨fn2,c2,hfn,lS⟩:=hbody
        refine⟨l',mark',W1,{target:=.fn (.func f) cap',args:=first'++#[.func (.yield l') #[] #[]]},W1,f,(first'++#[.func (.yield l') #[] #[]])++cap',W1,r1,?_,fun _ _=>trivial,?_,fun hd=>by simp[Fr,Fence.wide] at hd,?_⟩
        ·show(Deferred.ofValue (a.eval gf) ((#[Operand.const (.func (.yield l') #[] #[])]).map a.eval)).run P W1=_
         rw[hX,show(#[Operand.const (.func (.yield l') #[] #[])]).map a.eval=#[Value.func (.yield l') #[] #[]] from by simp[Act.eval]]
         rfl
        ·exact lQ g hfn lS _
        ·have hargs:am m1 ((first++#[.func (.yield l) #[] #[]])++captured) ((first'++#[.func (.yield l') #[] #[]])++cap'):=
          ((am.append (am.mono r3.le ⟨s1,e1⟩) (am.one (.func (.yield hl) rfl (fun i a=>by simp at a) rfl (fun i a=>by simp at a)))).append (am.mono r3.le ⟨s2,e2⟩))
         have hc:CallsIn (Fr ro) 0 P f ((first'++#[.func (.yield l') #[] #[]])++cap') W1 (pO m1 h1 W1 v h2):=hs.call f _ h1 v h2 hr m1 W1 _ hargs r3.rel
         refine hc.mono fun en W2 hq=>?_
         obtain⟨v',m2,rfl,k1,k2⟩:=hq
         obtain⟨m3,j',W3,z1,z2,z3⟩:=zfy (tP (k2.le _ _ hl).1) hend k2.rel
         cases z2
         have hall:Snd m h W m3 h3 W3:=r3.trans hw (k2.trans r3.rel z3)
         have ht3:eu m3 {t with marks:=(mark.filterMap fun d=>match d.target with|.collected r=>some r|_=>none)++t.marks} ro {a with defers:=mark'++a.defers}:=by
          have hm3:=ht.mono hall.le
          refine⟨hm3.get,hm3.size,hm3.round,?_,hm3.room⟩
          have hmm:=(hkm.mono (Bij.le_trans k2.le z3.le)).append hm3.marks
          rw[←hkm2] at hmm
          exact hmm
         refine⟨j,W3,z1,?_⟩
         split at he
         ·simp only[Option.some.injEq,Prod.mk.injEq,Res.code.injEq] at he
          obtain⟨⟨rfl,rfl⟩,rfl⟩:=he
          exact⟨.normal,m3,hall,ht3⟩
         ·simp only[Option.some.injEq,Prod.mk.injEq,Res.code.injEq] at he
          obtain⟨⟨rfl,rfl⟩,rfl⟩:=he
          exact wpIn_exit ⟨.exit _,m3,hall,ht3⟩
         ·simp only[Option.some.injEq,Prod.mk.injEq,Res.code.injEq] at he
          obtain⟨⟨rfl,rfl⟩,rfl⟩:=he
          exact wpIn_ret ⟨.ret,m3,hall,ht3⟩
         ·simp at he
       ·simp at he
      ·simp at he
    ·simp at hgv
   ·simp at he
  ·simp at he
 |loop b=>exact absurd rfl (hloop b)
 |goto l=>simp[lT] at he
 |refuse w=>simp[lT] at he
theorem zbW {hk:eF} {region:Rec→Array Oper→T→H→Option (T×H)} (g:Good P) (hh:gy P hk) (hrg:pg P region):∀n,jG P (go hk P region n):=by
 intro n
 induction n using Nat.strongRecOn with
 |_ n ih=>
  cases n with
  |zero=>exact⟨fun c t h e t' h' he=>by simp[go] at he,fun f args h v h' he=>by simp[go] at he⟩
  |succ n=>
   have hs:jG P (go hk P region n):=ih n (by omega)
   refine⟨fun c t h e t' h' he m W a ro ht hw=>?_,fun f args h v h' he m W args' ha hw=>yG (hk:=hk) (region:=region) hs f args h v h' he m W args' ha hw⟩
   by_cases hl:∃b,c=.loop b
   ·obtain⟨b,rfl⟩:=hl
    refine uy (fun k a1 W1=>k≤n+1∧∃m1 t1 h1,go hk P region k (.code (.loop b) t1) h1=some (.code e t',h')∧eu m1 t1 ro a1∧Snd m h W m1 h1 W1) ⟨Nat.le_refl _,m,t,h,he,ht,Snd.refl hw⟩ ?_
    intro k a1 W1 hJ
    obtain⟨hk1,m1,t1,h1,hgo,ht1,hs1⟩:=hJ
    cases k with
    |zero=>simp[go] at hgo
    |succ k=>
     have hsk:jG P (go hk P region k):=ih k (by omega)
     have hgo:lT hk P region (go hk P region k) (.code (.loop b) t1) h1=some (.code e t',h'):=hgo
     simp only[lT] at hgo
     split at hgo
     ·rename_i t2 h2 hr
      refine wpIn_mono (hsk.code b t1 h1 .normal t2 h2 hr m1 W1 a1 ro ht1 hs1.rel) fun ex a2 W2 hq=>?_
      obtain⟨hex,m2,k1,k2⟩:=hq
      cases hex
      exact⟨k,by omega,by omega,m2,t2,h2,hgo,k2,hs1.trans hw k1⟩
     ·rename_i hne
      refine wpIn_mono (hsk.code b t1 h1 e t' h' hgo m1 W1 a1 ro ht1 hs1.rel) fun ex a2 W2 hq=>?_
      have hq2:=hq.trans hw hs1
      obtain⟨hex,_⟩:=id hq
      cases hex with
      |normal=>exact absurd hgo (hne _ _)
      |exit id=>exact hq2
      |ret=>exact hq2
   ·exact yS g hh hrg hs c (fun b hb=>hl ⟨b,hb⟩) t h e t' h' he m W a ro ht hw
end Go.Proofs.YtlbipokkdiiaiaaGreatDoor.Exec
namespace Go.Proofs.YtlbipokkdiiaiaaGreatDoor.Exec
noncomputable section
def jw:Nat→Value→Value→Bool
 |_,.bool a,.bool b=>a==b
 |_,.int j a,.int k b=>j==k&&a==b
 |_,.string a,.string b=>a.data==b.data
 |_,.pointer a,.pointer b=>a==b
 |_,.slice a l c,.slice b n d=>a==b&&l==n&&c==d
 |_,.map a,.map b=>a==b
 |_,.nilFunc,.nilFunc=>true
 |_,.nilIface,.nilIface=>true
 |n+1,.func f x y,.func g u v=>f==g&&x.size==u.size&&y.size==v.size&&(x.toList.zip u.toList).all (fun(a,b)=>jw n a b)&&(y.toList.zip v.toList).all (fun(a,b)=>jw n a b)
 |n+1,.iface t v,.iface u w=>t==u&&jw n v w
 |n+1,.agg a,.agg b=>a.size==b.size&&(a.toList.zip b.toList).all fun(x,y)=>jw n x y
 |_,_,_=>false
def wR (bef:Array Nat) (o:Oper):Nat:=o.after.toList.foldl (fun s e=>if Region.binds .any e then s ||| 2^e.on ||| bef.getD e.on 0 else s) 0
def okR (ops:Array Oper) (n:Nat) (bef:Array Nat):Bool:=
 let w:List (Nat×Nat):=ops.toList.zipIdx.filterMap fun(o,i)=>o.dst.map fun d=>(d,i)
 w.all (fun(d,_)=>decide (d<n))&&
 ops.toList.zipIdx.all fun(o,j)=>
  bef.getD j 0==wR bef o&&
  o.after.toList.all (fun e=>!Region.binds .any e||decide (e.on<j))&&
  ((o.op.operands.toList.filterMap fun|.tmp t=>some t|_=>none)++(match o.guard with
    |some (g,_)=>((ops[g]?).bind (·.dst)).toList
    |none=>[])).all (fun t=>w.all fun(d,i)=>d !=t||(bef.getD j 0).testBit i)&&
  (match o.dst with
   |some t=>w.all fun(d,i)=>d !=t||i==j
   |none=>true)
def eJ (base bj:Nat):List (Nat×bZ)→H→H
 |[],h=>h
 |(i,o)::r,h=>if bj.testBit i then eJ base bj r (h.put (base+i) o) else eJ base bj r h
def eE (P:Program) (ρ:Operand→Value) (o:Oper) (h:H):Option Value:=
 match aB P (execOp ρ o) h with
 |some (.value v,_)=>some v
 |_=>none
structure Ent where
 o:Oper
 t:T
 h:H
 g:H
 v:Value
 ch:Bool
 ld:Bool
 ob:Option bZ
def zR (hk:eF) (P:Program) (rec:Rec) (ops:Array Oper) (bef:Array Nat) (base:Nat) (o:Oper) (j:Nat) (t:T) (h:H) (pd:List (Nat×bZ)):Option (Ent×List (Nat×bZ)):=
 if o.op.operands.toList.all di then
  if eY ops t o then
   match aop P t.eval o ⟨.leaf,base+j,base+j+1⟩ with
   |some (.value v,h')=>some (⟨o,t,h,h,v,false,false,h'.get (base+j)⟩,match h'.get (base+j) with|some ob=>(j,ob)::pd|none=>pd)
   |_=>
    match o.op with
    |.load _ _=>
     match eE P t.eval o h with
     |some v=>some (⟨o,t,h,h,v,false,true,none⟩,pd)
     |none=>none
    |_=>
     match aop P t.eval o (eJ base (bef.getD j 0) pd h) with
     |some (nx,h2)=>match mq hk P rec h2 nx with
      |some (v,h3)=>some (⟨o,t,h,h3,v,true,false,none⟩,pd.filter fun(i,_)=>!(bef.getD j 0).testBit i)
      |none=>none
     |none=>none
  else some (⟨o,t,h,h,undef,false,false,none⟩,pd)
 else none
def atr (hk:eF) (P:Program) (rec:Rec) (ops:Array Oper) (bef:Array Nat) (base:Nat):List Oper→Nat→T→H→List (Nat×bZ)→Option (List Ent×T×H×List (Nat×bZ))
 |[],_,t,h,pd=>some ([],t,h,pd)
 |o::r,j,t,h,pd=>match zR hk P rec ops bef base o j t h pd with
  |some (e,pd1)=>match atr hk P rec ops bef base r (j+1) (t.put o.dst e.v) e.g pd1 with
   |some (es,t',h',p')=>some (e::es,t',h',p')
   |none=>none
  |none=>none
def zeU (P:Program) (bef:Array Nat) (es:List Ent):Bool:=
 es.zipIdx.all fun(e,j)=>es.zipIdx.all fun(f,k)=>
  !f.ch||
  (if k<j then(if e.ch then(bef.getD j 0).testBit k else if e.ld then(bef.getD j 0).testBit k||(eE P e.t.eval e.o f.h).any (jw 3 e.v) else true)
   else if j<k then(if e.ld then(bef.getD k 0).testBit j||(eE P e.t.eval e.o f.g).any (jw 3 e.v) else true)
   else true)
def mh:Nat→H→H
 |0,h=>h
 |n+1,h=>mh n {t:=Tr.set D h.t h.next none,next:=h.next+1,lim:=h.lim}
def lC (hk:eF) (P:Program) (rec:Rec) (ops:Array Oper) (t:T) (h:H):Option (T×H):=
 let bef:=Region.before ops
 if okR ops t.n bef&&decide (h.next+ops.size≤h.lim) then
  match atr hk P rec ops bef h.next ops.toList 0 t (mh ops.size h) [] with
  |some (es,t',h',p')=>if zeU P bef es then some (t',eJ h.next (2^ops.size-1) p' h') else none
  |none=>none
 else none
end
variable {P:Program}
theorem yC {bef:Array Nat} {o:Oper} {k:Nat} (h:(wR bef o).testBit k=true):∃e∈o.after,Region.binds .any e=true∧(k=e.on∨(bef.getD e.on 0).testBit k=true):=by
 unfold wR at h
 have go:∀(l:List Edge) (s:Nat),(l.foldl (fun s e=>if Region.binds .any e then s ||| 2^e.on ||| bef.getD e.on 0 else s) s).testBit k=true→s.testBit k=true∨∃e∈l,Region.binds .any e=true∧(k=e.on∨(bef.getD e.on 0).testBit k=true):=by
  intro l
  induction l with
  |nil=>intro s h;exact .inl h
  |cons e l ih=>
   intro s h
   simp only[List.foldl_cons] at h
   rcases ih _ h with h1|⟨e2,h1,h2⟩
   ·split at h1
    ·rename_i hb
     simp only[Nat.testBit_or,Bool.or_eq_true,Nat.testBit_two_pow] at h1
     rcases h1 with(h1|h1)|h1
     ·exact .inl h1
     ·exact .inr ⟨e,by simp,hb,.inl (Eq.symm (by simpa using h1))⟩
     ·exact .inr ⟨e,by simp,hb,.inr h1⟩
    ·exact .inl h1
   ·exact .inr ⟨e2,by simp[h1],h2⟩
 rcases go _ _ h with h1|⟨e,h1,h2⟩
 ·simp at h1
 ·exact⟨e,by simpa using h1,h2⟩
structure OkR (ops:Array Oper) (n:Nat) (bef:Array Nat):Prop where
 dst:∀(i:Nat) (o:Oper) d,ops[i]?=some o→o.dst=some d→d<n
 befs:∀(j:Nat) (o:Oper),ops[j]?=some o→bef.getD j 0=wR bef o
 low:∀(j:Nat) (o:Oper),ops[j]?=some o→∀e∈o.after,Region.binds .any e=true→e.on<j
 looks:∀(j:Nat) (o:Oper),ops[j]?=some o→∀t,((.tmp t∈o.op.operands)∨∃g b,o.guard=some (g,b)∧(ops[g]?).bind (·.dst)=some t)→∀(i:Nat) (p:Oper),ops[i]?=some p→p.dst=some t→(bef.getD j 0).testBit i=true
 one:∀(i j:Nat) (o p:Oper) d,ops[i]?=some o→ops[j]?=some p→o.dst=some d→p.dst=some d→i=j
theorem zbA {ops:Array Oper} {n:Nat} {bef:Array Nat} (h:okR ops n bef=true):OkR ops n bef:=by
 simp only[okR,Bool.and_eq_true] at h
 obtain⟨h1,h2⟩:=h
 have hz:∀(i:Nat) (o:Oper),ops[i]?=some o→(o,i)∈ops.toList.zipIdx:=fun i o ho=>by
  rw[List.mem_zipIdx_iff_getElem?]
  simpa using ho
 have hw:∀(i:Nat) (o:Oper) d,ops[i]?=some o→o.dst=some d→(d,i)∈ops.toList.zipIdx.filterMap (fun(x:Oper×Nat)=>x.1.dst.map fun d=>(d,x.2)):=fun i o d ho hd=>by
  rw[List.mem_filterMap]
  exact⟨(o,i),hz i o ho,by simp[hd]⟩
 rw[List.all_eq_true] at h1 h2
 refine⟨fun i o d ho hd=>?_,fun j o ho=>?_,fun j o ho e he hb=>?_,fun j o ho t ht i p hp hd=>?_,fun i j o p d ho hp h3 h4=>?_⟩
 ·simpa using h1 (d,i) (hw i o d ho hd)
 ·have:=h2 (o,j) (hz j o ho)
  simp only[Bool.and_eq_true,beq_iff_eq] at this
  exact this.1.1.1
 ·have:=h2 (o,j) (hz j o ho)
  simp only[Bool.and_eq_true] at this
  have:=List.all_eq_true.1 this.1.1.2 e (by simpa using he)
  simpa[hb] using this
 ·have:=h2 (o,j) (hz j o ho)
  simp only[Bool.and_eq_true] at this
  have h5:=List.all_eq_true.1 this.1.2 t (by
   rw[List.mem_append]
   rcases ht with ht|⟨g,b,hg,hgd⟩
   ·left
    rw[List.mem_filterMap]
    exact⟨.tmp t,by simpa using ht,rfl⟩
   ·right
    rw[hg];simp[hgd])
  have h6:=List.all_eq_true.1 h5 (t,i) (hw i p t hp hd)
  simpa using h6
 ·have:=h2 (p,j) (hz j p hp)
  simp only[Bool.and_eq_true] at this
  have h5:=this.2
  rw[h4] at h5
  have h6:=List.all_eq_true.1 h5 (d,i) (hw i o d ho h3)
  simpa using h6
theorem OkR.bit {ops:Array Oper} {n:Nat} {bef:Array Nat} (h:OkR ops n bef) {j:Nat} {o:Oper} (ho:ops[j]?=some o) {k:Nat} (hk:(bef.getD j 0).testBit k=true):
 ∃e∈o.after,Region.binds .any e=true∧(k=e.on∨(bef.getD e.on 0).testBit k=true):=by
 rw[h.befs j o ho] at hk
 exact yC hk
theorem OkR.lt {ops:Array Oper} {n:Nat} {bef:Array Nat} (h:OkR ops n bef):∀(j:Nat) {o:Oper},ops[j]?=some o→∀{k:Nat},(bef.getD j 0).testBit k=true→k<j:=by
 intro j
 induction j using Nat.strongRecOn with
 |_ j ih=>
  intro o ho k hk
  obtain⟨e,h1,h2,h3⟩:=h.bit ho hk
  have aH:=h.low j o ho e h1 h2
  rcases h3 with rfl|h3
  ·exact aH
  ·have hj:j<ops.size:=(Array.getElem?_eq_some_iff.1 ho).1
   have:=ih e.on aH (o:=ops[e.on]'(by omega)) (Array.getElem?_eq_getElem (by omega)) h3
   omega
structure zdL (hk:eF) (P:Program) (rec:Rec) (ops:Array Oper) (bef:Array Nat) (base:Nat) (l:List Oper) (j:Nat) (t:T) (h:H) (pd:List (Nat×bZ)) (es:List Ent) (t':T) (h':H) (p':List (Nat×bZ))
 (st:Nat→T×H×List (Nat×bZ)):Prop where
 len:es.length=l.length
 first:st 0=(t,h,pd)
 last:st l.length=(t',h',p')
 step:∀(i:Nat) (o:Oper),l[i]?=some o→∃e,es[i]?=some e∧zR hk P rec ops bef base o (j+i) (st i).1 (st i).2.1 (st i).2.2=some (e,(st (i+1)).2.2)∧(st (i+1)).1=(st i).1.put o.dst e.v∧(st (i+1)).2.1=e.g
theorem qU {hk:eF} {rec:Rec} {ops:Array Oper} {bef:Array Nat} {base:Nat}:∀(l:List Oper) (j:Nat) (t:T) (h:H) (pd:List (Nat×bZ)) {es:List Ent} {t':T} {h':H} {p':List (Nat×bZ)},
 atr hk P rec ops bef base l j t h pd=some (es,t',h',p')→∃st,zdL hk P rec ops bef base l j t h pd es t' h' p' st
 |[],j,t,h,pd,es,t',h',p',he=>by
  simp only[atr,Option.some.injEq,Prod.mk.injEq] at he
  obtain⟨rfl,rfl,rfl,rfl⟩:=he
  exact⟨fun _=>(t,h,pd),rfl,rfl,rfl,fun i o ho=>by simp at ho⟩
 |o::l,j,t,h,pd,es,t',h',p',he=>by
  simp only[atr] at he
  split at he
  ·rename_i e pd1 h1
   split at he
   ·rename_i es2 t2 h2 p2 h3
    simp only[Option.some.injEq,Prod.mk.injEq] at he
    obtain⟨rfl,rfl,rfl,rfl⟩:=he
    obtain⟨st,q⟩:=qU l (j+1) _ _ _ h3
    refine⟨fun i=>match i with|0=>(t,h,pd)|i+1=>st i,by simp[q.len],rfl,q.last,fun i p hp=>?_⟩
    cases i with
    |zero=>
     simp only[List.getElem?_cons_zero,Option.some.injEq] at hp
     subst hp
     refine⟨e,rfl,?_,?_,?_⟩
     ·show zR hk P rec ops bef base o (j+0) t h pd=some (e,(st 0).2.2)
      rw[q.first];exact h1
     ·show(st 0).1=_;rw[q.first]
     ·show(st 0).2.1=_;rw[q.first]
    |succ i=>
     obtain⟨e2,a1,a2,a3,a4⟩:=q.step i p (by simpa using hp)
     exact⟨e2,by simpa using a1,by rw[show j+(i+1)=j+1+i by omega];exact a2,a3,a4⟩
   ·simp at he
  ·simp at he
inductive tX (hk:eF) (P:Program) (rec:Rec) (ops:Array Oper) (bef:Array Nat) (base:Nat) (o:Oper) (j:Nat) (t:T) (h:H) (pd:List (Nat×bZ)):Ent→List (Nat×bZ)→Prop
 |no:eY ops t o=false→tX hk P rec ops bef base o j t h pd ⟨o,t,h,h,undef,false,false,none⟩ pd
 |flt (v:Value) (h':H):eY ops t o=true→aop P t.eval o ⟨.leaf,base+j,base+j+1⟩=some (.value v,h')→
  tX hk P rec ops bef base o j t h pd ⟨o,t,h,h,v,false,false,h'.get (base+j)⟩ (match h'.get (base+j) with|some ob=>(j,ob)::pd|none=>pd)
 |ld (v:Value) (ty:TypeId) (x:Operand):eY ops t o=true→o.op=.load ty x→eE P t.eval o h=some v→tX hk P rec ops bef base o j t h pd ⟨o,t,h,h,v,false,true,none⟩ pd
 |ch (nx:Next) (h2:H) (v:Value) (h3:H):eY ops t o=true→aop P t.eval o (eJ base (bef.getD j 0) pd h)=some (nx,h2)→mq hk P rec h2 nx=some (v,h3)→
  tX hk P rec ops bef base o j t h pd ⟨o,t,h,h3,v,true,false,none⟩ (pd.filter fun(i,_)=>!(bef.getD j 0).testBit i)
theorem zI {hk:eF} {rec:Rec} {ops:Array Oper} {bef:Array Nat} {base:Nat} {o:Oper} {j:Nat} {t:T} {h:H} {pd:List (Nat×bZ)} {e:Ent} {pd':List (Nat×bZ)} (he:zR hk P rec ops bef base o j t h pd=some (e,pd')):
 o.op.operands.toList.all di=true∧tX hk P rec ops bef base o j t h pd e pd':=by
 unfold zR at he
 split at he
 ·rename_i hok
  refine⟨hok,?_⟩
  split at he
  ·rename_i hw
   split at he
   ·rename_i v h' hop
    simp only[Option.some.injEq,Prod.mk.injEq] at he
    obtain⟨rfl,rfl⟩:=he
    exact .flt v h' hw hop
   ·split at he
    ·rename_i ty x hop
     split at he
     ·rename_i v hv
      simp only[Option.some.injEq,Prod.mk.injEq] at he
      obtain⟨rfl,rfl⟩:=he
      exact .ld v ty x hw hop hv
     ·simp at he
    ·split at he
     ·rename_i nx h2 hop
      split at he
      ·rename_i v h3 hn
       simp only[Option.some.injEq,Prod.mk.injEq] at he
       obtain⟨rfl,rfl⟩:=he
       exact .ch nx h2 v h3 hw hop hn
      ·simp at he
     ·simp at he
  ·rename_i hw
   simp only[Option.some.injEq,Prod.mk.injEq] at he
   obtain⟨rfl,rfl⟩:=he
   exact .no (by simpa using hw)
 ·simp at he
end Go.Proofs.YtlbipokkdiiaiaaGreatDoor.Exec
namespace Go.Proofs.YtlbipokkdiiaiaaGreatDoor.Exec
variable {P:Program}
theorem l9:∀(n:Nat) (h:H),h.lim+2≤2^D→h.next+n≤h.lim→(mh n h).next=h.next+n∧(mh n h).lim=h.lim∧∀k,(mh n h).get k=h.get k
 |0,h,_,_=>⟨rfl,rfl,fun _=>rfl⟩
 |n+1,h,h1,h2=>by
  obtain⟨q1,q2,q3⟩:=l9 n {t:=Tr.set D h.t h.next none,next:=h.next+1,lim:=h.lim} h1 (by simp only;omega)
  refine⟨by rw[mh,q1];simp only;omega,q2,fun k=>?_⟩
  rw[mh,q3]
  unfold H.get
  simp only
  rw[zfu D h.t h.next k none (by omega)]
  by_cases hk:k=h.next
  ·subst hk;simp
  ·rw[if_neg hk]
   by_cases h3:k<h.next
   ·rw[if_pos h3,if_pos (by omega)]
   ·rw[if_neg h3,if_neg (by omega)]
theorem nZ {t:T} (hr:t.n+2≤2^D) (d:Tmp) (v:Value) (x:Nat) (hd:@LT.lt Nat _ d t.n):(t.put (some d) v).get x=if x=d then v else t.get x:=by
 unfold T.put
 have hd':d<t.n:=hd
 simp only[hd',if_true]
 simp only[T.get]
 rw[zfu D t.t d x (some v) (by omega)]
 by_cases hx:x=d
 ·simp[hx]
 ·simp[hx]
theorem zet (t:T) (d:Option Tmp) (v:Value):(t.put d v).n=t.n∧(t.put d v).round=t.round∧(t.put d v).marks=t.marks:=by
 cases d with
 |none=>exact⟨rfl,rfl,rfl⟩
 |some d=>unfold T.put;simp only;split<;>exact⟨rfl,rfl,rfl⟩
structure Rg (hk:eF) (P:Program) (rec:Rec) (ops:Array Oper) (bef:Array Nat) (base:Nat) (t:T) (h0:H) (es:List Ent) (t':T) (h':H) (p':List (Nat×bZ)) (st:Nat→T×H×List (Nat×bZ)):Prop where
 tr:zdL hk P rec ops bef base ops.toList 0 t h0 [] es t' h' p' st
 ok:OkR ops t.n bef
 chk:zeU P bef es=true
 room:t.n+2≤2^D
section
variable {hk:eF} {rec:Rec} {ops:Array Oper} {bef:Array Nat} {base:Nat} {t:T} {h0:H} {es:List Ent} {t':T} {h':H} {p':List (Nat×bZ)} {st:Nat→T×H×List (Nat×bZ)}
theorem Rg.make (R:Rg hk P rec ops bef base t h0 es t' h' p' st) {i:Nat} {o:Oper} (ho:ops[i]?=some o):∃e,es[i]?=some e∧o.op.operands.toList.all di=true∧tX hk P rec ops bef base o i (st i).1 (st i).2.1 (st i).2.2 e (st (i+1)).2.2∧
 (st (i+1)).1=(st i).1.put o.dst e.v∧(st (i+1)).2.1=e.g:=by
 obtain⟨e,h1,h2,h3,h4⟩:=R.tr.step i o (by simpa using ho)
 rw[Nat.zero_add] at h2
 obtain⟨q1,q2⟩:=zI h2
 exact⟨e,h1,q1,q2,h3,h4⟩
theorem Rg.get (_R:Rg hk P rec ops bef base t h0 es t' h' p' st) {i:Nat} (hi:i<ops.size):∃o,ops[i]?=some o:=⟨ops[i],Array.getElem?_eq_getElem hi⟩
theorem Rg.lt (R:Rg hk P rec ops bef base t h0 es t' h' p' st) {i:Nat} {e:Ent} (he:es[i]?=some e):i<ops.size:=by
 have:=(List.getElem?_eq_some_iff.1 he).1
 have h2:=R.tr.len
 simp at h2;omega
def du (es:List Ent) (k:Nat):Prop:=∃e,es[k]?=some e∧e.ch=true
theorem tX.same {o:Oper} {i:Nat} {tt:T} {hh:H} {pd pd':List (Nat×bZ)} {e:Ent} (hm:tX hk P rec ops bef base o i tt hh pd e pd'):e.o=o∧e.t=tt∧e.h=hh∧(e.ch=false→e.g=hh):=by
 cases hm<;>simp
theorem Rg.const (R:Rg hk P rec ops bef base t h0 es t' h' p' st):∀(b a:Nat),a≤b→b≤ops.size→(∀k,a≤k→k<b→¬du es k)→(st a).2.1=(st b).2.1:=by
 intro b
 induction b with
 |zero=>intro a h1 _ _;rw[Nat.le_zero.1 h1]
 |succ b ih=>
  intro a h1 h2 h3
  rcases Nat.lt_or_ge a (b+1) with hab|hab
  ·rw[ih a (by omega) (by omega) (fun k k1 k2=>h3 k k1 (by omega))]
   obtain⟨o,ho⟩:=R.get (i:=b) (by omega)
   obtain⟨e,q1,_,q3,_,q5⟩:=R.make ho
   have hch:e.ch=false:=by
    cases hce:e.ch with
    |false=>rfl
    |true=>exact absurd ⟨e,q1,hce⟩ (h3 b (by omega) (by omega))
   rw[q5,q3.same.2.2.2 hch]
  ·have:a=b+1:=by omega
   rw[this]
theorem Rg.tn (R:Rg hk P rec ops bef base t h0 es t' h' p' st):∀(j:Nat),j≤ops.size→(st j).1.n=t.n∧(st j).1.round=t.round∧(st j).1.marks=t.marks:=by
 intro j
 induction j with
 |zero=>intro _;rw[R.tr.first];exact⟨rfl,rfl,rfl⟩
 |succ j ih=>
  intro hj
  obtain⟨o,ho⟩:=R.get (i:=j) (by omega)
  obtain⟨e,_,_,_,q4,_⟩:=R.make ho
  rw[q4]
  obtain⟨a,b,c⟩:=zet (st j).1 o.dst e.v
  obtain⟨a2,b2,c2⟩:=ih (by omega)
  exact⟨a.trans a2,b.trans b2,c.trans c2⟩
theorem Rg.tin (R:Rg hk P rec ops bef base t h0 es t' h' p' st) {i:Nat} {o:Oper} {e:Ent} {d:Tmp} (ho:ops[i]?=some o) (he:es[i]?=some e) (hd:o.dst=some d):∀(j:Nat),i<j→j≤ops.size→(st j).1.get d=e.v:=by
 intro j
 induction j with
 |zero=>intro h;omega
 |succ j ih=>
  intro h1 h2
  obtain⟨p,hp⟩:=R.get (i:=j) (by omega)
  obtain⟨f,q1,_,_,q4,_⟩:=R.make hp
  have hn:=(R.tn j (by omega)).1
  rw[q4]
  by_cases hij:i=j
  ·subst hij
   rw[ho] at hp;cases hp
   rw[he] at q1;cases q1
   rw[hd,nZ (by rw[hn];exact R.room) d e.v d (by rw[hn];exact R.ok.dst i o d ho hd),if_pos rfl]
  ·rw[←ih (by omega) (by omega)]
   cases hpd:p.dst with
   |none=>rfl
   |some d2=>
    have hne:d≠d2:=by
     rintro rfl
     exact hij (R.ok.one i j o p d ho hp hd hpd)
    rw[nZ (by rw[hn];exact R.room) d2 f.v d (by rw[hn];exact R.ok.dst j p d2 hp hpd),if_neg hne]
theorem Rg.tout (R:Rg hk P rec ops bef base t h0 es t' h' p' st) {d:Tmp}:∀(j:Nat),j≤ops.size→(∀i o,i<j→ops[i]?=some o→o.dst≠some d)→(st j).1.get d=t.get d:=by
 intro j
 induction j with
 |zero=>intro _ _;rw[R.tr.first]
 |succ j ih=>
  intro h2 h3
  obtain⟨p,hp⟩:=R.get (i:=j) (by omega)
  obtain⟨f,q1,_,_,q4,_⟩:=R.make hp
  have hn:=(R.tn j (by omega)).1
  rw[q4,←ih (by omega) (fun i o hi ho=>h3 i o (by omega) ho)]
  cases hpd:p.dst with
  |none=>rfl
  |some d2=>
   have hne:d≠d2:=by
    rintro rfl
    exact h3 j p (by omega) hp hpd
   rw[nZ (by rw[hn];exact R.room) d2 f.v d (by rw[hn];exact R.ok.dst j p d2 hp hpd),if_neg hne]
theorem Rg.pd (R:Rg hk P rec ops bef base t h0 es t' h' p' st):∀(j:Nat),j≤ops.size→∀i ob,(i,ob)∈(st j).2.2→i<j∧(∃e,es[i]?=some e∧e.ob=some ob)∧∀k,k<j→du es k→(bef.getD k 0).testBit i=false:=by
 intro j
 induction j with
 |zero=>intro _ i ob hm;rw[R.tr.first] at hm;cases hm
 |succ j ih=>
  intro hj i ob hm
  obtain⟨p,hp⟩:=R.get (i:=j) (by omega)
  obtain⟨f,q1,_,q3,_,_⟩:=R.make hp
  have old:f.ch=false→(i,ob)∈(st j).2.2→i<j+1∧(∃e,es[i]?=some e∧e.ob=some ob)∧∀k,k<j+1→du es k→(bef.getD k 0).testBit i=false:=by
   intro hch hmem
   obtain⟨z1,z2,z3⟩:=ih (by omega) i ob hmem
   refine⟨by omega,z2,fun k hk hc=>?_⟩
   by_cases hkj:k=j
   ·subst hkj
    obtain⟨e2,c1,c2⟩:=hc
    rw[q1] at c1;cases c1
    rw[hch] at c2;simp at c2
   ·exact z3 k (by omega) hc
  generalize hpd:(st (j+1)).2.2=pd' at *
  cases q3 with
  |no _=>exact old rfl hm
  |ld _ _ _ _ _ _=>exact old rfl hm
  |flt v h2 hw hop=>
   cases hg:h2.get (base+j) with
   |none=>rw[hg] at hm;exact old rfl hm
   |some ob2=>
    rw[hg] at hm
    rcases List.mem_cons.1 hm with heq|hmem
    ·simp only[Prod.mk.injEq] at heq
     obtain⟨rfl,rfl⟩:=heq
     refine⟨by omega,⟨_,q1,hg⟩,fun k hk hc=>?_⟩
     cases hb:(bef.getD k 0).testBit i with
     |false=>rfl
     |true=>
      obtain⟨o2,ho2⟩:=R.get (i:=k) (by omega)
      have:=R.ok.lt k ho2 hb
      omega
    ·exact old rfl hmem
  |ch nx h2 v h3 hw hop hn=>
   rw[List.mem_filter] at hm
   obtain⟨hmem,hbit⟩:=hm
   obtain⟨z1,z2,z3⟩:=ih (by omega) i ob hmem
   refine⟨by omega,z2,fun k hk hc=>?_⟩
   by_cases hkj:k=j
   ·subst hkj;simpa using hbit
   ·exact z3 k (by omega) hc
end
end Go.Proofs.YtlbipokkdiiaiaaGreatDoor.Exec
