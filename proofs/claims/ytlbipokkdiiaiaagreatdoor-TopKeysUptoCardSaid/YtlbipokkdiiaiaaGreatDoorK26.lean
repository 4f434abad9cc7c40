/- Lemmas for TopKeysUpto: ExecOpsE, ExecOpsF, ExecOpsG, ExecOpsH, ExecOpAll, ExecOpAll2. -/
import Derived.Test.YtlbipokkdiiaiaaGreatDoorK04
import Derived.Deep.AppendSrc
namespace Go.Proofs.YtlbipokkdiiaiaaGreatDoor.Exec
variable {P:Program} {m:Bij} {h:H} {W:World}
theorem yI {t:TypeId} {x x' k k' y y':Value} (hx:ak m x x') (hk:ak m k k') (hy:ak m y y') (hw:bw m h W) {h':H} (he:nA P t x k y h=some h'):
 ∃W',(Instr.mapUpdate t x' k' y').run P W=.ok () W'∧Snd m h W m h' W':=by
 unfold nA at he
 split at he
 ·rename_i key elem r hd
  cases hx with
  |map hr=>cases hr with
   |@some _ r' hr=>
    split at he
    ·rename_i es clock g hg
     obtain⟨o',q1,q2⟩:=hw.objAt hr hg (by simp)
     cases q2 with
     |@map _ es' _ hs hes=>
      have hel:kN m es.toList es'.toList:=.of_get (by simpa using hs) fun i a b=>by simpa using hes i (by simpa using a) (by simpa using b)
      split at he
      ·rename_i hkey
       have hkey':=tj hk hkey
       have hck:=xy (W:=W) hkey' false
       have hrun:(Instr.mapUpdate t (.map (some r')) k' y').run P W=((Instr.findKey key k' es'.toList).run P W).andThen fun f W=>(match f with
        |some (i,_)=>(do
         let k2 ←Instr.keyThatStays (((es'[i]?).map (·.key)).getD k') k'
         setObj r' (.map (es'.modify i fun e=>{e with key:=k2,val:=y'}) clock))
        |none=>setObj r' (.map (es'.push {key:=k',val:=y',born:=clock}) (clock+1)):Sem Unit).run P W:=by
        unfold Instr.mapUpdate
        simp only[Sem.run_bind,run_underlying hd,Result.andThen_ok]
        rw[←Sem.run_bind,dA q1 (by simp)]
        simp only[Sem.run_bind,hck,Result.andThen_ok]
        congr 1
       split at he
       ·rename_i i w hf
        obtain⟨f',f1,f2⟩:=jr hk hel 0 hf
        cases f2 with
        |@some _ f2v f2=>
         obtain⟨i2,w2⟩:=f2v
         obtain⟨rfl,f2⟩:=f2
         simp only at f1
         split at he
         ·rename_i e hei
          split at he
          ·rename_i hbits
           simp only[Option.some.injEq] at he
           subst he
           have hi:i<es.size:=(Array.getElem?_eq_some_iff.1 hei).1
           have hi':i<es'.size:=hs▸hi
           have hek:=hes i hi hi'
           have hee:es[i]=e:=(Array.getElem?_eq_some_iff.1 hei).2
           rw[hee] at hek
           have hb':=zp 10000 hek.key hk hbits
           have hp:=Snd.put hw hg hr (o:=⟨.map (es.modify i fun e=>{e with key:=k,val:=y}) clock,false⟩) (o':=.map (es'.modify i fun e=>{e with key:=k',val:=y'}) clock) (.obj (.map clock (by simpa using hs) fun j a b=>by
            simp only[Array.getElem_modify]
            simp only[Array.size_modify] at a b
            have hj:=hes j a b
            split
            ·exact⟨hk,hy,hj.born⟩
            ·exact hj))
           refine⟨_,?_,hp⟩
           rw[hrun,kW hkey' f1]
           simp only[Result.andThen_ok,Array.getElem?_eq_getElem hi',Option.map_some,Option.getD_some,Instr.keyThatStays,hb',if_true,lA]
           exact gV q1 (by simp)
          ·simp at he
         ·simp at he
       ·rename_i hf
        obtain⟨f',f1,f2⟩:=jr hk hel 0 hf
        cases f2
        simp only[Option.some.injEq] at he
        subst he
        have hp:=Snd.put hw hg hr (o:=⟨.map (es.push {key:=k,val:=y,born:=clock}) (clock+1),false⟩) (o':=.map (es'.push {key:=k',val:=y',born:=clock}) (clock+1)) (.obj (.map _ (by simp[hs]) fun j a b=>by
         simp only[Array.size_push] at a b
         by_cases hj:j<es.size
         ·rw[Array.getElem_push_lt hj,Array.getElem_push_lt (hs▸hj)];exact hes j hj _
         ·have e1:j=es.size:=by omega
          subst e1
          rw[Array.getElem_push_eq]
          have:(es'.push ({key:=k',val:=y',born:=clock}:MapEntry))[es.size]'(by simpa using b)={key:=k',val:=y',born:=clock}:=by simp[hs]
          rw[this];exact⟨hk,hy,rfl⟩))
        refine⟨_,?_,hp⟩
        rw[hrun,kW hkey' f1]
        simp only[Result.andThen_ok]
        exact gV q1 (by simp)
       ·simp at he
      ·simp at he
    ·simp at he
 ·simp at he
end Go.Proofs.YtlbipokkdiiaiaaGreatDoor.Exec
namespace Go.Proofs.YtlbipokkdiiaiaaGreatDoor.Exec
variable {P:Program} {m:Bij} {h:H} {W:World}
theorem zba {v v':Value} (hv:ak m v v') (h:nm v=true):v'.oneCell'=true:=by
 cases hv<;>first|rfl|(simp[nm] at h;done)
theorem sh (b o j:Nat):(⟨b,o,none⟩:Addr).add j=⟨b,o+j,none⟩:=by
 unfold Addr.add;split
 ·rename_i h;simp[h]
 ·rfl
theorem oh:∀(n i:Nat) (a:Addr) (acc:Array Value) {c:Array Value} {h1:H},aB P (loadCellsFrom a i n acc) h=some (c,h1)→
 ∃l:List Value,l.length=n∧c.toList=acc.toList++l∧∀(j:Nat) v,l[j]?=some v→h.cell? (a.add (i+j))=some v
 |0,i,a,acc,c,h1,he=>by
  simp only[loadCellsFrom] at he
  obtain⟨rfl,rfl⟩:acc=c∧h=h1:=by simpa[aB,Pure.pure] using he
  exact⟨[],rfl,by simp,fun j v hv=>by simp at hv⟩
 |n+1,i,a,acc,c,h1,he=>by
  unfold loadCellsFrom at he
  rw[jp] at he
  cases hc:h.cell? (a.add i) with
  |none=>simp[hc] at he
  |some v=>
   rw[hc] at he
   dsimp only at he
   obtain⟨l,h2,h3,h4⟩:=oh n (i+1) a _ he
   refine⟨v::l,by simp[h2],by rw[h3];simp,fun j x hx=>?_⟩
   cases j with
   |zero=>simp only[List.getElem?_cons_zero,Option.some.injEq] at hx;subst hx;simpa using hc
   |succ j=>have:=h4 j x (by simpa using hx);rwa [show i+1+j=i+(j+1) by omega] at this
theorem qO (hw:bw m h W) {a a':Addr} (ha:dB m a a'):∀(l:List Value) (i:Nat),(∀(j:Nat) v,l[j]?=some v→h.cell? (a.add (i+j))=some v)→
 ∃l',cO m l l'∧∀(j:Nat) v,l'[j]?=some v→W.cell? (a'.add (i+j))=some v
 |[],i,_=>⟨[],.nil,fun j v hv=>by simp at hv⟩
 |v::l,i,hc=>by
  obtain⟨v',h1,h2⟩:=hw.cell (ha.add i) (by simpa using hc 0 v rfl)
  obtain⟨l',h3,h4⟩:=qO hw ha l (i+1) (fun j x hx=>by have:=hc (j+1) x (by simpa using hx);rwa [show i+1+j=i+(j+1) by omega])
  refine⟨v'::l',.cons h2 h3,fun j x hx=>?_⟩
  cases j with
  |zero=>simp only[List.getElem?_cons_zero,Option.some.injEq] at hx;subst hx;simpa using h1
  |succ j=>have:=h4 j x (by simpa using hx);rwa [show i+1+j=i+(j+1) by omega] at this
theorem fP {a:Addr} {n:Nat} {c:Array Value} {h1:H} (he:aB P (loadCells a n) h=some (c,h1)) (hw:bw m h W) {a':Addr} (ha:dB m a a'):
 c.toList.length=n∧∃l',cO m c.toList l'∧∀(j:Nat) v,l'[j]?=some v→W.cell? (a'.add j)=some v:=by
 obtain⟨l,h2,h3,h4⟩:=oh n 0 a #[] he
 have h3:c.toList=l:=by simpa using h3
 obtain⟨l',k1,k2⟩:=qO hw ha l 0 h4
 rw[h3]
 exact⟨h2,l',k1,fun j v hv=>by simpa using k2 j v hv⟩
theorem cO.one {l l':List Value} (h:cO m l l') (ho:l.all nm=true):∀u∈l',u.oneCell'=true:=by
 induction h with
 |nil=>intro u hu;cases hu
 |cons hv _ ih=>
  simp only[List.all_cons,Bool.and_eq_true] at ho
  intro u hu
  rcases List.mem_cons.1 hu with rfl|hu
  ·exact zba hv ho.1
  ·exact ih ho.2 u hu
theorem zaa {xT:TypeId} {size n:Nat} {x x':Value} {l:List Value} (hx:ak m x x') (hw:bw m h W) (he:zd1 P xT size x h=some (n,l)):∃l',cO m l l'∧Src P size xT x' n l' W:=by
 unfold zd1 at he
 split at he
 ·rename_i c e hd
  simp only[Option.some.injEq,Prod.mk.injEq] at he
  obtain⟨rfl,rfl⟩:=he
  cases hx with
  |slice _ _ _ hp=>cases hp;exact⟨[],.nil,Src.ofNil W hd _⟩
 ·rename_i a k c e hd
  split at he
  ·rename_i cs h1 hr
   split at he
   ·rename_i hone
    simp only[Option.some.injEq,Prod.mk.injEq] at he
    obtain⟨rfl,rfl⟩:=he
    cases hx with
    |slice _ _ _ hp=>cases hp with
     |some ha=>
      obtain⟨q1,l',q2,q3⟩:=fP hr hw ha
      exact⟨l',q2,Src.ofSlice W hd _ _ _ l' (by rw[←q2.length];exact q1) q3 (q2.one hone)⟩
    |sliceU _ _ _ hb _ _ _=>
     obtain⟨q1,l',q2,q3⟩:=fP hr hw (.mk hb)
     exact⟨l',q2,Src.ofSlice W hd _ _ _ l' (by rw[←q2.length];exact q1) q3 (q2.one hone)⟩
   ·simp at he
  ·simp at he
 ·rename_i s hd
  split at he
  ·rename_i hs
   have hs:size=1:=by simpa using hs
   subst hs
   simp only[Option.some.injEq,Prod.mk.injEq] at he
   obtain⟨rfl,rfl⟩:=he
   cases hx
   refine⟨byteCells s,?_,Src.ofString W hd s⟩
   unfold byteCells
   generalize s.data.toList=l
   induction l with
   |nil=>exact .nil
   |cons b l ih=>exact .cons (.int _ _) ih
  ·simp at he
 ·simp at he
theorem z8 {base base':Option Addr} (hb:aT (dB m) base base') {sLen size:Nat} (hw:bw m h W) {l:List Value} (he:zdY P base sLen size h=some l) (c:Nat):
 ∃l',cO m l l'∧l.length=sLen*size∧(Builtin.firstCells size sLen (.slice base' sLen c)).run P W.drew=.ok l'.toArray W.drew:=by
 unfold zdY at he
 cases hb with
 |none=>
  simp only at he
  split at he
  ·rename_i h0;subst h0
   simp only[Option.some.injEq] at he;subst he
   exact⟨[],.nil,by simp,run_firstCells_none W.drew size 0 0 c⟩
  ·simp at he
 |some ha=>
  simp only at he
  split at he
  ·rename_i cs h1 hr
   simp only[Option.some.injEq] at he;subst he
   obtain⟨q1,l',q2,q3⟩:=fP hr hw ha
   exact⟨l',q2,q1,run_firstCells_some W.drew size sLen _ sLen c l' (by rw[←q2.length];exact q1) (fun j v hv=>by simpa using q3 j v hv)⟩
  ·simp at he
theorem qE (n:Nat):∀(r c:Nat),Builtin.growBy n r c+768≤(c+768)*2^r
 |0,c=>by simp[Builtin.growBy]
 |r+1,c=>by
  unfold Builtin.growBy
  split
  ·have:0<2^(r+1):=Nat.two_pow_pos _
   exact Nat.le_mul_of_pos_right _ this
  ·refine Nat.le_trans (qE n r _) ?_
   rw[Nat.pow_succ,Nat.mul_comm (2^r) 2,←Nat.mul_assoc]
   exact Nat.mul_le_mul_right _ (by omega)
theorem zc2 {need old:Nat} (h:old<need):Builtin.nextslicecap need old≤16*(need+768):=by
 unfold Builtin.nextslicecap
 split
 ·omega
 ·split
  ·omega
  ·have:=qE need 4 old
   omega
theorem zaq {a b n:Nat} (h1:a≤16*(n+768)) (h2:(n+1200)*b*8≤1099511627776):a*b≤281474976710656:=by
 obtain⟨y,hy⟩:∃y,y=n+1200:=⟨_,rfl⟩
 rw[←hy] at h2
 have h0:a≤16*y:=by omega
 have h3:=Nat.mul_le_mul_right b h0
 rw[Nat.mul_assoc] at h3
 generalize y*b=z at h2 h3
 omega
theorem rh {ei:TypeInfo} {need:Nat} (h:za3 ei need=true):1≤ei.size∧ei.size≤64∧need<1099511627776∧∀old,old<need→Builtin.nextslicecap need old*ei.bytes≤281474976710656:=by
 simp only[za3,Bool.and_eq_true,decide_eq_true_eq] at h
 obtain⟨⟨⟨h1,h2⟩,h3⟩,h4⟩:=h
 refine⟨h1,h2,h4,fun old ho=>?_⟩
 exact zaq (zc2 ho) h3
theorem je (b:Nat) (t:TypeId) (fr:Nat×Nat):∀(l:List Value) (o:Nat) (W:World) (c:Array Value),W.heap[b]?=some (.cells c t fr)→W.setCells b o l={W with heap:=W.heap.setIfInBounds b (.cells (cj c o l) t fr)}
 |[],o,W,c,hb=>by
  have hbl:b<W.heap.size:=(Array.getElem?_eq_some_iff.1 hb).1
  have:W.heap.setIfInBounds b (.cells c t fr)=W.heap:=by
   apply Array.ext_getElem?
   intro j
   by_cases hj:b=j
   ·subst hj;rw[Array.getElem?_setIfInBounds_self_of_lt hbl,hb]
   ·rw[Array.getElem?_setIfInBounds_ne hj]
  simp only[World.setCells,cj,this]
 |v::l,o,W,c,hb=>by
  have hbl:b<W.heap.size:=(Array.getElem?_eq_some_iff.1 hb).1
  rw[World.setCells,oF hb,je b t fr l (o+1) _ (c.setIfInBounds o v) (by simp[hbl])]
  simp[cj]
theorem bX:∀(l:List Value) (o:Nat) (c:Array Value),(cj c o l).size=c.size
 |[],_,_=>rfl
 |v::l,o,c=>by rw[cj,bX l];simp
theorem zgi {l l':List Value} (hl:cO m l l'):∀(o:Nat) {c c':Array Value},cE m c c'→cE m (cj c o l) (cj c' o l'):=by
 induction hl with
 |nil=>intro o c c' h;exact h
 |cons hv _ ih=>intro o c c' h;exact ih (o+1) (h.set hv o)
theorem tD:∀(l:List Value) (o:Nat) (c:Array Value) (i:Nat),o+l.length≤c.size→(cj c o l)[i]?=if o≤i∧i<o+l.length then l[i-o]? else c[i]?
 |[],o,c,i,h=>by rw[cj,if_neg (by simp)]
 |v::l,o,c,i,h=>by
  simp only[List.length_cons] at h ⊢
  rw[cj,tD l (o+1) _ i (by simp;omega)]
  by_cases h1:i=o
  ·subst h1;rw[if_neg (by omega),if_pos (by omega),Array.getElem?_setIfInBounds_self_of_lt (by omega)];simp
  ·by_cases h2:o+1≤i∧i<o+1+l.length
   ·rw[if_pos h2,if_pos (by omega)]
    have:i-o=(i-(o+1))+1:=by omega
    rw[this];simp
   ·rw[if_neg h2,if_neg (by omega),Array.getElem?_setIfInBounds_ne (fun e=>h1 e.symm)]
theorem cE.grown {c c':Array Value} (hc:cE m c c') {l l':List Value} (hl:cO m l l') (k:Nat) (hk:k≤c.size) (hr:k+l.length≤c'.size):cE m (c.toList.take k++l).toArray (cj c' k l'):=by
 have bI:=hl.length
 refine⟨by rw[bX];simp;omega,fun i h h'=>?_⟩
 have e1:(c.toList.take k++l).toArray[i]?=some ((c.toList.take k++l).toArray[i]):=Array.getElem?_eq_getElem h
 have e2:(cj c' k l')[i]?=some ((cj c' k l')[i]):=Array.getElem?_eq_getElem h'
 have hkl:(c.toList.take k).length=k:=by simp;omega
 rw[tD l' k c' i (by omega)] at e2
 rw[List.getElem?_toArray,List.getElem?_append,hkl] at e1
 have hi:i<k+l.length:=by simpa[hkl] using h
 by_cases h1:i<k
 ·rw[if_pos h1,List.getElem?_take_of_lt h1,Array.getElem?_toList] at e1
  rw[if_neg (by omega)] at e2
  have hic:i<c.size:=by omega
  have hic':i<c'.size:=by omega
  have:=hc.at_ i hic hic'
  rw[Array.getElem?_eq_getElem hic,Option.some.injEq] at e1
  rw[Array.getElem?_eq_getElem hic',Option.some.injEq] at e2
  rw[←e1,←e2];exact this
 ·rw[if_neg h1] at e1
  rw[if_pos (by omega)] at e2
  have:=hl.get (i-k)
  rw[e1,e2] at this
  cases this with|some q=>exact q
theorem cO.head {l l' k k':List Value} (hl:cO m l l') (hk:cO m k k') (r:Array Value):cE m (l++k).toArray ((l'++k').toArray++r):=by
 have h1:=hl.length
 have h2:=hk.length
 have hr:am m (l++k).toArray (l'++k').toArray:=by
  have:(l++k).toArray=l.toArray++k.toArray:=by simp
  rw[this]
  have:(l'++k').toArray=l'.toArray++k'.toArray:=by simp
  rw[this]
  exact hl.toArray.append hk.toArray
 refine⟨by simp;omega,fun i a b=>?_⟩
 have hs:=hr.size
 have:((l'++k').toArray++r)[i]=(l'++k').toArray[i]'(by omega):=Array.getElem_append_left _
 rw[this]
 exact hr.at_ i a (by omega)
theorem Snd.kill (hw:bw m h W) {n:Nat} (hn:n<h.next):Snd m h W m (h.kill n) W:=by
 have hg:∀k,(h.kill n).get k=if k=n then none else h.get k:=fun k=>zf7 hw.room hw.le hn k
 refine⟨Bij.le_refl m,⟨fun k o hk=>?_,hw.fresh,hw.ran,fun a b c h1 h2 g1 g2=>?_,hw.room,hw.le⟩,Nat.le_refl _,fun _ _ _=>rfl,Nat.le_refl _,rfl,fun k _ hk=>?_,fun _ _ k=>.inl k,rfl,rfl,rfl⟩
 ·rw[hg] at hk;split at hk
  ·simp at hk
  ·exact hw.obj k o hk
 ·rw[hg] at g1 g2
  refine hw.inj a b c h1 h2 ?_ ?_
  ·split at g1
   ·simp at g1
   ·exact g1
  ·split at g2
   ·simp at g2
   ·exact g2
 ·rw[hg];split
  ·rfl
  ·exact hk
theorem zgq (hw:bw m h W) {n b:Nat} {x:bZ} (hg:h.get n=some x) (hb:m.r n b) (hr:h.next<h.lim) (g:Nat) {o:bZ} {o':Obj} (ho:∀m',m≤m'→m'.gr h.next=g→ic m' h.next o o'):
 ∃m',m'.r h.next b∧m'.gr h.next=g∧Snd m h W m' ((h.kill n).push o) {W with heap:=W.heap.setIfInBounds b o'}:=by
 have hn:∀x,¬m.r h.next x:=hw.fresh _ (Nat.le_refl _) hr
 have aH:=zfV hg
 have hbl:=hw.ran _ _ hb
 have hm:=m.le_add h.next b g hn
 have hgr:(m.add h.next b g hn).gr h.next=g:=by simp[Bij.add]
 have hget:∀k,((h.kill n).push o).get k=if k=h.next then some o else if k=n then none else h.get k:=fun k=>by
  rw[zfE (h:=h.kill n) hw.room hw.le]
  show(if k=h.next then some o else(h.kill n).get k)=_
  rw[zf7 hw.room hw.le aH]
 refine⟨m.add h.next b g hn,.inr ⟨rfl,rfl⟩,hgr,hm,⟨?_,?_,?_,?_,hw.room,?_⟩,by simp,?_,by simp[H.push,H.kill],rfl,?_,?_,rfl,rfl,rfl⟩
 ·intro k y hy
  rw[hget] at hy
  split at hy
  ·rename_i e;subst e
   simp only[Option.some.injEq] at hy;subst hy
   exact⟨b,o',.inr ⟨rfl,rfl⟩,by simp[hbl],ho _ hm hgr⟩
  ·split at hy
   ·simp at hy
   ·rename_i e1 e2
    obtain⟨c,z,h1,h2,h3⟩:=hw.obj k y hy
    have hne:b≠c:=fun e=>e2 (hw.inj k n c h1 (e▸hb) (by rw[hy];simp) (by rw[hg];simp))
    exact⟨c,z,.inl h1,by simp[hne,h2],h3.mono hm h1⟩
 ·rintro k hk1 hk2 c (q|⟨rfl,rfl⟩)
  ·exact hw.fresh k (by simp[H.push,H.kill] at hk1;omega) hk2 c q
  ·simp[H.push,H.kill] at hk1;omega
 ·rintro k c (q|⟨rfl,rfl⟩)
  ·simpa using hw.ran k c q
  ·simpa using hbl
 ·intro k l c h1 h2 g1 g2
  rw[hget] at g1 g2
  rcases h1 with h1|⟨rfl,rfl⟩<;>rcases h2 with h2|⟨rfl,h3⟩
  ·have e1:k≠h.next:=by rintro rfl;exact hn _ h1
   have e2:l≠h.next:=by rintro rfl;exact hn _ h2
   rw[if_neg e1] at g1;rw[if_neg e2] at g2
   refine hw.inj k l c h1 h2 ?_ ?_
   ·split at g1
    ·simp at g1
    ·exact g1
   ·split at g2
    ·simp at g2
    ·exact g2
  ·subst h3
   have e1:k≠h.next:=by rintro rfl;exact hn _ h1
   rw[if_neg e1] at g1
   split at g1
   ·simp at g1
   ·rename_i e;exact absurd (hw.inj k n c h1 hb g1 (by rw[hg];simp)) e
  ·have e2:l≠h.next:=by rintro rfl;exact hn _ h2
   rw[if_neg e2] at g2
   split at g2
   ·simp at g2
   ·rename_i e;exact absurd (hw.inj l n _ h2 hb g2 (by rw[hg];simp)) e
  ·rfl
 ·simp[H.push,H.kill];omega
 ·intro c _ hc
  have:b≠c:=fun e=>by have:=hc n (e▸hb);rw[hg] at this;simp at this
  simp[this]
 ·intro k hk hd
  rw[hget,if_neg (by omega)];split
  ·rfl
  ·exact hd
 ·rintro k c (q|⟨rfl,rfl⟩)
  ·exact .inl q
  ·exact .inr ⟨Nat.le_refl _,by simp[H.push,H.kill],.inr ⟨n,hb,by rw[hg];simp⟩⟩
end Go.Proofs.YtlbipokkdiiaiaaGreatDoor.Exec
namespace Go.Proofs.YtlbipokkdiiaiaaGreatDoor.Exec
variable {P:Program} {m:Bij} {h:H} {W:World}
theorem zaT (W:World) {need old:Nat} (e:TypeId) (hn:need<2^63):need≤grownCap W need old e∧grownCap W need old e<2^63:=by
 show need≤need+W.tape W.drawn (.appendCap need old e)%(2^63-need)∧need+W.tape W.drawn (.appendCap need old e)%(2^63-need)<2^63
 have:=Nat.mod_lt (W.tape W.drawn (.appendCap need old e)) (show 0<2^63-need by omega)
 omega
theorem zl {t e:TypeId} {i:TypeInfo} (h:i7 P t=some (e,i)):P.underlying t=some (.slice e)∧P.info? e=some i:=by
 unfold i7 at h
 split at h
 ·rename_i e2 hd
  cases hi:P.info? e2 with
  |none=>rw[hi] at h;simp at h
  |some j=>rw[hi] at h;simp only[Option.map_some,Option.some.injEq,Prod.mk.injEq] at h;obtain⟨rfl,rfl⟩:=h;exact⟨hd,hi⟩
 ·simp at h
theorem xa {m0:Bij} {h0:H} (hw0:bw m0 h0 W) (hs0:Snd m0 h0 W m h W) {sT xT e ty:TypeId} {ei:TypeInfo} {z:Value} (hd:P.underlying sT=some (.slice e)) (hi:P.info? e=some ei) (hz:ei.zero=some z) (hzs:z.cells.size=ei.size)
 {sLen n c:Nat} (hf:za3 ei (sLen+n)=true) (hc:c<sLen+n) {base':Option Addr} {x':Value} {new new' old old':List Value} (hnew:cO m new new') (hsrc:Src P ei.size xT x' n new' W)
 (hold:cO m old old') (hol:old.length=sLen*ei.size) (hor:(Builtin.firstCells ei.size sLen (.slice base' sLen c)).run P W.drew=.ok old'.toArray W.drew) (hr:h.next<h.lim) (fr:Nat×Nat):
 ∃m' v' W',(Builtin.append_ #[sT,xT] ty #[.slice base' sLen c,x']).run P W=.ok v' W'∧ak m' (.slice (some ⟨h.next,0,none⟩) (sLen+n) (BIG+ei.size)) v'∧Snd m0 h0 W m' (h.push ⟨.cells (old++new).toArray e fr,true⟩) W':=by
 obtain⟨f1,f2,f3,f4⟩:=rh hf
 have hg:=zaT W (old:=c) e (show sLen+n<2^63 by omega)
 have hrun:=run_append_grow_src W sT xT ty e ei z hd hi hz base' sLen c old' hor x' n new' hsrc hc (by omega) (f4 c hc)
 have hw:bw m h W:=hs0.rel
 obtain⟨cap,hcap⟩:∃cap,cap=grownCap W (sLen+n) c e:=⟨_,rfl⟩
 rw[←hcap] at hg hrun
 have hnl:=hsrc.newsLen
 have holl:=hold.length
 have hzc:(Builtin.zeroCells z.cells (cap-(sLen+n))).size=(cap-(sLen+n))*ei.size:=by simp[Builtin.zeroCells,hzs]
 have hmul:sLen*ei.size+n*ei.size+(cap-(sLen+n))*ei.size=cap*ei.size:=by rw[←Nat.add_mul,←Nat.add_mul];congr 1;omega
 have hsize:((old'++new').toArray++Builtin.zeroCells z.cells (cap-(sLen+n))).size=cap*ei.size:=by
  rw[Array.size_append,hzc];simp;omega
 have hbig:cap*ei.size<BIG:=by
  have:cap*ei.size≤cap*64:=Nat.mul_le_mul_left _ f2
  unfold BIG;omega
 obtain⟨m',p1,p2,p3⟩:=Snd.push hw hr (cap*ei.size) (o:=⟨.cells (old++new).toArray e fr,true⟩) (o':=.cells ((old'++new').toArray++Builtin.zeroCells z.cells (cap-(sLen+n))) e (0,0)) (fun m' hm hgr=>by
  refine .grow e ⟨fun _=>rfl,fun h=>absurd rfl h⟩ ((hold.head hnew _).mono hm) (by rw[hsize,hgr]) (by rw[hsize];exact hbig))
 have p4:Snd m0 h0 W m' (h.push ⟨.cells (old++new).toArray e fr,true⟩) {W with heap:=W.heap.push (.cells ((old'++new').toArray++Builtin.zeroCells z.cells (cap-(sLen+n))) e (0,0))}:=hs0.trans hw0 p3
 exact⟨m',_,_,hrun,.sliceU (sLen+n) cap ei.size p1 hg.1 f1 (by rw[p2];omega),p4.of_heap rfl rfl ⟨rfl,rfl,rfl⟩⟩
theorem zk (ts:Array TypeId) (ty:TypeId) {a a':Array Value} (ha:am m a a') (hw:bw m h W) {v:Value} {h':H} (he:mV P ts a h=some (v,h')):
 ∃m' v' W',(Builtin.append_ ts ty a').run P W=.ok v' W'∧ak m' v v'∧Snd m h W m' h' W':=by
 have hshape:∃sT xT base sLen sCap x,ts.toList=[sT,xT]∧a.toList=[.slice base sLen sCap,x]:=by
  unfold mV at he
  generalize ts.toList=l1 at he
  generalize a.toList=l2 at he
  match l1,l2,he with
  |[sT,xT],[.slice base sLen sCap,x],_=>exact⟨sT,xT,base,sLen,sCap,x,rfl,rfl⟩
 obtain⟨sT,xT,base,sLen,sCap,x,hts,hargs⟩:=hshape
 unfold mV at he
 rw[hts,hargs] at he
 dsimp only at he
 ·have hts':ts=#[sT,xT]:=by rw[←Array.toArray_toList (xs:=ts),hts]
  subst hts'
  obtain⟨l',rfl,hl'⟩:=cB ha hargs
  cases hl' with
  |@cons _ s' _ _ hs q2=>cases q2 with
   |@cons _ x' _ _ hx q4=>cases q4 with
    |nil=>
  split at he
  ·rename_i elem ei hel
   obtain⟨hd,hi⟩:=zl hel
   split at he
   ·rename_i z n new hz hsrc
    obtain⟨new',hnew,hsrc'⟩:=zaa hx hw hsrc
    have hnl:=hsrc'.newsLen
    have hnn:=hnew.length
    split at he
    ·simp at he
    ·rename_i hc
     simp only[Bool.or_eq_true,not_or,Bool.not_eq_true',Bool.not_eq_false,beq_iff_eq] at hc
     have hzs:z.cells.size=ei.size:=by simpa using hc.1
     have hf:za3 ei (sLen+n)=true:=by simpa using hc.2
     obtain⟨f1,f2,f3,f4⟩:=rh hf
     split at he
     ·rename_i hbig
      cases hs with
      |sliceU l c e hb h1 h2 h3=>exact absurd hbig (by omega)
      |slice _ _ _ hbase=>
      split at he
      ·rename_i hroom
       split at he
       ·simp at he
       ·rename_i ad
        cases hbase with
        |@some _ ad' had=>
        split at he
        ·simp at he
        ·rename_i hsp
         have hsp:ad.spot=none:=by simpa using hsp
         cases had with
         |@mk b b' o sp hb=>
         simp only at hsp
         subst hsp
         split at he
         ·rename_i hemp
          simp only[Option.some.injEq,Prod.mk.injEq] at he
          obtain⟨rfl,rfl⟩:=he
          have hne:new=[]:=by simpa using hemp
          subst hne
          have hne:new'=[]:=by cases hnew;rfl
          subst hne
          have hrun:=run_append_room_src W sT xT ty elem ei hd hi b' o sLen sCap x' n [] hsrc' hroom (by simp) (by simp)
          exact⟨m,_,_,hrun,.slice _ _ hbig (.some (.mk hb)),Snd.refl hw⟩
         ·split at he
          ·rename_i c t fr g hop
           simp only[Option.some.injEq,Prod.mk.injEq] at he
           obtain⟨rfl,rfl⟩:=he
           rw[sh] at hop
           obtain⟨k1,k2,k3,k4⟩:=zfU hop
           simp only at k1 k2 k3 k4
           obtain⟨o',q1,q2⟩:=hw.at_ hb k1
           obtain⟨c',fr',rfl,q3,q4,q5,q6⟩:=q2.row
           have hrun:=run_append_room_src W sT xT ty elem ei hd hi b' o sLen sCap x' n new' hsrc' hroom
            (fun j hj=>by
             have hjl:o+sLen*ei.size+j<c'.size:=by have:=q3.size;omega
             simp[World.cell?,q1,hjl])
            (fun j hj=>by
             have hjl:o+sLen*ei.size+j<c'.size:=by have:=q3.size;omega
             have:=q4.clear hjl (by omega)
             simp only[World.frozen?,q1];simpa using this)
           rw[je b' t fr' new' _ W c' q1] at hrun
           have hp:=Snd.put hw k1 hb (zfB (n:=b) (t:=t) (fr:=fr) (fr':=fr') (g:=g) (zgi hnew (o+sLen*ei.size) q3) (by rw[bX];exact q4) (fun e=>by rw[bX,bX];exact q5 e) (fun e=>by rw[bX];exact q6 e))
           exact⟨m,_,_,hrun,.slice _ _ hbig (.some (.mk hb)),hp⟩
          ·simp at he
      ·rename_i hroom
       split at he
       ·rename_i old hold
        split at he
        ·rename_i hr
         simp only[Option.some.injEq,Prod.mk.injEq] at he
         obtain⟨rfl,rfl⟩:=he
         obtain⟨old',o1,o2,o3⟩:=z8 hbase hw hold sCap
         exact xa hw (Snd.refl hw) hd hi hz hzs hf (by omega) hnew hsrc' o1 o2 o3 hr (0,0)
        ·simp at he
       ·simp at he
     ·rename_i hbig
      cases hs with
      |slice _ _ aH _=>exact absurd aH hbig
      |@sliceU b b' o _ c e hb h1 h2 h3=>
      split at he
      ·rename_i b0 heq
       simp only[Option.some.injEq,Addr.mk.injEq] at heq
       obtain⟨rfl,rfl,_⟩:=heq
       split at he
       ·simp at he
       ·rename_i hce
        have hce:e=ei.size:=by
         have:BIG+e=BIG+ei.size:=by simpa using hce
         omega
        subst hce
        split at he
        ·rename_i hemp
         split at he
         ·rename_i hn0
          subst hn0
          simp only[Option.some.injEq,Prod.mk.injEq] at he
          obtain⟨rfl,rfl⟩:=he
          have hne:new=[]:=by simpa using hemp
          subst hne
          have hne:new'=[]:=by cases hnew;rfl
          subst hne
          have hrun:=run_append_room_src W sT xT ty elem ei hd hi b' 0 sLen c x' 0 [] hsrc' (by omega) (by simp) (by simp)
          exact⟨m,_,_,hrun,.sliceU _ _ _ hb (by omega) h2 h3,Snd.refl hw⟩
         ·simp at he
        ·split at he
         ·rename_i row t fr hg
          split at he
          ·rename_i hcc
           simp only[Bool.and_eq_true,Bool.or_eq_true,decide_eq_true_eq,beq_iff_eq] at hcc
           obtain⟨⟨⟨g1,rfl⟩,g3⟩,g4⟩:=hcc
           simp only[Option.some.injEq,Prod.mk.injEq] at he
           obtain⟨rfl,rfl⟩:=he
           obtain⟨o',q1,q2⟩:=hw.at_ hb hg
           obtain⟨c',fr',rfl,q3,q4,q5,q6⟩:=q2.row
           obtain⟨q6,q7⟩:=q6 rfl
           by_cases hroom:sLen+n≤c
           ·have hmul:sLen*ei.size+n*ei.size≤c*ei.size:=by rw[←Nat.add_mul];exact Nat.mul_le_mul_right _ hroom
            have hrun:=run_append_room_src W sT xT ty t ei hd hi b' 0 sLen c x' n new' hsrc' hroom
             (fun j hj=>by
              have hjl:0+sLen*ei.size+j<c'.size:=by omega
              simp[World.cell?,q1];omega)
             (fun j hj=>by
              have hjl:0+sLen*ei.size+j<c'.size:=by omega
              have aX:¬(fr'.1≤0+sLen*ei.size+j∧0+sLen*ei.size+j<fr'.2):=by
               rintro⟨z1,z2⟩
               have hne:fr'.1≠fr'.2:=by omega
               obtain⟨z3,z4⟩:=q4.2 hne
               rcases g3 with(g3|g3)|g3
               ·exact hne (q4.1 g3)
               ·omega
               ·omega
              simp only[World.frozen?,q1];simpa using aX)
            rw[je b' t fr' new' _ W c' q1] at hrun
            obtain⟨m',p1,p2,p3⟩:=zgq hw hg hb g4 c'.size (o:=⟨.cells (row.toList.take (sLen*ei.size)++new).toArray t fr,true⟩) (o':=.cells (cj c' (0+sLen*ei.size) new') t fr') (fun m' hm hgr=>by
             refine .grow t (by rw[bX];exact q4) ?_ (by rw[bX,hgr]) (by rw[bX];exact q7)
             rw[Nat.zero_add]
             exact(q3.grown hnew (sLen*ei.size) g1 (by omega)).mono hm)
            exact⟨m',_,_,hrun,.sliceU _ _ _ p1 hroom h2 (by rw[p2];omega),p3⟩
           ·have aH:=zfV hg
            have hk:=Snd.kill hw aH
            have hhead:cO m (row.toList.take (sLen*ei.size)) (c'.toList.take (sLen*ei.size)):=by
             refine .of_get (by simp;have:=q3.size;omega) fun i u u' e1 e2=>?_
             have hi1:i<sLen*ei.size:=by
              have:=(List.getElem?_eq_some_iff.1 e1).1
              simp at this;omega
             rw[List.getElem?_take_of_lt hi1,Array.getElem?_toList] at e1 e2
             have a1:i<row.size:=by omega
             have a2:i<c'.size:=by have:=q3.size;omega
             rw[Array.getElem?_eq_getElem a1,Option.some.injEq] at e1
             rw[Array.getElem?_eq_getElem a2,Option.some.injEq] at e2
             rw[←e1,←e2];exact q3.at_ i a1 a2
            have hor:(Builtin.firstCells ei.size sLen (.slice (some ⟨b',0,none⟩) sLen c)).run P W.drew=.ok (c'.toList.take (sLen*ei.size)).toArray W.drew:=by
             refine run_firstCells_some W.drew ei.size sLen _ sLen c _ (by simp;have:=q3.size;omega) (fun j u hu=>?_)
             have hj1:j<sLen*ei.size:=by
              have:=(List.getElem?_eq_some_iff.1 hu).1
              simp at this;omega
             rw[List.getElem?_take_of_lt hj1,Array.getElem?_toList] at hu
             rw[sh,Nat.zero_add]
             show W.cell? _=_
             simp only[World.cell?,q1]
             simpa using hu
            exact xa hw hk hd hi hz hzs hf (by omega) hnew hsrc' hhead (by simp;omega) hor g4 fr
          ·simp at he
         ·simp at he
      ·simp at he
   ·simp at he
  ·simp at he
end Go.Proofs.YtlbipokkdiiaiaaGreatDoor.Exec
namespace Go.Proofs.YtlbipokkdiiaiaaGreatDoor.Exec
variable {P:Program} {m:Bij} {h:H} {W:World}
structure Good (P:Program):Prop where
 zeros:ph P
 names:∀(f:FuncId) (fn:Func),P.funcs[f]?=some fn→(fn.name== "runtime.NumGoroutine")=false
theorem lQ (g:Good P) {f:FuncId} {fn:Func} (hf:P.funcs[f]?=some fn) {c:Code} (hb:fn.body=some c) (args:Array Value):(callFunc f args).run P W=.ok (.enter f args) W:=by
 have:=g.names f fn hf
 have h1:fn.name≠ "runtime.NumGoroutine":=by simpa using this
 simp[callFunc,hf,h1,hb]
theorem uP {t t' a a':Array Value} (ht:am m t t') (ha:am m a a') (ps:Array Tmp):
 am m ((ps.zip a).foldl (fun tmps (t,a)=>tmps.setIfInBounds t a) t) ((ps.zip a').foldl (fun tmps (t,a)=>tmps.setIfInBounds t a) t'):=by
 rw[←Array.foldl_toList,←Array.foldl_toList,Array.toList_zip,Array.toList_zip]
 have hl:=ha.toList
 generalize a.toList=l at hl
 generalize a'.toList=l' at hl
 generalize ps.toList=p
 induction hl generalizing p t t' with
 |nil=>simpa using ht
 |cons hv _ ih=>cases p with
  |nil=>simpa using ht
  |cons q p=>simp only[List.zip_cons_cons,List.foldl_cons];exact ih (ht.set hv q) p
theorem zcw (g:Good P) {gv gv':Value} (hg:ak m gv gv') {a a':Array Value} (ha:am m a a') (hw:bw m h W) {nx:Next} {h':H} (he:za7 P gv a h=some (nx,h')):
 ∃m' nx' W',(do let d ←Deferred.ofValue gv' a';invoke d.target d.args:Sem Next).run P W=.ok nx' W'∧bV m' nx nx'∧Snd m h W m' h' W':=by
 unfold za7 at he
 split at he
 ·rename_i f first captured
  cases hg with
  |@func _ f' _ first' _ cap' hf s1 e1 s2 e2=>
   cases hf
   have hargs:am m ((first++a)++captured) ((first'++a')++cap'):=((am.append ⟨s1,e1⟩ ha).append ⟨s2,e2⟩)
   have hrun:(do let d ←Deferred.ofValue (.func (.func f) first' cap') a';invoke d.target d.args:Sem Next).run P W=(callFunc f ((first'++a')++cap')).run P W:=rfl
   rw[hrun]
   split at he
   ·rename_i fn hfn
    split at he
    ·rename_i c hb
     simp only[Option.some.injEq,Prod.mk.injEq] at he
     obtain⟨rfl,rfl⟩:=he
     exact⟨m,_,W,lQ g hfn hb _,.enter f hargs,Snd.refl hw⟩
    ·rename_i hb
     cases hx:m9 P fn ((first++a)++captured) h with
     |none=>rw[hx] at he;simp at he
     |some r=>
      obtain⟨v,h2⟩:=r
      rw[hx] at he
      simp only[Option.map_some,Option.some.injEq,Prod.mk.injEq] at he
      obtain⟨rfl,rfl⟩:=he
      obtain⟨m',v',W',r1,r2,r3⟩:=zN hfn hb hargs hw hx
      exact⟨m',_,W',r1,.value r2,r3⟩
   ·simp at he
 ·rename_i l first captured
  cases hg with
  |@func _ f' _ first' _ cap' hf s1 e1 s2 e2=>
   cases hf with
   |@yield _ l' hl=>
   have hargs:am m (first++a) (first'++a'):=am.append ⟨s1,e1⟩ ha
   have hrun:(do let d ←Deferred.ofValue (.func (.yield l') first' cap') a';invoke d.target d.args:Sem Next).run P W=(Instr.yield l' (first'++a')).run P W:=rfl
   rw[hrun]
   split at he
   ·rename_i r gr hgl
    obtain⟨o',q1,q2⟩:=hw.objAt hl hgl (by simp)
    cases q2 with
    |@loop _ r' p1 p2 p3 p4 p5 p6 p7=>
    split at he
    ·rename_i hsz
     simp only[Option.some.injEq,Prod.mk.injEq] at he
     obtain⟨rfl,rfl⟩:=he
     refine⟨m,.round l' r'.fn ((r'.params.zip (first'++a')).foldl (fun tmps (t,a)=>tmps.setIfInBounds t a) r'.tmps) r'.assign r'.body,W,?_,?_,Snd.refl hw⟩
     ·unfold Instr.yield Instr.getLoop
      rw[dh,dA q1 (by simp)]
      have:(first'++a').size=r'.params.size:=by rw[←hargs.size,hsz,p4]
      simp only[lA,this,ne_eq,not_true_eq_false,if_false]
      rfl
     ·rw[←p4,←p5,←p6]
      exact .round _ _ hl (uP p3 hargs _)
    ·simp at he
   ·simp at he
 ·simp at he
theorem zQ (g:Good P) {r r':Value} (hr:ak m r r') (name:String) {a a':Array Value} (ha:am m a a') (hw:bw m h W) {nx:Next} {h':H} (he:rC P r name a h=some (nx,h')):
 ∃m' nx' W',(invoke (.fn (.method name) #[]) (#[r']++a')).run P W=.ok nx' W'∧bV m' nx nx'∧Snd m h W m' h' W':=by
 unfold rC at he
 split at he
 ·rename_i t v
  cases hr with
  |@iface _ _ v' hv=>
  split at he
  ·rename_i i hi
   split at he
   ·rename_i me hme
    split at he
    ·rename_i f e hp hfn hd
     split at he
     ·rename_i fn hf
      split at he
      ·rename_i hb
       simp only[Option.some.injEq,Prod.mk.injEq] at he
       obtain⟨rfl,rfl⟩:=he
       obtain⟨c,hb⟩:=Option.isSome_iff_exists.1 hb
       refine⟨m,.enter f (#[v']++a'),W,?_,.enter f ((am.one hv).append ha),Snd.refl hw⟩
       have hpath:me.path=#[]:=by simpa using hp
       have h0:((#[Value.iface t v']++a':Array Value)[0]?:Option Value)=some (.iface t v'):=by rw[Array.getElem?_append_left (by simp)];rfl
       have hen:=lQ (W:=W) g hf hb (#[v']++a')
       have hm:(method (P.types.size+Made.depth) t v' name).run P W=.ok (f,v') W:=by
        have:P.types.size+Made.depth=(P.types.size+99)+1:=rfl
        rw[this]
        generalize P.types.size+99=N
        simp[method,typeInfo,hi,hme,hpath,follow,hfn,receiverAt,run_underlying hd,Place.get]
       simp[invoke,h0,callMethod,hm,hen]
      ·simp at he
     ·simp at he
    ·simp at he
   ·simp at he
  ·simp at he
 ·simp at he
end Go.Proofs.YtlbipokkdiiaiaaGreatDoor.Exec
namespace Go.Proofs.YtlbipokkdiiaiaaGreatDoor.Exec
variable {P:Program} {m:Bij} {h:H} {W:World} {ρ ρ':Operand→Value}
theorem xt {s:Sem Value} {W W':World} {v:Value} (hs:s.run P W=.ok v W'):(do pure (.value (←s)):Sem Next).run P W=.ok (.value v) W':=by
 rw[Sem.run_bind,hs];rfl
def Tru (P:Program) (m:Bij) (h:H) (W:World) (ρ':Operand→Value) (o:Oper) (nx:Next) (h':H):Prop:=
 ∃m' nx' W',(execOp ρ' o).run P W=.ok nx' W'∧bV m' nx nx'∧Snd m h W m' h' W'
theorem bB {o:Oper} {nx:Next} {h':H} (hs:ay P bV m (execOp ρ o) (execOp ρ' o)) (he:aB P (execOp ρ o) h=some (nx,h')) (hw:bw m h W):Tru P m h W ρ' o nx h':=zfy hs he hw
theorem qf {o:Oper} {s:Sem Value} (hd:execOp ρ' o=(do pure (.value (←s)))) {r:Option (Value×H)} {nx:Next} {h':H} (he:(r.map fun(x,h)=>(Next.value x,h))=some (nx,h'))
 (hs:∀v h',r=some (v,h')→∃m' v' W',s.run P W=.ok v' W'∧ak m' v v'∧Snd m h W m' h' W'):Tru P m h W ρ' o nx h':=by
 cases r with
 |none=>simp at he
 |some r=>
  obtain⟨v,h2⟩:=r
  simp only[Option.map_some,Option.some.injEq,Prod.mk.injEq] at he
  obtain⟨rfl,rfl⟩:=he
  obtain⟨m',v',W',r1,r2,r3⟩:=hs v h2 rfl
  exact⟨m',.value v',W',by rw[hd];exact xt r1,.value r2,r3⟩
theorem qJ {o:Oper} {s:Sem Value} (hd:execOp ρ' o=(do pure (.value (←s)))) {r:Option Value} {nx:Next} {h':H} (hw:bw m h W) (he:((r.map fun x=>(x,h)).map fun(x,h)=>(Next.value x,h))=some (nx,h'))
 (hs:∀v,r=some v→∃v',s.run P W=.ok v' W∧ak m v v'):Tru P m h W ρ' o nx h':=
 qf hd he fun v h2 hr=>by
  cases r with
  |none=>simp at hr
  |some x=>
   simp only[Option.map_some,Option.some.injEq,Prod.mk.injEq] at hr
   obtain⟨rfl,rfl⟩:=hr
   obtain⟨v',r1,r2⟩:=hs x rfl
   exact⟨m,v',W,r1,r2,Snd.refl hw⟩
theorem nE {x:Option Operand} (hx:∀y∈x.toArray,ak m (ρ y) (ρ' y)):aT (ak m) (x.map ρ) (x.map ρ'):=by
 cases x with
 |none=>exact .none
 |some y=>exact .some (hx y (by simp))
theorem qT (l:Array (Nat×Operand)) (hl:∀y∈(l.toList.map (·.2)).toArray,ak m (ρ y) (ρ' y)):oX m (l.map fun(i,x)=>(i,ρ x)).toList (l.map fun(i,x)=>(i,ρ' x)).toList:=by
 rw[Array.toList_map,Array.toList_map]
 exact oX.map l.toList fun a ha=>hl a.2 (by simp only[List.mem_toArray,List.mem_map];exact⟨a,ha,rfl⟩)
theorem zcY {b:BinOp} {t:TypeId} {x y:Operand} {yt:TypeId} {dst:Option Tmp} {ty:TypeId} {pos:String} {aft:Array Edge} {gd:Option (Nat×Bool)} (hx:ak m (ρ x) (ρ' x)) (hy:ak m (ρ y) (ρ' y)) (hw:bw m h W) {nx:Next} {h':H}
 (he:aop P ρ ⟨dst,.binOp b t x y yt,ty,pos,aft,gd⟩ h=some (nx,h')):Tru P m h W ρ' ⟨dst,.binOp b t x y yt,ty,pos,aft,gd⟩ nx h':=by
 have hd:(execOp ρ' ⟨dst,.binOp b t x y yt,ty,pos,aft,gd⟩)=(do pure (.value (←(do eqGuard b t x y (ρ' x) (ρ' y);binOp b t (ρ' x) (ρ' y))))):=rfl
 have gen:(dK (ρ x) (ρ y)&&y9 P t (ρ x) (ρ y)&&kO b (ρ x) (ρ y))=true→aB P (execOp ρ ⟨dst,.binOp b t x y yt,ty,pos,aft,gd⟩) h=some (nx,h')→Tru P m h W ρ' ⟨dst,.binOp b t x y yt,ty,pos,aft,gd⟩ nx h':=by
  intro hc hr
  simp only[Bool.and_eq_true] at hc
  refine bB ?_ hr hw
  exact dw ((sD b t x y hx hy hc.1.1).bind fun m1 _ _ h1 _=>zO b t (hx.mono h1) (hy.mono h1) hc.1.1 hc.1.2 hc.2)
 have aggs:∀c d (f:Bool→Bool),ρ x=.agg c→ρ y=.agg d→(b=.eql∨b=.neq)→(∀c d,binOp b t (.agg c) (.agg d)=(do pure (.bool (f (←Op.equal t (.agg c) (.agg d))))))→
  (if P.eqGuardType P.depth t then none else(((bQ P 4 t (.agg c) (.agg d)).map fun r=>(Value.bool (f r),h)).map fun(x,h)=>(Next.value x,h)))=some (nx,h')→Tru P m h W ρ' ⟨dst,.binOp b t x y yt,ty,pos,aft,gd⟩ nx h':=by
  intro c d f e1 e2 hb hbin hr
  split at hr
  ·simp at hr
  ·rename_i hg
   have hg:P.eqGuardType P.depth t=false:=by simpa using hg
   cases hq:bQ P 4 t (.agg c) (.agg d) with
   |none=>rw[hq] at hr;simp at hr
   |some r=>
    rw[hq] at hr
    simp only[Option.map_some,Option.some.injEq,Prod.mk.injEq] at hr
    obtain⟨rfl,rfl⟩:=hr
    rw[e1] at hx;rw[e2] at hy
    have hq':=ig 4 t hx hy hq
    generalize hX:ρ' x=X at hx hq'
    generalize hY:ρ' y=Y at hy hq'
    cases hx with|@agg _ c' s1 q1=>cases hy with|@agg _ d' s2 q2=>
    refine⟨m,.value (.bool (f r)),W,?_,.value (.bool _),Snd.refl hw⟩
    rw[hd,hX,hY]
    refine xt ?_
    have heg:(eqGuard b t x y (.agg c') (.agg d')).run P W=.ok () W:=by
     rcases hb with rfl|rfl<;>simp[eqGuard,hg]
    rw[Sem.run_bind,heg]
    simp only[Result.andThen_ok,hbin,Sem.run_bind,run_equal' hq',Sem.run_pure]
 unfold aop at he
 dsimp only at he
 by_cases hagg:∃c d,ρ x=.agg c∧ρ y=.agg d
 ·obtain⟨c,d,e1,e2⟩:=hagg
  rw[e1,e2] at he
  cases b with
  |eql=>exact aggs c d id e1 e2 (.inl rfl) (fun _ _=>rfl) he
  |neq=>exact aggs c d not e1 e2 (.inr rfl) (fun _ _=>rfl) he
  |_=>simp[dK] at he
 ·have hno:(if dK (ρ x) (ρ y)&&y9 P t (ρ x) (ρ y)&&kO b (ρ x) (ρ y) then aB P (execOp ρ ⟨dst,.binOp b t x y yt,ty,pos,aft,gd⟩) h else none)=some (nx,h'):=by
   split at he
   ·rename_i e1 e2;exact absurd ⟨_,_,e1,e2⟩ hagg
   ·rename_i e1 e2;exact absurd ⟨_,_,e1,e2⟩ hagg
   ·exact he
  split at hno
  ·rename_i hc;exact gen hc hno
  ·simp at hno
end Go.Proofs.YtlbipokkdiiaiaaGreatDoor.Exec
namespace Go.Proofs.YtlbipokkdiiaiaaGreatDoor.Exec
variable {P:Program} {m:Bij} {h:H} {W:World} {ρ ρ':Operand→Value}
theorem oB {e:TypeId} (h:ny P e=true):P.underlying e=some (.int .u8):=by
 unfold ny at h
 cases hd:P.underlying e with
 |none=>rw[hd] at h;simp at h
 |some d=>
  rw[hd] at h
  cases d with
  |int k=>cases k<;>first|rfl|(simp at h;done)
  |_=>simp at h
theorem zbF {src dst':TypeId} {x:Operand} {dst:Option Tmp} {ty:TypeId} {pos:String} {aft:Array Edge} {gd:Option (Nat×Bool)} (hx:ak m (ρ x) (ρ' x)) (hw:bw m h W) {nx:Next} {h':H}
 (he:aop P ρ ⟨dst,.convert src dst' x,ty,pos,aft,gd⟩ h=some (nx,h')):Tru P m h W ρ' ⟨dst,.convert src dst' x,ty,pos,aft,gd⟩ nx h':=by
 have hd:(execOp ρ' ⟨dst,.convert src dst' x,ty,pos,aft,gd⟩)=(do pure (.value (←convert src dst' (ρ' x)))):=rfl
 unfold aop at he
 dsimp only at he
 cases h1:P.underlying src with
 |none=>rw[h1] at he;simp at he
 |some sd=>
 cases h2:P.underlying dst' with
 |none=>rw[h1,h2] at he;cases sd<;>simp at he
 |some dd=>
 rw[h1,h2] at he
 have conv:∀{v v':Value},(convert src dst' (ρ' x)).run P W=.ok v' W→ak m v v'→((some (v,h)).map fun(x,h)=>(Next.value x,h))=some (nx,h')→Tru P m h W ρ' ⟨dst,.convert src dst' x,ty,pos,aft,gd⟩ nx h':=by
  intro v v' hr hv hq
  exact qf hd hq fun v2 h2 e=>by
   simp only[Option.some.injEq,Prod.mk.injEq] at e
   obtain⟨rfl,rfl⟩:=e
   exact⟨m,v',W,hr,hv,Snd.refl hw⟩
 generalize hX:ρ' x=X at *
 generalize ρ x=Y at *
 split at he
 ·rename_i k n e1 e2
  simp only[Option.some.injEq] at e1 e2;subst e1;subst e2
  cases hx
  exact conv (v':=.int _ (IntKind.wrap _ _)) (by cases sd<;>simp[convert,run_underlying h1,run_underlying h2,Conv.intToInt]) (.int _ _) he
 ·rename_i n e1 e2
  simp only[Option.some.injEq] at e1 e2;subst e1;subst e2
  cases hx
  exact conv (v':=.string (Utf8.encode _)) (by cases sd<;>simp[convert,run_underlying h1,run_underlying h2,Conv.intToString]) (.string _) he
 ·rename_i s e1 e2
  simp only[Option.some.injEq] at e1 e2;subst e1;subst e2
  cases hx
  exact conv (v':=.string _) (by cases sd<;>simp[convert,run_underlying h1,run_underlying h2]) (.string _) he
 ·rename_i e s e1 e2
  simp only[Option.some.injEq] at e1 e2;subst e1;subst e2
  cases hx
  exact qf hd he fun v h2' hr=>zaB h1 h2 _ hw hr
 ·rename_i e l c e1 e2
  simp only[Option.some.injEq] at e1 e2;subst e1;subst e2
  split at he
  ·rename_i h3
   have h3:=oB h3
   cases hx with
   |slice _ _ _ hp=>
   cases hp
   exact conv (v':=.string .empty) (by simp[convert,run_underlying h1,run_underlying h2,run_underlying h3,Conv.bytesToString]) (.string _) he
  ·simp at he
 ·rename_i e a n c e1 e2
  simp only[Option.some.injEq] at e1 e2;subst e1;subst e2
  split at he
  ·rename_i h3
   have h3:=oB h3
   split at he
   ·rename_i s h4 hr
    cases hx with
    |slice _ _ _ hp=>cases hp with
     |some ha=>exact conv (v':=.string s) (qR h1 h2 h3 ha _ _ hw hr) (.string _) he
    |sliceU _ _ _ hb _ _ _=>exact conv (v':=.string s) (qR h1 h2 h3 (.mk hb) _ _ hw hr) (.string _) he
   ·simp at he
  ·simp at he
 ·rename_i u e1 e2
  simp only[Option.some.injEq] at e1 e2;subst e1;subst e2
  exact qJ hd hw he fun v hr=>rf h1 h2 hx hw hr
 ·rename_i t e1 e2
  simp only[Option.some.injEq] at e1 e2;subst e1;subst e2
  exact qJ hd hw he fun v hr=>rf h1 h2 hx hw hr
 ·simp at he
theorem zat (g:Good P) {c:Call} {dst:Option Tmp} {ty:TypeId} {pos:String} {aft:Array Edge} {gd:Option (Nat×Bool)} (hc:∀x∈c.operands,ak m (ρ x) (ρ' x)) (hw:bw m h W) {nx:Next} {h':H}
 (he:aop P ρ ⟨dst,.call c,ty,pos,aft,gd⟩ h=some (nx,h')):Tru P m h W ρ' ⟨dst,.call c,ty,pos,aft,gd⟩ nx h':=by
 obtain⟨callee,args,argTypes⟩:=c
 have hargs:am m (args.map ρ) (args.map ρ'):=.map _ fun a ha=>hc a (by simp[Call.operands,ha])
 unfold aop at he
 dsimp only at he
 cases callee with
 |value f=>
  have hf:=hc f (by simp[Call.operands])
  obtain⟨m',nx',W',r1,r2,r3⟩:=zcw g hf hargs hw he
  exact⟨m',nx',W',r1,r2,r3⟩
 |invoke r name=>
  have hf:=hc r (by simp[Call.operands])
  obtain⟨m',nx',W',r1,r2,r3⟩:=zQ g hf name hargs hw he
  exact⟨m',nx',W',r1,r2,r3⟩
 |builtin b=>
  cases b with
  |append=>exact qf (s:=Builtin.append_ argTypes ty (args.map ρ')) rfl he fun v h2 hr=>zk _ _ hargs hw hr
  |unsafeString=>exact qf (s:=Builtin.unsafeString_ argTypes ty (args.map ρ')) rfl he fun v h2 hr=>mT _ _ hargs hw hr
  |unsafeSliceData=>exact qJ (s:=Builtin.unsafeSliceData_ argTypes ty (args.map ρ')) rfl hw he fun v hr=>rk _ _ hargs hr
  |len=>exact bB (show ay P bV m (execOp ρ _) (execOp ρ' _) from dw (zcc argTypes ty hargs)) he hw
  |min=>
   dsimp only at he
   split at he
   ·rename_i k x j y hl
    simp only[Option.some.injEq,Prod.mk.injEq] at he
    obtain⟨rfl,rfl⟩:=he
    rw[←Array.toList_map] at hl
    obtain⟨l',e1,hl'⟩:=cB hargs hl
    cases hl' with|cons q1 q2=>cases q2 with|cons q3 q4=>cases q4 with|nil=>
    cases q1;cases q3
    refine⟨m,_,W,?_,.value (.int _ _),Snd.refl hw⟩
    have hd:execOp ρ' ⟨dst,.call ⟨.builtin .min,args,argTypes⟩,ty,pos,aft,gd⟩=(do pure (.value (←Builtin.min_ argTypes ty (args.map ρ')))):=rfl
    rw[hd]
    refine xt ?_
    rw[e1];rfl
   ·simp at he
  |max=>
   dsimp only at he
   split at he
   ·rename_i k x j y hl
    simp only[Option.some.injEq,Prod.mk.injEq] at he
    obtain⟨rfl,rfl⟩:=he
    rw[←Array.toList_map] at hl
    obtain⟨l',e1,hl'⟩:=cB hargs hl
    cases hl' with|cons q1 q2=>cases q2 with|cons q3 q4=>cases q4 with|nil=>
    cases q1;cases q3
    refine⟨m,_,W,?_,.value (.int _ _),Snd.refl hw⟩
    have hd:execOp ρ' ⟨dst,.call ⟨.builtin .max,args,argTypes⟩,ty,pos,aft,gd⟩=(do pure (.value (←Builtin.max_ argTypes ty (args.map ρ')))):=rfl
    rw[hd]
    refine xt ?_
    rw[e1];rfl
   ·simp at he
  |_=>simp at he
theorem mo (g:Good P) {o:Oper} (hρ:∀x∈o.op.operands,ak m (ρ x) (ρ' x)) (hw:bw m h W) {nx:Next} {h':H} (he:aop P ρ o h=some (nx,h')):Tru P m h W ρ' o nx h':=by
 obtain⟨dst,op,ty,pos,aft,gd⟩:=o
 dsimp only at hρ
 cases op with
 |call c=>exact zat g hρ hw he
 |convert s d x=>exact zbF (hρ x (by simp[Op.operands])) hw he
 |binOp b t x y yt=>exact zcY (hρ x (by simp[Op.operands])) (hρ y (by simp[Op.operands])) hw he
 |move x=>exact bB (show ay P bV m (execOp ρ _) (execOp ρ' _) from .pure (.value (hρ x (by simp[Op.operands])))) he hw
 |assign x=>exact bB (show ay P bV m (execOp ρ _) (execOp ρ' _) from .pure (.value (hρ x (by simp[Op.operands])))) he hw
 |pick c a b=>
  refine bB (show ay P bV m (execOp ρ _) (execOp ρ' _) from ?_) he hw
  refine pU (hρ c (by simp[Op.operands])) fun t _ _=>.pure (.value ?_)
  cases t
  ·exact hρ b (by simp[Op.operands])
  ·exact hρ a (by simp[Op.operands])
 |alloc e=>exact bB (show ay P bV m (execOp ρ _) (execOp ρ' _) from dw (zd g.zeros e)) he hw
 |box e x=>exact bB (show ay P bV m (execOp ρ _) (execOp ρ' _) from dw (zc0 e (hρ x (by simp[Op.operands])))) he hw
 |build t ps=>exact bB (show ay P bV m (execOp ρ _) (execOp ρ' _) from dw (yE g.zeros t (qT ps hρ))) he hw
 |buildSlice t n ps=>
  unfold aop at he
  dsimp only at he
  split at he
  ·rename_i hn
   exact bB (show ay P bV m (execOp ρ _) (execOp ρ' _) from dw (oD g.zeros t n hn (qT ps hρ))) he hw
  ·simp at he
 |load t a=>exact bB (show ay P bV m (execOp ρ _) (execOp ρ' _) from dw (vr t (hρ a (by simp[Op.operands])))) he hw
 |store t a x=>exact bB (show ay P bV m (execOp ρ _) (execOp ρ' _) from zeO (sy t (hρ a (by simp[Op.operands])) (hρ x (by simp[Op.operands])))) he hw
 |nilCheck x=>
  have hx:=hρ x (by simp[Op.operands])
  unfold aop at he
  dsimp only at he
  have fin:∀v v',ρ' x=v'→ak m v v'→some (Next.value v,h)=some (nx,h')→(execOp ρ' ⟨dst,.nilCheck x,ty,pos,aft,gd⟩).run P W=.ok (.value v') W→Tru P m h W ρ' ⟨dst,.nilCheck x,ty,pos,aft,gd⟩ nx h':=by
   intro v v' e hv hq hr
   simp only[Option.some.injEq,Prod.mk.injEq] at hq
   obtain⟨rfl,rfl⟩:=hq
   exact⟨m,_,W,hr,.value hv,Snd.refl hw⟩
  split at he
  ·rename_i a e
   rw[e] at hx
   generalize hX:ρ' x=X at hx
   cases hx with|pointer hp=>cases hp with|some hp=>exact fin _ _ hX (.pointer (.some hp)) he (by simp[execOp,hX])
  ·rename_i f y z e
   rw[e] at hx
   generalize hX:ρ' x=X at hx
   cases hx with|func hf s1 e1 s2 e2=>cases hf;exact fin _ _ hX (.func (.func f) s1 e1 s2 e2) he (by simp[execOp,hX])
  ·rename_i t y e
   rw[e] at hx
   generalize hX:ρ' x=X at hx
   cases hx with|iface _ hv=>exact fin _ _ hX (.iface t hv) he (by simp[execOp,hX])
  ·rename_i l y z e
   rw[e] at hx
   generalize hX:ρ' x=X at hx
   cases hx with|func hf s1 e1 s2 e2=>cases hf with|yield hl=>exact fin _ _ hX (.func (.yield hl) s1 e1 s2 e2) he (by simp[execOp,hX])
  ·simp at he
 |unOp op t x=>
  have hx:=hρ x (by simp[Op.operands])
  unfold aop at he
  dsimp only at he
  split at he
  ·rename_i k n e
   exact bB (show ay P bV m (execOp ρ _) (execOp ρ' _) from dw (qX op hx (.inl ⟨k,n,e⟩))) he hw
  ·rename_i b e
   exact bB (show ay P bV m (execOp ρ _) (execOp ρ' _) from dw (qX op hx (.inr ⟨b,e⟩))) he hw
  ·simp at he
 |makeInterface t x=>exact bB (show ay P bV m (execOp ρ _) (execOp ρ' _) from dw (kJ t (hρ x (by simp[Op.operands])))) he hw
 |makeFunc fn first captured=>
  cases fn with
  |func f=>
   exact bB (show ay P bV m (execOp ρ _) (execOp ρ' _) from dw (sk (.func f) (.func f) (.map _ fun a ha=>hρ a (by simp[Op.operands,ha])) (.map _ fun a ha=>hρ a (by simp[Op.operands,ha])))) he hw
  |_=>simp[aop] at he
 |makeMap t r=>exact bB (show ay P bV m (execOp ρ _) (execOp ρ' _) from dw (uc t (nE (by simpa[Op.operands] using hρ)))) he hw
 |makeSlice t a b=>exact bB (show ay P bV m (execOp ρ _) (execOp ρ' _) from dw (pZ g.zeros t (hρ a (by simp[Op.operands])) (hρ b (by simp[Op.operands])))) he hw
 |slice t x lo hi mx=>
  have hx:=hρ x (by simp[Op.operands])
  have hl:aT (ak m) (lo.map ρ) (lo.map ρ'):=nE fun y hy=>hρ y (by simp only[Op.operands];simp[hy])
  have hu:aT (ak m) (hi.map ρ) (hi.map ρ'):=nE fun y hy=>hρ y (by simp only[Op.operands];simp[hy])
  have hm:aT (ak m) (mx.map ρ) (mx.map ρ'):=nE fun y hy=>hρ y (by simp only[Op.operands];simp[hy])
  unfold aop at he
  dsimp only at he
  split at he
  ·rename_i a l c e
   split at he
   ·rename_i hc
    exact bB (show ay P bV m (execOp ρ _) (execOp ρ' _) from dw (lU t hx (.inr ⟨_,l,c,e,hc⟩) hl hu hm)) he hw
   ·rename_i hc
    rw[e] at hx
    generalize hX:ρ' x=X at hx
    cases hx with
    |slice _ _ aH _=>exact absurd aH hc
    |sliceU _ c' e2 hb h1 h2 h3=>
     exact qJ (s:=Instr.sliceAt t (ρ' x) (lo.map ρ') (hi.map ρ') (mx.map ρ')) rfl hw he fun v hv=>by rw[hX];exact zaO hb h1 h2 h3 hl hu hm hv
  ·rename_i a l c hne e
   cases a with
   |some a=>exact(hne _ rfl).elim
   |none=>
    have hc:c<BIG:=by
     rw[e] at hx
     generalize ρ' x=X at hx
     cases hx;assumption
    exact bB (show ay P bV m (execOp ρ _) (execOp ρ' _) from dw (lU t hx (.inr ⟨_,l,c,e,hc⟩) hl hu hm)) he hw
  ·rename_i s e
   exact bB (show ay P bV m (execOp ρ _) (execOp ρ' _) from dw (lU t hx (.inl ⟨s,e⟩) hl hu hm)) he hw
  ·simp at he
 |fieldAddr s x f=>
  unfold aop at he
  dsimp only at he
  split at he
  ·rename_i hf
   exact bB (show ay P bV m (execOp ρ _) (execOp ρ' _) from dw (ui s f hf (hρ x (by simp[Op.operands])))) he hw
  ·simp at he
 |field s x f=>exact bB (show ay P bV m (execOp ρ _) (execOp ρ' _) from dw (zu s f (hρ x (by simp[Op.operands])))) he hw
 |indexAddr t x i=>exact bB (show ay P bV m (execOp ρ _) (execOp ρ' _) from dw (sQ t (hρ x (by simp[Op.operands])) (hρ i (by simp[Op.operands])))) he hw
 |index t x i=>exact bB (show ay P bV m (execOp ρ _) (execOp ρ' _) from dw (zn t (hρ x (by simp[Op.operands])) (hρ i (by simp[Op.operands])))) he hw
 |lookup t x k ok=>exact qJ (s:=Instr.lookup t (ρ' x) (ρ' k) ok) rfl hw he fun v hv=>zr g.zeros (hρ x (by simp[Op.operands])) (hρ k (by simp[Op.operands])) ok hw hv
 |mapUpdate t x k y=>
  unfold aop at he
  dsimp only at he
  cases hu:nA P t (ρ x) (ρ k) (ρ y) h with
  |none=>rw[hu] at he;simp at he
  |some h2=>
   rw[hu] at he
   simp only[Option.map_some,Option.some.injEq,Prod.mk.injEq] at he
   obtain⟨rfl,rfl⟩:=he
   obtain⟨W',r1,r2⟩:=yI (hρ x (by simp[Op.operands])) (hρ k (by simp[Op.operands])) (hρ y (by simp[Op.operands])) hw hu
   refine⟨m,.skip,W',?_,.skip,r2⟩
   show(do Instr.mapUpdate t (ρ' x) (ρ' k) (ρ' y);pure .skip:Sem Next).run P W=_
   rw[Sem.run_bind,r1];rfl
 |range t x=>exact bB (show ay P bV m (execOp ρ _) (execOp ρ' _) from dw (zj t (hρ x (by simp[Op.operands])))) he hw
 |next it s=>
  unfold aop at he
  dsimp only at he
  cases s with
  |true=>exact bB (show ay P bV m (execOp ρ _) (execOp ρ' _) from dw (us (hρ it (by simp[Op.operands])) ty)) he hw
  |false=>exact qf (s:=Instr.next (ρ' it) false ty) rfl he fun v h2 hr=>wh (hρ it (by simp[Op.operands])) hw ty hr
 |entry it=>exact qJ (s:=Instr.entry (ρ' it)) rfl hw he fun v hv=>zbj (hρ it (by simp[Op.operands])) hw hv
 |extract x i=>exact bB (show ay P bV m (execOp ρ _) (execOp ρ' _) from dw (s6 (hρ x (by simp[Op.operands])) i)) he hw
 |_=>simp[aop] at he
end Go.Proofs.YtlbipokkdiiaiaaGreatDoor.Exec
