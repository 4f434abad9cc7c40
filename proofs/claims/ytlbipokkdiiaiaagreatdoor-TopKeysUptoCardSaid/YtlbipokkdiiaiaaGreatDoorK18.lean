/- Lemmas for TopKeysUpto: F50, F64, F65, F66, F67, F68. -/
import Derived.Test.YtlbipokkdiiaiaaGreatDoorK17
import Derived.Test.YtlbipokkdiiaiaaGreatDoorK10
import Derived.Test.YtlbipokkdiiaiaaGreatDoorK11
namespace Go.Proofs.YtlbipokkdiiaiaaGreatDoor
open Go.RowKit Exec Go.Shelf
set_option maxRecDepth 100000
noncomputable def rdK (k:KnL):RdL:=⟨k.path,k.is,if k.is=true then dV k.data else dg0⟩
def wrM (l:List (Txt×Txt)):Txt→Option Value:=fun p=>(l.find? fun x=>decide (x.1=p)).map fun x=>.string (bs x.2)
def wrE (l:List (Txt×Txt)):List MapEntry:=l.zipIdx.map fun x=>⟨cL x.1.1,.string (bs x.1.2),x.2⟩
def wrO (l:List (Txt×Txt)):Obj:=.map (wrE l).toArray l.length
def pJ (l:List (Txt×Txt)) (o:Obj):Prop:=o=wrO l∧(l.map (·.1)).Nodup
theorem jl {l:List (Txt×Txt)} {e:MapEntry} (h:e∈wrE l):∃k∈l,e.key=cL k.1∧e.val=.string (bs k.2):=by
 unfold wrE at h
 obtain⟨x,hx,rfl⟩:=List.mem_map.1 h
 exact⟨x.1,(List.mem_zipIdx' hx).2▸List.getElem_mem _,rfl,rfl⟩
theorem wN {l:List (Txt×Txt)} {k:Txt×Txt} (h:k∈l):∃e∈wrE l,e.key=cL k.1∧e.val=.string (bs k.2):=by
 obtain⟨i,hi,rfl⟩:=List.getElem_of_mem h
 exact⟨⟨cL l[i].1,.string (bs l[i].2),i⟩,List.mem_map.2 ⟨(l[i],i),by rw[List.mem_zipIdx_iff_getElem?];simp[hi],rfl⟩,rfl,rfl⟩
theorem tq (l:List (Txt×Txt)):(wrE l).map (·.key)=(l.map (·.1)).map cL:=by
 unfold wrE
 rw[List.map_map,List.map_map]
 refine List.ext_getElem (by simp) fun i h1 h2=>?_
 simp
theorem zei {l:List (Txt×Txt)} (hn:(l.map (·.1)).Nodup) {a b:Txt×Txt} (ha:a∈l) (hb:b∈l) (h:a.1=b.1):a=b:=by
 obtain⟨i,hi,rfl⟩:=List.getElem_of_mem ha
 obtain⟨j,hj,rfl⟩:=List.getElem_of_mem hb
 have hp:=List.pairwise_iff_getElem.1 hn
 rcases Nat.lt_trichotomy i j with hij|rfl|hij
 ·exact absurd (by rw[List.getElem_map,List.getElem_map];exact h) (hp i j (by simpa using hi) (by simpa using hj) hij)
 ·rfl
 ·exact absurd (by rw[List.getElem_map,List.getElem_map];exact h.symm) (hp j i (by simpa using hj) (by simpa using hi) hij)
theorem pJ.map {l:List (Txt×Txt)} {o:Obj} (h:pJ l o):fu cL (wrM l) o:=by
 obtain⟨rfl,hn⟩:=h
 refine⟨_,_,rfl,fun e he=>?_,?_,fun d v=>⟨fun h=>?_,fun h=>?_⟩⟩
 ·obtain⟨k, -,h1, -⟩:=jl (by simpa using he)
  exact⟨k.1,h1⟩
 ·rw[show(wrE l).toArray.toList=wrE l from rfl,tq]
  exact List.pairwise_map.2 (hn.imp fun hab e=>hab (cn.inj _ _ e))
 ·unfold wrM at h
  cases hf:l.find? (fun k=>decide (k.1=d)) with
  |none=>rw[hf] at h;cases h
  |some k=>
   rw[hf] at h
   cases h
   have h1:=List.find?_some hf
   obtain⟨e,he,h2,h3⟩:=wN (List.mem_of_find?_eq_some hf)
   exact⟨e,he,by rw[h2,of_decide_eq_true h1],h3⟩
 ·obtain⟨e,he,h1,h2⟩:=h
  obtain⟨k,hk,h3,h4⟩:=jl (by simpa using he)
  have h5:k.1=d:=cn.inj _ _ (h3.symm.trans h1)
  unfold wrM
  cases hf:l.find? (fun k=>decide (k.1=d)) with
  |none=>
   have:=List.find?_eq_none.1 hf k hk
   simp[h5] at this
  |some k2=>
   have h6:=List.find?_some hf
   have h7:k2.1=k.1:=by rw[h5];exact of_decide_eq_true h6
   have h8:=List.mem_of_find?_eq_some hf
   have h9:k2=k:=zei hn h8 hk h7
   rw[h9,←h2,h4]
   rfl
theorem zbQ {w:World} {r:Nat} {l:List (Txt×Txt)} {o:Obj} (hm:w.heap[r]?=some o) (ho:pJ l o) (p d:Txt) (hb:(l.any fun x=>decide (x.1=p))=false):
 ∃W o',(Instr.mapUpdate 204 (.map (some r)) (.string (bs p)) (.string (bs d))).run Tryz.prog w=.ok () W∧bg r w W∧W.heap[r]?=some o'∧pJ (l++[(p,d)]) o':=by
 obtain⟨rfl,hn⟩:=ho
 have ht:Tryz.prog.underlying 204=some (.map 9 9):=by kernel_rfl
 have hr:r<w.heap.size:=(Array.getElem?_eq_some_iff.1 hm).1
 unfold wrO at hm
 have hk:∀e∈wrE l,∃x,e.key=cL x:=fun e he=>by obtain⟨q,_,h,_⟩:=jl he;exact⟨q.1,h⟩
 have hc:=cn.check w false p
 unfold cL at hc
 have hnp:∀x∈l,x.1≠p:=fun x hx=>by simpa using List.any_eq_false.1 hb x hx
 have h1:(Instr.findKey 9 (.string (bs p)) (wrE l)).run Tryz.prog w=.ok none w:=by
  rcases cn.find w p (wrE l) hk with⟨h1,h2⟩|⟨j,x,h1,h2,h3⟩
  ·exact h1
  ·obtain⟨q,hq,hq1,hq2⟩:=jl (List.mem_of_getElem? h2)
   exact absurd (cn.inj _ _ (h3.symm.trans hq1)).symm (hnp q hq)
 refine⟨cS w r (wrO (l++[(p,d)])),_,?_,dj hr _,fA hr _,rfl,?_⟩
 ·have he:wrO (l++[(p,d)])=.map ((wrE l).toArray.push ⟨.string (bs p),.string (bs d),l.length⟩) (l.length+1):=by
   simp[wrO,wrE,List.zipIdx_append,cL]
  rw[he]
  simp[Instr.mapUpdate,run_underlying ht,MapKept.run_getObj_map hm,hc,h1,MapKept.run_setObj_map _ hm,Result.andThen,cS]
 ·rw[List.map_append]
  refine List.nodup_append.2 ⟨hn,by simp,?_⟩
  intro a ha b hb e
  simp only[List.map_cons,List.map_nil,List.mem_singleton] at hb
  obtain⟨x,hx,rfl⟩:=List.mem_map.1 ha
  exact hnp x hx (e.trans hb)
def uD (g:Nat) (ov mv rv:Value) (wm:Nat) (b:bG):List Value:=[.pointer (some ⟨g,0,none⟩),ov,mv,.map (some wm),rv,.string (bs b.asks),.bool b.over,.int .i64 (b.why:Int)]
def qc (E:Nat→Prop) (may:Txt→Bool) (mv:Value) (w:World):Prop:=∃c1 c2 c3:Nat,mv=.func (.func 195) #[] #[pp c1,pp c2,pp c3]∧∀W,az E w W→∀p:Txt,p.length≤65536→Calls Tryz.prog 195 #[.string (bs p),pp c1,pp c2,pp c3] W fun e W'=>e=.returned (.bool (may p))∧Below W.heap.size W W'
theorem qc.go {E E':Nat→Prop} {may:Txt→Bool} {mv:Value} {w w':World} (h:qc E may mv w) (hf:az E w w') (hE:∀j,E' j→E j∨w.heap.size≤j):qc E' may mv w':=by
 obtain⟨c1,c2,c3,rfl,h⟩:=h
 exact⟨c1,c2,c3,rfl,fun W hW=>h W (hf.trans hW fun i hi e=>by
  rcases hE i e with e|e
  ·exact e
  ·omega)⟩
structure df (B:Nat) (D E:Nat→Prop) (g bb wm:Nat) (env:List (Txt×Txt)) (y:ByL) (b:bG) (w:World) (ov mv rv:Value):Prop where
 at_:w.heap[bb]?=some (.cells (uD g ov mv rv wm b).toArray 281 (0,0))
 run:bA B D g env b.run w
 outs:aO w ov y.outs
 ono:∀k,ov.ownBlock=some k→¬E k∧k<w.heap.size
 may:qc E y.may mv w
 wr:∃o,w.heap[wm]?=some o∧pJ b.wrote o
 rd:w.ownsRow B 100 34 rv b.reads.length ((b.reads.map rdK).flatMap RdL.cells)
 sub:∀j,D j→E j
 eb:E bb
 ew:E wm
 er:∀k,rv.ownBlock=some k→E k
 nb:¬D bb
 nw:¬D wm
 nr:∀k,rv.ownBlock=some k→¬D k∧k≠bb∧k≠wm
 rn:b.reads=[]→rv.ownBlock=none
 ne:bb≠wm
 db:∀k,E k→B≤k∧k<w.heap.size
def ep (B:Nat) (E:Nat→Prop) (bb:Nat) (env:List (Txt×Txt)) (y:ByL) (b:bG) (w:World):Prop:=∃D g wm ov mv rv,df B D E g bb wm env y b w ov mv rv
def ee (B:Nat) (E:Nat→Prop) (bb:Nat) (env:List (Txt×Txt)) (y:ByL) (b:bG) (w w':World):Prop:=∃E':Nat→Prop,(∀j,E' j→E j∨w.heap.size≤j)∧az E w w'∧ep B E' bb env y b w'
section
variable {B g bb wm:Nat} {D E:Nat→Prop} {env:List (Txt×Txt)} {y:ByL} {b b':bG} {w w':World} {ov mv rv rv':Value}
theorem bi (h:w.heap[bb]?=some (.cells (uD g ov mv rv wm b).toArray 281 (0,0))):
 w.cell? ⟨bb,0,none⟩=some (.pointer (some ⟨g,0,none⟩))∧w.cell? ⟨bb,1,none⟩=some ov∧w.cell? ⟨bb,2,none⟩=some mv∧w.cell? ⟨bb,3,none⟩=some (.map (some wm))∧w.cell? ⟨bb,4,none⟩=some rv∧w.cell? ⟨bb,5,none⟩=some (.string (bs b.asks))∧w.cell? ⟨bb,6,none⟩=some (.bool b.over)∧w.cell? ⟨bb,7,none⟩=some (.int .i64 (b.why:Int)):=by
 refine⟨?_,?_,?_,?_,?_,?_,?_,?_⟩<;>exact(cell_of_row _ _ _ _ _ _ h).trans rfl
theorem df.below (h:df B D E g bb wm env y b w ov mv rv) (hb:Below w.heap.size w w'):df B D E g bb wm env y b w' ov mv rv:=by
 obtain⟨o,h1,h2⟩:=h.wr
 exact
  {at_:=(hb.block _ (lx (hid h.at_))).trans h.at_
   run:=h.run.below hb
   outs:=h.outs.below hb
   ono:=fun k hk=>⟨(h.ono k hk).1,Nat.lt_of_lt_of_le (h.ono k hk).2 hb.size⟩
   may:=h.may.go (az.of_below hb) fun j e=>.inl e
   wr:=⟨o,(hb.block _ (lx (hid h1))).trans h1,h2⟩
   rd:=aS h.rd hb (Nat.le_refl _)
   sub:=h.sub
   eb:=h.eb
   ew:=h.ew
   er:=h.er
   nb:=h.nb
   nw:=h.nw
   nr:=h.nr
   rn:=h.rn
   ne:=h.ne
   db:=fun k hk=>⟨(h.db k hk).1,Nat.lt_of_lt_of_le (h.db k hk).2 hb.size⟩}
theorem ep.below (h:ep B E bb env y b w) (hb:Below w.heap.size w w'):ep B E bb env y b w':=by
 obtain⟨D,g,wm,ov,mv,rv,h⟩:=h
 exact⟨D,g,wm,ov,mv,rv,h.below hb⟩
theorem ep.db (h:ep B E bb env y b w):∀k,E k→B≤k∧k<w.heap.size:=by
 obtain⟨D,g,wm,ov,mv,rv,h⟩:=h
 exact h.db
theorem ep.lt (h:ep B E bb env y b w):bb<w.heap.size:=by
 obtain⟨D,g,wm,ov,mv,rv,h⟩:=h
 exact lx (hid h.at_)
theorem ee.ahead {w0:World} (hb:Below w0.heap.size w0 w) (h:ee B E bb env y b w w'):ee B E bb env y b w0 w':=by
 obtain⟨D',h1,h2,h3⟩:=h
 exact⟨D',fun j hj=>by
  rcases h1 j hj with e|e
  ·exact .inl e
  ·exact .inr (Nat.le_trans hb.size e),(az.of_below hb).chain h2,h3⟩
theorem ee.then {E':Nat→Prop} {b2:bG} {w2:World} (h1:∀j,E' j→E j∨w.heap.size≤j) (h2:az E w w') (h:ee B E' bb env y b2 w' w2):ee B E bb env y b2 w w2:=by
 obtain⟨D2,k1,k2,k3⟩:=h
 have:=h2.size
 exact⟨D2,fun j hj=>by
  rcases k1 j hj with e|e
  ·exact h1 j e
  ·exact .inr (by omega),h2.trans k2 fun j hj e=>by
  rcases h1 j e with e|e
  ·exact e
  ·omega,k3⟩
theorem df.went {r':aw} (h:df B D E g bb wm env y b w ov mv rv) (hr:aD B D g env r' w w'):∃D' E':Nat→Prop,(∀j,E' j→E j∨w.heap.size≤j)∧az E w w'∧df B D' E' g bb wm env y {b with run:=r'} w' ov mv rv:=by
 obtain⟨D',hd,hf,hR⟩:=hr
 have hfE:az E w w':=hf.mono fun j _ e=>h.sub j e
 have hrdb:=hR.db
 have hE:∀j,(E j∨D' j)→E j∨w.heap.size≤j:=fun j hj=>by
  rcases hj with e|e
  ·exact .inl e
  ·rcases hd j e with e|e
   ·exact .inl (h.sub j e)
   ·exact .inr e
 have hnd:∀k,k<w.heap.size→¬D k→¬D' k:=fun k hk h1 h2=>by
  rcases hd k h2 with e|e
  ·exact h1 e
  ·omega
 obtain⟨o,h1,h2⟩:=h.wr
 have hbl:=lx (hid h.at_)
 have hwl:=lx (hid h1)
 refine⟨D',fun j=>E j∨D' j,hE,hfE,?_⟩
 exact
  {at_:=(hf.block bb hbl h.nb).trans h.at_
   run:=hR
   outs:=dE h.outs hf.size fun k hk hl=>hfE.block k hl (h.ono k hk).1
   ono:=fun k hk=>⟨fun e=>by
    rcases hE k e with e|e
    ·exact(h.ono k hk).1 e
    ·have:=(h.ono k hk).2;omega,Nat.lt_of_lt_of_le (h.ono k hk).2 hf.size⟩
   may:=h.may.go hfE hE
   wr:=⟨o,(hf.block wm hwl h.nw).trans h1,h2⟩
   rd:=aJ h.rd fun k hk=>hf.block k (h.rd.lt k hk).2 (h.nr k hk).1
   sub:=fun j e=>.inr e
   eb:=.inl h.eb
   ew:=.inl h.ew
   er:=fun k hk=>.inl (h.er k hk)
   nb:=hnd bb hbl h.nb
   nw:=hnd wm hwl h.nw
   nr:=fun k hk=>⟨hnd k (h.rd.lt k hk).2 (h.nr k hk).1,(h.nr k hk).2⟩
   rn:=h.rn
   ne:=h.ne
   db:=fun k hk=>by
    rcases hk with e|e
    ·exact⟨(h.db k e).1,Nat.lt_of_lt_of_le (h.db k e).2 hf.size⟩
    ·exact hrdb k e}
theorem aI.kept {F:Nat→Prop} {c:Nat} {v:Value} (h:aI D w c v) (hf:az F w w') (hc:∀k,F k→∀v,w.cell? ⟨k,0,none⟩=some v→w'.cell? ⟨k,0,none⟩=some v):aI D w' c v:=
 ⟨Nat.lt_of_lt_of_le h.1 hf.size,h.2.1,by
  by_cases hF:F c
  ·exact hc c hF v h.2.2
  ·exact(World.cell?_of_block (hf.block c h.1 hF)).trans h.2.2⟩
theorem dm.kept {F:Nat→Prop} {mb:Nat} {word:Txt} {t:cR} {v:Value} (h:dm D g mb word w t v) (hf:az F w w') (hc:∀k,F k→∀v,w.cell? ⟨k,0,none⟩=some v→w'.cell? ⟨k,0,none⟩=some v):dm D g mb word w' t v:=by
 cases t with
 |read=>
  obtain⟨b1,b2,rfl,h1,h2⟩:=h
  exact⟨b1,b2,rfl,h1.kept hf hc,h2.kept hf hc⟩
 |try_=>
  obtain⟨b1,rfl,h1⟩:=h
  exact⟨b1,rfl,h1.kept hf hc⟩
 |scan=>
  obtain⟨b1,b2,b3,b4,b5,rfl,h1,h2,h3,h4,h5⟩:=h
  exact⟨b1,b2,b3,b4,b5,rfl,h1.kept hf hc,h2.kept hf hc,h3.kept hf hc,h4.kept hf hc,h5.kept hf hc⟩
theorem fH.kept {F:Nat→Prop} {mb:Nat} {word:Txt} {t:gm} {v:Value} (h:fH D g mb word w t v) (hf:az F w w') (hc:∀k,F k→∀v,w.cell? ⟨k,0,none⟩=some v→w'.cell? ⟨k,0,none⟩=some v):fH D g mb word w' t v:=by
 cases t with
 |line s=>
  obtain⟨b0,b1,b2,b3,rfl,h0,h1,h2,h3⟩:=h
  exact⟨b0,b1,b2,b3,rfl,h0.kept hf hc,h1.kept hf hc,h2.kept hf hc,h3.kept hf hc⟩
 |told p t=>
  obtain⟨b0,b1,b2,tv,rfl,h0,h1,h2,h3⟩:=h
  exact⟨b0,b1,b2,tv,rfl,h0.kept hf hc,h1.kept hf hc,h2.kept hf hc,h3.kept hf hc⟩
theorem bA.kept {r:aw} {F:Nat→Prop} (h:bA B D g env r w) (hf:az F w w') (hF:∀k,F k→¬D k∧B≤k) (hc:∀k,F k→∀v,w.cell? ⟨k,0,none⟩=some v→w'.cell? ⟨k,0,none⟩=some v)
 (ht:∀k,F k→∀xs fr,w.heap[k]?≠some (.cells xs 328 fr)):bA B D g env r w':=by
 obtain⟨tv,ev,km,mb,vs,cs,h⟩:=h
 have hnF:∀k,D k→¬F k:=fun k hk e=>(hF k e).1 hk
 refine⟨tv,ev,km,mb,vs,cs,(hf.block g (lx (hid h.at_)) (hnF g h.dg)).trans h.at_,aJ h.row fun k hk=>hf.block k (h.row.lt k hk).2 (hnF k (h.dt k hk)),h.top.imp fun _ _ k=>k.kept hf hc,h.cmd.imp fun c v k=>?_,eP h.env hf.size fun k hk hl=>hf.block k hl fun e=>by have:=h.eb k hk;have:=(hF k e).2;omega,fun k hk=>⟨(h.eno k hk).1,Nat.lt_of_lt_of_le (h.eno k hk).2 hf.size⟩,(hf.block km (lx (hid h.kn)) (hnF km h.dk)).trans h.kn,fun e=>?_,h.dg,h.dk,h.dt,fun k hk=>⟨(h.db k hk).1,Nat.lt_of_lt_of_le (h.db k hk).2 hf.size⟩,h.sm,h.eb⟩
 ·obtain⟨b0,b1,wv,rfl,h0,⟨h1,h2⟩,h3,h4,h5⟩:=k
  exact⟨b0,b1,wv,rfl,h0.kept hf hc,⟨h1,(hf.block b1 (lx (hid h2)) fun e=>ht b1 e _ _ h2).trans h2⟩,dE h3 hf.size fun k hk hl=>hf.block k hl fun e=>by have:=h5 k hk;have:=(hF k e).2;omega,fun k hk=>⟨(h4 k hk).1,Nat.lt_of_lt_of_le (h4 k hk).2 hf.size⟩,h5⟩
 ·have h1:=h.seen e
  exact⟨(hf.block mb (lx (hid h1.1)) (hnF mb h1.2.1)).trans h1.1,h1.2⟩
theorem df.cells (h:df B D E g bb wm env y b w ov mv rv) (ht:bg bb w w') (hn:w'.heap[bb]?=some (.cells (uD g ov mv rv wm b').toArray 281 (0,0))) (e1:b'.run=b.run) (e2:b'.wrote=b.wrote) (e3:b'.reads=b.reads):df B D E g bb wm env y b' w' ov mv rv:=by
 have hfE:az E w w':=ht.foot.mono fun j _ e=>e▸h.eb
 have hf:=ht.foot
 obtain⟨o,h1,h2⟩:=h.wr
 exact
  {at_:=hn
   run:=by
    rw[e1]
    refine h.run.kept hf (fun k e=>?_) (fun k e v hv=>?_) (fun k e xs fr hx=>?_)
    ·exact e▸⟨h.nb,(h.db bb h.eb).1⟩
    ·subst e
     rw[(bi h.at_).1] at hv
     rw[(bi hn).1];exact hv
    ·subst e
     rw[h.at_] at hx
     have:=Option.some.inj hx
     simp at this
   outs:=dE h.outs hf.size fun k hk hl=>hfE.block k hl (h.ono k hk).1
   ono:=fun k hk=>⟨(h.ono k hk).1,Nat.lt_of_lt_of_le (h.ono k hk).2 hf.size⟩
   may:=h.may.go hfE fun j e=>.inl e
   wr:=by
    rw[e2]
    exact⟨o,(hf.block wm (lx (hid h1)) (Ne.symm h.ne)).trans h1,h2⟩
   rd:=by
    rw[e3]
    exact aJ h.rd fun k hk=>hf.block k (h.rd.lt k hk).2 (h.nr k hk).2.1
   sub:=h.sub
   eb:=h.eb
   ew:=h.ew
   er:=h.er
   nb:=h.nb
   nw:=h.nw
   nr:=h.nr
   rn:=by rw[e3];exact h.rn
   ne:=h.ne
   db:=fun k hk=>⟨(h.db k hk).1,Nat.lt_of_lt_of_le (h.db k hk).2 hf.size⟩}
theorem oC {k:Nat} {es:Array MapEntry} {c:Nat} (h:w.heap[k]?=some (.map es c)) (v:Value):w.cell? ⟨k,0,none⟩≠some v:=by
 unfold World.cell?
 simp[h]
theorem df.wrote {o':Obj} (h:df B D E g bb wm env y b w ov mv rv) (ht:bg wm w w') (hn:w'.heap[wm]?=some o') (l:List (Txt×Txt)) (hm:pJ l o'):df B D E g bb wm env y {b with wrote:=l} w' ov mv rv:=by
 have hfE:az E w w':=ht.foot.mono fun j _ e=>e▸h.ew
 have hf:=ht.foot
 obtain⟨o,h1,rfl, -⟩:=h.wr
 unfold wrO at h1
 exact
  {at_:=(hf.block bb (lx (hid h.at_)) h.ne).trans h.at_
   run:=by
    refine h.run.kept hf (fun k e=>?_) (fun k e v hv=>?_) (fun k e xs fr hx=>?_)
    ·exact e▸⟨h.nw,(h.db wm h.ew).1⟩
    ·subst e
     exact absurd hv (oC h1 v)
    ·subst e
     rw[h1] at hx
     cases hx
   outs:=dE h.outs hf.size fun k hk hl=>hfE.block k hl (h.ono k hk).1
   ono:=fun k hk=>⟨(h.ono k hk).1,Nat.lt_of_lt_of_le (h.ono k hk).2 hf.size⟩
   may:=h.may.go hfE fun j e=>.inl e
   wr:=⟨o',hn,hm⟩
   rd:=aJ h.rd fun k hk=>hf.block k (h.rd.lt k hk).2 (h.nr k hk).2.2
   sub:=h.sub
   eb:=h.eb
   ew:=h.ew
   er:=h.er
   nb:=h.nb
   nw:=h.nw
   nr:=h.nr
   rn:=h.rn
   ne:=h.ne
   db:=fun k hk=>⟨(h.db k hk).1,Nat.lt_of_lt_of_le (h.db k hk).2 hf.size⟩}
end
attribute [local go_sem] Oper.semAt_some
abbrev wH:={x:Nat×Nat // x.1≤9000000∧x.2≤9000000}
def fX (d:wH):Value:=.agg #[.int .i64 (d.1.1:Int),.int .i64 (d.1.2:Int)]
theorem hU (d:wH):∃l,keyOf Tryz.prog 373 (fX d)=some l:=by
 have hu:Tryz.prog.underlying 373=some (.array 2 3):=by kernel_rfl
 have hi:Tryz.prog.underlying 3=some (.int .i64):=by kernel_rfl
 have hk:Tryz.prog.keyType 373=true:=by kernel_rfl
 have hc:Tryz.prog.cellsOf 373=2:=by kernel_rfl
 have h1:Tryz.prog.cellsOf 3=1:=by kernel_rfl
 have hp:decide (0<Tryz.prog.types.size)=true:=by kernel_rfl
 have hp:=of_decide_eq_true hp
 obtain⟨n,hn⟩:∃n,Tryz.prog.types.size+1=n+2:=⟨Tryz.prog.types.size-1,by omega⟩
 have hf:(fX d).formed Tryz.prog 373=true:=by
  unfold fX Value.formed
  simp only[hu,hc]
  rfl
 have hwf:∀m:Nat,m≤9000000→(Lit.int .i64 (m:Int)).wf=true:=fun m hm=>by
  have m1:IntKind.i64.min= -9223372036854775808:=rfl
  have m2:IntKind.i64.max=9223372036854775807:=rfl
  simp only[Lit.wf,m1,m2,Bool.and_eq_true,decide_eq_true_eq]
  omega
 have hl:∃L,Tryz.prog.keyLits (n+2) 373 [.int .i64 (d.1.1:Int),.int .i64 (d.1.2:Int)]=some L:=by
  unfold Program.keyLits
  simp only[hu,hc,h1,if_true,Nat.mul_one,List.length_cons,List.length_nil]
  obtain⟨r,hr⟩:=MapFrom.mapM_some (l:=List.range 2) (f:=fun i=>Tryz.prog.keyLits (n+1) 3 (([Value.int .i64 (d.1.1:Int),.int .i64 (d.1.2:Int)].drop i).take 1)) (fun i hi2=>by
   have aH:i<2:=by simpa using hi2
   have e:∃m:Nat,m≤9000000∧([Value.int .i64 (d.1.1:Int),.int .i64 (d.1.2:Int)].drop i).take 1=[Value.int .i64 (m:Int)]:=by
    match i,aH with
    |0,_=>exact⟨d.1.1,d.2.1,rfl⟩
    |1,_=>exact⟨d.1.2,d.2.2,rfl⟩
   obtain⟨m,hm,e⟩:=e
   rw[e]
   refine⟨[.int .i64 (m:Int)],?_⟩
   unfold Program.keyLits
   simp only[hi]
   simp only[hwf m hm,and_self,if_true])
  exact⟨_,by rw[hr];rfl⟩
 obtain⟨L,hL⟩:=hl
 unfold keyOf
 simp only[hu,hk,hf,Bool.and_self,if_true,hn]
 show ∃l,(Tryz.prog.keyLits (n+2) 373 [.int .i64 (d.1.1:Int),.int .i64 (d.1.2:Int)]).map _=some l
 rw[hL]
 exact⟨_,rfl⟩
theorem wF:tw 373 fX:=by
 have K:WideMaps.KeyLaw Tryz.prog 373:=WideMaps.ArrKey.law (n:=2) (e:=3) ⟨by kernel_rfl,by kernel_rfl,by kernel_rfl,by kernel_rfl⟩
 refine⟨fun a b h=>?_,fun w em d=>?_,fun w d es h=>?_,fun w d=>?_⟩
 ·unfold fX at h
  simp only[Value.agg.injEq,Array.mk.injEq,List.cons.injEq,Value.int.injEq,true_and,and_true] at h
  exact Subtype.ext (Prod.ext (by have:=h.1;omega) (by have:=h.2;omega))
 ·obtain⟨l,hl⟩:=hU d
  exact K.check w em hl
 ·obtain⟨l,hl⟩:=hU d
  exact K.find w hl es (fun e he=>by obtain⟨x,hx⟩:=h e he;rw[hx];exact hU x)
 ·obtain⟨l,hl⟩:=hU d
  exact K.stays w hl
structure cF (ps ns:List Txt) (b5 b6 b7 b8 mm:Nat) (pv nv:Value) (w:World):Prop where
 c5:w.cell? ⟨b5,0,none⟩=some pv
 c6:w.cell? ⟨b6,0,none⟩=some nv
 c7:w.cell? ⟨b7,0,none⟩=some (.map (some mm))
 c8:w.cell? ⟨b8,0,none⟩=some (.func (.func 250) #[] #[.pointer (some ⟨b5,0,none⟩),.pointer (some ⟨b6,0,none⟩),.pointer (some ⟨b7,0,none⟩),.pointer (some ⟨b8,0,none⟩)])
 pt:aO w pv ps
 nt:aO w nv ns
 pn:∀k,pv.ownBlock=some k→k≠mm
 nn:∀k,nv.ownBlock=some k→k≠mm
 no:∃o M,w.heap[mm]?=some o∧fu fX M o∧∀d v,M d=some v→∃q,v=.bool q∧(q=true→bN (ps.drop d.1.1) (ns.drop d.1.2)=false)
section
variable {ps ns:List Txt} {b5 b6 b7 b8 mm:Nat} {pv nv:Value} {w w':World}
theorem cF.ne (h:cF ps ns b5 b6 b7 b8 mm pv nv w) {b:Nat} {v:Value} (hc:w.cell? ⟨b,0,none⟩=some v):b≠mm:=fun e=>by
 obtain⟨o,M,h1,⟨es,cl,rfl, -⟩, -⟩:=h.no
 subst e
 exact oC h1 v hc
theorem cF.below (h:cF ps ns b5 b6 b7 b8 mm pv nv w) (hb:Below w.heap.size w w'):cF ps ns b5 b6 b7 b8 mm pv nv w':=by
 obtain⟨o,M,h1,h2⟩:=h.no
 exact⟨Below.keeps hb h.c5,Below.keeps hb h.c6,Below.keeps hb h.c7,Below.keeps hb h.c8,h.pt.below hb,h.nt.below hb,h.pn,h.nn,o,M,(hb.block _ (lx (hid h1))).trans h1,h2⟩
theorem cF.put (h:cF ps ns b5 b6 b7 b8 mm pv nv w) (d:wH) (q:Bool) (hq:q=true→bN (ps.drop d.1.1) (ns.drop d.1.2)=false):
 ∃W,(Instr.mapUpdate 371 (.map (some mm)) (fX d) (.bool q)).run Tryz.prog w=.ok () W∧bg mm w W∧cF ps ns b5 b6 b7 b8 mm pv nv W:=by
 obtain⟨o,M,h1,h2,h3⟩:=h.no
 have hl:=lx (hid h1)
 obtain⟨o',hup,hm⟩:=h2.put wF h1 (t:=371) (e:=4) (by kernel_rfl) d (.bool q)
 have ht:=dj hl o'
 have hn:=fA hl o'
 generalize cS w mm o'=W at *
 have hk:∀b v,w.cell? ⟨b,0,none⟩=some v→W.cell? ⟨b,0,none⟩=some v:=fun b v hc=>(World.cell?_of_block (ht.foot.block b (World.block_lt_of_cell? w _ hc) (h.ne hc))).trans hc
 refine⟨W,hup,ht,hk _ _ h.c5,hk _ _ h.c6,hk _ _ h.c7,hk _ _ h.c8,dE h.pt ht.foot.size fun k hk hl=>ht.foot.block k hl (h.pn k hk),dE h.nt ht.foot.size fun k hk hl=>ht.foot.block k hl (h.nn k hk),h.pn,h.nn,o',_,hn,hm,fun x v hv=>?_⟩
 split at hv
 ·rename_i e
  subst e
  exact⟨q,(Option.some.inj hv).symm,hq⟩
 ·exact h3 x v hv
theorem cF.look (h:cF ps ns b5 b6 b7 b8 mm pv nv w) (d:wH):∃q,(Instr.lookup 371 (.map (some mm)) (fX d) false).run Tryz.prog w=.ok (.bool q) w∧(q=true→bN (ps.drop d.1.1) (ns.drop d.1.2)=false):=by
 obtain⟨o,M,h1,h2,h3⟩:=h.no
 have hl:=h2.look wF h1 (t:=371) (e:=4) (by kernel_rfl) (z:=.bool false) rfl d false
 cases hM:M d with
 |none=>
  rw[hM] at hl
  exact⟨false,hl,fun e=>by cases e⟩
 |some v=>
  obtain⟨q,rfl,hq⟩:=h3 d v hM
  rw[hM] at hl
  exact⟨q,hl,hq⟩
end
section
variable {ps ns:List Txt} {b5 b6 b7 b8 mm:Nat} {pv nv:Value}
def my (ps ns:List Txt) (b5 b6 b7 b8 mm:Nat) (pv nv:Value) (i k:Nat) (w:World):Prop:=
 Calls Tryz.prog 250 #[.int .i64 (i:Int),.int .i64 (k:Int),.pointer (some ⟨b5,0,none⟩),.pointer (some ⟨b6,0,none⟩),.pointer (some ⟨b7,0,none⟩),.pointer (some ⟨b8,0,none⟩)] w fun e w'=>e=.returned (.bool (bN (ps.drop i) (ns.drop k)))∧az (fun j=>j=mm) w w'∧cF ps ns b5 b6 b7 b8 mm pv nv w'
theorem zdl (i _k:Nat) (hi:i<ps.length):ps.drop i=ps[i]::ps.drop (i+1):=List.drop_eq_getElem_cons hi
theorem zd5 {a b:Txt} (h:a≠b):(a==b)=false:=by simpa using h
set_option maxHeartbeats 16000000 in
theorem qh (hp:ps.length≤2000000) (hn:ns.length≤2000000) (hpl:∀s∈ps,s.length≤2000000) (hnl:∀s∈ns,s.length≤2000000) (i k:Nat) (hi:i≤ps.length) (hk:k≤ns.length) (w:World) (h:cF ps ns b5 b6 b7 b8 mm pv nv w)
 (ih:∀i' k',i'≤ps.length→k'≤ns.length→(ps.length-i')+(ns.length-k')<(ps.length-i)+(ns.length-k)→∀W,cF ps ns b5 b6 b7 b8 mm pv nv W→my ps ns b5 b6 b7 b8 mm pv nv i' k' W):my ps ns b5 b6 b7 b8 mm pv nv i k w:=by
 unfold my
 obtain⟨pa,pc,rfl, -, -,hpx⟩:=h.pt.out
 obtain⟨na,nc,rfl, -, -,hnx⟩:=h.nt.out
 have c5:=h.c5
 have c6:=h.c6
 have H:=hid h
 have HPX:=hid hpx
 have HNX:=hid hnx
 have HI:=hid ih
 clear hpx hnx ih
 by_cases e0:i=ps.length
 ·subst e0
  have HV:=hid (show bN (ps.drop ps.length) (ns.drop k)=decide (k=ns.length) by
   rw[List.drop_length,zao]
   by_cases e:k=ns.length
   ·rw[e,List.drop_length];simp
   ·rw[decide_eq_false e]
    cases hd:ns.drop k with
    |nil=>exact absurd (List.drop_eq_nil_iff.1 hd) (by omega)
    |cons _ _=>rfl)
  clear h
  by_cases e1:k=ns.length
  ·subst e1
   go_enter Tryz.func250,Tryz.ntmps250
   go_wp2_with fail
   go_ret
   exact⟨by first|(rw[HV.out];simp;done)|rfl,az.refl _ _,H.out⟩
  ·have E1:((k:Int)==(ns.length:Int))=false:=eqF (by omega)
   go_enter Tryz.func250,Tryz.ntmps250
   go_wp2_with fail
   go_ret
   exact⟨by rw[HV.out,decide_eq_false e1];rfl,az.refl _ _,H.out⟩
 ·have aH:i<ps.length:=by omega
  have E0:((i:Int)==(ps.length:Int))=false:=eqF (by omega)
  obtain⟨q,hlk,hq⟩:=h.look ⟨(i,k),by simp only;omega,by simp only;omega⟩
  have HDA:=hid (zdl (ps:=ps) i k aH)
  unfold fX at hlk
  simp only at hlk
  have c7:=h.c7
  have c8:=h.c8
  clear h
  cases q with
  |true=>
   have HV:=hid (hq rfl)
   clear hq
   go_enter Tryz.func250,Tryz.ntmps250
   go_wp2_with fail
   go_ret
   exact⟨by rw[HV.out];rfl,az.refl _ _,H.out⟩
  |false=>
   clear hq
   obtain⟨pb,po,rfl,L0⟩:=HPX.out i aH
   by_cases hs:ps[i]=ft
   ·have E1:(ps[i]==[42,42])=true:=by rw[hs];rfl
    by_cases hl:i+1=ps.length
    ·have HV:=hid (show bN (ps.drop i) (ns.drop k)=decide (k<ns.length) by
      rw[HDA.out,hs,hl,List.drop_length,xK]
      by_cases e:k<ns.length
      ·rw[decide_eq_true e,jj ns k e];rfl
      ·rw[decide_eq_false e,List.drop_eq_nil_iff.2 (by omega)];rfl)
     have E2:((i:Int)==(ps.length:Int)-1)=true:=eqT (by omega)
     clear hs
     by_cases hkl:k<ns.length
     ·go_enter Tryz.func250,Tryz.ntmps250
      go_wp2_with fail
      go_ret
      exact⟨by rw[HV.out,decide_eq_true hkl];first|rfl|simp[hkl],az.refl _ _,H.out⟩
     ·go_enter Tryz.func250,Tryz.ntmps250
      go_wp2_with fail
      go_ret
      exact⟨by rw[HV.out,decide_eq_false hkl];first|rfl|simp[hkl],az.refl _ _,H.out⟩
    ·have E2:((i:Int)==(ps.length:Int)-1)=false:=eqF (by omega)
     have hne:ps.drop (i+1)≠[]:=fun e=>by have:=List.drop_eq_nil_iff.1 e;omega
     have HV:=hid (show bN (ps.drop i) (ns.drop k)=(bN (ps.drop (i+1)) (ns.drop k)||(decide (k<ns.length)&&bN (ps.drop i) (ns.drop (k+1)))) by
      rw[HDA.out,hs,xV _ _ hne]
      congr 1
      by_cases e:k<ns.length
      ·rw[decide_eq_true e,jj ns k e];rfl
      ·rw[decide_eq_false e,List.drop_eq_nil_iff.2 (by omega)];rfl)
     have HD1:=hid (fun(W:World) (hW:cF ps ns b5 b6 b7 b8 mm (.slice (some ⟨pb,po,none⟩) ps.length pc) (.slice na ns.length nc) W)=>show Calls Tryz.prog 250 #[.int .i64 ((i:Int)+1),.int .i64 ((k:Int)),.pointer (some ⟨b5,0,none⟩),.pointer (some ⟨b6,0,none⟩),.pointer (some ⟨b7,0,none⟩),.pointer (some ⟨b8,0,none⟩)] W fun e w'=>e=.returned (.bool (bN (ps.drop (i+1)) (ns.drop k)))∧az (fun j=>j=mm) W w'∧cF ps ns b5 b6 b7 b8 mm (.slice (some ⟨pb,po,none⟩) ps.length pc) (.slice na ns.length nc) w' from by
      have h0:=HI.out (i+1) k (by omega) (by omega) (by omega) W hW
      unfold my at h0
      exact h0)
     clear hs hne
     cases hq1:bN (ps.drop (i+1)) (ns.drop k) with
     |true=>
      rw[hq1] at HD1 HV
      have HV2:=hid (show bN (ps.drop i) (ns.drop k)=true by rw[HV.out];rfl)
      clear HV hq1 HI
      go_enter Tryz.func250,Tryz.ntmps250
      go_upto_region 10 with(go_at_call 250;refine(HD1.out _ H.out).mono ?_;rintro e W2 ⟨rfl,hf2,hd2⟩)
      obtain⟨W3,hup,ht3,hd3⟩:=hd2.put ⟨(i,k),by simp only;omega,by simp only;omega⟩ false (fun e=>by cases e)
      have d7:=hd2.c7
      unfold fX at hup
      simp only at hup
      have HF:=hid (And.intro hf2 (And.intro ht3 hd3))
      clear hf2 ht3 hd3 hd2
      go_wp2_with fail
      go_ret
      exact⟨by rw[HV2.out];rfl,HF.out.1.chain HF.out.2.1.foot,HF.out.2.2⟩
     |false=>
      rw[hq1] at HD1 HV
      clear hq1
      by_cases hkl:k<ns.length
      ·have HD2:=hid (fun(W:World) (hW:cF ps ns b5 b6 b7 b8 mm (.slice (some ⟨pb,po,none⟩) ps.length pc) (.slice na ns.length nc) W)=>show Calls Tryz.prog 250 #[.int .i64 ((i:Int)),.int .i64 ((k:Int)+1),.pointer (some ⟨b5,0,none⟩),.pointer (some ⟨b6,0,none⟩),.pointer (some ⟨b7,0,none⟩),.pointer (some ⟨b8,0,none⟩)] W fun e w'=>e=.returned (.bool (bN (ps.drop i) (ns.drop (k+1))))∧az (fun j=>j=mm) W w'∧cF ps ns b5 b6 b7 b8 mm (.slice (some ⟨pb,po,none⟩) ps.length pc) (.slice na ns.length nc) w' from by
        have h0:=HI.out i (k+1) (by omega) (by omega) (by omega) W hW
        unfold my at h0
        exact h0)
       have HV1:=hid (show bN (ps.drop i) (ns.drop k)=bN (ps.drop i) (ns.drop (k+1)) by rw[HV.out,decide_eq_true hkl];rfl)
       generalize bN (ps.drop i) (ns.drop (k+1))=q2 at *
       clear HV HI
       go_enter Tryz.func250,Tryz.ntmps250
       go_upto_region 9 with fail
       have c8':=c8
       cases q2 with
       |true=>
        go_upto_region 10 with first|(go_at_call 250;show Calls Tryz.prog 250 _ w _;refine(HD1.out _ H.out).mono ?_;rintro e W2 ⟨rfl,hf2,hd2⟩;have d6:=hd2.c6;have d8:=hd2.c8)|(go_at_call 250;show Calls Tryz.prog 250 _ W2 _;refine(HD2.out _ hd2).mono ?_;rintro e W4 ⟨rfl,hf4,hd4⟩)
        obtain⟨W3,hup,ht3,hd3⟩:=hd4.put ⟨(i,k),by simp only;omega,by simp only;omega⟩ false (fun e=>by cases e)
        have d7:=hd4.c7
        unfold fX at hup
        simp only at hup
        have HF:=hid (And.intro (hf2.chain hf4) (And.intro ht3 hd3))
        clear hf2 ht3 hd3 hd2 hd4 hf4
        go_wp2_with fail
        go_ret
        exact⟨by rw[HV1.out];rfl,HF.out.1.chain HF.out.2.1.foot,HF.out.2.2⟩
       |false=>
        go_upto_region 10 with first|(go_at_call 250;show Calls Tryz.prog 250 _ w _;refine(HD1.out _ H.out).mono ?_;rintro e W2 ⟨rfl,hf2,hd2⟩;have d6:=hd2.c6;have d8:=hd2.c8)|(go_at_call 250;show Calls Tryz.prog 250 _ W2 _;refine(HD2.out _ hd2).mono ?_;rintro e W4 ⟨rfl,hf4,hd4⟩)
        obtain⟨W3,hup,ht3,hd3⟩:=hd4.put ⟨(i,k),by simp only;omega,by simp only;omega⟩ true (fun _=>HV1.out)
        have d7:=hd4.c7
        unfold fX at hup
        simp only at hup
        have HF:=hid (And.intro (hf2.chain hf4) (And.intro ht3 hd3))
        clear hf2 ht3 hd3 hd2 hd4 hf4
        go_wp2_with fail
        go_ret
        exact⟨by rw[HV1.out];rfl,HF.out.1.chain HF.out.2.1.foot,HF.out.2.2⟩
      ·have HV1:=hid (show bN (ps.drop i) (ns.drop k)=false by rw[HV.out,decide_eq_false hkl];rfl)
       clear HV HI
       go_enter Tryz.func250,Tryz.ntmps250
       go_upto_region 10 with first|(go_at_call 250;refine(HD1.out _ H.out).mono ?_;rintro e W2 ⟨rfl,hf2,hd2⟩;have d6:=hd2.c6;have d8:=hd2.c8)
       obtain⟨W3,hup,ht3,hd3⟩:=hd2.put ⟨(i,k),by simp only;omega,by simp only;omega⟩ true (fun _=>HV1.out)
       have d7:=hd2.c7
       unfold fX at hup
       simp only at hup
       have HF:=hid (And.intro hf2 (And.intro ht3 hd3))
       clear hf2 ht3 hd3 hd2
       go_wp2_with fail
       go_ret
       exact⟨by rw[HV1.out];rfl,HF.out.1.chain HF.out.2.1.foot,HF.out.2.2⟩
   ·have E1:(ps[i]==[42,42])=false:=zd5 hs
    by_cases hkl:k<ns.length
    ·obtain⟨nb,no,rfl,N0⟩:=HNX.out k hkl
     have HV:=hid (show bN (ps.drop i) (ns.drop k)=(sv ps[i] ns[k]&&bN (ps.drop (i+1)) (ns.drop (k+1))) by
      rw[HDA.out,qP _ _ _ hs,jj ns k hkl])
     have HONE:=hid (fun W=>zdm ps[i] ns[k] W (hpl _ (List.getElem_mem aH)) (hnl _ (List.getElem_mem hkl)))
     have HD1:=hid (fun(W:World) (hW:cF ps ns b5 b6 b7 b8 mm (.slice (some ⟨pb,po,none⟩) ps.length pc) (.slice (some ⟨nb,no,none⟩) ns.length nc) W)=>show Calls Tryz.prog 250 #[.int .i64 ((i:Int)+1),.int .i64 ((k:Int)+1),.pointer (some ⟨b5,0,none⟩),.pointer (some ⟨b6,0,none⟩),.pointer (some ⟨b7,0,none⟩),.pointer (some ⟨b8,0,none⟩)] W fun e w'=>e=.returned (.bool (bN (ps.drop (i+1)) (ns.drop (k+1))))∧az (fun j=>j=mm) W w'∧cF ps ns b5 b6 b7 b8 mm (.slice (some ⟨pb,po,none⟩) ps.length pc) (.slice (some ⟨nb,no,none⟩) ns.length nc) w' from by
      have h0:=HI.out (i+1) (k+1) (by omega) (by omega) (by omega) W hW
      unfold my at h0
      exact h0)
     clear hs
     cases hq1:sv ps[i] ns[k] with
     |true=>
      rw[hq1] at HONE HV
      have HV1:=hid (show bN (ps.drop i) (ns.drop k)=bN (ps.drop (i+1)) (ns.drop (k+1)) by rw[HV.out];rfl)
      clear HV hq1 HI
      generalize bN (ps.drop (i+1)) (ns.drop (k+1))=q2 at *
      go_enter Tryz.func250,Tryz.ntmps250
      go_upto_region 6 with fail
      refine ar 21 (by kernel_rfl) (by kernel_rfl) ?_
      simp only[List.take_succ_cons,List.take_zero,List.drop_succ_cons,List.drop_zero]
      repeat(refine WQ.step (fun K hK=>?_);go_simp;first|(refine hK _ ?_;clear hK K)|(apply Exists.intro;refine⟨fun W hW=>?_,hK _ ?_⟩;(first|with_reducible rfl|(go_at_call 251;exact zfr hW (HONE.out W))|(have y5:=Below.keeps hW c5;have y6:=Below.keeps hW c6;have y8:=Below.keeps hW c8;have yL:=Below.keeps hW L0;have yN:=Below.keeps hW N0;go_simp;first|rfl|exact⟨rfl,rfl⟩|(simp;done)));clear hK K))
      refine WQ.nil ?_
      intro wt hwt
      have hd1:=H.out.below hwt
      have HDT:=hid (And.intro hwt hd1)
      clear hwt hd1
      go_wp2_with (go_at_call 250;refine(HD1.out _ HDT.out.2).mono ?_;rintro e W2 ⟨rfl,hf2,hd2⟩)
      go_ret
      exact⟨by rw[HV1.out];rfl,(az.of_below HDT.out.1).chain hf2,hd2⟩
     |false=>
      rw[hq1] at HONE HV
      have HV1:=hid (show bN (ps.drop i) (ns.drop k)=false by rw[HV.out];rfl)
      clear HV hq1 HI HD1
      go_enter Tryz.func250,Tryz.ntmps250
      go_upto_region 6 with fail
      refine aC (by kernel_rfl) (by kernel_rfl) ?_
      repeat(refine WQ.step (fun K hK=>?_);go_simp;first|(refine hK _ ?_;clear hK K)|(apply Exists.intro;refine⟨fun W hW=>?_,hK _ ?_⟩;(first|with_reducible rfl|(go_at_call 251;exact zfr hW (HONE.out W))|(have y5:=Below.keeps hW c5;have y6:=Below.keeps hW c6;have y8:=Below.keeps hW c8;have yL:=Below.keeps hW L0;have yN:=Below.keeps hW N0;go_simp;first|rfl|exact⟨rfl,rfl⟩|(simp;done)));clear hK K))
      refine WQ.nil ?_
      intro wt hwt
      go_wp2_with fail
      go_ret
      exact⟨by rw[HV1.out];rfl,az.of_below hwt,H.out.below hwt⟩
    ·have HV:=hid (show bN (ps.drop i) (ns.drop k)=false by
      rw[HDA.out,qP _ _ _ hs,List.drop_eq_nil_iff.2 (by omega)])
     clear hs HI
     go_enter Tryz.func250,Tryz.ntmps250
     go_upto_region 6 with fail
     refine aC (by kernel_rfl) (by kernel_rfl) ?_
     repeat(refine WQ.step (fun K hK=>?_);go_simp;first|(refine hK _ ?_;clear hK K)|(apply Exists.intro;refine⟨fun W hW=>?_,hK _ ?_⟩;(first|with_reducible rfl|(have y5:=Below.keeps hW c5;have y6:=Below.keeps hW c6;have y8:=Below.keeps hW c8;have yL:=Below.keeps hW L0;go_simp;first|rfl|exact⟨rfl,rfl⟩|(simp;done)));clear hK K))
     refine WQ.nil ?_
     intro wt hwt
     go_wp2_with fail
     go_ret
     exact⟨by rw[HV.out];rfl,az.of_below hwt,H.out.below hwt⟩
theorem ue (hp:ps.length≤2000000) (hn:ns.length≤2000000) (hpl:∀s∈ps,s.length≤2000000) (hnl:∀s∈ns,s.length≤2000000):∀(n i k:Nat),i≤ps.length→k≤ns.length→(ps.length-i)+(ns.length-k)≤n→∀w,cF ps ns b5 b6 b7 b8 mm pv nv w→my ps ns b5 b6 b7 b8 mm pv nv i k w
 |0,i,k,hi,hk,hm,w,h=>qh hp hn hpl hnl i k hi hk w h fun i' k' _ _ aH=>by omega
 |n+1,i,k,hi,hk,hm,w,h=>qh hp hn hpl hnl i k hi hk w h fun i' k' h1 h2 aH=>ue hp hn hpl hnl n i' k' h1 h2 (by omega)
end
theorem rq {P:Program} {w:World} {a:Addr} {m:Mode} (f:Fn) (x y:Array Value):(store a (.func f x y) m).run P w=stored P w a (.func f x y) m:=run_store P w a _ m rfl
attribute [local go_sem] rq
set_option maxHeartbeats 4000000 in
theorem zP (p s:Txt) (w:World) (hp:p.length≤1500000) (hs:s.length≤1500000) (hm:bE w):Calls Tryz.prog 197 #[.string (bs p),.string (bs s)] w fun e w'=>e=.returned (.bool (dJ p s))∧Below w.heap.size w w':=by
 have HG:=hid (ur p w hp hm)
 cases hg:lu p with
 |false=>
  rw[hg] at HG
  have HV:=hid (show dJ p s=false by unfold dJ;rw[hg];rfl)
  clear hg
  go_enter Tryz.func197,Tryz.ntmps197
  go_wp2_with (go_at_call 140;refine HG.out.mono ?_;rintro e W1 ⟨rfl,hb1⟩)
  go_ret
  exact⟨by rw[HV.out];rfl,hb1⟩
 |true=>
  rw[hg] at HG
  cases hy:dY s with
  |false=>
   have HV:=hid (show dJ p s=false by unfold dJ;rw[hy];simp)
   have HM:=hid (fun W=>i6 s (by omega) false hy W)
   clear hg hy
   go_enter Tryz.func197,Tryz.ntmps197
   go_wp2_with first|(go_at_call 140;refine HG.out.mono ?_;rintro e W1 ⟨rfl,hb1⟩)|(go_at_call 51;refine(HM.out _).mono ?_;rintro e W2 ⟨rfl,hb2⟩)
   go_ret
   exact⟨by rw[HV.out];rfl,Below.chain hb1 hb2⟩
  |true=>
   have HV:=hid (show dJ p s=bN (cX p) (cX s) by unfold dJ;rw[hg,hy];rfl)
   have HM:=hid (fun W=>i6 s (by omega) true hy W)
   have HS1:=hid (fun(W:World) (hb:Below w.heap.size w W)=>lG p W (by omega) (hm.below hb))
   have HS2:=hid (fun(W:World) (hb:Below w.heap.size w W)=>lG s W (by omega) (hm.below hb))
   have l1:=jh p
   have l2:=jh s
   have HSP:=hid (And.intro (iJ p) (iJ s))
   clear hg hy hm
   generalize cX p=ps at *
   generalize cX s=ns at *
   generalize dJ p s=qq at *
   go_enter Tryz.func197,Tryz.ntmps197
   go_upto_region 3 with first|(go_at_call 140;refine HG.out.mono ?_;rintro e W1 ⟨rfl,hb1⟩)|(go_at_call 51;refine(HM.out _).mono ?_;rintro e W2 ⟨rfl,hb2⟩)
   have HB2:=hid (Below.chain hb1 hb2)
   go_upto_region 4 with(go_at_call 179;refine(HS1.out _ HB2.out).mono ?_;rintro e W3 ⟨v3,rfl,ho3,hb3⟩;obtain⟨a3,c3,rfl⟩:=ax ho3)
   have hb4:=ab W3 (.cells #[.slice a3 ps.length c3] 46)
   have hn4:=heap_alloc_new W3 (.cells #[.slice a3 ps.length c3] 46)
   have hz4:(W3.alloc (.cells #[.slice a3 ps.length c3] 46)).heap.size=W3.heap.size+1:=World.size_alloc _ _
   have k5:(W3.alloc (.cells #[.slice a3 ps.length c3] 46)).cell? ⟨W3.heap.size,0,none⟩=some (.slice a3 ps.length c3):=(cell_of_row _ _ 0 _ _ _ hn4).trans rfl
   have HB4:=hid (Below.chain HB2.out (Below.chain hb3 hb4))
   have tp4:aO (W3.alloc (.cells #[.slice a3 ps.length c3] 46)) (.slice a3 ps.length c3) ps:=aO.below (ap.of_owns ho3 (by unfold maxLen;omega)) hb4
   have hop:∀k,(Value.slice a3 ps.length c3).ownBlock=some k→k<W3.heap.size:=fun k hk=>(ho3.lt k hk).2
   generalize W3.alloc (.cells #[.slice a3 ps.length c3] 46)=W4 at *
   have K4:=hid (And.intro k5 (And.intro tp4 hop))
   clear hb1 hb2 hb3 hb4 hn4 k5 tp4 hop ho3
   go_upto_region 5 with(go_at_call 179;refine(HS2.out _ HB4.out).mono ?_;rintro e W5 ⟨v5,rfl,ho5,hb5⟩;obtain⟨a5,c5,rfl⟩:=ax ho5)
   have hb6:=ab W5 (.cells #[.slice a5 ns.length c5] 46)
   have hn6:=heap_alloc_new W5 (.cells #[.slice a5 ns.length c5] 46)
   have hz6:(W5.alloc (.cells #[.slice a5 ns.length c5] 46)).heap.size=W5.heap.size+1:=World.size_alloc _ _
   have k6:(W5.alloc (.cells #[.slice a5 ns.length c5] 46)).cell? ⟨W5.heap.size,0,none⟩=some (.slice a5 ns.length c5):=(cell_of_row _ _ 0 _ _ _ hn6).trans rfl
   have hb46:=Below.chain hb5 hb6
   have HB6:=hid (Below.chain HB4.out hb46)
   have tn6:aO (W5.alloc (.cells #[.slice a5 ns.length c5] 46)) (.slice a5 ns.length c5) ns:=aO.below (ap.of_owns ho5 (by unfold maxLen;omega)) hb6
   have hon:∀k,(Value.slice a5 ns.length c5).ownBlock=some k→k<W5.heap.size:=fun k hk=>(ho5.lt k hk).2
   have z45:=hb5.size
   have HB46:=hid hb46
   generalize W5.alloc (.cells #[.slice a5 ns.length c5] 46)=W6 at *
   have K6:=hid (And.intro k6 (And.intro tn6 hon))
   clear hb5 hb6 hn6 k6 tn6 hon ho5 hb46
   have hmm:=@run_makeMap Tryz.prog
   go_upto_region 7 with fail
   have b7:=ab W6 (.map #[] 0)
   have n7:=heap_alloc_new W6 (.map #[] 0)
   have b8:=ab (W6.alloc (.map #[] 0)) (.cells #[.map (some (W5.heap.size+1))] 371)
   have n8:=heap_alloc_new (W6.alloc (.map #[] 0)) (.cells #[.map (some (W5.heap.size+1))] 371)
   have b9:=ab ((W6.alloc (.map #[] 0)).alloc (.cells #[.map (some (W5.heap.size+1))] 371)) (.cells #[.nilFunc] 372)
   have n9:=heap_alloc_new ((W6.alloc (.map #[] 0)).alloc (.cells #[.map (some (W5.heap.size+1))] 371)) (.cells #[.nilFunc] 372)
   simp only[World.size_alloc,hz6] at n7 n8 n9
   have hz9:(((W6.alloc (.map #[] 0)).alloc (.cells #[.map (some (W5.heap.size+1))] 371)).alloc (.cells #[.nilFunc] 372)).heap.size=W5.heap.size+4:=by simp[World.size_alloc,hz6]
   have n87:=(b9.block (W5.heap.size+1) (by simp[World.size_alloc,hz6]<;>omega)).trans ((b8.block (W5.heap.size+1) (by simp[World.size_alloc,hz6])).trans n7)
   have n88:=(b9.block (W5.heap.size+1+1) (by simp[World.size_alloc,hz6])).trans n8
   have b69:=Below.chain (Below.chain b7 b8) b9
   have B69:=hid b69
   clear b7 n7 b8 n8 b9 b69
   generalize ((W6.alloc (.map #[] 0)).alloc (.cells #[.map (some (W5.heap.size+1))] 371)).alloc (.cells #[.nilFunc] 372)=W9 at *
   have k9:W9.cell? ⟨W5.heap.size+1+1+1,0,none⟩=some .nilFunc:=(cell_of_row _ _ 0 _ _ _ n9).trans rfl
   have f9:W9.frozen? ⟨W5.heap.size+1+1+1,0,none⟩=false:=Lib.frozen_of_heap n9 0
   go_upto_region 8 with fail
   obtain⟨n10,t10⟩:=au n9 0 (Value.func (.func 250) #[] #[.pointer (some ⟨W3.heap.size,0,none⟩),.pointer (some ⟨W5.heap.size,0,none⟩),.pointer (some ⟨W5.heap.size+1+1,0,none⟩),.pointer (some ⟨W5.heap.size+1+1+1,0,none⟩)])
   generalize W9.setCell ⟨W5.heap.size+1+1+1,0,none⟩ (Value.func (.func 250) #[] #[.pointer (some ⟨W3.heap.size,0,none⟩),.pointer (some ⟨W5.heap.size,0,none⟩),.pointer (some ⟨W5.heap.size+1+1,0,none⟩),.pointer (some ⟨W5.heap.size+1+1+1,0,none⟩)])=W10 at *
   have b610:Below W6.heap.size W6 W10:=B69.out.trans (t10.below (by omega))
   have hD:cF ps ns W3.heap.size W5.heap.size (W5.heap.size+1+1) (W5.heap.size+1+1+1) (W5.heap.size+1) (.slice a3 ps.length c3) (.slice a5 ns.length c5) W10:=
    {c5:=Below.keeps (Below.chain HB46.out b610) K4.out.1
     c6:=Below.keeps b610 K6.out.1
     c7:=(cell_of_row _ _ 0 _ _ _ ((t10.foot.block _ (by omega) (by omega)).trans n88)).trans rfl
     c8:=(cell_of_row _ _ 0 _ _ _ n10).trans rfl
     pt:=K4.out.2.1.below (Below.chain HB46.out b610)
     nt:=K6.out.2.1.below b610
     pn:=fun k hk=>by have:=K4.out.2.2 k hk;omega
     nn:=fun k hk=>by have:=K6.out.2.2 k hk;omega
     no:=⟨_,_,(t10.foot.block _ (by omega) (by omega)).trans n87,fu.nil fX,fun d v hv=>by cases hv⟩}
   have HD:=hid (ue (by omega) (by omega) (fun s' h=>by have:=HSP.out.1 s' h;omega) (fun s' h=>by have:=HSP.out.2 s' h;omega) _ 0 0 (Nat.zero_le _) (Nat.zero_le _) (Nat.le_refl _) W10 hD)
   unfold my at HD
   simp only[List.drop_zero] at HD
   rw[show((0:Nat):Int)=0 from rfl] at HD
   have c10:=hD.c8
   have HBL:=hid b610
   clear b610 hD n87 n88 n9 k9 f9 n10 t10
   go_wp2_with (go_at_call 250;refine HD.out.mono ?_;rintro e W11 ⟨rfl,hf11, -⟩)
   go_ret
   refine⟨by rw[HV.out];rfl,Below.chain HB6.out (Below.trans HBL.out ?_)⟩
   exact hf11.below (by have:=HBL.out.size;omega) (fun i e=>by omega)
end Go.Proofs.YtlbipokkdiiaiaaGreatDoor
namespace Go.Proofs.YtlbipokkdiiaiaaGreatDoor
open Go.RowKit Exec
def cQ (a:Act):List (Option Tmp)→List (Option Value)→Act
 |d::ds,some v::vs=>cQ (a.put d v) ds vs
 |_::ds,none::vs=>cQ a ds vs
 |_,_=>a
def gS (l:Array Bool):List Nat→List Bool→Array Bool
 |i::H,true::m=>gS (l.setIfInBounds i true) H m
 |_::H,false::m=>gS l H m
 |_,_=>l
def zb5:Nat→List (List Bool)
 |0=>[[]]
 |n+1=>(zb5 n).flatMap fun m=>[true::m,false::m]
theorem tT:∀m:List Bool,m∈zb5 m.length
 |[]=>by simp[zb5]
 |b::m=>by
  simp only[List.length_cons,zb5,List.mem_flatMap]
  refine⟨m,tT m,?_⟩
  cases b<;>simp
def kP (D:List (List Nat)) (m:List Bool):Bool:=(List.range m.length).all fun x=>!(m.getD x false)||(D.getD x []).all fun i=>m.getD i false
theorem vp {D:List (List Nat)} {m:List Bool} (h:kP D m=true) (x:Nat) (hx:(D.getD x []).all (fun i=>m.getD i false)=true):kP D (m.set x true)=true:=by
 have hg:∀i,m.getD i false=true→(m.set x true).getD i false=true:=fun i hi=>by
  rw[List.getD_eq_getElem?_getD] at hi ⊢
  by_cases e:i=x
  ·subst e
   cases hm:m[i]? with
   |none=>rw[hm] at hi;cases hi
   |some b=>rw[List.getElem?_set_self (List.getElem?_eq_some_iff.1 hm).1];rfl
  ·rw[List.getElem?_set_ne (Ne.symm e)];exact hi
 unfold kP at h ⊢
 rw[List.all_eq_true] at h ⊢
 intro y hy
 rw[List.length_set] at hy
 have h1:=h y hy
 by_cases e:y=x
 ·subst e
  rw[Bool.or_eq_true]
  refine .inr (List.all_eq_true.2 fun i hi=>hg i (List.all_eq_true.1 hx i hi))
 ·have e2:(m.set x true).getD y false=m.getD y false:=by
   rw[List.getD_eq_getElem?_getD,List.getElem?_set_ne (Ne.symm e),←List.getD_eq_getElem?_getD]
  rw[e2,Bool.or_eq_true]
  rw[Bool.or_eq_true] at h1
  rcases h1 with h1|h1
  ·exact .inl h1
  ·exact .inr (List.all_eq_true.2 fun i hi=>hg i (List.all_eq_true.1 h1 i hi))
def zew (ops:Array Oper) (listed:Array Bool) (H:List Nat) (D:List (List Nat)):Bool:=
 (zb5 H.length).all fun m=>m.all id||!(kP D m)||(!(Region.ready .any ops (gS listed H m)).isEmpty&&(Region.ready .any ops (gS listed H m)).all fun j=>(List.range H.length).any fun x=>H.getD x 0==j&&!(m.getD x true)&&(D.getD x []).all fun i=>m.getD i false)
theorem za5 (a:Act) (d e:Option Tmp) (v u:Value) (h:∀x,d=some x→e≠some x):(a.put d v).put e u=(a.put e u).put d v:=by
 cases d with
 |none=>rfl
 |some x=>
  cases e with
  |none=>rfl
  |some z=>
   have:x≠z:=fun hh=>h x rfl (by rw[hh])
   simp only[Act.put,Array.setIfInBounds_comm _ _ this]
def lH:List (Option Tmp)→Prop
 |[]=>True
 |d::ds=>(∀e∈ds,∀x,d=some x→e≠some x)∧lH ds
theorem oN:∀(ds:List (Option Tmp)) (vs:List (Option Value)) (a:Act) (d:Option Tmp) (v:Value),(∀e∈ds,∀x,d=some x→e≠some x)→cQ (a.put d v) ds vs=(cQ a ds vs).put d v
 |[],vs,a,d,v,_=>by cases vs<;>rfl
 |e::ds,[],a,d,v,_=>rfl
 |e::ds,none::vs,a,d,v,h=>by
  simp only[cQ]
  exact oN ds vs a d v fun e' he=>h e' (List.mem_cons_of_mem _ he)
 |e::ds,some u::vs,a,d,v,h=>by
  simp only[cQ]
  rw[za5 a d e v u (h e (List.mem_cons_self ..))]
  exact oN ds vs (a.put e u) d v fun e' he=>h e' (List.mem_cons_of_mem _ he)
theorem nP:∀(ds:List (Option Tmp)) (vs:List (Option Value)) (a:Act) (n:Nat) (v:Value),lH ds→vs[n]?=some none→∀d,ds[n]?=some d→cQ a ds (vs.set n (some v))=(cQ a ds vs).put d v
 |[],vs,a,n,v,_,_,d,hd=>by cases hd
 |e::ds,[],a,n,v,_,hn,d,hd=>by cases hn
 |e::ds,o::vs,a,0,v,h,hn,d,hd=>by
  simp only[List.getElem?_cons_zero,Option.some.injEq] at hn hd
  subst hn hd
  simp only[List.set_cons_zero,cQ]
  exact oN ds vs a e v h.1
 |e::ds,none::vs,a,n+1,v,h,hn,d,hd=>by
  simp only[List.getElem?_cons_succ] at hn hd
  simp only[List.set_cons_succ,cQ]
  exact nP ds vs a n v h.2 hn d hd
 |e::ds,some u::vs,a,n+1,v,h,hn,d,hd=>by
  simp only[List.getElem?_cons_succ] at hn hd
  simp only[List.set_cons_succ,cQ]
  exact nP ds vs (a.put e u) n v h.2 hn d hd
theorem pu:∀(H:List Nat) (m:List Bool) (l:Array Bool) (i:Nat),i∉H→gS (l.setIfInBounds i true) H m=(gS l H m).setIfInBounds i true
 |[],m,l,i,_=>by cases m<;>rfl
 |j::H,[],l,i,_=>rfl
 |j::H,false::m,l,i,h=>by
  simp only[gS]
  exact pu H m l i fun e=>h (List.mem_cons_of_mem _ e)
 |j::H,true::m,l,i,h=>by
  simp only[gS]
  rw[Array.setIfInBounds_comm _ _ (show i≠j from fun e=>h (by rw[e];exact List.mem_cons_self ..))]
  exact pu H m (l.setIfInBounds j true) i fun e=>h (List.mem_cons_of_mem _ e)
theorem oT:∀(H:List Nat) (m:List Bool) (l:Array Bool) (n:Nat),H.Nodup→m[n]?=some false→∀i,H[n]?=some i→gS l H (m.set n true)=(gS l H m).setIfInBounds i true
 |[],m,l,n,_,_,i,hi=>by cases hi
 |j::H,[],l,n,_,hn,i,hi=>by cases hn
 |j::H,b::m,l,0,h,hn,i,hi=>by
  simp only[List.getElem?_cons_zero,Option.some.injEq] at hn hi
  subst hn hi
  simp only[List.set_cons_zero,gS]
  exact pu H m l j (List.nodup_cons.1 h).1
 |j::H,false::m,l,n+1,h,hn,i,hi=>by
  simp only[List.getElem?_cons_succ] at hn hi
  simp only[List.set_cons_succ,gS]
  exact oT H m l n (List.nodup_cons.1 h).2 hn i hi
 |j::H,true::m,l,n+1,h,hn,i,hi=>by
  simp only[List.getElem?_cons_succ] at hn hi
  simp only[List.set_cons_succ,gS]
  exact oT H m (l.setIfInBounds j true) n (List.nodup_cons.1 h).2 hn i hi
section
variable {P:Program} {ops:Array Oper} {Q:Exit→Act→World→Prop} {S:World→Prop} {k:Nat}
def ze1 (P:Program) (ops:Array Oper) (Q:Exit→Act→World→Prop) (R:List (Option Value)→World→Prop) (H:List Nat) (ds:List (Option Tmp)) (D:List (List Nat)) (a:Act) (w:World) (x:Nat):Prop:=
 ∀(st:List (Option Value)) (w':World),st.length=H.length→Below w.heap.size w w'→R st w'→st[x]?=some none→(∀i∈D.getD x [],∃v,st[i]?=some (some v))→
  ∃o,ops[H.getD x 0]?=some o∧ds.getD x none=o.dst∧Region.wanted o (yielded ops (cQ a ds st).tmps)=true∧
   ∀K:Act→World→Prop,Shut (∀v w'',Below w'.heap.size w' w''→R (st.set x (some v)) w''→K ((cQ a ds st).put o.dst v) w'')→Oper.wp P o (cQ a ds st) w' K Q
theorem rE (H:List Nat) (ds:List (Option Tmp)) (D:List (List Nat)) (R:List (Option Value)→World→Prop) (fuel:Nat) (listed:Array Bool) (a:Act) (w:World) (hS:∀w',Below w.heap.size w w'→S w')
 (hds:lH ds) (bI:ds.length=H.length) (hH:H.Nodup) (hok:zew ops listed H D=true)
 (hstep:∀x,x<H.length→ze1 P ops Q R H ds D a w x)
 (hfin:∀(st:List (Option Value)) (w':World),st.length=H.length→(∀i,i<H.length→∃v,st[i]?=some (some v))→R st w'→Below w.heap.size w w'→WL P ops Q S k fuel (gS listed H (st.map Option.isSome)) (cQ a ds st) w'):
 ∀(n:Nat) (st:List (Option Value)) (w':World),kP D (st.map Option.isSome)=true→st.length=H.length→(st.filter Option.isNone).length=n→Below w.heap.size w w'→R st w'→WL P ops Q S k (fuel+n) (gS listed H (st.map Option.isSome)) (cQ a ds st) w'
 |0,st,w',_,hl,hn,hb,hr=>by
  refine hfin st w' hl (fun i hi=>?_) hr hb
  have h0:st.filter Option.isNone=[]:=List.length_eq_zero_iff.1 hn
  have h1:i<st.length:=by omega
  cases hx:st[i] with
  |none=>
   have:=List.filter_eq_nil_iff.1 h0 st[i] (List.getElem_mem h1)
   rw[hx] at this
   exact absurd rfl this
  |some v=>
   have h2:st[i]?=some (some v):=by rw[List.getElem?_eq_getElem h1,hx]
   exact⟨v,h2⟩
 |n+1,st,w',aX,hl,hn,hb,hr=>by
  have hmask:=List.all_eq_true.1 hok (st.map Option.isSome) (by have:=tT (st.map Option.isSome);rwa [List.length_map,hl] at this)
  have hnall:(st.map Option.isSome).all id=false:=by
   cases hc:(st.map Option.isSome).all id with
   |false=>rfl
   |true=>
    exfalso
    have:st.filter Option.isNone=[]:=List.filter_eq_nil_iff.2 fun o ho=>by
     have:=List.all_eq_true.1 hc o.isSome (List.mem_map_of_mem ho)
     cases o with
     |none=>cases this
     |some v=>simp
    rw[this] at hn
    cases hn
  rw[hnall,aX,Bool.false_or,Bool.not_true,Bool.false_or,Bool.and_eq_true] at hmask
  obtain⟨hne,hrd⟩:=hmask
  show WL P ops Q S k (fuel+n+1) _ _ _
  refine WL.mk (And.intro (fun h0=>by rw[h0] at hne;cases hne) (fun j hj=>?_))
  have h1:=List.all_eq_true.1 hrd j hj
  obtain⟨x,hx,h2⟩:=List.any_eq_true.1 h1
  simp only[Bool.and_eq_true,beq_iff_eq,Bool.not_eq_true'] at h2
  obtain⟨⟨rfl,h3⟩,h4⟩:=h2
  have hxl:=List.mem_range.1 hx
  have hxs:x<st.length:=by omega
  have hsx:st[x]?=some none:=by
   rw[List.getElem?_eq_getElem hxs]
   cases hc:st[x] with
   |none=>rfl
   |some v=>
    rw[List.getD_eq_getElem?_getD,List.getElem?_map,List.getElem?_eq_getElem hxs,hc] at h3
    cases h3
  obtain⟨o,ho,hd,hw,hK⟩:=hstep x hxl st w' hl hb hr hsx fun i hi=>by
   have h5:=List.all_eq_true.1 h4 i hi
   rw[List.getD_eq_getElem?_getD,List.getElem?_map] at h5
   cases hc:st[i]? with
   |none=>rw[hc] at h5;cases h5
   |some u=>
    rw[hc] at h5
    cases u with
    |none=>cases h5
    |some v=>exact⟨v,rfl⟩
  refine wpOp_step ho fun K' hK'=>?_
  rw[if_pos hw]
  refine hK K' (fun v w'' hb2 hRv=>?_)
  refine hK' _ _ ⟨?_,?_⟩
  ·exact .inr (hS w'' (hb.trans (hb2.mono hb.size)))
  ·have e1:cQ a ds (st.set x (some v))=(cQ a ds st).put o.dst v:=nP ds st a x v hds hsx o.dst (by rw[←hd,List.getD_eq_getElem?_getD,List.getElem?_eq_getElem (by omega)];rfl)
   have e2:gS listed H ((st.set x (some v)).map Option.isSome)=(gS listed H (st.map Option.isSome)).setIfInBounds (H.getD x 0) true:=by
    rw[List.map_set]
    refine oT H _ listed x hH ?_ _ ?_
    ·rw[List.getElem?_map,hsx];rfl
    ·rw[List.getD_eq_getElem?_getD,List.getElem?_eq_getElem hxl];rfl
   rw[←e1,←e2]
   have hcount:((st.set x (some v)).filter Option.isNone).length=n:=by
    have key:∀(l:List (Option Value)) (y:Nat),l[y]?=some none→((l.set y (some v)).filter Option.isNone).length+1=(l.filter Option.isNone).length:=by
     intro l
     induction l with
     |nil=>intro y hy;cases hy
     |cons c l ih=>
      intro y hy
      cases y with
      |zero=>
       simp only[List.getElem?_cons_zero,Option.some.injEq] at hy
       subst hy
       simp
      |succ y=>
       simp only[List.getElem?_cons_succ] at hy
       have:=ih y hy
       simp only[List.set_cons_succ,List.filter_cons]
       split
       ·simp only[List.length_cons];omega
       ·exact this
    have:=key st x hsx
    omega
   exact(rE H ds D R fuel listed a w hS hds bI hH hok hstep hfin n (st.set x (some v)) w'' (by rw[List.map_set];exact vp aX x h4) (by rw[List.length_set];exact hl) hcount (hb.trans (hb2.mono hb.size)) hRv).out
end
open Go.Shelf
attribute [local go_sem] Oper.semAt_some
set_option maxRecDepth 100000
structure fW where
 pkg:Txt
 name:Txt
 tool:Txt
 env:List (Txt×Txt)
 ins:List Txt
 asks:List Txt
 outs:List Txt
structure dW where
 l:fW
 ev:Value
 iv:Value
 av:Value
 ov:Value
def dW.cells (x:dW):List Value:=[.string (bs x.l.pkg),.string (bs x.l.name),.string (bs x.l.tool),x.ev,x.iv,x.av,x.ov]
structure fe (w:World) (x:dW):Prop where
 env:aE w 2 fg x.ev x.l.env
 ins:aO w x.iv x.l.ins
 asks:aO w x.av x.l.asks
 outs:aO w x.ov x.l.outs
theorem fe.below {w w':World} {x:dW} (h:fe w x) (hb:Below w.heap.size w w'):fe w' x:=⟨h.env.below hb (Nat.le_refl _),h.ins.below hb,h.asks.below hb,h.outs.below hb⟩
structure dU (x:fW):Prop where
 env:x.env.length≤1500000
 ins:x.ins.length≤1500000
 asks:x.asks.length≤1500000
 outs:x.outs.length≤1500000
 il:∀s∈x.ins,s.length≤1500000
 al:∀s∈x.asks,s.length≤1500000
 ol:∀s∈x.outs,s.length≤1500000
 el:∀s∈x.env,s.2.length≤1500000
 nl:∀s∈x.env,s.1.length≤1500000
noncomputable def jA (ins asks outs:List Txt) (p:Txt):Bool:=if p∈outs then false else decide (p∈ins)||asks.any fun q=>dJ q p
theorem zd2 (c4:Nat) (q p:Txt) (w:World) (hc:w.cell? ⟨c4,0,none⟩=some (.string (bs p))) (hq:q.length≤1500000) (hp:p.length≤1500000) (hm:bE w):Calls Tryz.prog 196 #[.string (bs q),.pointer (some ⟨c4,0,none⟩)] w fun e w'=>e=.returned (.bool (dJ q p))∧Below w.heap.size w w':=by
 have HM:=hid (zP q p w hq hp hm)
 generalize dJ q p=b at *
 clear hm
 go_enter Tryz.func196,Tryz.ntmps196
 go_wp2_with (go_at_call 197;refine HM.out.mono ?_;rintro e W2 ⟨rfl,hb⟩)
 go_ret
 exact⟨rfl,hb⟩
set_option maxHeartbeats 4000000 in
theorem zdX (c1 c2 c3:Nat) (ins asks outs:List Txt) (ov iv av:Value) (p:Txt) (w:World) (k1:w.cell? ⟨c1,0,none⟩=some ov) (k2:w.cell? ⟨c2,0,none⟩=some iv) (k3:w.cell? ⟨c3,0,none⟩=some av)
 (ho:aO w ov outs) (hi:aO w iv ins) (ha:aO w av asks) (lo:outs.length≤2000000) (li:ins.length≤2000000) (la:asks.length≤2000000) (hal:∀s∈asks,s.length≤1500000) (hp:p.length≤1500000) (hm:bE w):
 Calls Tryz.prog 195 #[.string (bs p),.pointer (some ⟨c1,0,none⟩),.pointer (some ⟨c2,0,none⟩),.pointer (some ⟨c3,0,none⟩)] w fun e w'=>e=.returned (.bool (jA ins asks outs p))∧Below w.heap.size w w':=by
 have hb0:=ab w (.cells #[.string (bs p)] 9)
 have hn0:=heap_alloc_new w (.cells #[.string (bs p)] 9)
 have k4:(w.alloc (.cells #[.string (bs p)] 9)).cell? ⟨w.heap.size,0,none⟩=some (.string (bs p)):=(cell_of_row _ _ 0 _ _ _ hn0).trans rfl
 have k1':=Below.keeps hb0 k1
 have k2':=Below.keeps hb0 k2
 have k3':=Below.keeps hb0 k3
 have HO:=hid (ip ov outs p _ (ho.below hb0) lo)
 have HI:=hid (ip iv ins p _ (hi.below hb0) li)
 have HA:=hid (gL av asks 196 #[.pointer (some ⟨w.heap.size,0,none⟩)] (enters_of Tryz.func196 (by kernel_rfl) rfl) (fun q=>dJ q p) _ (ha.below hb0) la fun W hW s hs=>zd2 w.heap.size s p W (Below.keeps hW k4) (hal s hs) hp ((hm.below hb0).below hW))
 have HB:=hid hb0
 clear hb0 hn0 ho hi ha hm k1 k2 k3
 by_cases h1:p∈outs
 ·have HV:=hid (show jA ins asks outs p=false by unfold jA;rw[if_pos h1])
  rw[decide_eq_true h1] at HO
  go_enter Tryz.func195,Tryz.ntmps195
  go_wp2_with (go_at_call 163;refine HO.out.mono ?_;rintro e W2 ⟨rfl,rfl⟩)
  go_ret
  exact⟨by rw[HV.out];rfl,HB.out⟩
 ·rw[decide_eq_false h1] at HO
  by_cases h2:p∈ins
  ·have HV:=hid (show jA ins asks outs p=true by unfold jA;rw[if_neg h1,decide_eq_true h2];rfl)
   rw[decide_eq_true h2] at HI
   clear h1 h2
   go_enter Tryz.func195,Tryz.ntmps195
   go_upto_region 3 with(go_at_call 163;refine HO.out.mono ?_;rintro e W2 ⟨rfl,rfl⟩)
   go_wp2_with (go_at_call 163;refine HI.out.mono ?_;rintro e W2 ⟨rfl,rfl⟩)
   go_ret
   exact⟨by rw[HV.out];rfl,HB.out⟩
  ·have HV:=hid (show jA ins asks outs p=asks.any (fun q=>dJ q p) by unfold jA;rw[if_neg h1,decide_eq_false h2];rfl)
   rw[decide_eq_false h2] at HI
   clear h1 h2
   generalize asks.any (fun q=>dJ q p)=b at *
   go_enter Tryz.func195,Tryz.ntmps195
   go_upto_region 3 with(go_at_call 163;refine HO.out.mono ?_;rintro e W2 ⟨rfl,rfl⟩)
   go_wp2_with first|(go_at_call 163;refine HI.out.mono ?_;rintro e W2 ⟨rfl,rfl⟩)|(go_at_call 141;refine HA.out.mono ?_;rintro e W2 ⟨rfl,hb⟩)
   go_ret
   exact⟨by rw[HV.out];rfl,Below.chain HB.out hb⟩
end Go.Proofs.YtlbipokkdiiaiaaGreatDoor
