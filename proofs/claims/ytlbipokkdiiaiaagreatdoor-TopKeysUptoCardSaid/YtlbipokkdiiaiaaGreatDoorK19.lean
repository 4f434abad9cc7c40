/- Lemmas for TopKeysUpto: F69, F51, F52, F45, F46, F47. -/
import Derived.Test.YtlbipokkdiiaiaaGreatDoorK18
import Derived.Test.YtlbipokkdiiaiaaGreatDoorK17
import Derived.Test.YtlbipokkdiiaiaaGreatDoorK12
open List renaming setIfInBounds_toArray → sA, set_cons_zero → sB, set_cons_succ → sC
namespace Go.Proofs.YtlbipokkdiiaiaaGreatDoor
open Go.RowKit Exec Go.Shelf
set_option maxRecDepth 100000
attribute [local go_sem] Oper.semAt_some
theorem dc:cY 72 7:=⟨_,Tryz.underlying72,rfl,by kernel_rfl⟩
theorem e7:∀(ds:List (Option Tmp)) (vs:List (Option Value)) (a:Act) (t:Tmp),some t∉ds→(cQ a ds vs).tmps[t]?=a.tmps[t]?
 |[],vs,a,t,_=>by cases vs<;>rfl
 |d::ds,[],a,t,_=>rfl
 |d::ds,none::vs,a,t,h=>by
  simp only[cQ]
  exact e7 ds vs a t fun e=>h (List.mem_cons_of_mem _ e)
 |d::ds,some v::vs,a,t,h=>by
  simp only[cQ]
  rw[e7 ds vs (a.put d v) t fun e=>h (List.mem_cons_of_mem _ e)]
  cases d with
  |none=>rfl
  |some x=>
   have:x≠t:=fun e=>h (e▸List.mem_cons_self ..)
   simp only[Act.put,Array.getElem?_setIfInBounds]
   rw[if_neg this]
structure lV (B:Nat) (x:fW) (st:List (Option Value)) (w:World):Prop where
 a:∀v,st[0]?=some (some v)→w.ownsRow B 9 1 v x.ins.length (ag x.ins)
 b:∀v,st[1]?=some (some v)→w.ownsRow B 9 1 v x.asks.length (ag x.asks)
 c:∀v,st[2]?=some (some v)→w.ownsRow B 9 1 v x.outs.length (ag x.outs)
 d:∀i v,3≤i→st[i]?=some (some v)→∃k,v=.pointer (some ⟨k,0,none⟩)∧B≤k∧w.heap[k]?=some (.cells #[.slice none 0 0] 46 (0,0))
 e:∀i j v,3≤i→3≤j→st[i]?=some (some v)→st[j]?=some (some v)→i=j
theorem lV.below {B:Nat} {x:fW} {st:List (Option Value)} {w w':World} (h:lV B x st w) (hb:Below w.heap.size w w'):lV B x st w':=
 ⟨fun v hv=>aS (h.a v hv) hb (Nat.le_refl _),fun v hv=>aS (h.b v hv) hb (Nat.le_refl _),fun v hv=>aS (h.c v hv) hb (Nat.le_refl _),fun i v hi hv=>by
  obtain⟨k,h1,h2,h3⟩:=h.d i v hi hv
  exact⟨k,h1,h2,(hb.block k (lx (hid h3))).trans h3⟩,h.e⟩
theorem aW {st:List (Option Value)} {n i:Nat} {v u:Value} (hn:st[n]?=some none) (h:(st.set n (some v))[i]?=some (some u)):(i=n∧u=v)∨(i≠n∧st[i]?=some (some u)):=by
 by_cases e:i=n
 ·subst e
  have hl:i<st.length:=(List.getElem?_eq_some_iff.1 hn).1
  rw[List.getElem?_set_self hl] at h
  exact .inl ⟨rfl,by cases h;rfl⟩
 ·rw[List.getElem?_set_ne (Ne.symm e)] at h
  exact .inr ⟨e,h⟩
theorem lV.call {B:Nat} {x:fW} {st:List (Option Value)} {w w':World} (h:lV B x st w) (hb:Below w.heap.size w w') (n:Nat) (hn3:n<3) (hn:st[n]?=some none) (v:Value)
 (hv:w'.ownsRow B 9 1 v (match n with|0=>x.ins|1=>x.asks|_=>x.outs).length (ag (match n with|0=>x.ins|1=>x.asks|_=>x.outs))):lV B x (st.set n (some v)) w':=by
 have h2:=h.below hb
 refine⟨fun u hu=>?_,fun u hu=>?_,fun u hu=>?_,fun i u hi hu=>?_,fun i j u hi hj h3 h4=>?_⟩
 ·rcases aW hn hu with⟨rfl,rfl⟩|⟨-,h1⟩
  ·exact hv
  ·exact h2.a u h1
 ·rcases aW hn hu with⟨rfl,rfl⟩|⟨-,h1⟩
  ·exact hv
  ·exact h2.b u h1
 ·rcases aW hn hu with⟨rfl,rfl⟩|⟨-,h1⟩
  ·exact hv
  ·exact h2.c u h1
 ·rcases aW hn hu with⟨rfl, -⟩|⟨-,h1⟩
  ·omega
  ·exact h2.d i u hi h1
 ·rcases aW hn h3 with⟨rfl, -⟩|⟨-,h5⟩
  ·omega
  ·rcases aW hn h4 with⟨rfl, -⟩|⟨-,h6⟩
   ·omega
   ·exact h.e i j u hi hj h5 h6
theorem lV.box {B:Nat} {x:fW} {st:List (Option Value)} {w:World} (h:lV B x st w) (hB:B≤w.heap.size) (n:Nat) (hn3:3≤n) (hn:st[n]?=some none):
 lV B x (st.set n (some (.pointer (some ⟨w.heap.size,0,none⟩)))) (w.alloc (.cells #[.slice none 0 0] 46)):=by
 have hb:=ab w (.cells #[.slice none 0 0] 46)
 have h2:=h.below hb
 have aH:∀i v,3≤i→st[i]?=some (some v)→v≠.pointer (some ⟨w.heap.size,0,none⟩):=fun i v hi hv e=>by
  obtain⟨k,h1, -,h3⟩:=h.d i v hi hv
  rw[e] at h1
  have:w.heap.size=k:=by simpa using h1
  have:=lx (hid h3)
  omega
 refine⟨fun u hu=>?_,fun u hu=>?_,fun u hu=>?_,fun i u hi hu=>?_,fun i j u hi hj h3 h4=>?_⟩
 ·rcases aW hn hu with⟨h1, -⟩|⟨-,h1⟩
  ·omega
  ·exact h2.a u h1
 ·rcases aW hn hu with⟨h1, -⟩|⟨-,h1⟩
  ·omega
  ·exact h2.b u h1
 ·rcases aW hn hu with⟨h1, -⟩|⟨-,h1⟩
  ·omega
  ·exact h2.c u h1
 ·rcases aW hn hu with⟨-,rfl⟩|⟨-,h1⟩
  ·exact⟨_,rfl,hB,heap_alloc_new w _⟩
  ·exact h2.d i u hi h1
 ·rcases aW hn h3 with⟨rfl,rfl⟩|⟨-,h5⟩
  ·rcases aW hn h4 with⟨rfl, -⟩|⟨-,h6⟩
   ·rfl
   ·exact absurd rfl (aH j _ hj h6)
  ·rcases aW hn h4 with⟨rfl,rfl⟩|⟨-,h6⟩
   ·exact absurd rfl (aH i _ hi h5)
   ·exact h.e i j u hi hj h5 h6
theorem zgr (B:Nat) (x:fW) (w:World):lV B x [none,none,none,none,none,none] w:=by
 have h:∀(i:Nat) (v:Value),([none,none,none,none,none,none]:List (Option Value))[i]?≠some (some v):=fun i v=>by
  match i with
  |0=>simp
  |1=>simp
  |2=>simp
  |3=>simp
  |4=>simp
  |5=>simp
  |n+6=>simp
 exact⟨fun v hv=>absurd hv (h _ _),fun v hv=>absurd hv (h _ _),fun v hv=>absurd hv (h _ _),fun i v _ hv=>absurd hv (h _ _),fun i j v _ _ hv=>absurd hv (h _ _)⟩
set_option maxHeartbeats 8000000 in
theorem zgu (x:dW) (w:World) (hx:fe w x) (hs:dU x.l) (hm:bE w):
 Calls Tryz.prog 156 #[.agg x.cells.toArray] w fun e w'=>∃mv,e=.returned mv∧Below w.heap.size w w'∧∀E:Nat→Prop,(∀j,E j→j≠0∧¬(w.heap.size≤j∧j<w'.heap.size))→qc E (jA x.l.ins x.l.asks x.l.outs) mv w':=by
 have HX:=hid hx
 have HS:=hid hs
 have HM:=hid hm
 clear hx hs hm
 go_enter Tryz.func156,Tryz.ntmps156
 go_upto_region 1 with(refine cI dc ?_;intro W1 hb1 hn1 hs1)
 have k3:W1.cell? ⟨w.heap.size,4,none⟩=some x.iv:=(cell_of_row _ _ 4 _ _ _ hn1).trans rfl
 have k4:W1.cell? ⟨w.heap.size,5,none⟩=some x.av:=(cell_of_row _ _ 5 _ _ _ hn1).trans rfl
 have k5:W1.cell? ⟨w.heap.size,6,none⟩=some x.ov:=(cell_of_row _ _ 6 _ _ _ hn1).trans rfl
 have HB1:=hid hb1
 clear hb1 hn1
 refine aG (fun W=>W.cell? ⟨w.heap.size,4,none⟩=some x.iv∧W.cell? ⟨w.heap.size,5,none⟩=some x.av∧W.cell? ⟨w.heap.size,6,none⟩=some x.ov) 12 (by kernel_rfl) ?_
 intro wq hwq
 have hS:∀W,Below wq.heap.size wq W→W.cell? ⟨w.heap.size,4,none⟩=some x.iv∧W.cell? ⟨w.heap.size,5,none⟩=some x.av∧W.cell? ⟨w.heap.size,6,none⟩=some x.ov:=fun W hW=>⟨Below.keeps hW (Below.keeps hwq k3),Below.keeps hW (Below.keeps hwq k4),Below.keeps hW (Below.keeps hwq k5)⟩
 have hS0:=hS wq (Below.refl _ _)
 refine zfq 0 (some 6) (hi:=rfl) (.inr hS0) ?_
 apply Exists.intro
 refine⟨fun W=>?_,?_⟩
 ·go_simp
  try rfl
 try simp only[Act.put,sA,sB,sC]
 refine zfs 1 (some 7) (hi:=rfl) hS0 ?_
 apply Exists.intro
 refine⟨fun W hW=>?_,?_⟩
 ·have e1:=hW.1
  go_simp
  try rfl
 try simp only[Act.put,sA,sB,sC]
 refine zfq 3 (some 9) (hi:=rfl) (.inr hS0) ?_
 apply Exists.intro
 refine⟨fun W=>?_,?_⟩
 ·go_simp
  try rfl
 try simp only[Act.put,sA,sB,sC]
 refine zfP 4 8 5 (some 10) (hi:=rfl) hS0 ?_
 apply Exists.intro
 refine⟨fun W hW=>?_,?_⟩
 ·have e1:=hW.2.1
  go_simp
  try rfl
 try simp only[Act.put,sA,sB,sC]
 refine zfq 6 (some 12) (hi:=rfl) (.inr hS0) ?_
 apply Exists.intro
 refine⟨fun W=>?_,?_⟩
 ·go_simp
  try rfl
 try simp only[Act.put,sA,sB,sC]
 refine zfz 7 8 (some 13) (hi:=rfl) hS0 ?_
 apply Exists.intro
 refine⟨fun W hW=>?_,?_⟩
 ·have e1:=hW.2.2
  go_simp
  try rfl
 try simp only[Act.put,sA,sB,sC]
 generalize hA:({tmps:=#[Value.agg x.cells.toArray,Value.pointer (some {block:=w.heap.size,off:=0}),Value.nilFunc,undef,undef,undef,Value.pointer (some {block:=w.heap.size,off:=4}),x.iv,undef,Value.pointer (some {block:=w.heap.size,off:=5}),x.av,undef,Value.pointer (some {block:=w.heap.size,off:=6}),x.ov,undef,undef],defers:=[]}:Act)=A0
 refine(show WL Tryz.prog _ _ _ 12 (3+6) (gS _ [2,5,8,9,10,11] (([none,none,none,none,none,none]:List (Option Value)).map Option.isSome)) (cQ A0 [some 8,some 11,some 14,some 3,some 4,some 5] [none,none,none,none,none,none]) wq from
  rE [2,5,8,9,10,11] [some 8,some 11,some 14,some 3,some 4,some 5] [[],[0],[1],[],[],[]] (lV w.heap.size x.l) 3 _ A0 wq hS (by simp[lH]) rfl (by decide) (by kernel_rfl) ?step ?fin 6 [none,none,none,none,none,none] wq rfl rfl rfl (Below.refl _ _) (zgr _ _ _))
 case step=>
  intro n hn st w' hl hb hr hsn hdep
  have hwB:w.heap.size≤w'.heap.size:=by have:=HB1.out.size;have:=hwq.size;have:=hb.size;omega
  have hb2:=(Below.chain HB1.out hwq).trans (hb.mono (by have:=HB1.out.size;have:=hwq.size;omega))
  match n,hn,hsn with
  |0,_,hsn=>
   refine⟨_,rfl,rfl,by kernel_rfl,fun K hK=>?_⟩
   have hg:=e7 [some 8,some 11,some 14,some 3,some 4,some 5] st A0 7 (by decide)
   have HK:=hid hK
   clear hK
   generalize cQ A0 [some 8,some 11,some 14,some 3,some 4,some 5] st=A at *
   have HC:=hid (kQ x.iv x.l.ins w' (HX.out.ins.below hb2) (by have:=HS.out.ins;omega))
   rw[←hA] at hg
   go_simp
   refine HC.out.mono ?_
   rintro e W2 ⟨v,rfl,ho,hb3⟩
   exact HK.out v W2 hb3 (hr.call hb3 0 (by omega) hsn v (aK ho hwB))
  |1,_,hsn=>
   refine⟨_,rfl,rfl,by kernel_rfl,fun K hK=>?_⟩
   have hg:=e7 [some 8,some 11,some 14,some 3,some 4,some 5] st A0 10 (by decide)
   have HK:=hid hK
   clear hK
   generalize cQ A0 [some 8,some 11,some 14,some 3,some 4,some 5] st=A at *
   have HC:=hid (kQ x.av x.l.asks w' (HX.out.asks.below hb2) (by have:=HS.out.asks;omega))
   rw[←hA] at hg
   go_simp
   refine HC.out.mono ?_
   rintro e W2 ⟨v,rfl,ho,hb3⟩
   exact HK.out v W2 hb3 (hr.call hb3 1 (by omega) hsn v (aK ho hwB))
  |2,_,hsn=>
   refine⟨_,rfl,rfl,by kernel_rfl,fun K hK=>?_⟩
   have hg:=e7 [some 8,some 11,some 14,some 3,some 4,some 5] st A0 13 (by decide)
   have HK:=hid hK
   clear hK
   generalize cQ A0 [some 8,some 11,some 14,some 3,some 4,some 5] st=A at *
   have HC:=hid (kQ x.ov x.l.outs w' (HX.out.outs.below hb2) (by have:=HS.out.outs;omega))
   rw[←hA] at hg
   go_simp
   refine HC.out.mono ?_
   rintro e W2 ⟨v,rfl,ho,hb3⟩
   exact HK.out v W2 hb3 (hr.call hb3 2 (by omega) hsn v (aK ho hwB))
  |3,_,hsn=>
   refine⟨_,rfl,rfl,by kernel_rfl,fun K hK=>?_⟩
   have HK:=hid hK
   clear hK
   generalize cQ A0 [some 8,some 11,some 14,some 3,some 4,some 5] st=A at *
   go_simp
   exact HK.out _ _ (ab w' _) (hr.box hwB 3 (by omega) hsn)
  |4,_,hsn=>
   refine⟨_,rfl,rfl,by kernel_rfl,fun K hK=>?_⟩
   have HK:=hid hK
   clear hK
   generalize cQ A0 [some 8,some 11,some 14,some 3,some 4,some 5] st=A at *
   go_simp
   exact HK.out _ _ (ab w' _) (hr.box hwB 4 (by omega) hsn)
  |5,_,hsn=>
   refine⟨_,rfl,rfl,by kernel_rfl,fun K hK=>?_⟩
   have HK:=hid hK
   clear hK
   generalize cQ A0 [some 8,some 11,some 14,some 3,some 4,some 5] st=A at *
   go_simp
   exact HK.out _ _ (ab w' _) (hr.box hwB 5 (by omega) hsn)
  |n+6,hn,_=>exact absurd hn (by simp)
 case fin=>
  intro st w' hl hall hr hb
  obtain⟨s0,s1,s2,s3,s4,s5,rfl⟩:∃s0 s1 s2 s3 s4 s5,st=[s0,s1,s2,s3,s4,s5]:=by
   match st,hl with
   |[a,b,c,d,e,f],_=>exact⟨a,b,c,d,e,f,rfl⟩
  obtain⟨v0,h0⟩:=hall 0 (by simp)
  obtain⟨v1,h1⟩:=hall 1 (by simp)
  obtain⟨v2,h2⟩:=hall 2 (by simp)
  obtain⟨v3,h3⟩:=hall 3 (by simp)
  obtain⟨v4,h4⟩:=hall 4 (by simp)
  obtain⟨v5,h5⟩:=hall 5 (by simp)
  simp only[List.getElem?_cons_zero,List.getElem?_cons_succ,Option.some.injEq] at h0 h1 h2 h3 h4 h5
  subst h0 h1 h2 h3 h4 h5
  have ra:=hr.a v0 rfl
  have rb:=hr.b v1 rfl
  have rc:=hr.c v2 rfl
  obtain⟨b3,rfl,hB3,hn3⟩:=hr.d 3 v3 (by omega) rfl
  obtain⟨b4,rfl,hB4,hn4⟩:=hr.d 4 v4 (by omega) rfl
  obtain⟨b5,rfl,hB5,hn5⟩:=hr.d 5 v5 (by omega) rfl
  have n34:b3≠b4:=fun e=>by subst e;exact absurd (hr.e 3 4 _ (by omega) (by omega) rfl rfl) (by omega)
  have n35:b3≠b5:=fun e=>by subst e;exact absurd (hr.e 3 5 _ (by omega) (by omega) rfl rfl) (by omega)
  have n45:b4≠b5:=fun e=>by subst e;exact absurd (hr.e 4 5 _ (by omega) (by omega) rfl rfl) (by omega)
  obtain⟨a0,q0,rfl⟩:=ax ra
  obtain⟨a1,q1,rfl⟩:=ax rb
  obtain⟨a2,q2,rfl⟩:=ax rc
  have HBW:=hid ((Below.chain HB1.out hwq).trans (hb.mono (by have:=HB1.out.size;have:=hwq.size;omega)))
  obtain⟨m3,t3⟩:=au hn3 0 (.slice a0 x.l.ins.length q0)
  have hn4':=(t3.foot.block b4 (lx (hid hn4)) (Ne.symm n34)).trans hn4
  have hn5':=(t3.foot.block b5 (lx (hid hn5)) (Ne.symm n35)).trans hn5
  obtain⟨m4,t4⟩:=au hn4' 0 (.slice a1 x.l.asks.length q1)
  have hn5'':=(t4.foot.block b5 (lx (hid hn5')) (Ne.symm n45)).trans hn5'
  obtain⟨m5,t5⟩:=au hn5'' 0 (.slice a2 x.l.outs.length q2)
  have m3':=(t5.foot.block b3 (by have:=lx (hid m3);have:=t4.foot.size;omega) n35).trans ((t4.foot.block b3 (lx (hid m3)) n34).trans m3)
  have m4':=(t5.foot.block b4 (lx (hid m4)) n45).trans m4
  have hne:∀(v:Value) (n:Nat) (l:List Value),w'.ownsRow w.heap.size 9 1 v n l→∀k,v.ownBlock=some k→k≠b3∧k≠b4∧k≠b5:=fun v n l ho k hk=>by
   obtain⟨-,⟨h1, -⟩|⟨b,cap,cur,h1, -,h2, -⟩⟩:=ho
   ·rw[h1] at hk;cases hk
   ·rw[h1] at hk
    have:b=k:=Option.some.inj hk
    subst this
    refine⟨fun e=>?_,fun e=>?_,fun e=>?_⟩
    ·subst e;rw[hn3] at h2;have:=Option.some.inj h2;simp at this
    ·subst e;rw[hn4] at h2;have:=Option.some.inj h2;simp at this
    ·subst e;rw[hn5] at h2;have:=Option.some.inj h2;simp at this
  have hkeep:∀(v:Value) (n:Nat) (l:List Value),w'.ownsRow w.heap.size 9 1 v n l→(((w'.setCell ⟨b3,0,none⟩ (.slice a0 x.l.ins.length q0)).setCell ⟨b4,0,none⟩ (.slice a1 x.l.asks.length q1)).setCell ⟨b5,0,none⟩ (.slice a2 x.l.outs.length q2)).ownsRow w.heap.size 9 1 v n l:=fun v n l ho=>
   aJ ho fun k hk=>by
    obtain⟨e1,e2,e3⟩:=hne v n l ho k hk
    have hk1:=(ho.lt k hk).2
    exact(t5.foot.block k (by have:=t3.foot.size;have:=t4.foot.size;omega) e3).trans ((t4.foot.block k (by have:=t3.foot.size;omega) e2).trans (t3.foot.block k hk1 e1))
  have ka:=hkeep _ _ _ ra
  have kb:=hkeep _ _ _ rb
  have kc:=hkeep _ _ _ rc
  have hbl:=HBW.out.trans (((t3.below hB3).trans (t4.below hB4)).trans (t5.below hB5))
  have c3:w'.cell? ⟨b3,0,none⟩=some (.slice none 0 0):=(cell_of_row _ _ 0 _ _ _ hn3).trans rfl
  have f3:w'.frozen? ⟨b3,0,none⟩=false:=Lib.frozen_of_heap hn3 0
  have c4:(w'.setCell ⟨b3,0,none⟩ (.slice a0 x.l.ins.length q0)).cell? ⟨b4,0,none⟩=some (.slice none 0 0):=(cell_of_row _ _ 0 _ _ _ hn4').trans rfl
  have f4:(w'.setCell ⟨b3,0,none⟩ (.slice a0 x.l.ins.length q0)).frozen? ⟨b4,0,none⟩=false:=Lib.frozen_of_heap hn4' 0
  have c5:((w'.setCell ⟨b3,0,none⟩ (.slice a0 x.l.ins.length q0)).setCell ⟨b4,0,none⟩ (.slice a1 x.l.asks.length q1)).cell? ⟨b5,0,none⟩=some (.slice none 0 0):=(cell_of_row _ _ 0 _ _ _ hn5'').trans rfl
  have f5:((w'.setCell ⟨b3,0,none⟩ (.slice a0 x.l.ins.length q0)).setCell ⟨b4,0,none⟩ (.slice a1 x.l.asks.length q1)).frozen? ⟨b5,0,none⟩=false:=Lib.frozen_of_heap hn5'' 0
  rw[←hA]
  have HALL:=hid (And.intro (And.intro m3' (And.intro m4' m5)) (And.intro ka (And.intro kb (And.intro kc hbl))))
  have HBB:=hid (And.intro hB3 (And.intro hB4 hB5))
  clear hr hall ra rb rc hB3 hn3 hB4 hn4 hB5 hn5 m3 t3 hn4' hn5' m4 t4 hn5'' m5 t5 m3' m4' hne hkeep ka kb kc hbl hS hS0 k3 k4 k5 n34 n35 n45
  simp only[cQ,Act.put,sA,sB,sC]
  refine WL.o 12 (hi:=rfl) ?_
  intro K hK
  go_simp
  refine hK.out _ _ (.inl (by kernel_rfl)) ?_
  clear hK K
  try simp only[Act.put,sA,sB,sC]
  refine WL.o 13 (hi:=rfl) ?_
  intro K hK
  go_simp
  refine hK.out _ _ (.inl (by kernel_rfl)) ?_
  clear hK K
  try simp only[Act.put,sA,sB,sC]
  refine WL.o 14 (hi:=rfl) ?_
  intro K hK
  go_simp
  refine hK.out _ _ (.inl (by kernel_rfl)) ?_
  clear hK K
  try simp only[Act.put,sA,sB,sC]
  refine WL.d ?_
  go_wp2_with fail
  go_ret
  obtain⟨⟨m3,m4,m5⟩,ka,kb,kc,hbl⟩:=HALL.out
  refine⟨_,rfl,hbl,fun E hE=>⟨b5,b3,b4,rfl,fun W hW p hp=>?_⟩⟩
  have hkW:∀(b:Nat) (o:Obj),(((w'.setCell ⟨b3,0,none⟩ (.slice a0 x.l.ins.length q0)).setCell ⟨b4,0,none⟩ (.slice a1 x.l.asks.length q1)).setCell ⟨b5,0,none⟩ (.slice a2 x.l.outs.length q2)).heap[b]?=some o→w.heap.size≤b→W.heap[b]?=some o:=fun b o ho hb=>(hW.block b (lx (hid ho)) (fun e=>(hE b e).2 ⟨hb,lx (hid ho)⟩)).trans ho
  have htx:∀(v:Value) (l:List Txt),l.length≤1500000→(((w'.setCell ⟨b3,0,none⟩ (.slice a0 x.l.ins.length q0)).setCell ⟨b4,0,none⟩ (.slice a1 x.l.asks.length q1)).setCell ⟨b5,0,none⟩ (.slice a2 x.l.outs.length q2)).ownsRow w.heap.size 9 1 v l.length (ag l)→aO W v l:=fun v l hl ho=>dE (ap.of_owns ho (by unfold maxLen;omega)) hW.size fun k hk aH=>hW.block k aH fun e=>(hE k e).2 (ho.lt k hk)
  obtain⟨hB3,hB4,hB5⟩:=HBB.out
  exact zdX b5 b3 b4 x.l.ins x.l.asks x.l.outs _ _ _ p W ((cell_of_row _ _ 0 _ _ _ (hkW _ _ m5 hB5)).trans rfl) ((cell_of_row _ _ 0 _ _ _ (hkW _ _ m3 hB3)).trans rfl) ((cell_of_row _ _ 0 _ _ _ (hkW _ _ m4 hB4)).trans rfl)
   (htx _ _ HS.out.outs kc) (htx _ _ HS.out.ins ka) (htx _ _ HS.out.asks kb) (by have:=HS.out.outs;omega) (by have:=HS.out.ins;omega) (by have:=HS.out.asks;omega) HS.out.al (by omega) ((HM.out.below hbl).go hW (fun e=>(hE 0 e).1 rfl))
section
variable {B g bb wm:Nat} {D E:Nat→Prop} {env:List (Txt×Txt)} {y:ByL} {b:bG} {w:World} {ov mv rv:Value}
theorem jt (h:df B D E g bb wm env y b w ov mv rv) (er:Nat):Calls Tryz.prog 160 #[.pointer (some ⟨bb,0,none⟩),.int .i64 (er:Int)] w fun e w'=>e=.returned (.tuple #[])∧bg bb w w'∧df B D E g bb wm env y (ez b er) w' ov mv rv:=by
 obtain⟨-, -, -, -, -, -,c6,c7⟩:=bi h.at_
 have f6:w.frozen? ⟨bb,6,none⟩=false:=Lib.frozen_of_heap h.at_ 6
 have f7:w.frozen? ⟨bb,7,none⟩=false:=Lib.frozen_of_heap h.at_ 7
 have H:=hid h
 clear h
 go_enter Tryz.func160,Tryz.ntmps160
 go_wp2_with fail
 go_end0
 obtain⟨n1,t1⟩:=au H.out.at_ 6 (.bool true)
 obtain⟨n2,t2⟩:=au n1 7 (.int .i64 (er:Int))
 exact⟨rfl,t1.trans t2,H.out.cells (t1.trans t2) (n2.trans rfl) rfl rfl rfl⟩
theorem sg {W:World} {l:List (Txt×Txt)} {o:Obj} (hm:W.heap[wm]?=some o) (hM:fu cL (wrM l) o) (p:Txt) (c:Bool):
 (Instr.lookup 204 (.map (some wm)) (.string (bs p)) c).run Tryz.prog W=.ok (if c then .tuple #[(wrM l p).getD (.string ⟨#[]⟩),.bool (wrM l p).isSome] else(wrM l p).getD (.string ⟨#[]⟩)) W:=
 hM.look cn hm (t:=204) (e:=9) (by kernel_rfl) (z:=.string ⟨#[]⟩) rfl p c
theorem wE (l:List (Txt×Txt)) (p:Txt):(wrM l p).isSome=l.any fun x=>decide (x.1=p):=by
 unfold wrM
 rw[Option.isSome_map]
 cases hf:l.find? (fun x=>decide (x.1=p)) with
 |none=>
  symm
  rw[Option.isSome_none,List.any_eq_false]
  exact fun x hx=>List.find?_eq_none.1 hf x hx
 |some x=>
  symm
  rw[Option.isSome_some,List.any_eq_true]
  have h0:=List.find?_some hf
  exact⟨x,List.mem_of_find?_eq_some hf,h0⟩
theorem xd (l:List (Txt×Txt)) (p:Txt):∃s:Txt,(wrM l p).getD (.string ⟨#[]⟩)=.string (bs s):=by
 unfold wrM
 cases l.find? (fun x=>decide (x.1=p)) with
 |none=>exact⟨[],rfl⟩
 |some x=>exact⟨x.2,rfl⟩
set_option maxHeartbeats 4000000 in
theorem vH (h:df B D E g bb wm env y b w ov mv rv) (ho:y.outs.length≤2000000) (p d:Txt):Calls Tryz.prog 199 #[.pointer (some ⟨bb,0,none⟩),.string (bs p),.string (bs d)] w fun e w'=>e=.returned (.tuple #[])∧az E w w'∧df B D E g bb wm env y (dx y b p d) w' ov mv rv:=by
 obtain⟨-,c1, -,c3, -⟩:=bi h.at_
 have H:=hid h
 have HF:=hid (jt h 14)
 obtain⟨o,ho1,ho2⟩:=h.wr
 have hlk:=sg ho1 ho2.map p true
 obtain⟨s,hs⟩:=xd b.wrote p
 have hh:(wrM b.wrote p).isSome=b.has p:=wE b.wrote p
 rw[if_pos rfl,hs,hh] at hlk
 have HC:=hid (ip ov y.outs p w h.outs ho)
 have HO:=hid (And.intro ho1 ho2)
 clear h ho1 ho2 hs hh
 cases hb:b.has p with
 |true=>
  rw[hb] at hlk
  have hw:dx y b p d=ez b 14:=by unfold dx;rw[if_pos (.inl hb)]
  rw[hw]
  clear hw hb HC
  go_enter Tryz.func199,Tryz.ntmps199
  go_wp2_with (go_at_call 160;refine HF.out.mono ?_;rintro e W2 ⟨rfl,ht,hB⟩)
  refine bodyPost_ret (results_none rfl _ _ _) rfl ?_
  exact⟨rfl,ht.foot.mono fun j _ e=>e▸H.out.eb,hB⟩
 |false=>
  rw[hb] at hlk
  by_cases hp:p∈y.outs
  ·have hd:decide (p∈y.outs)=true:=decide_eq_true hp
   have hw:dx y b p d={b with wrote:=b.wrote++[(p,d)]}:=by unfold dx;rw[if_neg (by rw[hb];simp[hp])]
   rw[hd] at HC
   rw[hw]
   obtain⟨W9,o',hup,ht,hn,hm'⟩:=zbQ HO.out.1 HO.out.2 p d hb
   have HP:=hid (And.intro ht (And.intro hn hm'))
   clear hw hd hb hp ht hn hm' HF
   go_enter Tryz.func199,Tryz.ntmps199
   go_wp2_with (go_at_call 163;refine HC.out.mono ?_;rintro e W2 ⟨rfl,rfl⟩)
   go_end0
   exact⟨rfl,HP.out.1.foot.mono fun j _ e=>e▸H.out.ew,H.out.wrote HP.out.1 HP.out.2.1 _ HP.out.2.2⟩
  ·have hd:decide (p∈y.outs)=false:=decide_eq_false hp
   have hw:dx y b p d=ez b 14:=by unfold dx;rw[if_pos (.inr hp)]
   rw[hd] at HC
   rw[hw]
   clear hw hd hb hp
   go_enter Tryz.func199,Tryz.ntmps199
   go_wp2_with first|(go_at_call 163;refine HC.out.mono ?_;rintro e W2 ⟨rfl,rfl⟩)|(go_at_call 160;refine HF.out.mono ?_;rintro e W2 ⟨rfl,ht,hB⟩)
   refine bodyPost_ret (results_none rfl _ _ _) rfl ?_
   exact⟨rfl,ht.foot.mono fun j _ e=>e▸H.out.eb,hB⟩
theorem yz (c1:Nat) (p:Txt) (w:World) (hc:w.cell? ⟨c1,0,none⟩=some (.pointer (some ⟨bb,0,none⟩))) (hm:w.cell? ⟨bb,3,none⟩=some (.map (some wm))) (ho:∃o,w.heap[wm]?=some o∧fu cL (wrM b.wrote) o):
 Calls Tryz.prog 200 #[.string (bs p),.pointer (some ⟨c1,0,none⟩)] w fun e w'=>e=.returned (.bool (!b.has p))∧w'=w:=by
 obtain⟨o,ho1,ho2⟩:=ho
 have hlk:=sg ho1 ho2 p true
 obtain⟨s,hs⟩:=xd b.wrote p
 have hh:(wrM b.wrote p).isSome=b.has p:=wE b.wrote p
 rw[if_pos rfl,hs,hh] at hlk
 clear ho1 ho2 hs hh
 generalize b.has p=q at *
 go_enter Tryz.func200,Tryz.ntmps200
 go_wp2_with fail
 go_ret
 exact⟨rfl,rfl⟩
end
section
variable {y:ByL} {b:bG} {d:DoL} {r':aw}
theorem vF (ho:b.over=true):cv y b=none∧mG y b=b:=by
 unfold cv mG
 rw[if_pos ho,if_pos ho]
 exact⟨rfl,rfl⟩
theorem zad (ho:b.over=false) (hn:bP y.env b.run=(d,r')) (hk:d.kind=1) (hm:y.may d.path=false):cv y b=some (ez {b with run:=r'} 13):=by
 unfold cv
 rw[if_neg (by rw[ho];exact Bool.false_ne_true),hn,if_pos hk,if_neg (by rw[hm];exact Bool.false_ne_true)]
theorem zw (ho:b.over=false) (hn:bP y.env b.run=(d,r')) (hk:d.kind=1) (hm:y.may d.path=true):cv y b=none∧mG y b={b with run:=r',asks:=d.path}:=by
 constructor
 ·unfold cv
  rw[if_neg (by rw[ho];exact Bool.false_ne_true),hn,if_pos hk,if_pos hm]
 ·unfold mG
  rw[if_neg (by rw[ho];exact Bool.false_ne_true),hn]
theorem zbG (ho:b.over=false) (hn:bP y.env b.run=(d,r')) (hk:d.kind=2):cv y b=some (dx y {b with run:=r'} d.path d.data):=by
 unfold cv
 rw[if_neg (by rw[ho];exact Bool.false_ne_true),hn,if_neg (by rw[hk];decide),if_pos hk]
theorem zF (ho:b.over=false) (hn:bP y.env b.run=(d,r')) (hk:d.kind=3):cv y b=some (if y.outs.any (fun p=>!b.has p)=true then ez {b with run:=r'} 14 else{b with run:=r',over:=true}):=by
 unfold cv
 rw[if_neg (by rw[ho];exact Bool.false_ne_true),hn,if_neg (by rw[hk];decide),if_neg (by rw[hk];decide),if_pos hk]
theorem vG (ho:b.over=false) (hn:bP y.env b.run=(d,r')) (h1:d.kind≠1) (h2:d.kind≠2) (h3:d.kind≠3):cv y b=some (ez {b with run:=r'} d.why):=by
 unfold cv
 rw[if_neg (by rw[ho];exact Bool.false_ne_true),hn,if_neg h1,if_neg h2,if_neg h3]
theorem vD (p q:Txt):(dx y b p q).run=b.run:=by unfold dx;split<;>rfl
end
theorem zaK {w:World} {x:Nat} {d:DoL} {t:TypeId} (h:w.heap[x]?=some (.cells (doC d).toArray t (0,0))):w.cell? ⟨x,0,none⟩=some (.int .i64 (d.kind:Int))∧w.cell? ⟨x,1,none⟩=some (.string (bs d.path))∧w.cell? ⟨x,2,none⟩=some (.string (bs d.data))∧w.cell? ⟨x,3,none⟩=some (.int .i64 (d.why:Int)):=by
 refine⟨?_,?_,?_,?_⟩<;>exact(cell_of_row _ _ _ _ _ _ h).trans rfl
theorem lx0 {w:World} {x k:Nat} {v:Value} (h:w.cell? ⟨x,k,none⟩=some v):x<w.heap.size:=World.block_lt_of_cell? w _ h
section
variable {B bb:Nat} {E:Nat→Prop} {env:List (Txt×Txt)} {y:ByL} {b:bG} {w:World}
theorem zco {W0 wr W3 W4:World} {E1 E2 E4:Nat→Prop} {b1 b2:bG} (hst:bY (cv y) b b1) (hgb:GoB b1) (hE1:∀j,E1 j→E j∨W0.heap.size≤j) (hfo:az E W0 wr) (hE2:∀j,E2 j→E1 j∨wr.heap.size≤j) (hf3:az E1 wr W3)
 (hs:cv y b1=some b2) (hr:bW b2.run) (hE4:∀j,E4 j→E2 j∨W3.heap.size≤j) (hf4:az E2 W3 W4) (hB:ep B E4 bb env y b2 W4) (hgl:aM B W4):
 muB b2<muB b1∧∃(b3:bG) (E5:Nat→Prop),muB b2=muB b3∧bY (cv y) b b3∧GoB b3∧bW b3.run∧(∀j,E5 j→E j∨W0.heap.size≤j)∧az E W0 W4∧ep B E5 bb env y b3 W4∧aM B W4:=by
 obtain⟨h1,h2, -⟩:=pw y b1 b2 hgb hs
 have z1:=hfo.size
 have z2:=hf3.size
 have hE21:∀j,E2 j→E j∨W0.heap.size≤j:=fun j hj=>by
  rcases hE2 j hj with e|e
  ·exact hE1 j e
  ·exact .inr (by omega)
 refine⟨h2,b2,E4,rfl,hst.tail hs,h1,hr,fun j hj=>?_,(hfo.trans hf3 fun j hj e=>?_).trans hf4 fun j hj e=>?_,hB,hgl⟩
 ·rcases hE4 j hj with e|e
  ·exact hE21 j e
  ·exact .inr (by omega)
 ·rcases hE1 j e with e|e
  ·exact e
  ·omega
 ·rcases hE21 j e with e|e
  ·exact e
  ·omega
set_option maxHeartbeats 8000000 in
theorem rA (h:ep B E bb env y b w) (hg:aM B w) (hb:GoB b) (hok:bW b.run) (hy:y.env=bH env) (hev:∀x∈env,x.2.length≤1000000000000000) (ho:y.outs.length≤2000000):
 Calls Tryz.prog 157 #[.pointer (some ⟨bb,0,none⟩)] w fun e w'=>e=.returned (.tuple #[])∧bW (goB y b).run∧ee B E bb env y (goB y b) w w':=by
 have hb0:=ab w (.cells #[.pointer (some ⟨bb,0,none⟩)] 147)
 have hn0:=heap_alloc_new w (.cells #[.pointer (some ⟨bb,0,none⟩)] 147)
 have H0:=hid (h.below hb0)
 have HG0:=hid (hg.below hb0)
 have HB0:=hid hb0
 have k0:(w.alloc (.cells #[.pointer (some ⟨bb,0,none⟩)] 147)).cell? ⟨w.heap.size,0,none⟩=some (.pointer (some ⟨bb,0,none⟩)):=(cell_of_row _ _ 0 _ _ _ hn0).trans rfl
 have HE:=hid h.db
 have HBL:=hid h.lt
 have hz0:(w.alloc (.cells #[.pointer (some ⟨bb,0,none⟩)] 147)).heap.size=w.heap.size+1:=World.size_alloc _ _
 have HGB:=hid hb
 have HOK:=hid hok
 clear h hg hb0 hn0 hb hok
 go_enter Tryz.func157,Tryz.ntmps157
 go_upto_block 0 with fail
 generalize w.alloc (.cells #[.pointer (some ⟨bb,0,none⟩)] 147)=W0 at *
 have K0:=hid k0
 clear k0
 go_wp2_with fail
 go_loopg [] (muB b) (fun gk wr=>∃(b1:bG) (E1:Nat→Prop),gk=muB b1∧bY (cv y) b b1∧GoB b1∧bW b1.run∧(∀j,E1 j→E j∨W0.heap.size≤j)∧az E W0 wr∧ep B E1 bb env y b1 wr∧aM B wr)
 case atStart=>exact⟨b,E,rfl,.refl _,HGB.out,HOK.out,fun j e=>.inl e,az.refl _ _,H0.out,HG0.out⟩
 case round=>
  obtain⟨b1,E1,rfl,hst,hgb,hrok,hE1,hfo,hbx,hgl⟩:=hrel
  obtain⟨D1,g,wm,ov,mv,rv,hB⟩:=hbx
  have hk:wr.cell? ⟨w.heap.size,0,none⟩=some (.pointer (some ⟨bb,0,none⟩)):=(World.cell?_of_block (hfo.block w.heap.size (by omega) (fun e=>by have:=(HE.out w.heap.size e).2;omega))).trans K0.out
  have hnE:¬E1 w.heap.size:=fun e=>by
   rcases hE1 _ e with e|e
   ·have:=(HE.out _ e).2;omega
   ·omega
  obtain⟨c0,c1,c2,c3,c4,c5,c6,c7⟩:=bi hB.at_
  have HB:=hid hB
  have HST:=hid hst
  have HGB1:=hid hgb
  have HR1:=hid hrok
  have HGL:=hid hgl
  have HEF:=hid (And.intro hE1 hfo)
  clear hB hst hgb hrok hgl hE1 hfo c3 c4 c5 c7
  cases hov:b1.over with
  |true=>
   rw[hov] at c6
   obtain⟨hs0,hh0⟩:=vF (y:=y) hov
   have hgo:goB y b=b1:=by unfold goB;rw[fw HST.out hs0,hh0]
   have HGO:=hid hgo
   clear hgo hs0 hh0
   go_wp2_with fail
   go_end0
   rw[HGO.out]
   exact⟨rfl,HR1.out,ee.ahead HB0.out ⟨E1,HEF.out.1,HEF.out.2,_,_,_,_,_,_,HB.out⟩⟩
  |false=>
   rw[hov] at c6
   have HN:=hid (zY HB.out.run HGL.out HR1.out hev)
   have HOV:=hid hov
   clear hov
   go_upto_region 3 with first|(go_at_call 198;refine HN.out.mono ?_;rintro e W2 ⟨d,r',hnx,hr',hdp,rfl,hgo⟩)|(refine eB (xs:=(doC d).toArray) mL rfl (kC _) ?_;intro W3 hb3 hn3 hs3)
   simp only[Act.put,sA,sB,sC]
   rw[←hy] at hnx
   obtain⟨D2,E2,hE2,hf2,hB2⟩:=HB.out.went hgo
   have hz2:=hf2.size
   have hB3:=hB2.below hb3
   have hf3:az E1 wr W3:=hf2.then hb3
   have hE23:∀j,E2 j→E1 j∨wr.heap.size≤j:=hE2
   have k3:W3.cell? ⟨w.heap.size,0,none⟩=some (.pointer (some ⟨bb,0,none⟩)):=(World.cell?_of_block (hf3.block w.heap.size (lx0 hk) hnE)).trans hk
   obtain⟨d0,d1,d2,d3⟩:=zaK hn3
   obtain⟨a0,a1,a2,a3,a4,a5,a6,a7⟩:=bi hB3.at_
   have hgl3:aM B W3:=HGL.out.go hf3 fun j e=>(HB.out.db j e).1
   have HB3:=hid hB3
   have HF3:=hid (And.intro hE23 hf3)
   have HGL3:=hid hgl3
   have HNX:=hid (And.intro hnx (And.intro hr' hdp))
   have HAPP:=hid (fun(b2:bG) (W4:World) (hs:cv y b1=some b2) (h2:bW b2.run) (E4:Nat→Prop) (h3:∀j,E4 j→E2 j∨W3.heap.size≤j) (h4:az E2 W3 W4) (h5:ep B E4 bb env y b2 W4)=>zco HST.out HGB1.out HEF.out.1 HEF.out.2 hE23 hf3 hs h2 h3 h4 h5 (hgl3.go h4 fun j e=>(hB3.db j e).1))
   have HEND:=hid (fun(b2:bG) (W4:World) (h4:az E2 W3 W4) (h5:ep B E2 bb env y b2 W4)=>ee.ahead HB0.out (ee.then HEF.out.1 HEF.out.2 (ee.then hE23 hf3 ⟨E2,fun j e=>.inl e,h4,h5⟩)))
   clear hgo hb3 hn3 hB2 hB3 hf2 hf3 hE2 hE23 hgl3 hnx hr' hdp HN HB HEF c0 c1 c2 c6 hk hnE hz2 hs3
   by_cases e1:d.kind=1
   ·have E1':((d.kind:Int)==1)=true:=eqT (by omega)
    obtain⟨m1,m2,m3,rfl,hmay⟩:=HB3.out.may
    have HMAY:=hid (fun(W:World) (hb:Below W3.heap.size W3 W)=>hmay W (az.of_below hb) d.path HNX.out.2.2)
    unfold pp at *
    clear hmay
    go_upto_region 6 with fail
    cases hm:y.may d.path with
    |true=>
     obtain⟨hs0,hh0⟩:=zw HOV.out HNX.out.1 e1 hm
     rw[hm] at HMAY
     have hgo:goB y b={b1 with run:=r',asks:=d.path}:=by unfold goB;rw[fw HST.out hs0,hh0]
     have HGO:=hid hgo
     clear hgo hs0 hh0 hm
     refine ar 6 (by kernel_rfl) (by kernel_rfl) ?_
     simp only[List.take_succ_cons,List.take_zero,List.drop_succ_cons,List.drop_zero]
     repeat(refine WQ.step (fun K hK=>?_);go_simp;first|(refine hK _ ?_;clear hK K)|(apply Exists.intro;refine⟨fun W hW=>?_,hK _ ?_⟩;(first|with_reducible rfl|(have y0:=Below.keeps hW k3;have y1:=Below.keeps hW a2;have y2:=Below.keeps hW d1;go_simp;first|rfl|exact⟨rfl,rfl⟩|(simp;done)));clear hK K))
     refine WQ.nil ?_
     intro wt hwt
     go_upto_region 7 with(go_at_call 195;refine(HMAY.out wt hwt).mono ?_;rintro e W4 ⟨rfl,hb4⟩)
     have hb34:=Below.chain hwt hb4
     have hB4:=HB3.out.below hb34
     have k4:=Below.keeps hb34 k3
     have p4:=Below.keeps hb34 d1
     obtain⟨-, -, -, -, -,q5, -, -⟩:=bi hB4.at_
     have f5:W4.frozen? ⟨bb,5,none⟩=false:=Lib.frozen_of_heap hB4.at_ 5
     have HB4:=hid (And.intro hB4 hb34)
     clear hB4 hb34 hwt hb4
     go_wp2_with fail
     refine bodyPost_ret (results_none rfl _ _ _) rfl ?_
     obtain⟨n5,t5⟩:=au HB4.out.1.at_ 5 (.string (bs d.path))
     rw[HGO.out]
     exact⟨rfl,HNX.out.2.1,HEND.out _ _ ((az.of_below HB4.out.2).chain (t5.foot.mono fun j _ e=>e▸HB4.out.1.eb)) ⟨_,_,_,_,_,_,HB4.out.1.cells t5 (n5.trans rfl) rfl rfl rfl⟩⟩
    |false=>
     have hs2:=zad HOV.out HNX.out.1 e1 hm
     rw[hm] at HMAY
     have HS2:=hid hs2
     clear hs2 hm
     refine ar 6 (by kernel_rfl) (by kernel_rfl) ?_
     simp only[List.take_succ_cons,List.take_zero,List.drop_succ_cons,List.drop_zero]
     repeat(refine WQ.step (fun K hK=>?_);go_simp;first|(refine hK _ ?_;clear hK K)|(apply Exists.intro;refine⟨fun W hW=>?_,hK _ ?_⟩;(first|with_reducible rfl|(have y0:=Below.keeps hW k3;have y1:=Below.keeps hW a2;have y2:=Below.keeps hW d1;go_simp;first|rfl|exact⟨rfl,rfl⟩|(simp;done)));clear hK K))
     refine WQ.nil ?_
     intro wt hwt
     go_upto_region 8 with(go_at_call 195;refine(HMAY.out wt hwt).mono ?_;rintro e W4 ⟨rfl,hb4⟩)
     have hb34:=Below.chain hwt hb4
     have hB4:=HB3.out.below hb34
     have k4:=Below.keeps hb34 k3
     have HFL:=hid (jt hB4 13)
     have HB4:=hid (And.intro hB4 hb34)
     clear hB4 hb34 hwt hb4
     go_wp2_with (go_at_call 160;refine HFL.out.mono ?_;rintro e W5 ⟨rfl,t5,hB5⟩)
     have hrr:=HAPP.out _ W5 HS2.out HNX.out.2.1 E2 (fun j e=>.inl e) ((az.of_below HB4.out.2).chain (t5.foot.mono fun j _ e=>e▸HB4.out.1.eb)) ⟨_,_,_,_,_,_,hB5⟩
     go_roundg (muB (ez {b1 with run:=r'} 13))
     case measure=>exact hrr.1
     case rel=>exact hrr.2
   ·have E1':((d.kind:Int)==1)=false:=eqF (by omega)
    by_cases e2:d.kind=2
    ·have E2':((d.kind:Int)==2)=true:=eqT (by omega)
     have HS2:=hid (zbG HOV.out HNX.out.1 e2)
     have HWR:=hid (vH HB3.out ho d.path d.data)
     go_wp2_with (go_at_call 199;refine HWR.out.mono ?_;rintro e W5 ⟨rfl,t5,hB5⟩)
     have hrr:=HAPP.out _ W5 HS2.out (by rw[vD];exact HNX.out.2.1) E2 (fun j e=>.inl e) t5 ⟨_,_,_,_,_,_,hB5⟩
     go_roundg (muB (dx y {b1 with run:=r'} d.path d.data))
     case measure=>exact hrr.1
     case rel=>exact hrr.2
    ·have E2':((d.kind:Int)==2)=false:=eqF (by omega)
     by_cases e3:d.kind=3
     ·have E3':((d.kind:Int)==3)=true:=eqT (by omega)
      have hs2:=zF HOV.out HNX.out.1 e3
      have f6:W3.frozen? ⟨bb,6,none⟩=false:=Lib.frozen_of_heap HB3.out.at_ 6
      go_upto_region 13 with fail
      obtain⟨n6,t6⟩:=au HB3.out.at_ 6 (.bool true)
      have hB4:=HB3.out.cells (b':={b1 with run:=r',over:=true}) t6 (n6.trans rfl) rfl rfl rfl
      have k4:(W3.setCell ⟨bb,6,none⟩ (.bool true)).cell? ⟨w.heap.size,0,none⟩=some (.pointer (some ⟨bb,0,none⟩)):=(World.cell?_of_block (t6.foot.block w.heap.size (lx0 k3) (fun e=>by have:=HBL.out;omega))).trans k3
      have HT6:=hid t6
      generalize W3.setCell ⟨bb,6,none⟩ (.bool true)=W4 at *
      clear n6 t6
      obtain⟨-,r1, -,r3, -, -, -, -⟩:=bi hB4.at_
      have HWR4:=hid hB4.wr
      have HANY:=hid (gL ov y.outs 200 #[.pointer (some ⟨w.heap.size,0,none⟩)] (enters_of Tryz.func200 (by kernel_rfl) rfl) (fun p=>!b1.has p) W4 hB4.outs ho fun W hW s _=>(yz (b:=b1) w.heap.size s W (Below.keeps hW k4) (Below.keeps hW r3) (by
       obtain⟨o,h1,h2⟩:=HWR4.out
       exact⟨o,(hW.block wm (lx (hid h1))).trans h1,h2.map⟩)).mono fun e W' h=>⟨h.1,h.2▸Below.refl _ _⟩)
      have HB4:=hid hB4
      clear hB4 HWR4
      cases hq:y.outs.any (fun p=>!b1.has p) with
      |true=>
       rw[hq] at HANY hs2
       rw[if_pos rfl] at hs2
       have HS2:=hid hs2
       clear hs2 hq
       go_upto_region 14 with(go_at_call 141;refine HANY.out.mono ?_;rintro e W5 ⟨rfl,hb5⟩)
       have k5:=Below.keeps hb5 k4
       have HFL:=hid (jt (HB4.out.below hb5) 14)
       have HB5:=hid hb5
       clear hb5
       go_wp2_with (go_at_call 160;refine HFL.out.mono ?_;rintro e W6 ⟨rfl,t6,hB6⟩)
       have hrr:=HAPP.out _ W6 HS2.out HNX.out.2.1 E2 (fun j e=>.inl e) (((HT6.out.foot.mono fun j _ e=>e▸HB3.out.eb).then HB5.out).chain (t6.foot.mono fun j _ e=>e▸HB3.out.eb)) ⟨_,_,_,_,_,_,hB6⟩
       go_roundg (muB (ez {b1 with run:=r'} 14))
       case measure=>exact hrr.1
       case rel=>exact hrr.2
      |false=>
       rw[hq] at HANY hs2
       rw[if_neg Bool.false_ne_true] at hs2
       have HS2:=hid hs2
       clear hs2 hq
       go_wp2_with (go_at_call 141;refine HANY.out.mono ?_;rintro e W5 ⟨rfl,hb5⟩)
       have hrr:=HAPP.out _ W5 HS2.out HNX.out.2.1 E2 (fun j e=>.inl e) ((HT6.out.foot.mono fun j _ e=>e▸HB3.out.eb).then hb5) ⟨_,_,_,_,_,_,HB4.out.below hb5⟩
       go_roundg (muB {b1 with run:=r',over:=true})
       case measure=>exact hrr.1
       case rel=>exact hrr.2
     ·have E3':((d.kind:Int)==3)=false:=eqF (by omega)
      have HS2:=hid (vG HOV.out HNX.out.1 e1 e2 e3)
      have HFL:=hid (jt HB3.out d.why)
      go_wp2_with (go_at_call 160;refine HFL.out.mono ?_;rintro e W5 ⟨rfl,t5,hB5⟩)
      have hrr:=HAPP.out _ W5 HS2.out HNX.out.2.1 E2 (fun j e=>.inl e) (t5.foot.mono fun j _ e=>e▸HB3.out.eb) ⟨_,_,_,_,_,_,hB5⟩
      go_roundg (muB (ez {b1 with run:=r'} d.why))
      case measure=>exact hrr.1
      case rel=>exact hrr.2
end
end Go.Proofs.YtlbipokkdiiaiaaGreatDoor
namespace Go.Proofs.YtlbipokkdiiaiaaGreatDoor
open Go.RowKit
theorem zcl {s:Txt} {c:bS} (h:gE s=some (some c)) (hs:s.length≤65536):lp c:=by
 have hw:=fd s
 cases hl:cb s with
 |nil=>unfold gE at h;rw[hl] at h;cases h
 |cons x l=>
  rw[hl] at hw
  rw[qe s x l hl] at h
  by_cases h1:x.headD 0=35
  ·rw[if_pos h1] at h;cases h
  rw[if_neg h1] at h
  by_cases h2:x=eK
  ·rw[if_pos h2] at h
   obtain rfl:=Option.some.inj (Option.some.inj h)
   refine⟨.inl ⟨eK,by decide,by rw[h2]⟩,fun y hy=>?_,?_⟩
   ·rw[List.mem_singleton.1 hy]
    exact Nat.le_trans (hw x (List.mem_cons_self ..)).2 hs
   ·show(qd s).length≤65536
    unfold qd
    rw[List.length_drop,List.length_drop]
    omega
  rw[if_neg h2] at h
  split at h
  ·cases h
  ·rename_i h3
   obtain rfl:=Option.some.inj (Option.some.inj h)
   simp only[not_or,Decidable.not_not] at h3
   obtain⟨h3,h4, -⟩:=h3
   refine⟨?_,fun y hy=>Nat.le_trans (hw y hy).2 hs,Nat.zero_le _⟩
   unfold bR at h3 h4
   by_cases e1:x=iA∨x=mS∨x=fj
   ·rw[if_pos e1] at h3
    obtain⟨a,rfl⟩:∃a,l=[a]:=List.length_eq_one_iff.1 (by simp only[List.length_cons] at h3;omega)
    refine .inr (.inl ⟨x,?_,a,rfl⟩)
    rcases e1 with rfl|rfl|rfl<;>decide
   rw[if_neg e1] at h3 h4
   by_cases e2:x=iq
   ·rw[if_pos e2] at h3
    obtain⟨a,b,rfl⟩:∃a b,l=[a,b]:=by
     match l,h3 with
     |[a,b],_=>exact⟨a,b,rfl⟩
     |[],h3=>simp at h3
     |[_],h3=>simp at h3
     |_::_::_::_,h3=>simp only[List.length_cons] at h3;omega
    exact .inr (.inr ⟨a,b,by rw[e2]⟩)
   rw[if_neg e2] at h3 h4
   by_cases e3:x=j7∨x=dN∨x=fG
   ·rw[if_pos e3] at h3
    obtain⟨a,rfl⟩:∃a,l=[a]:=List.length_eq_one_iff.1 (by simp only[List.length_cons] at h3;omega)
    refine .inr (.inl ⟨x,?_,a,rfl⟩)
    rcases e3 with rfl|rfl|rfl<;>decide
   rw[if_neg e3] at h3 h4
   by_cases e4:x=dO∨x=dM∨x=cH∨x=cG∨x=iu
   ·rw[if_pos e4] at h3
    obtain rfl:l=[]:=List.eq_nil_of_length_eq_zero (by simp only[List.length_cons] at h3;omega)
    refine .inl ⟨x,?_,rfl⟩
    rcases e4 with rfl|rfl|rfl|rfl|rfl<;>decide
   rw[if_neg e4] at h4
   exact absurd rfl h4
theorem th (P:bS→Prop):∀(ls:List Txt) (i:Nat),(∀s∈ls,∀c,gE s=some (some c)→P c)→(dL i ls).1.length≤ls.length∧∀c∈(dL i ls).1,P c
 |[],_,_=>⟨Nat.le_refl _,fun c hc=>(List.not_mem_nil hc).elim⟩
 |s::ls,i,h=>by
  obtain⟨h1,h2⟩:=th P ls (i+1) fun s' hs'=>h s' (List.mem_cons_of_mem _ hs')
  rw[qV]
  cases hr:gE s with
  |none=>exact⟨Nat.zero_le _,fun c hc=>(List.not_mem_nil hc).elim⟩
  |some oc=>
   cases oc with
   |none=>exact⟨Nat.le_succ_of_le h1,h2⟩
   |some c=>
    refine⟨Nat.succ_le_succ h1,fun x hx=>?_⟩
    rcases List.mem_cons.1 hx with e|e
    ·rw[e];exact h s (List.mem_cons_self ..) c hr
    ·exact h2 x e
theorem rI {s:Txt} {l:List bS} (h:cJ s=.ok l):l.length≤400∧∀c∈l,lp c:=by
 unfold cJ at h
 split at h
 ·cases h
 ·rename_i hn
  simp only[not_or,Nat.not_lt] at hn
  split at h
  ·cases h
   obtain⟨h1,h2⟩:=th lp (aq s) 0 fun x hx c hc=>zcl hc (Nat.le_trans (bf s x hx) hn.1)
   exact⟨Nat.le_trans h1 hn.2,h2⟩
  ·cases h
open Exec Go.Shelf
attribute [local go_sem] Oper.semAt_some
set_option maxRecDepth 100000
theorem zc7 (a:Option Addr) (n c:Nat) (w:World):Calls Tryz.prog 192 #[.slice a n c] w fun e w'=>e=.returned (.func (.func 238) #[] #[.pointer (some ⟨w.heap.size,0,none⟩)])∧w'=w.alloc (.cells #[.slice a n c] 304):=by
 go_enter Tryz.func192,Tryz.ntmps192
 go_wp2
 go_ret
 exact⟨rfl,rfl⟩
def kD:bS×Value:=(⟨[],[]⟩,.slice none 0 0)
def bkP (ps:List (bS×Value)) (k:Nat):Array Value:=#[.int .i64 (k:Int),.agg (gN (ps.getD k kD)).toArray]
set_option maxHeartbeats 2000000 in
theorem zaw (n:Nat) (hn:1≤n) (l q:Nat) (E:Nat→Prop) (hq:E q) (ls:List (bS×Value)) (a:Option Addr) (c N:Nat) (hN:ls.length≤N) (hl:ls.length≤1000000) (J Jx:List Nat→World→Prop) (W:World)
 (hY:∀pre x W1,x<ls.length→J pre W1→pre.length<N→YieldAt Fence.wide (n-1) Tryz.prog l (bkP ls x) W1 fun e W'=>
  (e=.returned (.bool true)∧J (pre++[x]) W'∧ec E W1 W')∨(e=.returned (.bool false)∧Jx (pre++[x]) W'))
 (hc:W.cell? ⟨q,0,none⟩=some (.slice a ls.length c)) (hr:∀k (hk:k<ls.length),∃b o,a=some ⟨b,o,none⟩∧E b∧W.cell? ⟨b,o+k*2,none⟩=some ls[k].2∧W.cell? ⟨b,o+k*2+1,none⟩=some (.string (bs ls[k].1.rest))) (h0:J [] W):
 CallsIn Fence.wide n Tryz.prog 238 #[.func (.yield l) #[] #[],.pointer (some ⟨q,0,none⟩)] W fun e W'=>(∃v,e=.returned v)∧((∃ys,ys=bk ls.length 0∧J ys W')∨(∃pre,True∧Jx pre W')):=by
 have HR:=hid hr
 clear hr
 refine callsIn_of_wp Tryz.func238 rfl trivial ?_ rfl
 simp only[Tryz.ntmps238,List.size_toArray,List.length_cons,List.length_nil,Nat.reduceAdd,Nat.reduceSub,Array.replicate_succ,Array.replicate_zero,List.push_toArray,List.append_toArray,List.nil_append,List.cons_append]
 gi_wp2
 gi_loopw [3] (fun i wr=>∃k:Nat,k≤ls.length∧i=.int .i64 ((k:Int)-1)∧J (bk ls.length k) wr∧ec E W wr) (fun i _=>(intOf i+1).toNat)
 case atStart=>exact⟨ls.length,Nat.le_refl _,rfl,by rw[vS];exact h0,fun k _=>rfl⟩
 case round=>
  obtain⟨k,hk,rfl,hj,hke⟩:=hrel
  have HK:=hid hke
  have hcq:wr.cell? ⟨q,0,none⟩=some (.slice a ls.length c):=(World.cell?_of_block (hke q hq)).trans hc
  clear hke
  match k,hk with
  |0,_=>
   gi_wp2
   go_end0
   exact⟨⟨_,rfl⟩,.inl ⟨_,rfl,hj⟩⟩
  |k+1,hk=>
   obtain⟨b,o,rfl,hb,hc0,hc1⟩:=HR.out k (by omega)
   have L0:wr.cell? ⟨b,o+k*2,none⟩=some ls[k].2:=(World.cell?_of_block (HK.out b hb)).trans hc0
   have L1:wr.cell? ⟨b,o+k*2+1,none⟩=some (.string (bs ls[k].1.rest)):=(World.cell?_of_block (HK.out b hb)).trans hc1
   have hst:=rL ls.length k (by omega)
   have hpl:(bk ls.length (k+1)).length<N:=by rw[zgB];omega
   obtain⟨fn,tmps,assign,body,hy,hR⟩:=hY (bk ls.length (k+1)) k wr (by omega) hj hpl
   unfold bkP at hy
   rw[js ls kD k (by omega)] at hy
   have HS:=hid hst
   clear hc0 hc1 hst
   obtain⟨x,hx⟩:∃x,x=ls[k]:=⟨_,rfl⟩
   rw[←hx] at L0 L1 hy
   clear hx
   obtain⟨⟨xw,xr⟩,xv⟩:=x
   unfold gN at hy
   simp only at L0 L1 hy
   gi_wp2_with fail
   refine hR.mono ?_
   rintro e W' (⟨rfl,hj',hk'⟩|⟨rfl,hjx⟩)
   ·have HE:=hid (show ec E W W' from fun j ej=>(hk' j ej).trans (HK.out j ej))
    clear hk'
    gi_wp2
    refine⟨⟨k,by omega,by go_num,?_,HE.out⟩,by simp[intOf]⟩
    rw[HS.out]
    exact hj'
   ·gi_wp2
    refine bodyPost_ret (results_none rfl _ _ _) rfl ?_
    exact⟨⟨_,rfl⟩,.inr ⟨_,trivial,hjx⟩⟩
theorem xX (n:Nat) (hn:1≤n) (q:Nat) (E:Nat→Prop) (hq:E q) (ls:List (bS×Value)) (a:Option Addr) (c:Nat) (hl:ls.length≤1000000) (w:World)
 (hc:w.cell? ⟨q,0,none⟩=some (.slice a ls.length c)) (hr:∀k (hk:k<ls.length),∃b o,a=some ⟨b,o,none⟩∧E b∧w.cell? ⟨b,o+k*2,none⟩=some ls[k].2∧w.cell? ⟨b,o+k*2+1,none⟩=some (.string (bs ls[k].1.rest))):
 SeqStopsK Fence.wide n Tryz.prog 238 #[.pointer (some ⟨q,0,none⟩)] (fun x:Fin ls.length=>bkP ls x.val) (ec E) (fun xs=>xs.map (·.val)=bk ls.length 0) (fun _=>True) ls.length w:=by
 intro l J Jx W hb _ _ hY h0
 refine(zaw n hn l q E hq ls a c ls.length (Nat.le_refl _) hl (fun pre W=>∃p:List (Fin ls.length),p.map (·.val)=pre∧J p W) (fun pre W=>∃p:List (Fin ls.length),p.map (·.val)=pre∧Jx p W) W ?_ ?_ ?_ ⟨[],rfl,h0⟩).mono ?_
 ·rintro pre x W1 hx ⟨p,rfl,hJ⟩ bI
  obtain⟨fn,tmps,assign,body,hy,hR⟩:=hY p ⟨x,hx⟩ W1 hJ (by simpa using bI)
  refine⟨fn,tmps,assign,body,hy,hR.mono ?_⟩
  rintro e W' (⟨rfl,h1,h2⟩|⟨rfl,h1⟩)
  ·exact .inl ⟨rfl,⟨p++[⟨x,hx⟩],by simp,h1⟩,h2⟩
  ·exact .inr ⟨rfl,p++[⟨x,hx⟩],by simp,h1⟩
 ·exact Below.keeps hb hc
 ·intro k hk
  obtain⟨b,o,h1,h2,h3,h4⟩:=hr k hk
  exact⟨b,o,h1,h2,Below.keeps hb h3,Below.keeps hb h4⟩
 ·rintro e W' ⟨h1,⟨ys,h2,p,h3,h4⟩|⟨pre, -,p, -,h4⟩⟩
  ·exact⟨h1,.inl ⟨p,h3.trans h2,h4⟩⟩
  ·exact⟨h1,.inr ⟨p,trivial,h4⟩⟩
theorem za {B:Nat} {w:World} {v:Value} {ps:List (bS×Value)} (h:gx B w v ps) (hl:ps.length≤1000000):∃a c,v=.slice a ps.length c∧(∀k,v.ownBlock=some k→B≤k∧k<w.heap.size)∧∀k (hk:k<ps.length),∃b o,a=some ⟨b,o,none⟩∧w.cell? ⟨b,o+k*2,none⟩=some ps[k].2∧w.cell? ⟨b,o+k*2+1,none⟩=some (.string (bs ps[k].1.rest)):=by
 have hr:=cV h.row (by unfold maxLen;omega)
 obtain⟨a0,c0,rfl, -, -, -,hx⟩:=hr.out lw (by omega)
 refine⟨a0,c0,rfl,fun k hk=>h.row.lt k hk,fun k hk=>?_⟩
 obtain⟨b,off,rfl, -,aX⟩:=hx k hk
 obtain⟨h1,h2⟩:=dT (aX k hk)
 obtain⟨h3, -⟩:=dT h2
 exact⟨b,off,rfl,h1,h3⟩
theorem z7 (x:Txt×Txt):∀u∈fg x,u.oneCell'=true:=by
 intro u hu
 simp only[fg,List.mem_cons,List.not_mem_nil,or_false] at hu
 rcases hu with rfl|rfl<;>rfl
set_option maxHeartbeats 1000000 in
theorem t7 (v0:Value) (l:List (Txt×Txt)) (w:World) (h0:aE w 2 fg v0 l) (bI:l.length≤2000000):
 Calls Tryz.prog 154 #[v0] w fun e w'=>∃v,e=.returned v∧w'.ownsRow w.heap.size 209 2 v l.length (l.flatMap fg)∧Below w.heap.size w w':=by
 have h1:∀u∈l.flatMap fg,u.oneCell'=true:=zaV fun x _=>z7 x
 obtain⟨i0,z,hi,hz,hs,hby,hzs⟩:=cW (E:=209) (sz:=2) (by_:=32) (by kernel_rfl)
 have h00:=h0
 obtain⟨a0,c0,rfl,hc0,hm0,hnone, -⟩:=h0.out gR (by omega)
 have q22:∀(w:World) (a:Option Addr) (n c n' c':Nat),(binOp .eql 70 (.slice a n c) (.slice none n' c')).run Tryz.prog w=.ok (.bool a.isNone) w:=fun w a n c n' c'=>Lib.run_eql_slice_nil w _ _ a n c n' c' Tryz.underlying70
 cases a0 with
 |none=>
  have hc:=hnone rfl
  subst hc
  obtain rfl:l=[]:=List.eq_nil_of_length_eq_zero (by omega)
  go_enter Tryz.func154,Tryz.ntmps154
  go_wp2_with fail
  go_ret
  exact⟨_,rfl,⟨rfl,.inl ⟨rfl,rfl⟩⟩,Below.refl _ _⟩
 |some ad=>
  have Hs:=hid h00
  have H1:=hid h1
  clear hnone h00 h0 h1
  go_enter Tryz.func154,Tryz.ntmps154
  go_wp2_with (at_builtin;go_must (refine eH rfl _ _ 70 rfl w.heap.size 209 i0 z 2 32 Tryz.underlying70 hi hz hs hby hzs (by decide) _ 0 [] rfl ?c1 _ l.length (l.flatMap fg) rfl ?c2 ?c3 ?c4 ?c5 ?c6 ?_))
  case c1=>exact World.ownsRow_made w #[] 0 (Nat.le_refl _) (Nat.zero_le _) (by simp)
  case c2=>exact ap.below Hs.out ((Below.refl _ w).alloc (Nat.le_refl _) _) (Nat.le_refl _)
  case c3=>exact H1.out
  case c4=>unfold maxLen;omega
  case c5=>omega
  case c6=>simp
  intro v' w1 hown hgrow
  go_wp2_with fail
  go_ret
  exact⟨v',rfl,by simpa using hown,((Below.refl _ w).alloc (Nat.le_refl _) _).grown hgrow (by simp) (by intro k hk;simp[Value.ownBlock] at hk;omega)⟩
theorem uj {s:Txt} {er:Nat} (h:cJ s=.error er):er=6∨er=3:=by
 unfold cJ at h
 split at h
 ·cases h;exact .inl rfl
 ·split at h
  ·cases h
  ·cases h;exact .inr rfl
def jd (ps:List (bS×Value)) (pre:List Nat):aw:=lO (pre.reverse.map fun x=>(ps.getD x kD).1)
def mc (ps:List (bS×Value)) (B g km z:Nat) (D E:Nat→Prop) (env:List (Txt×Txt)) (w:World) (ev:Value) (pre:List Nat) (W:World):Prop:=
 ∃(D':Nat→Prop) (tv':Value) (cs':List Value),(∀j,D' j→D j∨w.heap.size≤j)∧(∀j,E j→¬D' j)∧z≤W.heap.size∧az D w W∧aN B D' g env (jd ps pre) W tv' ev km 0 [] cs'
theorem mc.own {ps:List (bS×Value)} {B g km z B0:Nat} {D E:Nat→Prop} {env:List (Txt×Txt)} {w:World} {ev:Value} (hB:w.heap.size≤B0) (hkm:km<w.heap.size):OwnFrom B0 (mc ps B g km z D E env w ev):=by
 intro pre A W row ⟨D',tv',cs',h1,h2,hz,h3,h4⟩ hg hr
 exact⟨D',tv',cs',h1,h2,Nat.le_trans hz hg.size,eT h3 hg (fun x hx=>Nat.le_trans hB (hr x hx).1),h4.grown hg (fun x hx=>(hr x hx).2) (fun e=>by have:=(hr _ e).1;omega) (fun h _=>by cases h)⟩
def oY (ps:List (bS×Value)) (B g km z:Nat) (D E:Nat→Prop) (env:List (Txt×Txt)) (w:World) (ev:Value) (pre:List Nat) (bx:Nat) (x:bS×Value) (W:World):Prop:=
 ∃(D':Nat→Prop) (tv':Value) (cs':List Value),(∀j,D' j→D j∨w.heap.size≤j)∧(∀j,E j→¬D' j)∧z≤W.heap.size∧az D w W∧aN B D' g env (jd ps pre) W tv' ev km 0 [] cs'∧¬D' bx∧W.heap[bx]?=some (.cells (gN x).toArray 328 (0,0))
theorem oY.own {ps:List (bS×Value)} {B g km z B0 bx:Nat} {x:bS×Value} {D E:Nat→Prop} {env:List (Txt×Txt)} {w:World} {ev:Value} {pre:List Nat} (hB:w.heap.size≤B0) (hkm:km<w.heap.size) {A W:World} {row:Option Nat} (h:oY ps B g km z D E env w ev pre bx x A) (hg:A.grownBy W row) (hr:∀x,row=some x→B0≤x∧∃o:Obj,A.heap[x]?=some o∧o.isCells=false):oY ps B g km z D E env w ev pre bx x W:=by
 obtain⟨D',tv',cs',h1,h2,hz,h3,h4,h5,h6⟩:=h
 exact⟨D',tv',cs',h1,h2,Nat.le_trans hz hg.size,eT h3 hg (fun x hx=>Nat.le_trans hB (hr x hx).1),h4.grown hg (fun x hx=>(hr x hx).2) (fun e=>by have:=(hr _ e).1;omega) (fun h _=>by cases h),h5,(hg.block bx (lx (hid h6)) (fun e=>by
  obtain⟨-,o,ho,hc⟩:=hr _ e.symm
  rw[h6] at ho
  cases ho
  cases hc)).trans h6⟩
theorem mc.box {ps:List (bS×Value)} {B g km z:Nat} {x:bS×Value} {D E:Nat→Prop} {env:List (Txt×Txt)} {w:World} {ev:Value} {pre:List Nat} {W:World} (h:mc ps B g km z D E env w ev pre W):oY ps B g km z D E env w ev pre W.heap.size x (W.alloc (.cells (gN x).toArray 328)):=by
 obtain⟨D',tv',cs',h1,h2,hz,h3,h4⟩:=h
 have hb:=ab W (.cells (gN x).toArray 328)
 exact⟨D',tv',cs',h1,h2,Nat.le_trans hz hb.size,h3.then hb,h4.below hb,fun e=>by have:=(h4.db _ e).2;omega,heap_alloc_new W _⟩
theorem zdk (ps:List (bS×Value)):(bk ps.length 0).reverse.map (fun x=>(ps.getD x kD).1)=ps.map (·.1):=by
 unfold bk
 rw[List.reverse_reverse,List.drop_zero]
 refine List.ext_getElem (by simp) fun i h1 h2=>?_
 have h3:i<ps.length:=by simpa using h2
 rw[List.getElem_map,List.getElem_map,List.getElem_range,js ps kD i h3]
end Go.Proofs.YtlbipokkdiiaiaaGreatDoor
