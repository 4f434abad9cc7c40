/- Lemmas for TopKeysUpto: F72, F73, F74. -/
import Derived.Test.YtlbipokkdiiaiaaGreatDoorK20
import Derived.Shelf.SlIter.Nil
import Derived.Shelf.SortM.Plain
import Derived.Shelf.SortM.SortNone
import Derived.Ground.GgzProg
import Derived.Ground.SlgmProg
import Derived.Test.YtlbipokkdiiaiaaGreatDoorProg
import Derived.StringKeys
open List renaming setIfInBounds_toArray → sA, set_cons_zero → sB, set_cons_succ → sC
namespace Go.Proofs.YtlbipokkdiiaiaaGreatDoor
open Go.RowKit Exec Go.Shelf
set_option maxRecDepth 100000
attribute [local go_sem] Oper.semAt_some
theorem ql (p:List UInt8) (q:Bool):Tryz.prog.built 100 [(0,.string (bs p)),(1,.bool q)]=some (RdL.cells ⟨p,q,dg0⟩).toArray:=by
 rw[zbz zdo]
 have e:∀q,RdL.cells ⟨q,false,dg0⟩=[]++[Value.string (bs q)]++(.bool false::dgc dg0):=fun q=>rfl
 rw[e,qt (i:=0) (off:=0) (size:=1) (xs:=[.string (bs p)]) rfl rfl rfl rfl rfl]
 have e2:[]++[Value.string (bs p)]++(.bool false::dgc dg0)=[Value.string (bs p)]++[.bool false]++dgc dg0:=rfl
 rw[e2,qt (i:=1) (off:=1) (size:=1) (xs:=[.bool q]) rfl rfl rfl rfl rfl]
 rfl
section
variable {B bb:Nat} {E:Nat→Prop} {env:List (Txt×Txt)} {y:ByL} {b:bG} {w:World}
set_option maxHeartbeats 16000000 in
theorem yU (h:ep B E bb env y b w) (hg:aM B w) (hf:uz y b) (hov:b.over=false) (hok:bW b.run) (hy:y.env=bH env) (hev:∀x∈env,x.2.length≤1000000000000000) (ho:y.outs.length≤2000000) (k:KnL) (hka:k.path=b.asks) (hkd:k.data.length≤65536):
 Calls Tryz.prog 108 #[.pointer (some ⟨bb,0,none⟩),knV k] w fun e w'=>e=.returned (.int .i64 0)∧bW (fY y b k).run∧ee B E bb env y (fY y b k) w w':=by
 obtain⟨f1,f2,f3,f4,f5,f6⟩:=hf.ask hov
 obtain⟨D,g,wm,ov,mv,rv,hB⟩:=h
 have HB:=hid hB
 have HG:=hid hg
 have HFT:=hid (And.intro f1 (And.intro f2 (And.intro f3 (And.intro f4 f6))))
 have HK:=hid hok
 have hrl:b.reads.length<500:=by rw[←hf.kn];exact f4
 have HKN:=hid hf.kn
 obtain⟨kp,ki,kd⟩:=k
 simp only at hka hkd
 subst hka
 unfold knV
 clear hB hg hok f1 f2 f3 f4 f5 f6
 go_enter Tryz.func108,Tryz.ntmps108
 go_upto_block 0 with(refine cI iC ?_;intro W1 hb1 hn1 hs1)
 have hB1:=HB.out.below hb1
 obtain⟨-, -, -, -, -,c5,c6, -⟩:=bi hB1.at_
 rw[hov] at c6
 have k0:W1.cell? ⟨w.heap.size,0,none⟩=some (.string (bs b.asks)):=(cell_of_row _ _ 0 _ _ _ hn1).trans rfl
 have k1:W1.cell? ⟨w.heap.size,1,none⟩=some (.bool ki):=(cell_of_row _ _ 1 _ _ _ hn1).trans rfl
 have k2:W1.cell? ⟨w.heap.size,2,none⟩=some (.string (bs kd)):=(cell_of_row _ _ 2 _ _ _ hn1).trans rfl
 have HS1:=hid hs1
 have HBN:=hid (show bb≠w.heap.size from fun e=>by have:=lx (hid HB.out.at_);omega)
 have HB1:=hid hb1
 have HN1:=hid hn1
 have eas:(b.asks !=b.asks)=false:=bne_self_eq_false _
 have e6:decide (65536<(kd.length:Int))=false:=decide_eq_false (by omega)
 clear hb1 hn1 hB1 hs1
 go_upto_region 3 with fail
 refine aC (by kernel_rfl) (by kernel_rfl) ?_
 repeat(refine WQ.step (fun K hK=>?_);go_simp;first|(refine hK _ ?_;clear hK K)|(apply Exists.intro;refine⟨fun W hW=>?_,hK _ ?_⟩;(first|with_reducible rfl|(have y0:=Below.keeps hW k0;have y1:=Below.keeps hW c5;go_simp;first|rfl|exact⟨rfl,rfl⟩|(simp;done)));clear hK K))
 refine WQ.nil ?_
 intro wq hwq
 have q0:=Below.keeps hwq k0
 have q1:=Below.keeps hwq k1
 have q2:=Below.keeps hwq k2
 have HQ:=hid hwq
 clear hwq k0 k1 k2 c5 c6
 cases ki with
 |false=>
  go_upto_region 8 with first|(refine gw (wD (ql _ _) rfl (by simp only[List.map_toArray,List.map_cons,List.map_nil];rfl)) ?_)|(refine eB (xs:=(RdL.cells ⟨b.asks,false,dg0⟩).toArray) qQ (by rw[List.size_toArray];exact RdL.len _) (RdL.one _) ?_;intro W3 hb3 hn3 hs3)
  simp only[Act.put,sA,sB,sC]
  have hnz:W3.heap[wq.heap.size]?=some (.cells (rdK ⟨b.asks,false,kd⟩).cells.toArray 100 (0,0)):=hn3
  have HZ:=hid hb3
  clear hb3 hn3 hs3
  generalize W3=Wz at *
  have HBZ:=hid (Below.chain (Below.chain HB1.out HQ.out) HZ.out)
  have HBx:=hid (HB.out.below HBZ.out)
  have hzz:=HBZ.out.size
  obtain⟨z0, -, -, -,z4, -, -, -⟩:=bi HBx.out.at_
  have s0:=Below.keeps HZ.out q0
  have s1:=Below.keeps HZ.out q1
  have s2:=Below.keeps HZ.out q2
  have HZN:=hid hnz
  have HGZ:=hid (HG.out.below HBZ.out)
  have hwE:¬E w.heap.size:=fun e=>by have:=(HB.out.db _ e).2;omega
  clear hnz q0 q1 q2
  go_upto_region 10 with fail
  refine aG (fun W=>W.cell? ⟨bb,4,none⟩=some rv∧W.heap[wq.heap.size]?=some (.cells (rdK ⟨b.asks,false,kd⟩).cells.toArray 100 (0,0))) 10 (by kernel_rfl) ?_
  intro wd hwd
  have hS:wd.cell? ⟨bb,4,none⟩=some rv∧wd.heap[wq.heap.size]?=some (.cells (rdK ⟨b.asks,false,kd⟩).cells.toArray 100 (0,0)):=⟨Below.keeps hwd z4,(hwd.block _ (lx HZN)).trans HZN.out⟩
  refine zfq 0 (some 41) (hi:=rfl) (.inr hS) ?_
  apply Exists.intro
  refine⟨fun W=>?_,?_⟩
  ·go_simp
   try rfl
  try simp only[Act.put,sA,sB,sC]
  refine zfq 1 (some 42) (hi:=rfl) (.inr hS) ?_
  apply Exists.intro
  refine⟨fun W=>?_,?_⟩
  ·go_simp
   try rfl
  try simp only[Act.put,sA,sB,sC]
  refine zfq 2 (some 43) (hi:=rfl) (.inr hS) ?_
  apply Exists.intro
  refine⟨fun W=>?_,?_⟩
  ·go_simp
   try rfl
  try simp only[Act.put,sA,sB,sC]
  refine zfq 3 (some 44) (hi:=rfl) (.inr hS) ?_
  apply Exists.intro
  refine⟨fun W=>?_,?_⟩
  ·go_simp
   try rfl
  try simp only[Act.put,sA,sB,sC]
  refine zfz 4 7 (some 45) (hi:=rfl) hS ?_
  apply Exists.intro
  refine⟨fun W hW=>?_,?_⟩
  ·have e1:=hW.1
   go_simp
   try rfl
  try simp only[Act.put,sA,sB,sC]
  refine zfP 5 7 6 (some 46) (hi:=rfl) hS ⟨_,fun W hW=>yh qQ (af hW.2) (RdL.len _) rfl rfl,?_⟩
  try simp only[Act.put,sA,sB,sC]
  refine WL.o 6 (hi:=rfl) ?_
  intro K hK
  refine za6 (xs:=(rdK ⟨b.asks,false,kd⟩).cells.toArray) (e:=100) (sz:=34) (by_:=56) (by omega) (by omega) (by rw[List.size_toArray];exact RdL.len _) Tryz.underlying41 (by kernel_rfl) ?_
  intro W6 hb6 hn6 hs6
  have hbd6:=Below.chain hwd hb6
  have hB6:=HBx.out.below hbd6
  obtain⟨v7,W7,hr7,ho7,hb7,hg7,hat7⟩:=sX RdL.cells (t:=41) (by_:=56) Tryz.underlying41 (by kernel_rfl) RdL.len (by omega) (by omega) (rdK ⟨b.asks,false,kd⟩) (RdL.one _) hB6.rd hn6 (by have:=(hB6.db bb hB6.eb);omega) (by omega)
  obtain⟨E7,hE7,hf7,hB7⟩:=hB6.read ⟨b.asks,false,kd⟩ ho7 hg7 hat7
  have hbb7:W7.heap[bb]?=W6.heap[bb]?:=hg7.block bb (lx (hid hB6.at_)) (fun e=>(hB6.nr bb e.symm).2.1 rfl)
  have p4:W7.cell? ⟨bb,4,none⟩=some rv:=(World.cell?_of_block hbb7).trans (bi hB6.at_).2.2.2.2.1
  have f4:W7.frozen? ⟨bb,4,none⟩=false:=Lib.frozen_of_heap (hbb7.trans hB6.at_) 4
  have hq7:W7.heap[wq.heap.size]?=some (.cells (rdK ⟨b.asks,false,kd⟩).cells.toArray 100 (0,0)):=(hg7.block _ (by have:=lx (hid hS.2);have:=hb6.size;omega) (fun e=>by
   have h9:=(HB.out.rd.lt _ e.symm).2
   have:=HQ.out.size
   have:=HS1.out
   omega)).trans ((hb6.block _ (lx (hid hS.2))).trans hS.2)
  obtain⟨a7,c7,rfl⟩:=ax ho7
  have H7:=hid (And.intro hbd6 (And.intro hE7 (And.intro hf7 hB7)))
  have hS6:=And.intro (Below.keeps hb6 hS.1) ((hb6.block _ (lx (hid hS.2))).trans hS.2)
  have hS7:=And.intro p4 hq7
  clear hbd6 hB6 ho7 hb7 hg7 hat7 hE7 hf7 hB7 hbb7
  refine hK.out _ _ (.inr hS6) ?_
  clear hK K
  try simp only[Act.put,sA]
  refine WL.o 7 (hi:=rfl) ?_
  intro K hK
  refine jg (t:=41) hr7 ?_
  refine hK.out _ _ (.inr hS7) ?_
  clear hK K
  try simp only[Act.put]
  refine WL.o 8 (hi:=rfl) ?_
  intro K hK
  go_simp
  refine hK.out _ _ (.inr hS7) ?_
  clear hK K
  try simp only[Act.put,sA,sB,sC]
  refine WL.o 9 (hi:=rfl) ?_
  intro K hK
  go_simp
  refine hK.out _ _ (.inr hS7) ?_
  clear hK K
  try simp only[Act.put,sA,sB,sC]
  refine WL.o 10 (hi:=rfl) ?_
  intro K hK
  go_simp
  refine hK.out _ _ (.inl (by kernel_rfl)) ?_
  clear hK K
  try simp only[Act.put,sA,sB,sC]
  refine WL.d ?_
  generalize W7.setCell ⟨bb,4,none⟩ (.slice a7 (b.reads.length+1) c7)=W8 at *
  obtain⟨hbd6,hE7,hf7,hB7⟩:=H7.out
  have hEZ:∀j,E7 j→E j∨Wz.heap.size≤j:=fun j hj=>by
   rcases hE7 j hj with e|e
   ·exact .inl e
   ·have:=hbd6.size;exact .inr (by omega)
  have hfZ:az E Wz W8:=(az.of_below hbd6).chain hf7
  have HW8:=hid (And.intro hEZ (And.intro hfZ hB7))
  have t0:W8.cell? ⟨w.heap.size,0,none⟩=some (.string (bs b.asks)):=(World.cell?_of_block (hfZ.block w.heap.size (lx0 s0) hwE)).trans s0
  have t1:=(World.cell?_of_block (a:=⟨w.heap.size,1,none⟩) (hfZ.block w.heap.size (lx0 s0) hwE)).trans s1
  have t2:=(World.cell?_of_block (a:=⟨w.heap.size,2,none⟩) (hfZ.block w.heap.size (lx0 s0) hwE)).trans s2
  obtain⟨g0, -⟩:=bi hB7.at_
  have HG8:=hid (HGZ.out.go hfZ fun j e=>(HB.out.db j e).1)
  clear hbd6 hE7 hf7 hB7 hEZ hfZ z0 z4 s0 s1 s2 hS hS6 hS7 p4 f4 hq7 hn6 hb6 hs6 hwd
  go_upto_region 11 with fail
  refine ar 5 (by kernel_rfl) (by kernel_rfl) ?_
  simp only[List.take_succ_cons,List.take_zero,List.drop_succ_cons,List.drop_zero]
  repeat(refine WQ.step (fun K hK=>?_);go_simp;first|(refine hK _ ?_;clear hK K)|(apply Exists.intro;refine⟨fun W hW=>?_,hK _ ?_⟩;(first|with_reducible rfl|(have y0:=Below.keeps hW t0;have y1:=Below.keeps hW t1;have y2:=Below.keeps hW t2;have y3:=Below.keeps hW g0;go_simp;first|rfl|exact⟨rfl,rfl⟩|(simp;done)));clear hK K))
  refine WQ.nil ?_
  intro wt hwt
  obtain⟨hEZ,hfZ,hB8⟩:=HW8.out
  have hBt:=hB8.below hwt
  obtain⟨r1,r2,r3,r4,r5⟩:=HFT.out
  have HGV:=hid (qu hBt.run (HG8.out.below hwt) HK.out hev r1 ⟨b.asks,false,kd⟩ (by show b.asks=_;exact r2) (by show b.run.knows b.asks=none;exact r3) r4 hkd)
  unfold knV at HGV
  have HBT:=hid (And.intro hBt (And.intro hwt (And.intro hEZ hfZ)))
  clear hBt hwt hEZ hfZ hB8 t0 t1 t2 g0 r1 r2 r3 r4 r5
  go_upto_region 12 with(go_at_call 159;refine HGV.out.mono ?_;rintro e W9 ⟨rfl,hok9,hgo9⟩)
  obtain⟨hBt,hwt,hEZ,hfZ⟩:=HBT.out
  obtain⟨D9,E9,hE9,hf9,hB9⟩:=hBt.went hgo9
  have hgl9:=(HG8.out.below hwt).go hf9 fun j e=>(hBt.db j e).1
  have HGO:=hid (rA (b:={b with reads:=b.reads++[⟨b.asks,false,kd⟩],run:=gD b.run ⟨b.asks,false,kd⟩}) ⟨_,_,_,_,_,_,hB9⟩ hgl9 ⟨by show b.run.known++[⟨b.asks,false,kd⟩]=b.reads++[⟨b.asks,false,kd⟩];rw[HKN.out],fun _=>⟨rfl,HFT.out.2.2.2.2⟩⟩ hok9 hy hev ho)
  have HF9:=hid (And.intro hE9 hf9)
  clear hBt hwt hEZ hfZ hgo9 hE9 hf9 hB9 hgl9 hok9
  go_wp2_with (go_at_call 157;refine HGO.out.mono ?_;rintro e W10 ⟨rfl,hok10,hgo10⟩)
  go_ret
  obtain⟨hBt,hwt,hEZ,hfZ⟩:=HBT.out
  exact⟨rfl,hok10,ee.ahead HBZ.out (ee.then hEZ hfZ (ee.ahead hwt (ee.then HF9.out.1 HF9.out.2 hgo10)))⟩
 |true=>
  go_upto_region 8 with first|(refine gw (wD (ql _ _) rfl (by simp only[List.map_toArray,List.map_cons,List.map_nil];rfl)) ?_)|(refine eB (xs:=(RdL.cells ⟨b.asks,true,dg0⟩).toArray) qQ (by rw[List.size_toArray];exact RdL.len _) (RdL.one _) ?_;intro W3 hb3 hn3 hs3)
  simp only[Act.put,sA,sB,sC]
  clear hs3
  have j2:=Below.keeps hb3 q2
  have hk3:W3.cell? ⟨w.heap.size,1,none⟩=some (.bool true):=Below.keeps hb3 q1
  go_upto_region 9 with fail
  have hbs:=ab W3 (.cells #[.string (bs kd)] 9)
  have hns:=heap_alloc_new W3 (.cells #[.string (bs kd)] 9)
  have HSH:=hid (rR kd _ 1 _ (nR hns) (by omega))
  have HBS:=hid hbs
  have e100:(RdL.cells ⟨b.asks,true,dg0⟩)=[Value.string (bs b.asks),.bool true]++dgc dg0++[]:=by simp[RdL.cells]
  have hn3':W3.heap[wq.heap.size]?=some (.cells ([Value.string (bs b.asks),.bool true]++dgc dg0++[]).toArray 100 (0,0)):=by rw[←e100];exact hn3
  have HN3:=hid hn3'
  clear hbs hns hn3 hn3' e100
  go_upto_region 10 with first|(go_at_call 36;refine HSH.out.mono ?_;rintro e W5 ⟨rfl,hb5⟩;have hn5:=(hb5.block wq.heap.size (by have:=lx HN3;have:=HBS.out.size;omega)).trans ((HBS.out.block wq.heap.size (lx HN3)).trans HN3.out))|(refine zec [.string (bs b.asks),.bool true] (dgc dg0) (dgc (dV kd)) [] uN hn5 (dD _) (dD _) (ng _) ?_;intro W6 ht6 hn6 hs6)
  have hnz:W6.heap[wq.heap.size]?=some (.cells (rdK ⟨b.asks,true,kd⟩).cells.toArray 100 (0,0)):=by
   rw[hn6]
   simp[rdK,RdL.cells]
  have HZ:=hid ((Below.chain hb3 (Below.chain HBS.out hb5)).trans (ht6.below (Nat.le_refl _)))
  clear hb3 hb5 hn5 ht6 hn6 hs6 j2 hk3 HN3 HSH
  generalize W6=Wz at *
  have HBZ:=hid (Below.chain (Below.chain HB1.out HQ.out) HZ.out)
  have HBx:=hid (HB.out.below HBZ.out)
  have hzz:=HBZ.out.size
  obtain⟨z0, -, -, -,z4, -, -, -⟩:=bi HBx.out.at_
  have s0:=Below.keeps HZ.out q0
  have s1:=Below.keeps HZ.out q1
  have s2:=Below.keeps HZ.out q2
  have HZN:=hid hnz
  have HGZ:=hid (HG.out.below HBZ.out)
  have hwE:¬E w.heap.size:=fun e=>by have:=(HB.out.db _ e).2;omega
  clear hnz q0 q1 q2
  go_upto_region 10 with fail
  refine aG (fun W=>W.cell? ⟨bb,4,none⟩=some rv∧W.heap[wq.heap.size]?=some (.cells (rdK ⟨b.asks,true,kd⟩).cells.toArray 100 (0,0))) 10 (by kernel_rfl) ?_
  intro wd hwd
  have hS:wd.cell? ⟨bb,4,none⟩=some rv∧wd.heap[wq.heap.size]?=some (.cells (rdK ⟨b.asks,true,kd⟩).cells.toArray 100 (0,0)):=⟨Below.keeps hwd z4,(hwd.block _ (lx HZN)).trans HZN.out⟩
  refine zfq 0 (some 41) (hi:=rfl) (.inr hS) ?_
  apply Exists.intro
  refine⟨fun W=>?_,?_⟩
  ·go_simp
   try rfl
  try simp only[Act.put,sA,sB,sC]
  refine zfq 1 (some 42) (hi:=rfl) (.inr hS) ?_
  apply Exists.intro
  refine⟨fun W=>?_,?_⟩
  ·go_simp
   try rfl
  try simp only[Act.put,sA,sB,sC]
  refine zfq 2 (some 43) (hi:=rfl) (.inr hS) ?_
  apply Exists.intro
  refine⟨fun W=>?_,?_⟩
  ·go_simp
   try rfl
  try simp only[Act.put,sA,sB,sC]
  refine zfq 3 (some 44) (hi:=rfl) (.inr hS) ?_
  apply Exists.intro
  refine⟨fun W=>?_,?_⟩
  ·go_simp
   try rfl
  try simp only[Act.put,sA,sB,sC]
  refine zfz 4 7 (some 45) (hi:=rfl) hS ?_
  apply Exists.intro
  refine⟨fun W hW=>?_,?_⟩
  ·have e1:=hW.1
   go_simp
   try rfl
  try simp only[Act.put,sA,sB,sC]
  refine zfP 5 7 6 (some 46) (hi:=rfl) hS ⟨_,fun W hW=>yh qQ (af hW.2) (RdL.len _) rfl rfl,?_⟩
  try simp only[Act.put,sA,sB,sC]
  refine WL.o 6 (hi:=rfl) ?_
  intro K hK
  refine za6 (xs:=(rdK ⟨b.asks,true,kd⟩).cells.toArray) (e:=100) (sz:=34) (by_:=56) (by omega) (by omega) (by rw[List.size_toArray];exact RdL.len _) Tryz.underlying41 (by kernel_rfl) ?_
  intro W6 hb6 hn6 hs6
  have hbd6:=Below.chain hwd hb6
  have hB6:=HBx.out.below hbd6
  obtain⟨v7,W7,hr7,ho7,hb7,hg7,hat7⟩:=sX RdL.cells (t:=41) (by_:=56) Tryz.underlying41 (by kernel_rfl) RdL.len (by omega) (by omega) (rdK ⟨b.asks,true,kd⟩) (RdL.one _) hB6.rd hn6 (by have:=(hB6.db bb hB6.eb);omega) (by omega)
  obtain⟨E7,hE7,hf7,hB7⟩:=hB6.read ⟨b.asks,true,kd⟩ ho7 hg7 hat7
  have hbb7:W7.heap[bb]?=W6.heap[bb]?:=hg7.block bb (lx (hid hB6.at_)) (fun e=>(hB6.nr bb e.symm).2.1 rfl)
  have p4:W7.cell? ⟨bb,4,none⟩=some rv:=(World.cell?_of_block hbb7).trans (bi hB6.at_).2.2.2.2.1
  have f4:W7.frozen? ⟨bb,4,none⟩=false:=Lib.frozen_of_heap (hbb7.trans hB6.at_) 4
  have hq7:W7.heap[wq.heap.size]?=some (.cells (rdK ⟨b.asks,true,kd⟩).cells.toArray 100 (0,0)):=(hg7.block _ (by have:=lx (hid hS.2);have:=hb6.size;omega) (fun e=>by
   have h9:=(HB.out.rd.lt _ e.symm).2
   have:=HQ.out.size
   have:=HS1.out
   omega)).trans ((hb6.block _ (lx (hid hS.2))).trans hS.2)
  obtain⟨a7,c7,rfl⟩:=ax ho7
  have H7:=hid (And.intro hbd6 (And.intro hE7 (And.intro hf7 hB7)))
  have hS6:=And.intro (Below.keeps hb6 hS.1) ((hb6.block _ (lx (hid hS.2))).trans hS.2)
  have hS7:=And.intro p4 hq7
  clear hbd6 hB6 ho7 hb7 hg7 hat7 hE7 hf7 hB7 hbb7
  refine hK.out _ _ (.inr hS6) ?_
  clear hK K
  try simp only[Act.put,sA]
  refine WL.o 7 (hi:=rfl) ?_
  intro K hK
  refine jg (t:=41) hr7 ?_
  refine hK.out _ _ (.inr hS7) ?_
  clear hK K
  try simp only[Act.put]
  refine WL.o 8 (hi:=rfl) ?_
  intro K hK
  go_simp
  refine hK.out _ _ (.inr hS7) ?_
  clear hK K
  try simp only[Act.put,sA,sB,sC]
  refine WL.o 9 (hi:=rfl) ?_
  intro K hK
  go_simp
  refine hK.out _ _ (.inr hS7) ?_
  clear hK K
  try simp only[Act.put,sA,sB,sC]
  refine WL.o 10 (hi:=rfl) ?_
  intro K hK
  go_simp
  refine hK.out _ _ (.inl (by kernel_rfl)) ?_
  clear hK K
  try simp only[Act.put,sA,sB,sC]
  refine WL.d ?_
  generalize W7.setCell ⟨bb,4,none⟩ (.slice a7 (b.reads.length+1) c7)=W8 at *
  obtain⟨hbd6,hE7,hf7,hB7⟩:=H7.out
  have hEZ:∀j,E7 j→E j∨Wz.heap.size≤j:=fun j hj=>by
   rcases hE7 j hj with e|e
   ·exact .inl e
   ·have:=hbd6.size;exact .inr (by omega)
  have hfZ:az E Wz W8:=(az.of_below hbd6).chain hf7
  have HW8:=hid (And.intro hEZ (And.intro hfZ hB7))
  have t0:W8.cell? ⟨w.heap.size,0,none⟩=some (.string (bs b.asks)):=(World.cell?_of_block (hfZ.block w.heap.size (lx0 s0) hwE)).trans s0
  have t1:=(World.cell?_of_block (a:=⟨w.heap.size,1,none⟩) (hfZ.block w.heap.size (lx0 s0) hwE)).trans s1
  have t2:=(World.cell?_of_block (a:=⟨w.heap.size,2,none⟩) (hfZ.block w.heap.size (lx0 s0) hwE)).trans s2
  obtain⟨g0, -⟩:=bi hB7.at_
  have HG8:=hid (HGZ.out.go hfZ fun j e=>(HB.out.db j e).1)
  clear hbd6 hE7 hf7 hB7 hEZ hfZ z0 z4 s0 s1 s2 hS hS6 hS7 p4 f4 hq7 hn6 hb6 hs6 hwd
  go_upto_region 11 with fail
  refine ar 5 (by kernel_rfl) (by kernel_rfl) ?_
  simp only[List.take_succ_cons,List.take_zero,List.drop_succ_cons,List.drop_zero]
  repeat(refine WQ.step (fun K hK=>?_);go_simp;first|(refine hK _ ?_;clear hK K)|(apply Exists.intro;refine⟨fun W hW=>?_,hK _ ?_⟩;(first|with_reducible rfl|(have y0:=Below.keeps hW t0;have y1:=Below.keeps hW t1;have y2:=Below.keeps hW t2;have y3:=Below.keeps hW g0;go_simp;first|rfl|exact⟨rfl,rfl⟩|(simp;done)));clear hK K))
  refine WQ.nil ?_
  intro wt hwt
  obtain⟨hEZ,hfZ,hB8⟩:=HW8.out
  have hBt:=hB8.below hwt
  obtain⟨r1,r2,r3,r4,r5⟩:=HFT.out
  have HGV:=hid (qu hBt.run (HG8.out.below hwt) HK.out hev r1 ⟨b.asks,true,kd⟩ (by show b.asks=_;exact r2) (by show b.run.knows b.asks=none;exact r3) r4 hkd)
  unfold knV at HGV
  have HBT:=hid (And.intro hBt (And.intro hwt (And.intro hEZ hfZ)))
  clear hBt hwt hEZ hfZ hB8 t0 t1 t2 g0 r1 r2 r3 r4 r5
  go_upto_region 12 with(go_at_call 159;refine HGV.out.mono ?_;rintro e W9 ⟨rfl,hok9,hgo9⟩)
  obtain⟨hBt,hwt,hEZ,hfZ⟩:=HBT.out
  obtain⟨D9,E9,hE9,hf9,hB9⟩:=hBt.went hgo9
  have hgl9:=(HG8.out.below hwt).go hf9 fun j e=>(hBt.db j e).1
  have HGO:=hid (rA (b:={b with reads:=b.reads++[⟨b.asks,true,kd⟩],run:=gD b.run ⟨b.asks,true,kd⟩}) ⟨_,_,_,_,_,_,hB9⟩ hgl9 ⟨by show b.run.known++[⟨b.asks,true,kd⟩]=b.reads++[⟨b.asks,true,kd⟩];rw[HKN.out],fun _=>⟨rfl,HFT.out.2.2.2.2⟩⟩ hok9 hy hev ho)
  have HF9:=hid (And.intro hE9 hf9)
  clear hBt hwt hEZ hfZ hgo9 hE9 hf9 hB9 hgl9 hok9
  go_wp2_with (go_at_call 157;refine HGO.out.mono ?_;rintro e W10 ⟨rfl,hok10,hgo10⟩)
  go_ret
  obtain⟨hBt,hwt,hEZ,hfZ⟩:=HBT.out
  exact⟨rfl,hok10,ee.ahead HBZ.out (ee.then hEZ hfZ (ee.ahead hwt (ee.then HF9.out.1 HF9.out.2 hgo10)))⟩
end
end Go.Proofs.YtlbipokkdiiaiaaGreatDoor
namespace Go.Proofs
open Go.RowKit Go.Maps Go.Sort Go.Shelf
def zfG:Go.Shelf.Ren:=⟨fun|7=>98|10=>149|n=>n,fun|23=>204|26=>9|3=>9|28=>202|0=>0|27=>201|33=>140|4=>4|n=>n,fun n=>n⟩
theorem zfT:Go.Proofs.SlLaysZ.n7 Tryz.prog zfG:={
 mixed:=by kernel_rfl
 f7:=⟨ "maps.Keys[map[string]string,string,string]",of_decide_eq_true (by kernel_rfl),Tryz.func98.trans (congrArg some (by kernel_rfl))⟩
 f10:=⟨ "maps.Keys[map[string]string,string,string]$1",of_decide_eq_true (by kernel_rfl),Tryz.func149.trans (congrArg some (by kernel_rfl))⟩
 t0:=Tryz.underlying0
 a0:=Tryz.isAgg0
 z0:=Tryz.sizeOf0
 v0:=Tryz.zeroValue0
 t4:=Tryz.underlying4
 a4:=Tryz.isAgg4
 z4:=Tryz.sizeOf4
 v4:=Tryz.zeroValue4
 t23:=Tryz.underlying204
 a23:=Tryz.isAgg204
 z23:=Tryz.sizeOf204
 v23:=Tryz.zeroValue204
 t26:=Tryz.underlying9
 a26:=Tryz.isAgg9
 z26:=Tryz.sizeOf9
 v26:=Tryz.zeroValue9
 t27:=Tryz.underlying201
 a27:=Tryz.isAgg201
 z27:=Tryz.sizeOf201
 v27:=Tryz.zeroValue201
 t28:=Tryz.underlying202
 a28:=Tryz.isAgg202
 z28:=Tryz.sizeOf202
 v28:=Tryz.zeroValue202
 t33:=Tryz.underlying140
 a33:=Tryz.isAgg140
 z33:=Tryz.sizeOf140
 v33:=Tryz.zeroValue140
}
def zfC:Go.Shelf.Ren:=⟨fun|6=>97|8=>147|9=>148|11=>188|13=>190|12=>189|23=>236|24=>237|14=>227|15=>228|16=>229|17=>230|18=>231|19=>232|20=>233|21=>234|22=>235|25=>288|26=>289|27=>290|28=>291|29=>292|30=>293|31=>319|n=>n,fun|26=>9|28=>202|24=>46|0=>0|3=>3|37=>184|48=>250|50=>29|4=>4|40=>357|39=>356|45=>234|5=>5|9=>9|51=>407|55=>411|57=>428|58=>429|33=>140|n=>n,fun n=>n⟩
theorem zgb:Go.Proofs.SlLaysZ.n6 Tryz.prog zfC:={
 mixed:=by kernel_rfl
 f6:=⟨ "slices.Sorted[string]",of_decide_eq_true (by kernel_rfl),Tryz.func97.trans (congrArg some (by kernel_rfl))⟩
 f8:=⟨ "slices.Collect[string]",of_decide_eq_true (by kernel_rfl),Tryz.func147.trans (congrArg some (by kernel_rfl))⟩
 f11:=⟨ "slices.AppendSeq[[]string,string]",of_decide_eq_true (by kernel_rfl),Tryz.func188.trans (congrArg some (by kernel_rfl))⟩
 t0:=Tryz.underlying0
 a0:=Tryz.isAgg0
 z0:=Tryz.sizeOf0
 v0:=Tryz.zeroValue0
 t24:=Tryz.underlying46
 a24:=Tryz.isAgg46
 z24:=Tryz.sizeOf46
 v24:=Tryz.zeroValue46
 t26:=Tryz.underlying9
 a26:=Tryz.isAgg9
 z26:=Tryz.sizeOf9
 v26:=Tryz.zeroValue9
 t28:=Tryz.underlying202
 a28:=Tryz.isAgg202
 z28:=Tryz.sizeOf202
 v28:=Tryz.zeroValue202
 i26:=by kernel_rfl
}
def zfW:Go.Shelf.Ren:=⟨fun|6=>148|8=>190|9=>189|19=>236|20=>237|21=>227|22=>228|23=>229|24=>230|25=>231|26=>232|27=>233|28=>234|29=>235|36=>288|31=>289|32=>290|37=>291|38=>292|39=>293|41=>319|n=>n,fun|27=>46|29=>9|3=>3|32=>184|26=>46|0=>0|44=>250|46=>29|4=>4|36=>357|35=>356|41=>234|5=>5|9=>9|53=>407|57=>411|63=>428|64=>429|n=>n,fun n=>n⟩
theorem zfL:Go.Proofs.SlLaysM.n6 Tryz.prog zfW:={
 mixed:=by kernel_rfl
 f6:=⟨ "slices.Sort[[]string,string]",of_decide_eq_true (by kernel_rfl),Tryz.func148.trans (congrArg some (by kernel_rfl))⟩
 f8:=Tryz.func190.trans (congrArg some (by kernel_rfl))
 f9:=⟨ "slices.pdqsortOrdered[string]",of_decide_eq_true (by kernel_rfl),Tryz.func189.trans (congrArg some (by kernel_rfl))⟩
 f19:=Tryz.func236.trans (congrArg some (by kernel_rfl))
 f20:=Tryz.func237.trans (congrArg some (by kernel_rfl))
 f21:=⟨ "slices.insertionSortOrdered[string]",of_decide_eq_true (by kernel_rfl),Tryz.func227.trans (congrArg some (by kernel_rfl))⟩
 f22:=⟨ "slices.heapSortOrdered[string]",of_decide_eq_true (by kernel_rfl),Tryz.func228.trans (congrArg some (by kernel_rfl))⟩
 f23:=⟨ "slices.breakPatternsOrdered[string]",of_decide_eq_true (by kernel_rfl),Tryz.func229.trans (congrArg some (by kernel_rfl))⟩
 f24:=⟨ "slices.choosePivotOrdered[string]",of_decide_eq_true (by kernel_rfl),Tryz.func230.trans (congrArg some (by kernel_rfl))⟩
 f25:=⟨ "slices.reverseRangeOrdered[string]",of_decide_eq_true (by kernel_rfl),Tryz.func231.trans (congrArg some (by kernel_rfl))⟩
 f26:=⟨ "slices.partialInsertionSortOrdered[string]",of_decide_eq_true (by kernel_rfl),Tryz.func232.trans (congrArg some (by kernel_rfl))⟩
 f27:=⟨ "cmp.Less[string]",of_decide_eq_true (by kernel_rfl),Tryz.func233.trans (congrArg some (by kernel_rfl))⟩
 f28:=⟨ "slices.partitionEqualOrdered[string]",of_decide_eq_true (by kernel_rfl),Tryz.func234.trans (congrArg some (by kernel_rfl))⟩
 f29:=⟨ "slices.partitionOrdered[string]",of_decide_eq_true (by kernel_rfl),Tryz.func235.trans (congrArg some (by kernel_rfl))⟩
 f31:=Tryz.func289.trans (congrArg some (by kernel_rfl))
 f32:=Tryz.func290.trans (congrArg some (by kernel_rfl))
 f36:=⟨ "slices.siftDownOrdered[string]",of_decide_eq_true (by kernel_rfl),Tryz.func288.trans (congrArg some (by kernel_rfl))⟩
 f37:=⟨ "slices.medianAdjacentOrdered[string]",of_decide_eq_true (by kernel_rfl),Tryz.func291.trans (congrArg some (by kernel_rfl))⟩
 f38:=⟨ "slices.medianOrdered[string]",of_decide_eq_true (by kernel_rfl),Tryz.func292.trans (congrArg some (by kernel_rfl))⟩
 f39:=⟨ "cmp.isNaN[string]",of_decide_eq_true (by kernel_rfl),Tryz.func293.trans (congrArg some (by kernel_rfl))⟩
 f41:=⟨ "slices.order2Ordered[string]",of_decide_eq_true (by kernel_rfl),Tryz.func319.trans (congrArg some (by kernel_rfl))⟩
 t0:=Tryz.underlying0
 a0:=Tryz.isAgg0
 z0:=Tryz.sizeOf0
 v0:=Tryz.zeroValue0
 t3:=Tryz.underlying3
 a3:=Tryz.isAgg3
 z3:=Tryz.sizeOf3
 v3:=Tryz.zeroValue3
 t4:=Tryz.underlying4
 a4:=Tryz.isAgg4
 z4:=Tryz.sizeOf4
 v4:=Tryz.zeroValue4
 t5:=Tryz.underlying5
 a5:=Tryz.isAgg5
 z5:=Tryz.sizeOf5
 v5:=Tryz.zeroValue5
 t9:=Tryz.underlying9
 a9:=Tryz.isAgg9
 z9:=Tryz.sizeOf9
 v9:=Tryz.zeroValue9
 t26:=Tryz.underlying46
 a26:=Tryz.isAgg46
 z26:=Tryz.sizeOf46
 v26:=Tryz.zeroValue46
 t27:=Tryz.underlying46
 a27:=Tryz.isAgg46
 z27:=Tryz.sizeOf46
 v27:=Tryz.zeroValue46
 t29:=Tryz.underlying9
 a29:=Tryz.isAgg9
 z29:=Tryz.sizeOf9
 v29:=Tryz.zeroValue9
 t32:=Tryz.underlying184
 a32:=Tryz.isAgg184
 z32:=Tryz.sizeOf184
 v32:=Tryz.zeroValue184
 t35:=Tryz.underlying356
 a35:=Tryz.isAgg356
 z35:=Tryz.sizeOf356
 v35:=Tryz.zeroValue356
 t36:=Tryz.underlying357
 a36:=Tryz.isAgg357
 z36:=Tryz.sizeOf357
 v36:=Tryz.zeroValue357
 t41:=Tryz.underlying234
 a41:=Tryz.isAgg234
 z41:=Tryz.sizeOf234
 v41:=Tryz.zeroValue234
 t44:=Tryz.underlying250
 a44:=Tryz.isAgg250
 z44:=Tryz.sizeOf250
 v44:=Tryz.zeroValue250
 t46:=Tryz.underlying29
 a46:=Tryz.isAgg29
 z46:=Tryz.sizeOf29
 v46:=Tryz.zeroValue29
 t53:=Tryz.underlying407
 a53:=Tryz.isAgg407
 z53:=Tryz.sizeOf407
 v53:=Tryz.zeroValue407
 t57:=Tryz.underlying411
 a57:=Tryz.isAgg411
 z57:=Tryz.sizeOf411
 v57:=Tryz.zeroValue411
 t63:=Tryz.underlying428
 a63:=Tryz.isAgg428
 z63:=Tryz.sizeOf428
 v63:=Tryz.zeroValue428
 t64:=Tryz.underlying429
 a64:=Tryz.isAgg429
 z64:=Tryz.sizeOf429
 v64:=Tryz.zeroValue429
}
theorem zgk (m:Nat):AnyZ.SortsIn Tryz.prog zfC Fence.wide m:=
 ⟨fun blk off cap ss W hH hblk hsz=>callsIn_wide.2 (AnyM.slices_Sort_string zfL blk off cap ss W hH hblk hsz),
  fun p cap W=>callsIn_wide.2 (AnyM.slices_Sort_string_none zfL p cap W)⟩
theorem zfD (mb:Option Nat) (W:World):CallsIn Fence.wide 5 Tryz.prog 98 #[.map mb] W fun e w'=>e=.returned (.func (.func 149) #[] #[.pointer (some ⟨W.heap.size,0,none⟩)])∧w'=W.alloc (.cells #[.map mb] 204):=
 AnyZ.keys_in zfT Fence.wide 5 trivial rfl mb W
set_option maxHeartbeats 1000000 in
theorem zfw {H:Type} (b nn:Nat) (D0:DataW H) (R:Value→Option (DataW H×List MemPlace)) (w:World) (hown:w.ownsMap Tryz.prog 9 R b nn D0) (hmax:Maps.size D0≤maxLen) (hbytes:Maps.size D0*16≤140737488355328):
 CallsIn Fence.wide 5 Tryz.prog 97 #[.func (.func 149) #[] #[.pointer (some ⟨w.heap.size,0,none⟩)]] (w.alloc (.cells #[.map (some b)] 204)) fun e w'=>∃(v:Value) (ss:List (List UInt8)),e=.returned v∧ss.Perm (strKeys D0)∧
  w'.ownsRow (w.alloc (.cells #[.map (some b)] 204)).heap.size 9 1 v ss.length ((ss.mergeSort (fun x y=>decide (x≤y))).map encStr)∧(v=.slice none 0 0↔ss=[])∧Below (w.alloc (.cells #[.map (some b)] 204)).heap.size (w.alloc (.cells #[.map (some b)] 204)) w':=by
 have hbl:=hown.lt
 have hseq:SeqGives Fence.wide 2 Tryz.prog 149 #[.pointer (some ⟨w.heap.size,0,none⟩)] encStr (fun ss=>ss.Perm (strKeys D0)) (Maps.size D0) (w.alloc (.cells #[.map (some b)] 204)):=
  AnyZ.keys_gives (ρ:=zfG) {zfT with} Fence.wide _ trivial rfl (by omega) w.heap.size b nn D0 _ (by simp) (by simp) (by
   obtain⟨es,clock,hb,Ft,hs,hD⟩:=hown
   exact⟨es,clock,(Below.heap_alloc _ _ b hbl).trans hb,Ft,hs,hD⟩)
 exact AnyZ.sorted_in zgb Fence.wide 5 trivial trivial trivial trivial rfl (by omega) (zgk _) (enters_of Tryz.func148 (by kernel_rfl) rfl) 149 #[.pointer (some ⟨w.heap.size,0,none⟩)] trivial (enters_of Tryz.func149 (by kernel_rfl) rfl) _ _ hmax hbytes _ hseq
end Go.Proofs
namespace Go.Proofs.YtlbipokkdiiaiaaGreatDoor
open Go.RowKit Exec Go.Shelf
set_option maxRecDepth 100000
attribute [local go_sem] Oper.semAt_some
theorem tb:cY 51 2:=⟨_,Tryz.underlying51,rfl,by kernel_rfl⟩
def bL (x:List UInt8×List UInt8):List Value:=[.string (bs x.1),.string (bs x.2)]
theorem bF (x:List UInt8×List UInt8):(bL x).length=2:=rfl
theorem ug (x:List UInt8×List UInt8):∀u∈bL x,u.oneCell'=true:=by
 intro u hu
 simp only[bL,List.mem_cons,List.not_mem_nil,or_false] at hu
 rcases hu with rfl|rfl<;>rfl
theorem dX:cY 82 4:=⟨_,Tryz.underlying82,rfl,by kernel_rfl⟩
def cT (k w:Int) (ov rv:Value):List Value:=[.int .i64 k,.int .i64 w,ov,rv]
theorem dR (k w:Int) (ov rv:Value) (h1:ov.oneCell'=true) (h2:rv.oneCell'=true):∀u∈cT k w ov rv,u.oneCell'=true:=by
 intro u hu
 simp only[cT,List.mem_cons,List.not_mem_nil,or_false] at hu
 rcases hu with rfl|rfl|rfl|rfl
 ·rfl
 ·rfl
 ·exact h1
 ·exact h2
def yq:Value→Option (DataW Unit×List MemPlace):=fun _=>some (.nil,[])
noncomputable def wrD (l:List (Txt×Txt)):DataW Unit:=.map ((((wrE l).toArray).toList.map (WideElems.rg Tryz.prog 9 yq)).foldr DataW.insert [])
theorem xg {H:Type} (x:Lit×DataW H):∀l:List (Lit×DataW H),(DataW.insert x l).length=l.length+1
 |[]=>rfl
 |y::r=>by
  unfold DataW.insert
  split
  ·rfl
  ·rw[List.length_cons,xg x r];rfl
theorem qg {H:Type}:∀l:List (Lit×DataW H),(l.foldr DataW.insert []).length=l.length
 |[]=>rfl
 |x::l=>by rw[List.foldr_cons,xg,qg l];rfl
theorem wJ {w:World} {wm:Nat} {l:List (Txt×Txt)} {o:Obj} (hm:w.heap[wm]?=some o) (ho:pJ l o) (hl:l.length≤100000) (hk:∀x∈l,x.1.length≤1000000000):w.ownsMap Tryz.prog 9 yq wm l.length (wrD l)∧Go.Maps.size (wrD l)≤l.length:=by
 obtain⟨rfl,hn⟩:=ho
 have bI:(wrE l).length=l.length:=by simp[wrE]
 refine⟨⟨(wrE l).toArray,l.length,hm,⟨?_,⟨?_,?_,?_⟩,?_⟩,?_,rfl⟩,?_⟩
 ·simp only[List.size_toArray,bI];unfold maxLen;omega
 ·intro x hx
  simp only[wrE,List.mem_map] at hx
  obtain⟨y,hy,rfl⟩:=hx
  exact(List.mem_zipIdx' hy).1
 ·have:((wrE l).toArray.toList.map (·.born))=List.range l.length:=by
   simp only[wrE,List.map_map]
   refine List.ext_getElem (by simp) fun i h1 h2=>?_
   simp
  rw[this]
  exact List.nodup_range
 ·rw[show(wrE l).toArray.toList=wrE l from rfl,tq]
  exact List.pairwise_map.2 (hn.imp fun hab e=>hab (cn.inj _ _ e))
 ·intro x hx
  obtain⟨k,hk1,h1,h2⟩:=jl (l:=l) (by simpa using hx)
  have hy:=Go.WideMaps.keyOf_string_mk (P:=Tryz.prog) (k:=9) Tryz.underlying9 (s:=bs k.1) (by rw[aV];have:=hk k hk1;unfold maxLen;omega)
  exact⟨(_,.nil),by unfold WideElems.rd yq;rw[h1,show cL k.1=Value.string (bs k.1) from rfl,hy];rfl⟩
 ·simp only[List.size_toArray,bI];exact Nat.le_refl _
 ·show(((wrE l).toArray.toList.map (WideElems.rg Tryz.prog 9 yq)).foldr DataW.insert []).length≤l.length
  rw[qg,List.length_map]
  exact Nat.le_of_eq bI
def eQ (l:List (Txt×Txt)) (p:Txt):Txt×Txt:=(p,((l.find? fun x=>decide (x.1=p)).map (·.2)).getD [])
noncomputable def nJ (l:List (Txt×Txt)) (ss:List Txt):List (Txt×Txt):=(ss.mergeSort (fun x y=>decide (x≤y))).map (eQ l)
theorem t8 (l:List (Txt×Txt)) (p:Txt):(wrM l p).getD (.string ⟨#[]⟩)=.string (bs (eQ l p).2):=by
 unfold wrM eQ
 cases l.find? (fun x=>decide (x.1=p))<;>rfl
theorem lE {w:World} {B e sz n k:Nat} {v:Value} {xs:List Value} (h:w.ownsRow B e sz v n xs) (hk:v.ownBlock=some k):B≤k∧∃cur,w.heap[k]?=some (.cells cur e (0,0)):=by
 obtain⟨hl,⟨h1, -⟩|⟨b,cap,cur,h1,hB,hh,hn,hm,hs,ht⟩⟩:=h
 ·rw[h1] at hk;cases hk
 ·rw[h1] at hk
  have:b=k:=Option.some.inj hk
  subst this
  exact⟨hB,cur,hh⟩
theorem de {w:World} {B e sz n k:Nat} {v:Value} {xs:List Value} {c:Array Value} {t:TypeId} {f:Nat×Nat} (h:w.ownsRow B e sz v n xs) (h2:w.heap[k]?=some (.cells c t f)) (ht:t≠e):v.ownBlock≠some k:=fun hk=>by
 obtain⟨-,cur,h1⟩:=lE h hk
 rw[h1] at h2
 injection h2 with h2
 injection h2 with _ h3 _
 exact ht h3.symm
def jP (b:bG):Int:=if b.why=0 then 1 else 2
noncomputable def eL (b:bG) (ss:List Txt):List (Txt×Txt):=if b.why=0 then nJ b.wrote ss else[]
def zd7 (B0:Nat) (b:bG) (w':World) (e:Ending):Prop:=∃(fv rv':Value) (ss:List Txt),e=.returned (.tuple #[.agg (cT (jP b) b.why fv rv').toArray,.bool true])∧ss.Perm (strKeys (wrD b.wrote))∧w'.ownsRow B0 51 2 fv (eL b ss).length ((eL b ss).flatMap bL)∧w'.ownsRow B0 100 34 rv' b.reads.length ((b.reads.map rdK).flatMap RdL.cells)
structure pQ (B n:Nat) (y:Int) (xs:List Value) (st:List (Option Value)) (w:World):Prop where
 a:∀v,st[0]?=some (some v)→w.ownsRow B 100 34 v n xs
 b:∀u,st[1]?=some (some u)→∃v,st[0]?=some (some v)∧u=.agg (cT 2 y (.slice none 0 0) v).toArray
 c:∀u,st[2]?=some (some u)→∃m zs,u=.pointer (some ⟨m,0,none⟩)∧B≤m∧w.heap[m]?=some (.cells zs 82 (0,0))∧zs.size=4
theorem pQ.row {B n:Nat} {y:Int} {xs:List Value} {st:List (Option Value)} {w w':World} (h:pQ B n y xs st w) (hb:Below w.heap.size w w') (hn:st[0]?=some none) (v:Value) (hv:w'.ownsRow B 100 34 v n xs):pQ B n y xs (st.set 0 (some v)) w':=by
 refine⟨fun u hu=>?_,fun u hu=>?_,fun u hu=>?_⟩
 ·rcases aW hn hu with⟨-,rfl⟩|⟨h1, -⟩
  ·exact hv
  ·exact absurd rfl h1
 ·rcases aW hn hu with⟨h1, -⟩|⟨-,h1⟩
  ·cases h1
  ·obtain⟨v,h2, -⟩:=h.b u h1
   rw[hn] at h2
   cases h2
 ·rcases aW hn hu with⟨h1, -⟩|⟨-,h1⟩
  ·cases h1
  ·obtain⟨m,zs,h2,h3,h4,h5⟩:=h.c u h1
   exact⟨m,zs,h2,h3,(hb.block m (lx (hid h4))).trans h4,h5⟩
theorem pQ.bd {B n:Nat} {y:Int} {xs:List Value} {st:List (Option Value)} {w:World} {v:Value} (h:pQ B n y xs st w) (hn:st[1]?=some none) (hv:st[0]?=some (some v)):pQ B n y xs (st.set 1 (some (.agg (cT 2 y (.slice none 0 0) v).toArray))) w:=by
 refine⟨fun u hu=>?_,fun u hu=>?_,fun u hu=>?_⟩
 ·rcases aW hn hu with⟨h1, -⟩|⟨-,h1⟩
  ·cases h1
  ·exact h.a u h1
 ·rcases aW hn hu with⟨-,rfl⟩|⟨h1, -⟩
  ·exact⟨v,(List.getElem?_set_ne (by omega)).trans hv,rfl⟩
  ·exact absurd rfl h1
 ·rcases aW hn hu with⟨h1, -⟩|⟨-,h1⟩
  ·cases h1
  ·exact h.c u h1
theorem pQ.al {B n:Nat} {y:Int} {xs:List Value} {st:List (Option Value)} {w w':World} {zs:Array Value} (h:pQ B n y xs st w) (hB:B≤w.heap.size) (hb:Below w.heap.size w w') (hn:st[2]?=some none) (hz:zs.size=4) (hh:w'.heap[w.heap.size]?=some (.cells zs 82 (0,0))):pQ B n y xs (st.set 2 (some (.pointer (some ⟨w.heap.size,0,none⟩)))) w':=by
 refine⟨fun u hu=>?_,fun u hu=>?_,fun u hu=>?_⟩
 ·rcases aW hn hu with⟨h1, -⟩|⟨-,h1⟩
  ·cases h1
  ·exact aS (h.a u h1) hb (Nat.le_refl _)
 ·rcases aW hn hu with⟨h1, -⟩|⟨-,h1⟩
  ·cases h1
  ·obtain⟨v,h2,h3⟩:=h.b u h1
   exact⟨v,(List.getElem?_set_ne (by omega)).trans h2,h3⟩
 ·rcases aW hn hu with⟨-,rfl⟩|⟨h1, -⟩
  ·exact⟨_,zs,rfl,hB,hh,hz⟩
  ·exact absurd rfl h1
theorem df.rd' {B g bb wm:Nat} {D E:Nat→Prop} {env:List (Txt×Txt)} {y:ByL} {b:bG} {w:World} {ov mv rv:Value} (h:df B D E g bb wm env y b w ov mv rv):w.ownsRow B 100 34 rv (b.reads.map rdK).length ((b.reads.map rdK).flatMap RdL.cells):=by
 rw[List.length_map]
 exact h.rd
theorem WL.gen {P:Program} {ops:Array Oper} {Q:Exit→Act→World→Prop} {S:World→Prop} {k fuel:Nat} {listed:Array Bool} {a:Act} {w:World} (h:∀A:Act,A=a→WL P ops Q S k fuel listed A w):WL P ops Q S k fuel listed a w:=h a rfl
section
variable {B g bb wm:Nat} {D E:Nat→Prop} {env:List (Txt×Txt)} {y:ByL} {b:bG} {w:World} {ov mv rv:Value}
set_option maxHeartbeats 16000000 in
theorem un (h:df B D E g bb wm env y b w ov mv rv) (ho:b.over=true) (hr:b.reads.length≤100000) (hwl:b.wrote.length≤1000) (hwk:∀x∈b.wrote,x.1.length≤1000000000):
 Calls Tryz.prog 107 #[.pointer (some ⟨bb,0,none⟩)] w fun e w'=>zd7 w.heap.size b w' e∧Below w.heap.size w w':=by
 have HB:=hid h
 obtain⟨-, -, -,c3,c4, -,c6,c7⟩:=bi h.at_
 rw[ho] at c6
 have hbl:=lx (hid h.at_)
 clear h
 go_enter Tryz.func107,Tryz.ntmps107
 go_upto_region 1 with first|(refine iK dX ?_;intro zz W0 hzz hb0 hn0 hs0)
 have k6:=Below.keeps hb0 c6
 have k4:=Below.keeps hb0 c4
 have k7:=Below.keeps hb0 c7
 have k3:=Below.keeps hb0 c3
 have HB0:=hid hb0
 have HN0:=hid hn0
 have HS0:=hid hs0
 clear hb0 hn0 hs0 c3 c4 c6 c7
 go_upto_region 3 with fail
 refine aG (fun W=>W.cell? ⟨bb,7,none⟩=some (.int .i64 (b.why:Int))∧W.cell? ⟨bb,4,none⟩=some rv) 9 (by kernel_rfl) ?_
 intro wq hwq
 have hS:∀W,Below wq.heap.size wq W→W.cell? ⟨bb,7,none⟩=some (.int .i64 (b.why:Int))∧W.cell? ⟨bb,4,none⟩=some rv:=fun W hW=>⟨Below.keeps hW (Below.keeps hwq k7),Below.keeps hW (Below.keeps hwq k4)⟩
 have hS0:=hS wq (Below.refl _ _)
 refine zfq 0 (some 13) (hi:=rfl) (.inr hS0) ?_
 apply Exists.intro
 refine⟨fun W=>?_,?_⟩
 ·go_simp
  try rfl
 try simp only[Act.put,sA,sB,sC]
 refine zfq 1 (some 14) (hi:=rfl) (.inr hS0) ?_
 apply Exists.intro
 refine⟨fun W=>?_,?_⟩
 ·go_simp
  try rfl
 try simp only[Act.put,sA,sB,sC]
 refine zfq 2 (some 15) (hi:=rfl) (.inr hS0) ?_
 apply Exists.intro
 refine⟨fun W=>?_,?_⟩
 ·go_simp
  try rfl
 try simp only[Act.put,sA,sB,sC]
 refine zfs 3 (some 16) (hi:=rfl) hS0 ?_
 apply Exists.intro
 refine⟨fun W hW=>?_,?_⟩
 ·have e1:=hW.1
  go_simp
  try rfl
 try simp only[Act.put,sA,sB,sC]
 refine zfq 4 (some 17) (hi:=rfl) (.inr hS0) ?_
 apply Exists.intro
 refine⟨fun W=>?_,?_⟩
 ·go_simp
  try rfl
 try simp only[Act.put,sA,sB,sC]
 refine zfq 5 (some 18) (hi:=rfl) (.inr hS0) ?_
 apply Exists.intro
 refine⟨fun W=>?_,?_⟩
 ·go_simp
  try rfl
 try simp only[Act.put,sA,sB,sC]
 refine zfq 6 (some 19) (hi:=rfl) (.inr hS0) ?_
 apply Exists.intro
 refine⟨fun W=>?_,?_⟩
 ·go_simp
  try rfl
 try simp only[Act.put,sA,sB,sC]
 refine zfz 7 8 (some 20) (hi:=rfl) hS0 ?_
 apply Exists.intro
 refine⟨fun W hW=>?_,?_⟩
 ·have e1:=hW.2
  go_simp
  try rfl
 try simp only[Act.put,sA,sB,sC]
 refine WL.gen ?_
 intro A0 hA
 have HBR:=hid (Below.chain HB0.out hwq)
 have hwz:=hwq.size
 have hz0:=HB0.out.size
 refine(show WL Tryz.prog _ _ _ 9 (1+3) (gS _ [8,9,10] (([none,none,none]:List (Option Value)).map Option.isSome)) (cQ A0 [some 21,some 22,some 4] [none,none,none]) wq from
  rE [8,9,10] [some 21,some 22,some 4] [[],[0],[]] (pQ W0.heap.size b.reads.length b.why ((b.reads.map rdK).flatMap RdL.cells)) 1 _ A0 wq hS (by simp[lH]) rfl (by decide) (by kernel_rfl) ?step ?fin 3 [none,none,none] wq rfl rfl rfl (Below.refl _ _) ⟨fun v hv=>by simp at hv,fun v hv=>by simp at hv,fun v hv=>by simp at hv⟩)
 case step=>
  intro n hn st w' hl hb hr hsn hdep
  have hwB:W0.heap.size≤w'.heap.size:=by have:=hb.size;omega
  have hb2:=Below.chain HBR.out hb
  match n,hn,hsn with
  |0,_,hsn=>
   refine⟨_,rfl,rfl,by kernel_rfl,fun K hK=>?_⟩
   have hg:=e7 [some 21,some 22,some 4] st A0 20 (by decide)
   have HK:=hid hK
   clear hK
   generalize cQ A0 [some 21,some 22,some 4] st=A at *
   have HC:=hid (vC rv (b.reads.map rdK) w' (cV (HB.out.below hb2).rd' (by rw[List.length_map];unfold maxLen;omega)) (fun u hu=>by
    obtain⟨x,hx,hu⟩:=List.mem_flatMap.1 hu
    exact RdL.one x u hu) (by rw[List.length_map];omega))
   rw[hA] at hg
   go_simp
   refine HC.out.mono ?_
   rintro e W4 ⟨v,rfl,ho,hb3⟩
   rw[List.length_map] at ho
   exact HK.out v W4 hb3 (hr.row hb3 hsn v (aK ho hwB))
  |1,_,hsn=>
   refine⟨_,rfl,rfl,by kernel_rfl,fun K hK=>?_⟩
   obtain⟨v,hv⟩:=hdep 0 (by simp)
   obtain⟨s0,s1,s2,rfl⟩:∃s0 s1 s2,st=[s0,s1,s2]:=by
    match st,hl with
    |[a,b,c],_=>exact⟨a,b,c,rfl⟩
   have h0:=hv
   have h1:=hsn
   simp only[List.getElem?_cons_zero,List.getElem?_cons_succ,Option.some.injEq] at h0 h1
   subst h0 h1
   have HK:=hid hK
   have HR:=hid (hr.bd hsn hv)
   obtain⟨a0,q0,rfl⟩:=ax (hr.a v hv)
   clear hK hv hsn hdep hr hS hS0
   rw[hA] at HK ⊢
   cases s2 with
   |none=>
    simp only[cQ,Act.put,sA,sB,sC]
    go_simp
    exact HK.out _ _ (Below.refl _ _) HR.out
   |some u=>
    simp only[cQ,Act.put,sA,sB,sC]
    go_simp
    exact HK.out _ _ (Below.refl _ _) HR.out
  |2,_,hsn=>
   refine⟨_,rfl,rfl,by kernel_rfl,fun K hK=>?_⟩
   have HK:=hid hK
   clear hK
   generalize cQ A0 [some 21,some 22,some 4] st=A at *
   refine s9 dX ?_
   intro zs W4 hzs hb3 hn3 hs3
   exact HK.out _ _ hb3 (hr.al hwB hb3 hsn hzs hn3)
  |n+3,hn,_=>exact absurd hn (by simp)
 case fin=>
  intro st w' hl hall hr hb
  obtain⟨s0,s1,s2,rfl⟩:∃s0 s1 s2,st=[s0,s1,s2]:=by
   match st,hl with
   |[a,b,c],_=>exact⟨a,b,c,rfl⟩
  obtain⟨v0,h0⟩:=hall 0 (by simp)
  obtain⟨v1,h1⟩:=hall 1 (by simp)
  obtain⟨v2,h2⟩:=hall 2 (by simp)
  simp only[List.getElem?_cons_zero,List.getElem?_cons_succ,Option.some.injEq] at h0 h1 h2
  subst h0 h1 h2
  obtain⟨m,zs,rfl,hm1,hm2,hm3⟩:=hr.c v2 rfl
  obtain⟨v,hv,rfl⟩:=hr.b v1 rfl
  obtain rfl:v0=v:=by simpa using hv
  have hro:=hr.a v0 rfl
  obtain⟨a0,q0,rfl⟩:=ax hro
  have hbw:=Below.chain HBR.out hb
  have HF:=hid (And.intro hm1 (And.intro hro hbw))
  rw[hA]
  clear hr hall hm1 hro hbw hS hS0
  simp only[cQ,Act.put,sA,sB,sC]
  refine WL.o 11 (hi:=rfl) ?_
  intro K hK
  refine nG (xs:=(cT 2 b.why (.slice none 0 0) (.slice a0 b.reads.length q0)).toArray) dX hm2 hm3 rfl (dR _ _ _ _ rfl rfl) ?_
  intro W5 ht5 hn5 hs5
  refine hK.out _ _ (.inl (by kernel_rfl)) ?_
  clear hK K
  try simp only[Act.put,sA]
  refine WL.d ?_
  obtain⟨hm1,hro,hbw⟩:=HF.out
  have hs0:=HS0.out
  have hro5:W5.ownsRow w.heap.size 100 34 (.slice a0 b.reads.length q0) b.reads.length ((b.reads.map rdK).flatMap RdL.cells):=aK (aJ hro fun k hk=>ht5.foot.block k (hro.lt k hk).2 (fun e=>de hro hm2 (by decide) (e▸hk))) (by omega)
  have hb5:=hbw.trans (ht5.below (show w.heap.size≤m by omega))
  have HM0:=hid (show m≠w.heap.size by omega)
  have HX:=hid (And.intro (show w.heap.size≤m by omega) (And.intro hro5 hb5))
  have c7:=(bi (HB.out.below hb5).at_).2.2.2.2.2.2.2
  have HN05:=hid (((Below.chain hwq hb).block _ (lx HN0)).trans HN0.out)
  have HN5:=hid hn5
  have HN50:=hid ((ht5.foot.block w.heap.size (by have:=hb.size;omega) HM0.out.symm).trans HN05.out)
  clear hs0 hm2 hn5 hz0 hwz hwq hb
  clear hm1 hro hbw hro5 hb5 ht5 hs5
  by_cases hy:b.why=0
  ·have e1:((b.why:Int)==0)=true:=eqT (by omega)
   rw[hy] at HN5
   obtain⟨n6,t6⟩:=au HN5.out 0 (.int .i64 1)
   have p0:W5.cell? ⟨m,0,none⟩=some (.int .i64 2):=(cell_of_row _ _ _ _ _ _ HN5.out).trans rfl
   have f0:W5.frozen? ⟨m,0,none⟩=false:=Lib.frozen_of_heap HN5.out 0
   go_upto_region 6 with fail
   generalize hW6:W5.setCell ⟨m,0,none⟩ (.int .i64 1)=W6 at *
   clear hW6 p0 f0
   obtain⟨hm1,hro5,hb5⟩:=HX.out
   have hb6:=hb5.trans (t6.below hm1)
   have HB6:=hid (HB.out.below hb6)
   have c3:=(bi HB6.out.at_).2.2.2.1
   have hro6:W6.ownsRow w.heap.size 100 34 (.slice a0 b.reads.length q0) b.reads.length ((b.reads.map rdK).flatMap RdL.cells):=aJ hro5 fun k hk=>t6.foot.block k (hro5.lt k hk).2 (fun e=>de hro5 HN5.out (by decide) (e▸hk))
   have HN06:=hid ((t6.foot.block w.heap.size (lx HN50) HM0.out.symm).trans HN50.out)
   have HN6:=hid n6
   obtain⟨ob,ho1,ho2⟩:=HB6.out.wr
   obtain⟨hown,hsz⟩:=wJ ho1 ho2 (by omega) hwk
   have HK98:=hid (callsIn_wide.1 (zfD (some wm) W6))
   have HK97:=hid (callsIn_wide.1 (zfw wm _ _ yq W6 hown (by unfold maxLen;omega) (by omega)))
   have HX6:=hid (And.intro hm1 (And.intro hro6 hb6))
   clear hm1 hro5 hb5 hb6 hro6 hown n6 t6
   go_upto_block 0 with first|(go_at_call 98;refine HK98.out.mono ?_;rintro e W7 ⟨rfl,rfl⟩)|(go_at_call 97;refine HK97.out.mono ?_;rintro e W7 ⟨v,ss,rfl,hperm,how, -,hb7⟩;obtain⟨a7,q7,rfl⟩:=ax how)
   have bI:(ss.mergeSort (fun x y=>decide (x≤y))).length=ss.length:=List.length_mergeSort _
   have hss:ss.length≤1000:=by
    rw[hperm.length_eq]
    have:(strKeys (wrD b.wrote)).length=Go.Maps.size (wrD b.wrote):=List.length_map _
    omega
   have HP:=hid (show nJ b.wrote ss=(ss.mergeSort (fun x y=>decide (x≤y))).map (eQ b.wrote) from rfl)
   have HPM:=hid hperm
   generalize ss.mergeSort (fun x y=>decide (x≤y))=L at *
   have how9:W7.ownsRow w.heap.size 9 1 (.slice a7 ss.length q7) ss.length (ag L):=aK how (by rw[World.size_alloc];have:=HX6.out.2.2.size;omega)
   have hb67:=(ab W6 (.cells #[.map (some wm)] 204)).trans (hb7.mono (by rw[World.size_alloc];omega))
   have hb07:=HX6.out.2.2.trans (hb67.mono HX6.out.2.2.size)
   have hrow7:=aS HX6.out.2.1 hb67 (Nat.le_refl _)
   have hm7:=(hb67.block _ (lx HN6)).trans HN6.out
   have h07:=(hb67.block _ (lx HN06)).trans HN06.out
   obtain⟨ob,ho1,ho2⟩:=HB.out.wr
   have HOB:=hid (And.intro ho1 ho2)
   have HM1:=hid HX6.out.1
   clear hb7 how hperm HK98 HK97 HX6 HN6 HN06 HX HB6 HN5 HN50 hb67 c3 c7 ho1 ho2 HF HBR
   have HI:=hid (And.intro hb07 (And.intro hm7 (And.intro hrow7 (And.intro how9 h07))))
   clear hb07 hm7 hrow7 how9 h07
   go_wp2_with fail
   go_loopw [36] (fun i wr=>∃(k:Nat) (vf:Value),k≤ss.length∧i=.int .i64 k∧Below w.heap.size w wr∧wr.heap[m]?=some (.cells (cT 1 0 vf (.slice a0 b.reads.length q0)).toArray 82 (0,0))∧wr.ownsRow w.heap.size 51 2 vf k (((L.take k).map (eQ b.wrote)).flatMap bL)∧wr.ownsRow w.heap.size 100 34 (.slice a0 b.reads.length q0) b.reads.length ((b.reads.map rdK).flatMap RdL.cells)∧wr.ownsRow w.heap.size 9 1 (.slice a7 ss.length q7) ss.length (ag L)∧wr.heap[w.heap.size]?=some (.cells zz 82 (0,0))) (fun i _=>ss.length-(intOf i).toNat)
   case atStart=>
    obtain⟨hb07,hm7,hrow7,how9,h07⟩:=HI.out
    exact⟨0,.slice none 0 0,Nat.zero_le _,rfl,hb07,hm7,World.ownsRow_nil _ _ _ _,hrow7,how9,h07⟩
   case round=>
    obtain⟨k,vf,hk,rfl,hbe,hmr,hvf,hrr,hsr,h0r⟩:=hrel
    by_cases aH:k<ss.length
    ·obtain⟨a1,c1,ha, -, -,hx⟩:=aO.out (w:=wr) (v:=.slice a7 ss.length q7) (ls:=L) (by unfold aO;rw[bI];exact ap.of_owns hsr (by unfold maxLen;omega))
     obtain⟨rfl, -,rfl⟩:a7=a1∧ss.length=L.length∧q7=c1:=by simpa using ha
     have hkL:k<L.length:=by omega
     obtain⟨b0,o0,rfl,L0⟩:=hx k hkL
     have HSR:=hid hsr
     have HRR:=hid hrr
     have HVF:=hid hvf
     have HMR:=hid hmr
     have H0R:=hid h0r
     have HBE:=hid hbe
     have c3:=(bi (HB.out.below hbe).at_).2.2.2.1
     have cm:=(hbe.block _ (lx (hid HOB.out.1))).trans HOB.out.1
     have m2:wr.cell? ⟨m,2,none⟩=some vf:=(cell_of_row _ _ _ _ _ _ hmr).trans rfl
     have HFL:=hid (show eQ b.wrote L[k]=(L[k],(eQ b.wrote L[k]).2) from rfl)
     have HWF:=hid (t8 b.wrote L[k])
     clear hsr hrr hvf hmr h0r hbe hx ha
     go_upto_region 9 with fail
     refine aG (fun W=>W.cell? ⟨m,2,none⟩=some vf∧W.cell? ⟨bb,3,none⟩=some (.map (some wm))∧W.heap[wm]?=some ob) 12 (by kernel_rfl) ?_
     intro wd hwd
     have hS0:wd.cell? ⟨m,2,none⟩=some vf∧wd.cell? ⟨bb,3,none⟩=some (.map (some wm))∧wd.heap[wm]?=some ob:=⟨Below.keeps hwd m2,Below.keeps hwd c3,(hwd.block _ (lx (hid cm))).trans cm⟩
     refine zfq 0 (some 40) (hi:=rfl) (.inr hS0) ?_
     apply Exists.intro
     refine⟨fun W=>?_,?_⟩
     ·go_simp
      try rfl
     try simp only[Act.put,sA,sB,sC]
     refine zfs 1 (some 41) (hi:=rfl) hS0 ?_
     apply Exists.intro
     refine⟨fun W hW=>?_,?_⟩
     ·have e1:=hW.1
      go_simp
      try rfl
     try simp only[Act.put,sA,sB,sC]
     refine zfq 2 (some 42) (hi:=rfl) (.inr hS0) ?_
     apply Exists.intro
     refine⟨fun W=>?_,?_⟩
     ·go_simp
      try rfl
     try simp only[Act.put,sA,sB,sC]
     refine zfq 3 (some 43) (hi:=rfl) (.inr hS0) ?_
     apply Exists.intro
     refine⟨fun W=>?_,?_⟩
     ·go_simp
      try rfl
     try simp only[Act.put,sA,sB,sC]
     refine zfq 4 (some 44) (hi:=rfl) (.inr hS0) ?_
     apply Exists.intro
     refine⟨fun W=>?_,?_⟩
     ·go_simp
      try rfl
     try simp only[Act.put,sA,sB,sC]
     refine zfq 5 (some 45) (hi:=rfl) (.inr hS0) ?_
     apply Exists.intro
     refine⟨fun W=>?_,?_⟩
     ·go_simp
      try rfl
     try simp only[Act.put,sA,sB,sC]
     refine zfs 6 (some 46) (hi:=rfl) hS0 ?_
     apply Exists.intro
     refine⟨fun W hW=>?_,?_⟩
     ·have e1:=hW.2.1
      go_simp
      try rfl
     try simp only[Act.put,sA,sB,sC]
     refine zfq 7 (some 47) (hi:=rfl) (.inr hS0) ?_
     apply Exists.intro
     refine⟨fun W=>?_,?_⟩
     ·go_simp
      try rfl
     try simp only[Act.put,sA,sB,sC]
     refine zfs 8 (some 48) (hi:=rfl) hS0 ?_
     refine⟨.string (bs (eQ b.wrote L[k]).2),fun W hW=>?_,?_⟩
     ·have e1:(Instr.lookup 204 (.map (some wm)) (.string (bs L[k])) false).run Tryz.prog W=.ok (.string (bs (eQ b.wrote L[k]).2)) W:=by
       rw[←HWF.out]
       exact sg hW.2.2 HOB.out.2.map L[k] false
      go_simp
     try simp only[Act.put,sA,sB,sC]
     refine zfq 9 (some 49) (hi:=rfl) (.inr hS0) ?_
     apply Exists.intro
     refine⟨fun W=>?_,?_⟩
     ·go_simp
      try rfl
     try simp only[Act.put,sA,sB,sC]
     have HX8:=hid (ug (eQ b.wrote L[k]))
     refine WL.o 10 (hi:=rfl) ?_
     intro K hK
     refine za6 (xs:=(bL (eQ b.wrote L[k])).toArray) (e:=51) (sz:=2) (by_:=32) (by omega) (by omega) rfl Tryz.underlying48 (by kernel_rfl) ?_
     intro W6 hb6 hn6 hs6
     have hb6r:=Below.chain hwd hb6
     have hv6:=aS HVF.out hb6r (Nat.le_refl _)
     obtain⟨v8,W8,hr8,ho8,hb8,hg8,hat8⟩:=lg bL (t:=48) (by_:=32) Tryz.underlying48 (by kernel_rfl) bF (by omega) (by omega) (eQ b.wrote L[k]) HX8.out hv6 hn6 (by have:=HBE.out.size;have:=hb6r.size;omega) (by omega)
     have hm6:=(hb6r.block _ (lx HMR)).trans HMR.out
     have hm8:=(hg8.block m (lx (hid hm6)) (fun e=>de hv6 hm6 (by decide) e.symm)).trans hm6
     have hS6:W6.cell? ⟨m,2,none⟩=some vf∧W6.cell? ⟨bb,3,none⟩=some (.map (some wm))∧W6.heap[wm]?=some ob:=⟨Below.keeps hb6 hS0.1,Below.keeps hb6 hS0.2.1,(hb6.block _ (lx (hid hS0.2.2))).trans hS0.2.2⟩
     have hb8w:Below w.heap.size w W8:=(Below.chain HBE.out hb6r).trans hb8
     have hS8:W8.cell? ⟨m,2,none⟩=some vf∧W8.cell? ⟨bb,3,none⟩=some (.map (some wm))∧W8.heap[wm]?=some ob:=⟨(cell_of_row _ _ _ _ _ _ hm8).trans rfl,(bi (HB.out.below hb8w).at_).2.2.2.1,(hb8w.block _ (lx (hid HOB.out.1))).trans HOB.out.1⟩
     obtain⟨a8,c8,rfl⟩:=ax ho8
     obtain⟨n9,t9⟩:=au hm8 2 (.slice a8 (k+1) c8)
     have p2:W8.cell? ⟨m,2,none⟩=some vf:=hS8.1
     have f2:W8.frozen? ⟨m,2,none⟩=false:=Lib.frozen_of_heap hm8 2
     have hpast:∀{e sz n:Nat} {v:Value} {xs:List Value},wr.ownsRow w.heap.size e sz v n xs→e≠51→e≠82→(W8.setCell ⟨m,2,none⟩ (.slice a8 (k+1) c8)).ownsRow w.heap.size e sz v n xs:=fun{e sz n v xs} h h1 h2=>by
      have h6:=aS h hb6r (Nat.le_refl _)
      have h8:W8.ownsRow w.heap.size e sz v n xs:=aJ h6 fun j hj=>hg8.block j (h6.lt j hj).2 (fun e=>by
       obtain⟨-,cur,h9⟩:=lE hv6 e.symm
       exact de h6 h9 (Ne.symm h1) hj)
      exact aJ h8 fun j hj=>t9.foot.block j (h8.lt j hj).2 (fun e=>de h8 hm8 (Ne.symm h2) (e▸hj))
     have h09:=(t9.foot.block w.heap.size (by have:=hb8w.size;have:=lx H0R;have:=HBE.out.size;have:=hg8.size;have:=hb6r.size;omega) HM0.out.symm).trans ((hg8.block w.heap.size (by have:=lx H0R;have:=hb6r.size;omega) (fun e=>de hv6 ((hb6r.block _ (lx H0R)).trans H0R.out) (by decide) e.symm)).trans ((hb6r.block _ (lx H0R)).trans H0R.out))
     have hv9:=aJ ho8 fun j hj=>t9.foot.block j (ho8.lt j hj).2 (fun e=>de ho8 hm8 (by decide) (e▸hj))
     have H9:=hid (And.intro n9 (And.intro hv9 (And.intro (hpast HRR.out (by decide) (by decide)) (And.intro (hpast HSR.out (by decide) (by decide)) (And.intro (hb8w.trans (t9.below HM1.out)) h09)))))
     clear hpast n9 t9 ho8 hb8w hg8 hm8 hb6r hv6 hm6 hb8 hat8 h09 hv9
     refine hK.out _ _ (.inr hS6) ?_
     clear hK K
     try simp only[Act.put,sA]
     refine WL.o 11 (hi:=rfl) ?_
     intro K hK
     refine jg (t:=48) hr8 ?_
     refine hK.out _ _ (.inr hS8) ?_
     clear hK K
     try simp only[Act.put]
     refine WL.o 12 (hi:=rfl) ?_
     intro K hK
     go_simp
     refine hK.out _ _ (.inl (by kernel_rfl)) ?_
     clear hK K
     try simp only[Act.put,sA,sB,sC]
     refine WL.o 13 (hi:=rfl) ?_
     intro K hK
     go_simp
     refine hK.out _ _ (.inl (by kernel_rfl)) ?_
     clear hK K
     try simp only[Act.put,sA,sB,sC]
     refine WL.d ?_
     generalize W8.setCell ⟨m,2,none⟩ (.slice a8 (k+1) c8)=W9 at *
     clear hS0 hS6 hS8 p2 f2 m2 c3 cm hwd hb6 hn6 hs6 hr8
     go_wp2_with fail
     obtain⟨n9,hv9,hr9,hs9,hb9,h09⟩:=H9.out
     refine⟨⟨k+1,.slice a8 (k+1) c8,by omega,by go_num,hb9,n9,?_,hr9,hs9,h09⟩,by simp[intOf];omega⟩
     rw[List.take_add_one,List.getElem?_eq_getElem hkL,List.map_append]
     exact hv9
    ·obtain rfl:k=ss.length:=by omega
     go_wp2_with first|(refine bC dX (af hmr) rfl ?_)|(refine fp (xs:=(cT 1 0 vf (.slice a0 b.reads.length q0)).toArray) dX h0r hzz rfl (dR _ _ _ _ (by obtain⟨a9,q9,rfl⟩:=ax hvf;rfl) rfl) ?_;intro W9 ht9 hn9 hs9)
     refine br2 Tryz.underlying82 _ hn9 ?_ (hi:=by kernel_rfl)
     rw[←bI,List.take_length,←HP.out,bI] at hvf
     have ho9:(eL b ss)=nJ b.wrote ss:=by unfold eL;rw[if_pos hy]
     refine⟨⟨vf,.slice a0 b.reads.length q0,ss,by unfold jP;rw[if_pos hy,hy];rfl,HPM.out,?_,aJ hrr fun k hk=>ht9.foot.block k (hrr.lt k hk).2 (fun e=>de hrr h0r (by decide) (e▸hk))⟩,hbe.trans (ht9.below (Nat.le_refl _))⟩
     rw[ho9,show(nJ b.wrote ss).length=ss.length by rw[HP.out,List.length_map,bI]]
     exact aJ hvf fun k hk=>ht9.foot.block k (hvf.lt k hk).2 (fun e=>de hvf h0r (by decide) (e▸hk))
  ·have e1:((b.why:Int)==0)=false:=eqF (by omega)
   have hn5:=HN5.out
   have hn05:=HN50.out
   go_wp2_with first|(refine bC dX (af hn5) rfl ?_)|(refine fp (xs:=(cT 2 b.why (.slice none 0 0) (.slice a0 b.reads.length q0)).toArray) dX hn05 hzz rfl (dR _ _ _ _ rfl rfl) ?_;intro W6 ht6 hn6 hs6)
   obtain⟨-,hro5,hb5⟩:=HX.out
   refine br2 Tryz.underlying82 _ hn6 ?_ (hi:=by kernel_rfl)
   refine⟨⟨.slice none 0 0,.slice a0 b.reads.length q0,strKeys (wrD b.wrote),by unfold jP;rw[if_neg hy];rfl,List.Perm.refl _,by unfold eL;rw[if_neg hy];exact World.ownsRow_nil _ _ _ _,aJ hro5 fun k hk=>ht6.foot.block k (hro5.lt k hk).2 (fun e=>de hro5 hn05 (by decide) (e▸hk))⟩,hb5.trans (ht6.below (Nat.le_refl _))⟩
end
end Go.Proofs.YtlbipokkdiiaiaaGreatDoor
