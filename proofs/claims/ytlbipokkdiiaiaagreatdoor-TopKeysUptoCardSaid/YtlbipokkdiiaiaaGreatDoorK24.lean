/- Lemmas for TopKeysUpto: K6, K7, K8, K9, F10, F85, W68, W69. -/
import Derived.Test.YtlbipokkdiiaiaaGreatDoorK23
import Derived.Test.YtlbipokkdiiaiaaGreatDoorK22
import Derived.Test.YtlbipokkdiiaiaaGreatDoorK05
import Derived.Test.YtlbipokkdiiaiaaGreatDoorK10
import Derived.Test.YtlbipokkdiiaiaaGreatDoorK11
open List renaming setIfInBounds_toArray → sA, set_cons_zero → sB, set_cons_succ → sC
namespace Go.Proofs.YtlbipokkdiiaiaaGreatDoor
open Go.RowKit Exec Go.Shelf
set_option maxRecDepth 100000
attribute [local go_sem] Oper.semAt_some
theorem gK {w:World} {B:Nat} {v:Value} {l:List Txt} (h:w.ownsRow B 9 1 v l.length (ag l)) (hl:l.length≤65537):aO w v l:=ap.of_owns h (by unfold maxLen;omega)
set_option maxHeartbeats 8000000 in
theorem zx (x:dW) (w:World) (hx:fe w x) (hs:dU x.l) (ht:x.l.tool.length≤1500000) (hc:x.l.env.length+x.l.ins.length+x.l.asks.length+x.l.outs.length≤120) (hp:eG w):
 Calls Tryz.prog 23 #[.agg x.cells.toArray] w fun e w'=>e=.returned (.string (bs (ia x.l)))∧Below w.heap.size w w':=by
 have HKS:=hid (kR hs ht hc)
 have HE:=hid (fun(W:World) (hb:Below w.heap.size w W)=>(zai x.l.env x.ev W (hx.env.below hb (Nat.le_refl _)) (by omega) (fun s h=>⟨hs.nl s h,hs.el s h⟩)).mono (R':=fun e w'=>∃v',e=.returned v'∧w'.ownsRow W.heap.size 9 1 v' (jy x.l.env).length (ag (jy x.l.env))∧Below W.heap.size W w') (by rw[kL];exact fun _ _ h=>h))
 have HI:=hid (fun(W:World) (hb:Below w.heap.size w W)=>pk x.l.ins x.iv W (hx.ins.below hb) (by omega))
 have HA:=hid (fun(W:World) (hb:Below w.heap.size w W)=>pk x.l.asks x.av W (hx.asks.below hb) (by omega))
 have HO:=hid (fun(W:World) (hb:Below w.heap.size w W)=>pk x.l.outs x.ov W (hx.outs.below hb) (by omega))
 have HLN:=hid (show(jy x.l.env).length≤240∧(fF x.l.ins).length≤120∧(fF x.l.asks).length≤120∧(fF x.l.outs).length≤120 from by
  have h1:=(nX hs.el hs.nl).2
  have h2:=(eS hs.il).2
  have h3:=(eS hs.al).2
  have h4:=(eS hs.ol).2
  omega)
 have HP:=hid hp
 obtain⟨ae,ce,hev, -⟩:=aE.out (sz:=2) (f:=fg) (fun _=>rfl) (by omega) hx.env
 obtain⟨ai,ci,hiv, -⟩:=hx.ins.out
 obtain⟨aa,ca,hav, -⟩:=hx.asks.out
 obtain⟨ao,co,hov, -⟩:=hx.outs.out
 have HONE:=hid (j5 hx)
 unfold ia
 unfold fU at HKS
 generalize jy x.l.env=le at *
 generalize fF x.l.ins=li at *
 generalize fF x.l.asks=la at *
 generalize fF x.l.outs=lo at *
 clear hx hs hp hev hiv hav hov
 go_enter Tryz.func23,Tryz.ntmps23
 go_upto_region 1 with(refine cI dc ?_;intro W1 hb1 hn1 hs1)
 have k2:W1.cell? ⟨w.heap.size,2,none⟩=some (.string (bs x.l.tool)):=(cell_of_row _ _ 2 _ _ _ hn1).trans rfl
 have k3:W1.cell? ⟨w.heap.size,3,none⟩=some x.ev:=(cell_of_row _ _ 3 _ _ _ hn1).trans rfl
 have k4:W1.cell? ⟨w.heap.size,4,none⟩=some x.iv:=(cell_of_row _ _ 4 _ _ _ hn1).trans rfl
 have k5:W1.cell? ⟨w.heap.size,5,none⟩=some x.av:=(cell_of_row _ _ 5 _ _ _ hn1).trans rfl
 have k6:W1.cell? ⟨w.heap.size,6,none⟩=some x.ov:=(cell_of_row _ _ 6 _ _ _ hn1).trans rfl
 have HB1:=hid hb1
 clear hb1 hn1 hs1
 refine aG (fun W=>W.cell? ⟨w.heap.size,3,none⟩=some x.ev∧W.cell? ⟨w.heap.size,4,none⟩=some x.iv∧W.cell? ⟨w.heap.size,5,none⟩=some x.av∧W.cell? ⟨w.heap.size,6,none⟩=some x.ov∧W.cell? ⟨w.heap.size,2,none⟩=some (.string (bs x.l.tool))) 13 (by kernel_rfl) ?_
 intro Wd hbd
 have HBd:=hid (Below.chain HB1.out hbd)
 have hS:(Wd.cell? ⟨w.heap.size,3,none⟩=some x.ev∧Wd.cell? ⟨w.heap.size,4,none⟩=some x.iv∧Wd.cell? ⟨w.heap.size,5,none⟩=some x.av∧Wd.cell? ⟨w.heap.size,6,none⟩=some x.ov∧Wd.cell? ⟨w.heap.size,2,none⟩=some (.string (bs x.l.tool))):=⟨Below.keeps hbd k3,Below.keeps hbd k4,Below.keeps hbd k5,Below.keeps hbd k6,Below.keeps hbd k2⟩
 refine zfq 0 (some 7) (hi:=rfl) (.inr hS) ?_
 apply Exists.intro
 refine⟨fun W=>?_,?_⟩
 ·go_simp
  try rfl
 try simp only[Act.put,sA,sB,sC]
 refine zfs 1 (some 8) (hi:=rfl) hS ?_
 apply Exists.intro
 refine⟨fun W hW=>?_,?_⟩
 ·have e1:=hW.1
  go_simp
  try rfl
 try simp only[Act.put,sA,sB,sC]
 refine zfq 3 (some 10) (hi:=rfl) (.inr hS) ?_
 apply Exists.intro
 refine⟨fun W=>?_,?_⟩
 ·go_simp
  try rfl
 try simp only[Act.put,sA,sB,sC]
 refine zfs 4 (some 11) (hi:=rfl) hS ?_
 apply Exists.intro
 refine⟨fun W hW=>?_,?_⟩
 ·have e1:=hW.2.1
  go_simp
  try rfl
 try simp only[Act.put,sA,sB,sC]
 refine zfq 6 (some 13) (hi:=rfl) (.inr hS) ?_
 apply Exists.intro
 refine⟨fun W=>?_,?_⟩
 ·go_simp
  try rfl
 try simp only[Act.put,sA,sB,sC]
 refine zfs 7 (some 14) (hi:=rfl) hS ?_
 apply Exists.intro
 refine⟨fun W hW=>?_,?_⟩
 ·have e1:=hW.2.2.1
  go_simp
  try rfl
 try simp only[Act.put,sA,sB,sC]
 refine zfq 9 (some 16) (hi:=rfl) (.inr hS) ?_
 apply Exists.intro
 refine⟨fun W=>?_,?_⟩
 ·go_simp
  try rfl
 try simp only[Act.put,sA,sB,sC]
 refine zfs 10 (some 17) (hi:=rfl) hS ?_
 apply Exists.intro
 refine⟨fun W hW=>?_,?_⟩
 ·have e1:=hW.2.2.2.1
  go_simp
  try rfl
 try simp only[Act.put,sA,sB,sC]
 refine WL.o 2 (hi:=rfl) ?_
 intro K hK
 go_simp
 refine(HE.out Wd HBd.out).mono ?_
 rintro e W2 ⟨v2,rfl,ho2,hb2⟩
 have T2:=gK ho2 (by have:=HLN.out;omega)
 obtain⟨a2,c2,rfl, -⟩:=aO.out T2
 have hS2:(W2.cell? ⟨w.heap.size,3,none⟩=some x.ev∧W2.cell? ⟨w.heap.size,4,none⟩=some x.iv∧W2.cell? ⟨w.heap.size,5,none⟩=some x.av∧W2.cell? ⟨w.heap.size,6,none⟩=some x.ov∧W2.cell? ⟨w.heap.size,2,none⟩=some (.string (bs x.l.tool))):=⟨Below.keeps hb2 hS.1,Below.keeps hb2 hS.2.1,Below.keeps hb2 hS.2.2.1,Below.keeps hb2 hS.2.2.2.1,Below.keeps hb2 hS.2.2.2.2⟩
 have HB2:=hid (Below.chain HBd.out hb2)
 clear ho2 hb2
 refine hK.out _ _ (.inr hS2) ?_
 clear hK K
 try simp only[Act.put,sA,sB,sC]
 refine WL.o 5 (hi:=rfl) ?_
 intro K hK
 go_simp
 refine(HI.out W2 HB2.out).mono ?_
 rintro e W3 ⟨v3,rfl,ho3,hb3⟩
 have T3:=gK ho3 (by have:=HLN.out;omega)
 obtain⟨a3,c3,rfl, -⟩:=aO.out T3
 have hS3:(W3.cell? ⟨w.heap.size,3,none⟩=some x.ev∧W3.cell? ⟨w.heap.size,4,none⟩=some x.iv∧W3.cell? ⟨w.heap.size,5,none⟩=some x.av∧W3.cell? ⟨w.heap.size,6,none⟩=some x.ov∧W3.cell? ⟨w.heap.size,2,none⟩=some (.string (bs x.l.tool))):=⟨Below.keeps hb3 hS2.1,Below.keeps hb3 hS2.2.1,Below.keeps hb3 hS2.2.2.1,Below.keeps hb3 hS2.2.2.2.1,Below.keeps hb3 hS2.2.2.2.2⟩
 have HB3:=hid (Below.chain HB2.out hb3)
 have T2:=T2.below hb3
 clear ho3 hb3
 refine hK.out _ _ (.inr hS3) ?_
 clear hK K
 try simp only[Act.put,sA,sB,sC]
 refine WL.o 8 (hi:=rfl) ?_
 intro K hK
 go_simp
 refine(HA.out W3 HB3.out).mono ?_
 rintro e W4 ⟨v4,rfl,ho4,hb4⟩
 have T4:=gK ho4 (by have:=HLN.out;omega)
 obtain⟨a4,c4,rfl, -⟩:=aO.out T4
 have hS4:(W4.cell? ⟨w.heap.size,3,none⟩=some x.ev∧W4.cell? ⟨w.heap.size,4,none⟩=some x.iv∧W4.cell? ⟨w.heap.size,5,none⟩=some x.av∧W4.cell? ⟨w.heap.size,6,none⟩=some x.ov∧W4.cell? ⟨w.heap.size,2,none⟩=some (.string (bs x.l.tool))):=⟨Below.keeps hb4 hS3.1,Below.keeps hb4 hS3.2.1,Below.keeps hb4 hS3.2.2.1,Below.keeps hb4 hS3.2.2.2.1,Below.keeps hb4 hS3.2.2.2.2⟩
 have HB4:=hid (Below.chain HB3.out hb4)
 have T2:=T2.below hb4
 have T3:=T3.below hb4
 clear ho4 hb4
 refine hK.out _ _ (.inr hS4) ?_
 clear hK K
 try simp only[Act.put,sA,sB,sC]
 refine WL.o 11 (hi:=rfl) ?_
 intro K hK
 go_simp
 refine(HO.out W4 HB4.out).mono ?_
 rintro e W5 ⟨v5,rfl,ho5,hb5⟩
 have T5:=gK ho5 (by have:=HLN.out;omega)
 obtain⟨a5,c5,rfl, -⟩:=aO.out T5
 have hS5:(W5.cell? ⟨w.heap.size,3,none⟩=some x.ev∧W5.cell? ⟨w.heap.size,4,none⟩=some x.iv∧W5.cell? ⟨w.heap.size,5,none⟩=some x.av∧W5.cell? ⟨w.heap.size,6,none⟩=some x.ov∧W5.cell? ⟨w.heap.size,2,none⟩=some (.string (bs x.l.tool))):=⟨Below.keeps hb5 hS4.1,Below.keeps hb5 hS4.2.1,Below.keeps hb5 hS4.2.2.1,Below.keeps hb5 hS4.2.2.2.1,Below.keeps hb5 hS4.2.2.2.2⟩
 have HB5:=hid (Below.chain HB4.out hb5)
 have T2:=T2.below hb5
 have T3:=T3.below hb5
 have T4:=T4.below hb5
 clear ho5 hb5
 refine hK.out _ _ (.inr hS5) ?_
 clear hK K
 try simp only[Act.put,sA,sB,sC]
 refine WL.o 12 (hi:=rfl) ?_
 intro K hK
 go_simp
 have hb6:=ab W5 (.cells #[.slice a2 le.length c2,.slice a3 li.length c3,.slice a4 la.length c4,.slice a5 lo.length c5] 46)
 have hn6:=heap_alloc_new W5 (.cells #[.slice a2 le.length c2,.slice a3 li.length c3,.slice a4 la.length c4,.slice a5 lo.length c5] 46)
 have hz6:(W5.alloc (.cells #[.slice a2 le.length c2,.slice a3 li.length c3,.slice a4 la.length c4,.slice a5 lo.length c5] 46)).heap.size=W5.heap.size+1:=World.size_alloc _ _
 generalize W5.alloc (.cells #[.slice a2 le.length c2,.slice a3 li.length c3,.slice a4 la.length c4,.slice a5 lo.length c5] 46)=W6 at *
 have hS6:(W6.cell? ⟨w.heap.size,3,none⟩=some x.ev∧W6.cell? ⟨w.heap.size,4,none⟩=some x.iv∧W6.cell? ⟨w.heap.size,5,none⟩=some x.av∧W6.cell? ⟨w.heap.size,6,none⟩=some x.ov∧W6.cell? ⟨w.heap.size,2,none⟩=some (.string (bs x.l.tool))):=⟨Below.keeps hb6 hS5.1,Below.keeps hb6 hS5.2.1,Below.keeps hb6 hS5.2.2.1,Below.keeps hb6 hS5.2.2.2.1,Below.keeps hb6 hS5.2.2.2.2⟩
 refine hK.out _ _ (.inr hS6) ?_
 clear hK K
 try simp only[Act.put,sA,sB,sC]
 refine WL.o 13 (hi:=rfl) ?_
 intro K hK
 go_simp
 refine hK.out _ _ (.inl (by kernel_rfl)) ?_
 clear hK K
 try simp only[Act.put,sA,sB,sC]
 refine WL.d ?_
 have kt:=hS6.2.2.2.2
 have HB6:=hid (Below.chain HB5.out hb6)
 obtain⟨P,hP⟩:∃P,P=[le,li,la,lo]:=⟨_,rfl⟩
 have HPT:=hid (show ∀k,k<4→∃a c l,W6.cell? ⟨W5.heap.size,k,none⟩=some (.slice a l.length c)∧aO W6 (.slice a l.length c) l∧P[k]?=some l∧(bK l).length≤1000000000000 from by
  intro k hk
  obtain⟨⟨-,s1,s2,s3,s4⟩, -⟩:=HKS.out
  rw[hP]
  match k,hk with
  |0,_=>exact⟨a2,c2,le,(cell_of_row _ _ 0 _ _ _ hn6).trans rfl,T2.below hb6,rfl,by omega⟩
  |1,_=>exact⟨a3,c3,li,(cell_of_row _ _ 1 _ _ _ hn6).trans rfl,T3.below hb6,rfl,by omega⟩
  |2,_=>exact⟨a4,c4,la,(cell_of_row _ _ 2 _ _ _ hn6).trans rfl,T4.below hb6,rfl,by omega⟩
  |3,_=>exact⟨a5,c5,lo,(cell_of_row _ _ 3 _ _ _ hn6).trans rfl,T5.below hb6,rfl,by omega⟩)
 have HKT:=hid (show bK [x.l.tool,bK le,bK li,bK la,bK lo]=bK (x.l.tool::P.map bK)∧(bK (x.l.tool::P.map bK)).length≤1000000000000 from by
  rw[hP]
  refine⟨rfl,Nat.le_trans (gQ (n:=5) (m:=1000000000) (by simp) ?_ (by omega)) (by omega)⟩
  obtain⟨⟨s0,s1,s2,s3,s4⟩, -⟩:=HKS.out
  intro s hs
  simp only[List.map_cons,List.map_nil,List.mem_cons,List.not_mem_nil,or_false] at hs
  rcases hs with rfl|rfl|rfl|rfl|rfl<;>omega)
 have HPL:=hid (show P.length=4 by rw[hP];rfl)
 have HLT:=hid (lx (hid hn6))
 clear hP T2 T3 T4 T5 hb6 hn6 hz6 hS hS2 hS3 hS4 hS5 hS6 HKS HB5 HB4 HB3 HB2 HBd hbd k2 k3 k4 k5 k6 HE HI HA HO
 have hb7:=ab W6 (.cells #[.string (bs x.l.tool)] 9)
 have hn7:=heap_alloc_new W6 (.cells #[.string (bs x.l.tool)] 9)
 have H7:=hid (And.intro hb7 hn7)
 clear hb7 hn7
 go_wp2_with fail
 go_loopw [4,25] (fun ov iv wr=>∃(k:Nat) (oa:Option Addr) (oc:Nat),k≤4∧iv=.int .i64 k∧ov=.slice oa (k+1) oc∧wr.ownsRow W6.heap.size 9 1 ov (k+1) ((x.l.tool::(P.take k).map bK).flatMap txC)∧Below W6.heap.size W6 wr) (fun _ iv _=>4-(intOf iv).toNat)
 case atStart=>exact⟨0,_,_,Nat.zero_le _,rfl,rfl,⟨rfl,.inr ⟨W6.heap.size,1,_,rfl,Nat.le_refl _,H7.out.2,Nat.le_refl _,by decide,rfl,rfl⟩⟩,H7.out.1⟩
 case round=>
  obtain⟨k,oa,oc,hk,rfl,rfl,hov,hbr⟩:=hrel
  have HBR:=hid hbr
  have HOV:=hid hov
  clear hbr hov
  have hz6:=HBR.out.size
  by_cases aH:k<4
  ·obtain⟨a,c,l,hcell,htx,hpl,hsz⟩:=HPT.out k aH
   have L0:=Below.keeps HBR.out hcell
   have HRO:=hid (xx (.slice a l.length c) l.length l wr (htx.below HBR.out) (HP.out.below (Below.chain HB6.out HBR.out)) hsz)
   have HST:=hid (show(P.take (k+1)).map bK=(P.take k).map bK++[bK l] by
    rw[List.take_add_one,hpl,List.map_append]
    rfl)
   clear hcell htx hsz hpl
   generalize bK l=t at *
   go_wp2_with fail
   refine HRO.out.mono ?_
   rintro e W8 ⟨rfl,hb8⟩
   have hb9:=ab W8 (.cells #[.string (bs t)] 9)
   have hn9:=heap_alloc_new W8 (.cells #[.string (bs t)] 9)
   have hz8:=hb8.size
   obtain⟨v10,W10,hr10,ho10,hb10, -, -⟩:=lg txC (t:=46) (by_:=16) (sz:=1) Tryz.underlying46 (by kernel_rfl) (fun _=>rfl) (by omega) (by omega) t (fun u hu=>by rw[List.mem_singleton.1 hu];rfl) (aS (aS HOV.out hb8 (Nat.le_refl _)) hb9 (Nat.le_refl _)) hn9 (by have:=hb9.size;omega) (by omega)
   obtain⟨a10,c10,rfl⟩:=ax ho10
   have H10:=hid (And.intro ho10 (And.intro ((hb8.mono hz6).trans (hb9.mono (by omega))) hb10))
   clear hb8 hb9 hn9 ho10 hb10
   go_wp2_with (refine gw (vl (t:=46) hr10) ?_;clear hr10)
   obtain⟨h1,h2,h3⟩:=H10.out
   refine⟨⟨k+1,a10,c10,by omega,by go_num,rfl,?_,(HBR.out.trans h2).trans h3⟩,by simp[intOf];omega⟩
   rw[HST.out]
   exact h1
  ·obtain rfl:k=4:=by omega
   have HOW:=HOV.out
   rw[←HPL.out,List.take_length,kL,HPL.out] at HOW
   have HRO:=hid (xx (.slice oa (4+1) oc) _ (x.l.tool::P.map bK) wr (gK (B:=W6.heap.size) (by rw[List.length_cons,List.length_map,HPL.out];exact HOW) (by rw[List.length_cons,List.length_map,HPL.out];omega)) (HP.out.below (Below.chain HB6.out HBR.out)) HKT.out.2)
   rw[←HKT.out.1] at HRO
   obtain⟨t,hte⟩:∃t,bK [x.l.tool,bK le,bK li,bK la,bK lo]=t:=⟨_,rfl⟩
   rw[hte] at HRO
   have HTE:=hid hte
   clear hte
   go_wp2_with fail
   refine HRO.out.mono ?_
   rintro e W8 ⟨rfl,hb8⟩
   go_wp2_with fail
   go_ret
   refine⟨?_,Below.chain (Below.chain HB6.out HBR.out) hb8⟩
   rw[HTE.out]
   rfl
theorem ow {x:fW} (h:fU x):(ia x).length≤1000000000000:=by
 obtain⟨⟨s0,s1,s2,s3,s4⟩, -⟩:=h
 unfold ia
 refine Nat.le_trans (gQ (n:=5) (m:=1000000000) (by simp) ?_ (by omega)) (by omega)
 intro s hs
 simp only[List.mem_cons,List.not_mem_nil,or_false] at hs
 rcases hs with rfl|rfl|rfl|rfl|rfl<;>omega
structure pK (w:World) (x:dW):Prop where
 held:fe w x
 small:dU x.l
 tool:x.l.tool.length≤1500000
 count:x.l.env.length+x.l.ins.length+x.l.asks.length+x.l.outs.length≤120
 pow:eG w
theorem pK.below {w w':World} {x:dW} (h:pK w x) (hb:Below w.heap.size w w'):pK w' x:=⟨h.held.below hb,h.small,h.tool,h.count,h.pow.below hb⟩
theorem pK.text {w:World} {x:dW} (h:pK w x):Calls Tryz.prog 23 #[.agg x.cells.toArray] w fun e w'=>e=.returned (.string (bs (ia x.l)))∧Below w.heap.size w w':=
 zx x w h.held h.small h.tool h.count h.pow
theorem xb (x:dW) (w:World) (h:pK w x):Calls Tryz.prog 24 #[.agg x.cells.toArray] w fun e w'=>e=.returned (.agg (dgc (dV (ia x.l))).toArray)∧Below w.heap.size w w':=by
 have bI:=ow (kR h.small h.tool h.count)
 have HT:=hid (fun(W:World) (hb:Below w.heap.size w W)=>(h.below hb).text)
 have HONE:=hid (j5 h.held)
 have HLEN:=hid (fi x)
 clear h
 generalize ia x.l=t at *
 go_enter Tryz.func24,Tryz.ntmps24
 go_upto_region 1 with first|(refine cI dc ?_;intro W1 hb1 hn1 hs1)|(refine iK uN ?_;intro zs W2 hzs hb2 hn2 hs2)
 rw[hs1] at hn2
 have r1:=ac hb2 (af hn1)
 have HB2:=hid (Below.chain hb1 hb2)
 have HN2:=hid hn2
 have hz1:=hb1.size
 clear hb1 hn1 hb2 hn2 hs2
 go_wp2_with first|(refine bC dc r1 HLEN.out ?_)|(go_at_call 23;refine(HT.out _ HB2.out).mono ?_;rintro e W3 ⟨rfl,hb3⟩;have hal:=ab W3 (.cells #[.string (bs t)] 9);have HN3:=hid (heap_alloc_new W3 (.cells #[.string (bs t)] 9)))|(go_at_call 36;refine(rR t _ 1 _ (nR HN3.out) (by omega)).mono ?_;rintro e W4 ⟨rfl,hb4⟩;have hb24:=Below.chain (Below.chain hb3 hal) hb4;have hn4:=(hb24.block _ (lx HN2)).trans HN2.out)|(refine fp (xs:=(dgc (dV t)).toArray) uN hn4 hzs (by rw[List.size_toArray];exact dD _) (ng _) ?_;intro W5 ht5 hn5 hs5)
 exact br1 (w.heap.size+1) hn5 ⟨rfl,(Below.chain HB2.out hb24).trans (ht5.below (by omega))⟩ (hu:=Tryz.underlying31) (hi:=by rw[List.size_toArray,dD];kernel_rfl)
set_option maxHeartbeats 4000000 in
theorem yk (x y:dW) (w:World) (h:pK w x) (k:pK w y):Calls Tryz.prog 25 #[.agg x.cells.toArray,.agg y.cells.toArray] w fun e w'=>e=.returned (.bool (ia x.l==ia y.l))∧Below w.heap.size w w':=by
 have HA:=hid (fun(W:World) (hb:Below w.heap.size w W)=>(h.below hb).text)
 have HB:=hid (fun(W:World) (hb:Below w.heap.size w W)=>(k.below hb).text)
 have HONE:=hid (j5 h.held)
 have KONE:=hid (j5 k.held)
 clear h k
 generalize ia x.l=s at *
 generalize ia y.l=t at *
 go_enter Tryz.func25,Tryz.ntmps25
 go_upto_region 1 with first|(refine cI (xs:=x.cells.toArray) dc ?_;intro W1 hb1 hn1 hs1)|(refine cI (xs:=y.cells.toArray) dc ?_;intro W2 hb2 hn2 hs2)
 rw[hs1] at hn2
 have r1:=ac hb2 (af hn1)
 have r2:=af hn2
 have HB2:=hid (Below.chain hb1 hb2)
 clear hb1 hn1 hb2 hn2 hs2
 refine aG (fun W=>W.rangeAt w.heap.size 0 x.cells∧W.rangeAt (w.heap.size+1) 0 y.cells) 5 (by kernel_rfl) ?_
 intro Wd hbd
 have HBd:=hid (Below.chain HB2.out hbd)
 have hS:(Wd.rangeAt w.heap.size 0 x.cells∧Wd.rangeAt (w.heap.size+1) 0 y.cells):=⟨ac hbd r1,ac hbd r2⟩
 refine WL.ld 0 (some 5) dc (fun W hW=>hW.1) (fi x) (hi:=rfl) hS ?_
 try simp only[Act.put,sA,sB,sC]
 refine WL.ld 2 (some 7) dc (fun W hW=>hW.2) (fi y) (hi:=rfl) hS ?_
 try simp only[Act.put,sA,sB,sC]
 refine WL.o 1 (hi:=rfl) ?_
 intro K hK
 go_simp
 refine(HA.out Wd HBd.out).mono ?_
 rintro e W3 ⟨rfl,hb3⟩
 have hS3:(W3.rangeAt w.heap.size 0 x.cells∧W3.rangeAt (w.heap.size+1) 0 y.cells):=⟨ac hb3 hS.1,ac hb3 hS.2⟩
 have HB3:=hid (Below.chain HBd.out hb3)
 clear hb3
 refine hK.out _ _ (.inr hS3) ?_
 clear hK K
 try simp only[Act.put,sA,sB,sC]
 refine WL.o 3 (hi:=rfl) ?_
 intro K hK
 go_simp
 refine(HB.out W3 HB3.out).mono ?_
 rintro e W4 ⟨rfl,hb4⟩
 have hS4:(W4.rangeAt w.heap.size 0 x.cells∧W4.rangeAt (w.heap.size+1) 0 y.cells):=⟨ac hb4 hS3.1,ac hb4 hS3.2⟩
 have HB4:=hid (Below.chain HB3.out hb4)
 clear hb4
 refine hK.out _ _ (.inr hS4) ?_
 clear hK K
 try simp only[Act.put,sA,sB,sC]
 refine WL.o 4 (hi:=rfl) ?_
 intro K hK
 go_simp
 refine hK.out _ _ (.inr hS4) ?_
 clear hK K
 try simp only[Act.put,sA,sB,sC]
 refine WL.o 5 (hi:=rfl) ?_
 intro K hK
 go_simp
 refine hK.out _ _ (.inl (by kernel_rfl)) ?_
 clear hK K
 try simp only[Act.put,sA,sB,sC]
 refine WL.d ?_
 go_wp2_with fail
 go_ret
 exact⟨rfl,HB4.out⟩
theorem ze9 (r s:Txt×Txt) (n:Nat):bQ Tryz.prog (n+2) 51 (.agg (bL r).toArray) (.agg (bL s).toArray)=some (decide (r=s)):=by
 obtain⟨f0,f1,hu,k0,k1⟩:∃f0 f1:Field,Tryz.prog.underlying 51=some (.struct #[f0,f1])∧(f0.name≠ "_"∧f0.type=9∧f0.offset=0)∧(f1.name≠ "_"∧f1.type=9∧f1.offset=1):=
  ⟨_,_,rfl,⟨by decide,by kernel_rfl,by kernel_rfl⟩,⟨by decide,by kernel_rfl,by kernel_rfl⟩⟩
 have hs:Tryz.prog.stoodInHeld 51=false:=by kernel_rfl
 unfold bQ
 simp only[hu,hs,Bool.false_eq_true,if_false,cN,k0.1,k0.2.1,k0.2.2,k1.1,k1.2.1,k1.2.2,td]
 simp only[bL,List.getElem?_toArray,List.getElem?_cons_zero,List.getElem?_cons_succ,zb1]
 obtain⟨p,d⟩:=r
 obtain⟨q,e⟩:=s
 by_cases h1:p=q
 ·by_cases h3:d=e
  ·simp[h1,h3]
  ·simp[h1,h3]
 ·simp[h1]
theorem zez (d e:Txt×Txt):zbP 51 (bL d).toArray (bL e).toArray (decide (d=e)):=⟨ze9 d e 2,by kernel_rfl⟩
set_option maxHeartbeats 1000000 in
theorem mr (v0 v1:Value) (l r:List (Txt×Txt)) (w:World) (h0:aE w 2 bL v0 l) (h1:aE w 2 bL v1 r):
 Calls Tryz.prog 64 #[v0,v1] w fun e w'=>e=.returned (.bool (decide (l=r)))∧Below w.heap.size w w':=by
 obtain⟨a0,c0,rfl,hc0,hm0, -,hx0⟩:=h0.out bF (by omega)
 obtain⟨a1,c1,rfl,hc1,hm1, -,hx1⟩:=h1.out bF (by omega)
 clear h0 h1
 unfold maxLen at hm0 hm1
 by_cases bI:l.length=r.length
 ·have hb:((l.length:Int) !=(r.length:Int))=false:=by simp[bI]
  have hl1:l.length≤r.length:=by omega
  have hl2:r.length≤l.length:=by omega
  clear bI
  go_enter Tryz.func64,Tryz.ntmps64
  go_wp2
  go_loopw [13] (fun i wr=>∃k:Nat,k≤l.length∧i=.int .i64 k∧l.take k=r.take k∧Below w.heap.size w wr) (fun i _=>l.length-(intOf i).toNat)
  case atStart=>exact⟨0,by omega,rfl,by simp,Below.refl _ _⟩
  case round=>
   obtain⟨k,hk,rfl,he,hbe⟩:=hrel
   have He:=hid he;clear he
   by_cases aH:k<l.length
   ·have hlt':k<r.length:=by omega
    obtain⟨b0,o0,rfl,hb0,hcl0⟩:=hx0 k aH
    obtain⟨b1,o1,rfl,hb1,hcl1⟩:=hx1 k hlt'
    have L0:=ac hbe (hcl0 k aH)
    have L1:=ac hbe (hcl1 k hlt')
    have HS:=hid (fun h=>oI aH hlt' He.out h)
    have HN:=hid (fun h:¬l[k]=r[k]=>fun e:l=r=>h (by subst e;rfl))
    have HB:=hid hbe
    clear hcl0 hcl1 hx0 hx1 hbe
    go_wp2
    refine aC (by kernel_rfl) (by kernel_rfl) ?_
    repeat(first|refine WQ.ld tb (fun W hW=>ac hW L0) (bF _) ?_|refine WQ.ld tb (fun W hW=>ac hW L1) (bF _) ?_|refine WQ.neq (zez _ _) ?_|(refine WQ.step (fun K hK=>?_);go_simp;first|(refine hK _ ?_;clear hK K)|(apply Exists.intro;refine⟨fun W hW=>?_,hK _ ?_⟩;(first|with_reducible rfl|(go_simp;first|rfl|exact⟨rfl,rfl⟩));clear hK K)))
    refine WQ.nil ?_
    intro wq hwq
    by_cases hq:l[k]=r[k]
    ·rw[decide_eq_true hq]
     go_wp2
     exact⟨⟨k+1,by omega,by go_num,HS.out hq,Below.chain HB.out hwq⟩,by simp[intOf];omega⟩
    ·rw[decide_eq_false hq]
     go_wp2
     go_ret
     exact⟨by rw[decide_eq_false (HN.out hq)];rfl,Below.chain HB.out hwq⟩
   ·go_wp2
    go_ret
    exact⟨by rw[decide_eq_true (by rw[←List.take_of_length_le (l:=l) (i:=k) (by omega),He.out,List.take_of_length_le (by omega)])];rfl,hbe⟩
 ·have hb:((l.length:Int) !=(r.length:Int))=true:=by simp;omega
  go_enter Tryz.func64,Tryz.ntmps64
  go_wp2
  go_ret
  exact⟨by rw[decide_eq_false (by rintro rfl;exact bI rfl)];rfl,Below.refl _ _⟩
set_option maxHeartbeats 8000000 in
theorem yg (k y:Int) (f1 r1 f2 r2:Value) (fs:List (Txt×Txt)) (rs:List RdL) (w:World) (h1:aE w 2 bL f1 fs) (h2:aE w 2 bL f2 fs) (h3:aE w 34 RdL.cells r1 rs) (h4:aE w 34 RdL.cells r2 rs):
 Calls Tryz.prog 63 #[.agg (cT k y f1 r1).toArray,.agg (cT k y f2 r2).toArray] w fun e w'=>e=.returned (.bool true)∧Below w.heap.size w w':=by
 have HF:=hid (fun(W:World) (hb:Below w.heap.size w W)=>show Calls Tryz.prog 64 #[f1,f2] W fun e W'=>e=.returned (.bool true)∧Below W.heap.size W W' from by
  have h:=mr f1 f2 fs fs W (h1.below hb (Nat.le_refl _)) (h2.below hb (Nat.le_refl _))
  rwa [decide_eq_true rfl] at h)
 have HR:=hid (fun(W:World) (hb:Below w.heap.size w W)=>show Calls Tryz.prog 40 #[r1,r2] W fun e W'=>e=.returned (.bool true)∧Below W.heap.size W W' from by
  have h:=sL r1 r2 rs rs W (h3.below hb (Nat.le_refl _)) (h4.below hb (Nat.le_refl _))
  rwa [decide_eq_true rfl] at h)
 obtain⟨a1,c1,rfl, -⟩:=h1.out bF (by omega)
 obtain⟨a2,c2,rfl, -⟩:=h2.out bF (by omega)
 obtain⟨a3,c3,rfl, -⟩:=h3.out RdL.len (by omega)
 obtain⟨a4,c4,rfl, -⟩:=h4.out RdL.len (by omega)
 obtain⟨f1,hf1⟩:∃f,f=Value.slice a1 fs.length c1:=⟨_,rfl⟩
 obtain⟨f2,hf2⟩:∃f,f=Value.slice a2 fs.length c2:=⟨_,rfl⟩
 obtain⟨r1,hr1⟩:∃f,f=Value.slice a3 rs.length c3:=⟨_,rfl⟩
 obtain⟨r2,hr2⟩:∃f,f=Value.slice a4 rs.length c4:=⟨_,rfl⟩
 rw[←hf1,←hf2] at HF
 rw[←hr1,←hr2] at HR
 rw[←hf1,←hf2,←hr1,←hr2]
 clear h1 h2 h3 h4 hf1 hf2 hr1 hr2
 go_enter Tryz.func63,Tryz.ntmps63
 go_upto_region 1 with first|(refine cI (xs:=(cT k y f1 r1).toArray) dX ?_;intro W1 hb1 hn1 hs1)|(refine cI (xs:=(cT k y f2 r2).toArray) dX ?_;intro W2 hb2 hn2 hs2)
 rw[hs1] at hn2
 have q1:=ac hb2 (af hn1)
 have q2:=af hn2
 have HB2:=hid (Below.chain hb1 hb2)
 clear hb1 hn1 hb2 hn2 hs2
 have d0:W2.cell? ⟨w.heap.size,0,none⟩=some (.int .i64 k):=q1 0 _ rfl
 have d1:W2.cell? ⟨w.heap.size,1,none⟩=some (.int .i64 y):=q1 1 _ rfl
 have d2:W2.cell? ⟨w.heap.size,2,none⟩=some f1:=q1 2 _ rfl
 have d3:W2.cell? ⟨w.heap.size,3,none⟩=some r1:=q1 3 _ rfl
 have d4:W2.cell? ⟨w.heap.size+1,0,none⟩=some (.int .i64 k):=q2 0 _ rfl
 have d5:W2.cell? ⟨w.heap.size+1,1,none⟩=some (.int .i64 y):=q2 1 _ rfl
 have d6:W2.cell? ⟨w.heap.size+1,2,none⟩=some f2:=q2 2 _ rfl
 have d7:W2.cell? ⟨w.heap.size+1,3,none⟩=some r2:=q2 3 _ rfl
 have ek:(k==k)=true:=beq_self_eq_true k
 have ey:(y==y)=true:=beq_self_eq_true y
 clear q1 q2
 go_wp2_with fail
 refine(HF.out W2 HB2.out).mono ?_
 rintro e W3 ⟨rfl,hb3⟩
 have HB3:=hid (Below.chain HB2.out hb3)
 have d3:=Below.keeps hb3 d3
 have d7:=Below.keeps hb3 d7
 clear hb3 d0 d1 d2 d4 d5 d6
 go_wp2_with fail
 refine(HR.out W3 HB3.out).mono ?_
 rintro e W4 ⟨rfl,hb4⟩
 have HB4:=hid (Below.chain HB3.out hb4)
 clear hb4
 go_wp2_with fail
 go_ret
 exact⟨rfl,HB4.out⟩
set_option maxHeartbeats 8000000 in
theorem vQ (k y:Int) (f1 r1 f2 r2:Value) (fs:List (Txt×Txt)) (rs:List RdL) (g h:Nat) (w:World) (h1:aE w 2 bL f1 fs) (h2:aE w 2 bL f2 fs) (h3:aE w 34 RdL.cells r1 rs) (h4:aE w 34 RdL.cells r2 rs)
 (hg:w.heap[g]?=some (.cells (cT k y f1 r1).toArray 82 (0,0))) (hh:w.heap[h]?=some (.cells (cT k y f2 r2).toArray 82 (0,0))):
 Calls Tryz.prog 62 #[.slice (some ⟨g,0,none⟩) 1 1,.slice (some ⟨h,0,none⟩) 1 1,.func (.func 63) #[] #[]] w fun e w'=>e=.returned (.bool true)∧Below w.heap.size w w':=by
 have HS:=hid (fun(W:World) (hb:Below w.heap.size w W)=>yg k y f1 r1 f2 r2 fs rs W (h1.below hb (Nat.le_refl _)) (h2.below hb (Nat.le_refl _)) (h3.below hb (Nat.le_refl _)) (h4.below hb (Nat.le_refl _)))
 obtain⟨a1,c1,e1, -⟩:=h1.out bF (by omega)
 obtain⟨a2,c2,e2, -⟩:=h2.out bF (by omega)
 obtain⟨a3,c3,e3, -⟩:=h3.out RdL.len (by omega)
 obtain⟨a4,c4,e4, -⟩:=h4.out RdL.len (by omega)
 have HO1:=hid (dR k y f1 r1 (by rw[e1];rfl) (by rw[e3];rfl))
 have HO2:=hid (dR k y f2 r2 (by rw[e2];rfl) (by rw[e4];rfl))
 have HL1:=hid (show(cT k y f1 r1).length=4 from rfl)
 have HL2:=hid (show(cT k y f2 r2).length=4 from rfl)
 have HG:=hid (And.intro hg hh)
 clear h1 h2 h3 h4 e1 e2 e3 e4 hg hh
 go_enter Tryz.func62,Tryz.ntmps62
 go_wp2_with fail
 go_loopw [17] (fun i wr=>∃k:Nat,k≤1∧i=.int .i64 k∧Below w.heap.size w wr) (fun i _=>1-(intOf i).toNat)
 case atStart=>exact⟨0,by omega,rfl,Below.refl _ _⟩
 case round=>
  obtain⟨j,hj,rfl,hbr⟩:=hrel
  have HBR:=hid hbr
  clear hbr
  by_cases aH:j<1
  ·obtain rfl:j=0:=by omega
   have q1:=ac HBR.out (af HG.out.1)
   have q2:=ac HBR.out (af HG.out.2)
   go_upto_region 6 with first|(refine bC dX q1 HL1.out ?_)|(refine iK dX ?_;intro zs W2 hzs hb2 hn2 hs2)|(refine fp (xs:=(cT k y f1 r1).toArray) dX hn2 hzs rfl HO1.out ?_;intro W3 ht3 hn3 hs3)
   have hb3:=hb2.trans (ht3.below (Nat.le_refl _))
   have q2:=ac hb3 q2
   rw[hs2] at hs3
   have HB3:=hid (HBR.out.trans (hb3.mono HBR.out.size))
   have HN3:=hid hn3
   have hz3:=HBR.out.size
   clear hb2 hn2 hs2 ht3 hb3 hzs hn3 q1
   go_upto_region 7 with first|(refine bC dX q2 HL2.out ?_)|(refine iK dX ?_;intro zs W4 hzs hb4 hn4 hs4)|(refine fp (xs:=(cT k y f2 r2).toArray) dX hn4 hzs rfl HO2.out ?_;intro W5 ht5 hn5 hs5)
   have hb5:=hb4.trans (ht5.below (Nat.le_refl _))
   have q3:=ac hb5 (af HN3.out)
   have q4:=af hn5
   rw[hs3] at q4
   have HB5:=hid (HB3.out.trans (hb5.mono HB3.out.size))
   clear hb4 hn4 hs4 ht5 hb5 hzs hn5 hs5 q2
   go_wp2_with first|(refine bC dX q3 HL1.out ?_)|(refine bC dX q4 HL2.out ?_)
   refine(HS.out W5 HB5.out).mono ?_
   rintro e W6 ⟨rfl,hb6⟩
   have HB6:=hid (HB5.out.trans (hb6.mono HB5.out.size))
   clear hb6
   go_wp2_with fail
   exact⟨⟨1,by omega,by go_num,HB6.out⟩,by simp[intOf]⟩
  ·obtain rfl:j=1:=by omega
   go_wp2_with fail
   go_ret
   exact⟨rfl,HBR.out⟩
theorem zeE:cY 88 4:=⟨_,Tryz.underlying88,rfl,by kernel_rfl⟩
def zcm (g:Nat):List Value:=[.slice (some ⟨g,0,none⟩) 1 1,.slice none 0 0,.slice none 0 0,.slice none 0 0]
theorem yi (k y:Int) (f1 r1 f2 r2:Value) (fs:List (Txt×Txt)) (rs:List RdL) (g h:Nat) (w:World) (h1:aE w 2 bL f1 fs) (h2:aE w 2 bL f2 fs) (h3:aE w 34 RdL.cells r1 rs) (h4:aE w 34 RdL.cells r2 rs)
 (hg:w.heap[g]?=some (.cells (cT k y f1 r1).toArray 82 (0,0))) (hh:w.heap[h]?=some (.cells (cT k y f2 r2).toArray 82 (0,0))):
 Calls Tryz.prog 27 #[.agg (zcm g).toArray,.agg (zcm h).toArray] w fun e w'=>e=.returned (.bool true)∧Below w.heap.size w w':=by
 have HE:=hid (fun(W:World) (hb:Below w.heap.size w W)=>vQ k y f1 r1 f2 r2 fs rs g h W (h1.below hb (Nat.le_refl _)) (h2.below hb (Nat.le_refl _)) (h3.below hb (Nat.le_refl _)) (h4.below hb (Nat.le_refl _)) ((hb.block _ (lx (hid hg))).trans hg) ((hb.block _ (lx (hid hh))).trans hh))
 have HF:=hid (fun(W:World)=>show Calls Tryz.prog 64 #[.slice none 0 0,.slice none 0 0] W fun e W'=>e=.returned (.bool true)∧Below W.heap.size W W' from by
  have h:=mr (.slice none 0 0) (.slice none 0 0) [] [] W (ap.nil _ _) (ap.nil _ _)
  rwa [decide_eq_true rfl] at h)
 clear h1 h2 h3 h4 hg hh
 go_enter Tryz.func27,Tryz.ntmps27
 go_upto_region 1 with first|(refine cI (xs:=(zcm g).toArray) zeE ?_;intro W1 hb1 hn1 hs1)|(refine cI (xs:=(zcm h).toArray) zeE ?_;intro W2 hb2 hn2 hs2)
 rw[hs1] at hn2
 have q1:=ac hb2 (af hn1)
 have q2:=af hn2
 have HB2:=hid (Below.chain hb1 hb2)
 clear hb1 hn1 hb2 hn2 hs2
 have d0:W2.cell? ⟨w.heap.size,0,none⟩=some (.slice (some ⟨g,0,none⟩) 1 1):=q1 0 _ rfl
 have d1:W2.cell? ⟨w.heap.size,3,none⟩=some (.slice none 0 0):=q1 3 _ rfl
 have d2:W2.cell? ⟨w.heap.size+1,0,none⟩=some (.slice (some ⟨h,0,none⟩) 1 1):=q2 0 _ rfl
 have d3:W2.cell? ⟨w.heap.size+1,3,none⟩=some (.slice none 0 0):=q2 3 _ rfl
 clear q1 q2
 go_wp2_with fail
 refine(HE.out W2 HB2.out).mono ?_
 rintro e W3 ⟨rfl,hb3⟩
 have HB3:=hid (Below.chain HB2.out hb3)
 have d1:=Below.keeps hb3 d1
 have d3:=Below.keeps hb3 d3
 clear hb3 d0 d2
 go_wp2_with fail
 refine(HF.out W3).mono ?_
 rintro e W4 ⟨rfl,hb4⟩
 have HB4:=hid (Below.chain HB3.out hb4)
 clear hb4
 go_wp2_with fail
 go_ret
 exact⟨rfl,HB4.out⟩
end Go.Proofs.YtlbipokkdiiaiaaGreatDoor
namespace Go.Proofs.YtlbipokkdiiaiaaGreatDoor
open Go.RowKit
noncomputable def zb2 (y:ByL) (l:List bS) (T:Txt→KnL):Nat→bG
 |0=>pH y l
 |i+1=>fY y (zb2 y l T i) (T (zb2 y l T i).asks)
open Exec Go.Shelf
attribute [local go_sem] Oper.semAt_some
set_option maxRecDepth 100000
theorem za9 {α:Type} {w:World} {sz g e:Nat} {f:α→List Value} {x:α} (hs:(f x).length=sz) (h:w.heap[g]?=some (.cells (f x).toArray e (0,0))):aE w sz f (.slice (some ⟨g,0,none⟩) 1 1) [x]:=by
 refine⟨by simp[hs],_,_,rfl,Nat.le_refl _,by decide,(fun e=>by cases e),fun _=>⟨g,0,rfl,lx (hid h),fun j u hu=>?_⟩⟩
 rw[List.flatMap_cons,List.flatMap_nil,List.append_nil] at hu
 exact(by simpa using af h j u hu)
theorem vz (fs:List (Txt×Txt)) (p:Txt):(fo fs p).path=p:=by
 unfold fo
 split<;>rfl
theorem ud {fs:List (Txt×Txt)} (h:∀f∈fs,f.2.length≤65536) (p:Txt):(fo fs p).data.length≤65536:=by
 unfold fo
 split
 ·rename_i x hx
  exact h x (List.mem_of_find?_eq_some hx)
 ·exact Nat.zero_le _
end Go.Proofs.YtlbipokkdiiaiaaGreatDoor
namespace Go.Proofs.YtlbipokkdiiaiaaGreatDoor
open Go.RowKit Exec
set_option maxRecDepth 100000
def dy:(Dg→Option (List UInt8))→List (List UInt8)→Bool
 |_,[]=>true
 |m,s::l=>match m (dV s) with
  |some t=>if t=s then dy (fun d=>if d=dV s then some s else m d) l else false
  |none=>dy (fun d=>if d=dV s then some s else m d) l
theorem qC:∀(l:List (List UInt8)) (m:Dg→Option (List UInt8)),dy m l=true→(∀s∈l,∀t,m (dV s)=some t→t=s)∧∀s∈l,∀t∈l,dV s=dV t→s=t
 |[],_,_=>⟨fun s h=>by(cases h),fun s h=>by(cases h)⟩
 |s::l,m,h=>by
  unfold dy at h
  have hs:∀t,m (dV s)=some t→t=s:=by
   intro t ht
   rw[ht] at h
   simp only at h
   split at h
   ·assumption
   ·cases h
  have h2:dy (fun d=>if d=dV s then some s else m d) l=true:=by
   cases hm:m (dV s) with
   |none=>rw[hm] at h;exact h
   |some t=>rw[hm] at h;simp only at h;split at h;exact h;cases h
  obtain⟨i1,i2⟩:=qC l _ h2
  have h3:∀t∈l,dV t=dV s→s=t:=fun t ht e=>i1 t ht s (by simp[e])
  refine⟨fun x hx t ht=>?_,fun x hx t ht e=>?_⟩
  ·rcases List.mem_cons.1 hx with rfl|hx
   ·exact hs t ht
   ·by_cases e:dV x=dV s
    ·have h4:=h3 x hx e
     subst h4
     exact hs t ht
    ·exact i1 x hx t (by simp[e,ht])
  ·rcases List.mem_cons.1 hx with h4|h4
   ·rcases List.mem_cons.1 ht with h5|h5
    ·rw[h4,h5]
    ·subst h4;exact h3 t h5 e.symm
   ·rcases List.mem_cons.1 ht with h5|h5
    ·subst h5;exact(h3 x h4 e).symm
    ·exact i2 x h4 t h5 e
set_option maxHeartbeats 4000000 in
theorem yV (v:Value) (n:Nat) (l:List (List UInt8)) (w:World) (h0:ap w 1 v n (ag l)) (bI:∀s∈l,s.length≤140737488351232):
 Calls Tryz.prog 13 #[v] w fun e w'=>e=.returned (.bool (dy (fun _=>none) l))∧Below w.heap.size w w':=by
 obtain⟨rfl,va,vc,rfl,hvc,hvm,hx⟩:=h0.str
 unfold maxLen at hvm
 have HX:=hid hx
 have HL:=hid bI
 have hmm:=@run_makeMap Tryz.prog
 have ht:Tryz.prog.underlying 127=some (.map 31 9):=by kernel_rfl
 have hz:∀W,(zeroValue 9).run Tryz.prog W=.ok (.string ⟨#[]⟩) W:=fun W=>rfl
 have HTZ:=hid (And.intro ht hz)
 clear h0 hx bI ht hz
 go_enter Tryz.func13,Tryz.ntmps13
 go_upto_region 2 with fail
 have hmb:(w.alloc (.map #[] 0)).heap[w.heap.size]?=some (.map #[] 0):=heap_alloc_new w _
 have hb0:=ab w (.map #[] 0)
 generalize w.alloc (.map #[] 0)=W0 at *
 have HM0:=hid (And.intro hmb hb0)
 clear hmb hb0 hmm
 go_wp2_with fail
 go_loopw [12] (fun i wr=>∃(k:Nat) (m:Dg→Option (List UInt8)) (o:Obj),k≤l.length∧i=.int .i64 k∧wr.heap[w.heap.size]?=some o∧fu dgv (fun d=>(m d).map fun s=>Value.string (bs s)) o∧dy (fun _=>none) l=dy m (l.drop k)∧Below w.heap.size w wr) (fun i _=>l.length-(intOf i).toNat)
 case atStart=>exact⟨0,fun _=>none,_,by omega,rfl,HM0.out.1,fu.nil _,rfl,HM0.out.2⟩
 case round=>
  obtain⟨k,m,o,hk,rfl,hmo,hM,hap,hbr⟩:=hrel
  by_cases aH:k<l.length
  ·obtain⟨b,off,rfl,hbl,aX⟩:=HX.out k aH
   have L0:=Below.keeps hbr (aX k aH)
   have HD:=hid (List.drop_eq_getElem_cons aH)
   have hsl:=HL.out l[k] (List.getElem_mem aH)
   have HM:=hid (And.intro hmo (And.intro hM (And.intro hap hbr)))
   clear hmo hM hap hbr aX
   generalize l[k]=s at *
   have hal:=ab wr (.cells #[.string (bs s)] 9)
   go_upto_region 6 with first|(go_at_call 36;refine(rR s _ 1 _ (nR (heap_alloc_new wr _)) hsl).mono ?_;rintro e W3 ⟨rfl,hb3⟩)|(refine eB (xs:=(dgc (dV s)).toArray) uN (by rw[List.size_toArray];exact dD _) (ng _) ?_;intro W4 hb4 hn4 hs4)
   have hb14:=Below.chain hal (Below.chain hb3 hb4)
   have hwl:=lx (hid HM.out.1)
   have hmo4:=(hb14.block _ hwl).trans HM.out.1
   have hlk:=HM.out.2.1.look zdG hmo4 HTZ.out.1 (HTZ.out.2 W4) (dV s) true
   obtain⟨o',hup,hM'⟩:=HM.out.2.1.put zdG hmo4 HTZ.out.1 (dV s) (.string (bs s))
   have hpt:=dj (lx (hid hmo4)) o'
   have hpa:=fA (lx (hid hmo4)) o'
   have HW4:=hid (And.intro hb14 (And.intro hM' (And.intro hpt hpa)))
   unfold dgv at hlk hup
   have HN4:=hid hn4
   have hz4:=hb14.size
   clear hal hb3 hb4 hn4 hs4 hb14 hM' hpt hpa hmo4
   have hnext:∀(h1:dy m (l.drop k)=dy (fun d=>if d=dV s then some s else m d) (l.drop (k+1))),∃(k':Nat) (m':Dg→Option (List UInt8)) (o'':Obj),k'≤l.length∧Value.int .i64 (((k+1:Nat)):Int)=.int .i64 k'∧(cS W4 w.heap.size o').heap[w.heap.size]?=some o''∧fu dgv (fun d=>(m' d).map fun s=>Value.string (bs s)) o''∧dy (fun _=>none) l=dy m' (l.drop k')∧Below w.heap.size w (cS W4 w.heap.size o'):=fun h1=>by
    obtain⟨a1,a2,a3,a4⟩:=HW4.out
    have hs:=HM.out.2.2.2.size
    refine⟨k+1,_,o',by omega,rfl,a4,?_,HM.out.2.2.1.trans h1,(HM.out.2.2.2.trans (a1.mono hs)).trans (a3.below (Nat.le_refl _))⟩
    have e:(fun x=>if x=dV s then some (Value.string (bs s)) else(m x).map fun s=>Value.string (bs s))=fun d=>((fun d=>if d=dV s then some s else m d) d).map fun s=>Value.string (bs s):=by
     funext x
     by_cases hx:x=dV s<;>simp[hx]
    rw[←e]
    exact a2
   have HNX:=hid hnext
   clear hnext
   cases hm:m (dV s) with
   |none=>
    rw[hm] at hlk
    simp only[Option.map_none,Option.getD_none,Option.isSome_none,if_true] at hlk
    have h1:=HNX.out (by rw[HD.out];simp only[dy,hm])
    have HE:=hid h1
    clear h1 hm
    go_wp2_with first|(refine bC uN (af HN4.out) (dD _) ?_)
    refine⟨?_,by simp[intOf];omega⟩
    exact HE.out
   |some t=>
    rw[hm] at hlk
    simp only[Option.map_some,Option.getD_some,Option.isSome_some,if_true] at hlk
    by_cases hts:t=s
    ·have h1:=HNX.out (by rw[HD.out];simp only[dy,hm,if_pos hts])
     have HE:=hid h1
     subst hts
     clear h1 hm
     go_wp2_with first|(refine bC uN (af HN4.out) (dD _) ?_)
     refine⟨?_,by simp[intOf];omega⟩
     exact HE.out
    ·have h1:dy m (l.drop k)=false:=by rw[HD.out];simp only[dy,hm,if_neg hts]
     have HE:=hid (HM.out.2.2.1.trans h1)
     have hb:(t==s)=false:=beq_eq_false_iff_ne.2 hts
     clear h1 hm hts
     go_wp2_with first|(refine bC uN (af HN4.out) (dD _) ?_)
     go_ret
     exact⟨by rw[HE.out];rfl,HM.out.2.2.2.trans (HW4.out.1.mono HM.out.2.2.2.size)⟩
  ·obtain rfl:k=l.length:=by omega
   have hap':=hap
   rw[List.drop_length] at hap'
   go_wp2_with fail
   go_ret
   exact⟨by rw[hap'];rfl,hbr⟩
end Go.Proofs.YtlbipokkdiiaiaaGreatDoor
