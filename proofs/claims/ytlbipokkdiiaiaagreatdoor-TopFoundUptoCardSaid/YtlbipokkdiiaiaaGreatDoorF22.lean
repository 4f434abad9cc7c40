/- Lemmas for TopFoundUpto: F76, F77, F75, F78, F79, F80. -/
import Derived.Test.YtlbipokkdiiaiaaGreatDoorF21
import Derived.Test.YtlbipokkdiiaiaaGreatDoorF05
open List renaming setIfInBounds_toArray → sA, set_cons_zero → sB, set_cons_succ → sC
namespace Go.Proofs.YtlbipokkdiiaiaaGreatDoor
open Go.RowKit Exec Go.Shelf
set_option maxRecDepth 100000
attribute [local go_sem] Oper.semAt_some
theorem eG (k:KnL):(knC k).length=3:=rfl
theorem gZ (k:KnL):∀u∈knC k,u.oneCell'=true:=by
 intro u hu
 simp only[knC,List.mem_cons,List.not_mem_nil,or_false] at hu
 rcases hu with rfl|rfl|rfl<;>rfl
def pu {α:Type} (ls:List α) (P:α→Bool) (i:Int):Prop:=(i= -1∧ls.find? P=none)∨∃(k:Nat) (hk:k<ls.length),i=k∧ls.find? P=some ls[k]
theorem pu.at {α:Type} {ls:List α} {P:α→Bool} {k:Nat} (hk:k<ls.length) (h:P ls[k]=true) (ha:∀j (hj:j<ls.length),j<k→P ls[j]=false):pu ls P k:=
 .inr ⟨k,hk,rfl,List.find?_eq_some_iff_getElem.2 ⟨h,k,hk,rfl,fun j hj=>by simp[ha j (by omega) hj]⟩⟩
theorem pu.no {α:Type} {ls:List α} {P:α→Bool} (ha:∀j (hj:j<ls.length),P ls[j]=false):pu ls P (-1):=
 .inl ⟨rfl,List.find?_eq_none.2 fun x hx=>by
  obtain⟨i,hi,rfl⟩:=List.getElem_of_mem hx
  rw[ha i hi]
  simp⟩
theorem wX {α:Type} {ls:List α} {P:α→Bool} {i:Int} (h:pu ls P i):decide (0≤i)=ls.any P:=by
 rcases h with⟨rfl,h⟩|⟨k,hk,rfl,h⟩
 ·rw[List.find?_eq_none] at h
  exact(decide_eq_false (by omega)).trans (List.any_eq_false.2 h).symm
 ·exact(decide_eq_true (by omega)).trans (List.any_eq_true.2 ⟨_,List.mem_of_find?_eq_some h,List.find?_some h⟩).symm
set_option maxHeartbeats 4000000 in
theorem sV (v:Value) (ls:List (Txt×Txt)) (nf:Nat) (caps:Array Value) (eg:∀args w,(callFunc nf args).run Tryz.prog w=.ok (.enter nf args) w) (P:Txt×Txt→Bool) (w:World) (h:aJ w 2 cO v ls) (hl:ls.length≤2000000)
 (hf:∀W,Below w.heap.size w W→∀x∈ls,Calls Tryz.prog nf (#[.agg (cO x).toArray]++caps) W fun e W'=>e=.returned (.bool (P x))∧Below W.heap.size W W'):
 Calls Tryz.prog 60 #[v,.func (.func nf) #[] caps] w fun e w'=>∃i:Int,e=.returned (.int .i64 i)∧pu ls P i∧Below w.heap.size w w':=by
 obtain⟨a,c,rfl,hc,hm, -,hx⟩:=h.out (fun x=>cD _) (by omega)
 have HX:=hid hx
 have HF:=hid hf
 clear h hx hf
 go_enter Tryz.func60,Tryz.ntmps60
 go_wp2_with fail
 go_loopw [8] (fun i wr=>∃k:Nat,k≤ls.length∧i=.int .i64 k∧(∀j (hj:j<ls.length),j<k→P ls[j]=false)∧Below w.heap.size w wr) (fun i _=>ls.length-(intOf i).toNat)
 case atStart=>exact⟨0,Nat.zero_le _,rfl,fun j _ h=>absurd h (Nat.not_lt_zero _),Below.refl _ _⟩
 case round=>
  obtain⟨k,hk,rfl,hall,hbw⟩:=hrel
  have HA:=hid hall
  have HB:=hid hbw
  clear hall
  by_cases aK:k<ls.length
  ·obtain⟨b,o,rfl,hb0,aO⟩:=HX.out k aK
   have L1:=aQ hbw (aO k aK)
   have HC:=hid (HF.out wr HB.out _ (List.getElem_mem aK))
   clear hbw aO
   cases hq:P ls[k] with
   |true=>
    rw[hq] at HC
    have HQ:=hid hq
    clear hq
    generalize hxk:ls[k]=x at HC L1
    have HXK:=hid hxk
    clear hxk
    go_wp2_with first|(refine bX tU L1 (cD _) ?_)|(refine HC.out.mono ?_;rintro e W2 ⟨rfl,hb2⟩)
    go_ret
    exact⟨(k:Int),rfl,.at aK HQ.out HA.out,Below.chain HB.out hb2⟩
   |false=>
    rw[hq] at HC
    have HQ:=hid hq
    clear hq
    generalize hxk:ls[k]=x at HC L1
    have HXK:=hid hxk
    clear hxk
    go_wp2_with first|(refine bX tU L1 (cD _) ?_)|(refine HC.out.mono ?_;rintro e W2 ⟨rfl,hb2⟩)
    exact⟨⟨k+1,by omega,by go_num,fun j hj hjk=>by
     by_cases e:j=k
     ·subst e;exact HQ.out
     ·exact HA.out j hj (by omega),Below.chain HB.out hb2⟩,by simp[intOf];omega⟩
  ·obtain rfl:k=ls.length:=by omega
   go_wp2_with fail
   go_ret
   exact⟨-1,rfl,.no fun j hj=>HA.out j hj hj,HB.out⟩
theorem zZ (v:Value) (ls:List (Txt×Txt)) (nf:Nat) (caps:Array Value) (eg:∀args w,(callFunc nf args).run Tryz.prog w=.ok (.enter nf args) w) (P:Txt×Txt→Bool) (w:World) (h:aJ w 2 cO v ls) (hl:ls.length≤2000000)
 (hf:∀W,Below w.heap.size w W→∀x∈ls,Calls Tryz.prog nf (#[.agg (cO x).toArray]++caps) W fun e W'=>e=.returned (.bool (P x))∧Below W.heap.size W W'):
 Calls Tryz.prog 55 #[v,.func (.func nf) #[] caps] w fun e w'=>e=.returned (.bool (ls.any P))∧Below w.heap.size w w':=by
 have HI:=hid (sV v ls nf caps eg P w h hl hf)
 obtain⟨a,c,rfl, -, -, -, -⟩:=h.out (fun x=>cD _) (by omega)
 clear h hf eg
 go_enter Tryz.func55,Tryz.ntmps55
 go_wp2_with (go_at_call 60;refine HI.out.mono ?_;rintro e W2 ⟨i,rfl,hi,hb⟩)
 go_ret
 refine⟨?_,hb⟩
 rw[wX hi]
 rfl
theorem xi (x:Txt×Txt) (w:World):Calls Tryz.prog 56 #[.agg (cO x).toArray] w fun e w'=>e=.returned (.bool (decide (65536<x.2.length)))∧Below w.heap.size w w':=by
 go_enter Tryz.func56,Tryz.ntmps56
 go_upto_region 1 with(refine df tU ?_;intro W1 hb1 hn1 hs1)
 have k0:W1.cell? ⟨w.heap.size,1,none⟩=some (.string (bs x.2)):=(cell_of_row _ _ 1 _ _ _ hn1).trans rfl
 have HB:=hid hb1
 clear hb1 hn1 hs1
 go_wp2_with fail
 go_ret
 refine⟨?_,HB.out⟩
 simp
 omega
theorem zcj (x:Txt×Txt) (p:Txt) (c:Nat) (w:World) (hc:w.cell? ⟨c,0,none⟩=some (.string (bs p))):Calls Tryz.prog 61 #[.agg (cO x).toArray,.pointer (some ⟨c,0,none⟩)] w fun e w'=>e=.returned (.bool (decide (x.1=p)))∧Below w.heap.size w w':=by
 go_enter Tryz.func61,Tryz.ntmps61
 go_upto_region 1 with(refine df tU ?_;intro W1 hb1 hn1 hs1)
 have k0:W1.cell? ⟨w.heap.size,0,none⟩=some (.string (bs (x.1))):=(cell_of_row _ _ 0 _ _ _ hn1).trans rfl
 have hc1:=Below.keeps hb1 hc
 have HB:=hid hb1
 clear hb1 hn1 hs1 hc
 go_wp2_with fail
 go_ret
 refine⟨?_,HB.out⟩
 simp
 by_cases h:x.1=p<;>simp[h]
set_option maxHeartbeats 4000000 in
theorem sI (v:Value) (ls:List (KnL)) (nf:Nat) (caps:Array Value) (eg:∀args w,(callFunc nf args).run Tryz.prog w=.ok (.enter nf args) w) (P:KnL→Bool) (w:World) (h:aJ w 3 knC v ls) (hl:ls.length≤2000000)
 (hf:∀W,Below w.heap.size w W→∀x∈ls,Calls Tryz.prog nf (#[.agg (knC x).toArray]++caps) W fun e W'=>e=.returned (.bool (P x))∧Below W.heap.size W W'):
 Calls Tryz.prog 68 #[v,.func (.func nf) #[] caps] w fun e w'=>∃i:Int,e=.returned (.int .i64 i)∧pu ls P i∧Below w.heap.size w w':=by
 obtain⟨a,c,rfl,hc,hm, -,hx⟩:=h.out (fun x=>eG _) (by omega)
 have HX:=hid hx
 have HF:=hid hf
 clear h hx hf
 go_enter Tryz.func68,Tryz.ntmps68
 go_wp2_with fail
 go_loopw [8] (fun i wr=>∃k:Nat,k≤ls.length∧i=.int .i64 k∧(∀j (hj:j<ls.length),j<k→P ls[j]=false)∧Below w.heap.size w wr) (fun i _=>ls.length-(intOf i).toNat)
 case atStart=>exact⟨0,Nat.zero_le _,rfl,fun j _ h=>absurd h (Nat.not_lt_zero _),Below.refl _ _⟩
 case round=>
  obtain⟨k,hk,rfl,hall,hbw⟩:=hrel
  have HA:=hid hall
  have HB:=hid hbw
  clear hall
  by_cases aK:k<ls.length
  ·obtain⟨b,o,rfl,hb0,aO⟩:=HX.out k aK
   have L1:=aQ hbw (aO k aK)
   have HC:=hid (HF.out wr HB.out _ (List.getElem_mem aK))
   clear hbw aO
   cases hq:P ls[k] with
   |true=>
    rw[hq] at HC
    have HQ:=hid hq
    clear hq
    generalize hxk:ls[k]=x at HC L1
    have HXK:=hid hxk
    clear hxk
    go_wp2_with first|(refine bX eO L1 (eG _) ?_)|(refine HC.out.mono ?_;rintro e W2 ⟨rfl,hb2⟩)
    go_ret
    exact⟨(k:Int),rfl,.at aK HQ.out HA.out,Below.chain HB.out hb2⟩
   |false=>
    rw[hq] at HC
    have HQ:=hid hq
    clear hq
    generalize hxk:ls[k]=x at HC L1
    have HXK:=hid hxk
    clear hxk
    go_wp2_with first|(refine bX eO L1 (eG _) ?_)|(refine HC.out.mono ?_;rintro e W2 ⟨rfl,hb2⟩)
    exact⟨⟨k+1,by omega,by go_num,fun j hj hjk=>by
     by_cases e:j=k
     ·subst e;exact HQ.out
     ·exact HA.out j hj (by omega),Below.chain HB.out hb2⟩,by simp[intOf];omega⟩
  ·obtain rfl:k=ls.length:=by omega
   go_wp2_with fail
   go_ret
   exact⟨-1,rfl,.no fun j hj=>HA.out j hj hj,HB.out⟩
theorem zah (v:Value) (ls:List (KnL)) (nf:Nat) (caps:Array Value) (eg:∀args w,(callFunc nf args).run Tryz.prog w=.ok (.enter nf args) w) (P:KnL→Bool) (w:World) (h:aJ w 3 knC v ls) (hl:ls.length≤2000000)
 (hf:∀W,Below w.heap.size w W→∀x∈ls,Calls Tryz.prog nf (#[.agg (knC x).toArray]++caps) W fun e W'=>e=.returned (.bool (P x))∧Below W.heap.size W W'):
 Calls Tryz.prog 65 #[v,.func (.func nf) #[] caps] w fun e w'=>e=.returned (.bool (ls.any P))∧Below w.heap.size w w':=by
 have HI:=hid (sI v ls nf caps eg P w h hl hf)
 obtain⟨a,c,rfl, -, -, -, -⟩:=h.out (fun x=>eG _) (by omega)
 clear h hf eg
 go_enter Tryz.func65,Tryz.ntmps65
 go_wp2_with (go_at_call 68;refine HI.out.mono ?_;rintro e W2 ⟨i,rfl,hi,hb⟩)
 go_ret
 refine⟨?_,hb⟩
 rw[wX hi]
 rfl
theorem y7 (x:KnL) (w:World):Calls Tryz.prog 66 #[.agg (knC x).toArray] w fun e w'=>e=.returned (.bool (x.is&&decide (65536<x.data.length)))∧Below w.heap.size w w':=by
 go_enter Tryz.func66,Tryz.ntmps66
 go_upto_region 1 with(refine df eO ?_;intro W1 hb1 hn1 hs1)
 have k0:W1.cell? ⟨w.heap.size,1,none⟩=some (.bool x.is):=(cell_of_row _ _ 1 _ _ _ hn1).trans rfl
 have k1:W1.cell? ⟨w.heap.size,2,none⟩=some (.string (bs x.data)):=(cell_of_row _ _ 2 _ _ _ hn1).trans rfl
 have HB:=hid hb1
 clear hb1 hn1 hs1
 cases hq:x.is with
 |true=>
  rw[hq] at k0
  have HQ:=hid hq
  clear hq
  go_wp2_with fail
  go_ret
  refine⟨?_,HB.out⟩
  simp[HQ.out]
  omega
 |false=>
  rw[hq] at k0
  have HQ:=hid hq
  clear hq
  go_wp2_with fail
  go_ret
  refine⟨?_,HB.out⟩
  simp[HQ.out]
theorem zcD (x:KnL) (p:Txt) (c:Nat) (w:World) (hc:w.cell? ⟨c,0,none⟩=some (.string (bs p))):Calls Tryz.prog 69 #[.agg (knC x).toArray,.pointer (some ⟨c,0,none⟩)] w fun e w'=>e=.returned (.bool (decide (x.path=p)))∧Below w.heap.size w w':=by
 go_enter Tryz.func69,Tryz.ntmps69
 go_upto_region 1 with(refine df eO ?_;intro W1 hb1 hn1 hs1)
 have k0:W1.cell? ⟨w.heap.size,0,none⟩=some (.string (bs (x.path))):=(cell_of_row _ _ 0 _ _ _ hn1).trans rfl
 have hc1:=Below.keeps hb1 hc
 have HB:=hid hb1
 clear hb1 hn1 hs1 hc
 go_wp2_with fail
 go_ret
 refine⟨?_,HB.out⟩
 simp
 by_cases h:x.path=p<;>simp[h]
def bt (fs:List (Txt×Txt)) (p:Txt):KnL:=match fs.find? (fun x=>decide (x.1=p)) with
 |some x=>⟨p,true,x.2⟩
 |none=>⟨p,false,[]⟩
def knK (ks:List KnL) (p:Txt):Option KnL:=ks.find? fun x=>decide (x.path=p)
def zaE (E:Nat→Prop) (nf:Nat) (caps:Array Value) (ans:Txt→Option KnL) (w:World):Prop:=∀W,aw E w W→∀p:Txt,Calls Tryz.prog nf (#[.string (bs p)]++caps) W fun e W'=>(∃z,e=.returned (.tuple #[knV z,.bool (ans p).isSome])∧∀k,ans p=some k→z=k)∧Below W.heap.size W W'
set_option maxHeartbeats 4000000 in
theorem zl (fs:List (Txt×Txt)) (v:Value) (c:Nat) (p:Txt) (w:World) (hc:w.cell? ⟨c,0,none⟩=some v) (h:aJ w 2 cO v fs) (hl:fs.length≤2000000):
 Calls Tryz.prog 59 #[.string (bs p),.pointer (some ⟨c,0,none⟩)] w fun e w'=>e=.returned (.tuple #[knV (bt fs p),.bool true])∧Below w.heap.size w w':=by
 have hb0:=ab w (.cells #[.string (bs p)] 9)
 have hn0:=heap_alloc_new w (.cells #[.string (bs p)] 9)
 have hz0:(w.alloc (.cells #[.string (bs p)] 9)).heap.size=w.heap.size+1:=World.size_alloc _ _
 have hc0:=Below.keeps hb0 hc
 have h0:=h.below hb0 (Nat.le_refl _)
 have aO:c<w.heap.size:=lx0 hc
 clear hc h
 go_enter Tryz.func59,Tryz.ntmps59
 go_upto_region 1 with(refine fh eO ?_;intro zz W1 hz1 hb1 hn1 hs1)
 generalize w.alloc (.cells #[.string (bs p)] 9)=W0 at *
 rw[hz0] at hn1
 have k1:W1.cell? ⟨w.heap.size,0,none⟩=some (.string (bs p)):=Below.keeps hb1 ((cell_of_row _ _ 0 _ _ _ hn0).trans rfl)
 have kc:=Below.keeps hb1 hc0
 have HR:=hid (h0.below hb1 (Nat.le_refl _))
 have HB1:=hid (Below.chain hb0 hb1)
 have HN1:=hid hn1
 have HI:=hid (sV v fs 61 #[.pointer (some ⟨w.heap.size,0,none⟩)] (enters_of Tryz.func61 (by kernel_rfl) rfl) (fun x=>decide (x.1=p)) W1 HR.out hl fun W hW x hx=>zcj x p _ W (Below.keeps hW k1))
 obtain⟨a,cc,rfl, -,hcm, -,hx⟩:=HR.out.out cD (by omega)
 have HX:=hid hx
 have HZ:=hid hz0
 clear hb0 hn0 hz0 hc0 h0 hb1 hn1 hs1 hx
 go_upto_region 2 with(go_at_call 60;refine HI.out.mono ?_;rintro e W2 ⟨i,rfl,hi,hb2⟩)
 have k2:=Below.keeps hb2 k1
 have kc2:=Below.keeps hb2 kc
 have HB2:=hid (Below.chain HB1.out hb2)
 have hn2:=(hb2.block _ (lx HN1)).trans HN1.out
 rcases hi with⟨rfl,hf⟩|⟨k,hk,rfl,hf⟩
 ·have HF:=hid (show bt fs p=⟨p,false,[]⟩ by unfold bt;rw[hf])
  clear hf
  go_wp2_with first|(refine dQ (xs:=(knC ⟨p,false,[]⟩).toArray) eO hn2 hz1 rfl (gZ _) ?_;intro W3 ht3 hn3 hs3)
  refine br2 Tryz.underlying98 _ hn3 ?_ (hi:=by kernel_rfl)
  rw[HF.out]
  exact⟨rfl,HB2.out.trans (ht3.below (by omega))⟩
 ·have HF:=hid (show bt fs p=⟨p,true,fs[k].2⟩ by unfold bt;rw[hf])
  clear hf
  obtain⟨b,o,rfl,hb0,hcl2⟩:=HX.out k hk
  obtain⟨-,l1⟩:=bF (aQ hb2 (hcl2 k hk))
  have L1:=(bF l1).1
  clear l1 hcl2
  generalize fs[k].2=d at *
  have e0:decide ((k:Int)<0)=false:=decide_eq_false (by omega)
  go_upto_region 4 with fail
  refine ar 7 (by kernel_rfl) (by kernel_rfl) ?_
  simp only[List.take_succ_cons,List.take_zero,List.drop_succ_cons,List.drop_zero]
  repeat(refine WQ.step (fun K hK=>?_);go_simp;first|(refine hK _ ?_;clear hK K)|(apply Exists.intro;refine⟨fun W hW=>?_,hK _ ?_⟩;(first|with_reducible rfl|(have y0:=Below.keeps hW k2;have y1:=Below.keeps hW kc2;have y2:=Below.keeps hW L1;go_simp;first|rfl|exact⟨rfl,rfl⟩|(simp;done)));clear hK K))
  refine WQ.nil ?_
  intro wt hwt
  have hnt:=(hwt.block _ (lx (hid hn2))).trans hn2
  go_wp2_with first|(refine dQ (xs:=(knC ⟨p,true,d⟩).toArray) eO hnt hz1 rfl (gZ _) ?_;intro W3 ht3 hn3 hs3)
  refine br2 Tryz.underlying98 _ hn3 ?_ (hi:=by kernel_rfl)
  rw[HF.out]
  exact⟨rfl,(Below.chain HB2.out hwt).trans (ht3.below (by omega))⟩
set_option maxHeartbeats 4000000 in
theorem zaP (ks:List KnL) (v:Value) (c:Nat) (p:Txt) (w:World) (hc:w.cell? ⟨c,0,none⟩=some v) (h:aJ w 3 knC v ks) (hl:ks.length≤2000000):
 Calls Tryz.prog 67 #[.string (bs p),.pointer (some ⟨c,0,none⟩)] w fun e w'=>e=.returned (.tuple #[knV ((knK ks p).getD ⟨[],false,[]⟩),.bool (knK ks p).isSome])∧Below w.heap.size w w':=by
 have hb0:=ab w (.cells #[.string (bs p)] 9)
 have hn0:=heap_alloc_new w (.cells #[.string (bs p)] 9)
 have hz0:(w.alloc (.cells #[.string (bs p)] 9)).heap.size=w.heap.size+1:=World.size_alloc _ _
 have hc0:=Below.keeps hb0 hc
 have h0:=h.below hb0 (Nat.le_refl _)
 have aO:c<w.heap.size:=lx0 hc
 clear hc h
 go_enter Tryz.func67,Tryz.ntmps67
 go_upto_region 1 with(refine fh eO ?_;intro zz W1 hz1 hb1 hn1 hs1)
 generalize w.alloc (.cells #[.string (bs p)] 9)=W0 at *
 rw[hz0] at hn1
 have k1:W1.cell? ⟨w.heap.size,0,none⟩=some (.string (bs p)):=Below.keeps hb1 ((cell_of_row _ _ 0 _ _ _ hn0).trans rfl)
 have kc:=Below.keeps hb1 hc0
 have HR:=hid (h0.below hb1 (Nat.le_refl _))
 have HB1:=hid (Below.chain hb0 hb1)
 have HN1:=hid hn1
 have HI:=hid (sI v ks 69 #[.pointer (some ⟨w.heap.size,0,none⟩)] (enters_of Tryz.func69 (by kernel_rfl) rfl) (fun x=>decide (x.path=p)) W1 HR.out hl fun W hW x hx=>zcD x p _ W (Below.keeps hW k1))
 obtain⟨a,cc,rfl, -,hcm, -,hx⟩:=HR.out.out eG (by omega)
 have HX:=hid hx
 clear hb0 hn0 hz0 hc0 h0 hb1 hn1 hs1 hx
 go_upto_region 2 with(go_at_call 68;refine HI.out.mono ?_;rintro e W2 ⟨i,rfl,hi,hb2⟩)
 have k2:=Below.keeps hb2 k1
 have kc2:=Below.keeps hb2 kc
 have HB2:=hid (Below.chain HB1.out hb2)
 have hn2:=(hb2.block _ (lx HN1)).trans HN1.out
 rcases hi with⟨rfl,hf⟩|⟨k,hk,rfl,hf⟩
 ·have HF:=hid (show knK ks p=none from hf)
  clear hf
  go_wp2_with first|(refine dQ (xs:=(knC ⟨[],false,[]⟩).toArray) eO hn2 hz1 rfl (gZ _) ?_;intro W3 ht3 hn3 hs3)
  refine br2 Tryz.underlying98 _ hn3 ?_ (hi:=by kernel_rfl)
  rw[HF.out]
  exact⟨rfl,HB2.out.trans (ht3.below (by omega))⟩
 ·have HF:=hid (show knK ks p=some ks[k] from hf)
  clear hf
  obtain⟨b,o,rfl,hb0,hcl2⟩:=HX.out k hk
  have L1:=aQ hb2 (hcl2 k hk)
  clear hcl2
  generalize ks[k]=x at *
  have e0:decide ((k:Int)<0)=false:=decide_eq_false (by omega)
  go_wp2_with first|(refine bX eO L1 (eG _) ?_)|(refine dQ (xs:=(knC x).toArray) eO hn2 hz1 rfl (gZ _) ?_;intro W3 ht3 hn3 hs3)
  refine br2 Tryz.underlying98 _ hn3 ?_ (hi:=by kernel_rfl)
  rw[HF.out]
  exact⟨rfl,HB2.out.trans (ht3.below (by omega))⟩
set_option maxHeartbeats 4000000 in
theorem pq (x:fy) (w:World) (hx:fm w x) (hs:eE x.l) (ht:x.l.tool.length≤1000000) (hm:bE w) (hp:eR w) (l:List bB) (htl:cP x.l.tool=.ok l):
 Calls Tryz.prog 57 #[.agg x.cells.toArray,.bool false] w fun e w'=>(∃(bb B:Nat) (E:Nat→Prop),e=.returned (.tuple #[.pointer (some ⟨bb,0,none⟩),.int .i64 0])∧w.heap.size≤B∧ec B E bb x.l.env (byA x.l) (pN (byA x.l) l) w'∧bV (pN (byA x.l) l).run)∧Below w.heap.size w w':=by
 have HX:=hid hx
 have HM:=hid (And.intro hm hp)
 clear hx hm hp
 go_enter Tryz.func57,Tryz.ntmps57
 go_upto_region 1 with(refine df fC ?_;intro W1 hb1 hn1 hs1)
 have HN:=hid (zaO x W1 (HX.out.below hb1) hs ht (HM.out.1.below hb1) (HM.out.2.below hb1))
 have HB:=hid hb1
 have HS:=hid hs1
 have r1:=ak hn1
 have HLEN:=hid (show x.cells.length=7 from rfl)
 clear hb1 hs1 hn1
 go_wp2_with first|(refine bX fC r1 HLEN.out ?_)|(go_at_call 105;refine HN.out.mono ?_;rintro e W2 ⟨eo,hb2⟩;rw[htl] at eo;obtain⟨bb,B,E,rfl,hB,hbx,hrk⟩:=eo;have HR:=hid (And.intro hB (And.intro hbx hrk));clear hB hbx hrk)
 go_ret2
 obtain⟨hB,hbx,hrk⟩:=HR.out
 exact⟨⟨bb,B,E,rfl,by have:=HB.out.size;omega,hbx,hrk⟩,Below.chain HB.out hb2⟩
end Go.Proofs.YtlbipokkdiiaiaaGreatDoor
namespace Go.Proofs.YtlbipokkdiiaiaaGreatDoor
open Go.RowKit
structure WOk (y:ByL) (b:bP):Prop where
 sub:∀x∈b.wrote,x.1∈y.outs
 len:b.wrote.length+b.run.cmds.length≤400
theorem yH {y:ByL} {b b':bP} (hb:GoB b) (hw:WOk y b) (h:cL y b=some b'):WOk y b':=by
 unfold cL at h
 split at h
 ·cases h
 ·rename_i ho
  simp only[Bool.not_eq_true] at ho
  obtain⟨h1,h2⟩:=hb.go ho
  have hn:=m8 y.env b.run h1 h2
  have hcm:=hn.cmds
  have hl:=hw.len
  have hfail:∀e,WOk y (eI {b with run:=(bO y.env b.run).2} e):=fun e=>⟨hw.sub,by show b.wrote.length+(bO y.env b.run).2.cmds.length≤400;omega⟩
  split at h
  ·split at h
   ·cases h
   ·simp only[Option.some.injEq] at h
    subst h
    exact hfail 13
  ·split at h
   ·rename_i hd
    simp only[Option.some.injEq] at h
    subst h
    obtain⟨h3, -, -⟩:=hn.wr hd
    unfold eL
    split
    ·exact hfail 14
    ·rename_i hc
     simp only[not_or,Decidable.not_not] at hc
     refine⟨fun x hx=>?_,?_⟩
     ·rcases List.mem_append.1 hx with e|e
      ·exact hw.sub x e
      ·rw[List.mem_singleton.1 e];exact hc.2
     ·show(b.wrote++[_]).length+(bO y.env b.run).2.cmds.length≤400
      rw[List.length_append]
      simp only[List.length_cons,List.length_nil]
      omega
   ·split at h
    ·simp only[Option.some.injEq] at h
     subst h
     split
     ·exact hfail 14
     ·exact⟨hw.sub,by show b.wrote.length+(bO y.env b.run).2.cmds.length≤400;omega⟩
    ·simp only[Option.some.injEq] at h
     subst h
     exact hfail _
theorem wM {y:ByL} {b:bP} (hb:GoB b) (hw:WOk y b):WOk y (goB y b):=by
 obtain⟨b',h1,h2,⟨h3,h4⟩⟩:=nE (f:=cL y) muB (fun x=>GoB x∧WOk y x) (fun a c ha h=>by
  obtain⟨k1,k2,k3⟩:=nU y a c ha.1 h
  exact⟨⟨k1,yH ha.1 ha.2 h⟩,k2⟩) (muB b) b ⟨hb,hw⟩ (Nat.le_refl _)
 unfold goB
 rw[eD h1 h2]
 unfold oC
 by_cases ho:b'.over=true
 ·rw[if_pos ho];exact h4
 ·rw[if_neg ho]
  have ho':b'.over=false:=by simpa using ho
  obtain⟨k1,k2⟩:=h3.go ho'
  have hn:=(m8 y.env b'.run k1 k2).cmds
  have hl:=h4.len
  exact⟨h4.sub,by show b'.wrote.length+(bO y.env b'.run).2.cmds.length≤400;omega⟩
theorem sY (y:ByL) (l:List bB) (hl:l.length≤400):WOk y (pN y l):=wM ⟨rfl,fun _=>⟨rfl,rfl⟩⟩ ⟨fun x hx=>(List.not_mem_nil hx).elim,by show 0+l.length≤400;omega⟩
theorem yq {y:ByL} {b:bP} (k:KnL) (hb:rQ y b) (ho:b.over=false) (hw:WOk y b):WOk y (iL y b k):=
 wM ⟨by simp[gS,hb.kn],fun _=>⟨rfl,(hb.ask ho).2.2.2.2.2⟩⟩ ⟨hw.sub,hw.len⟩
open Exec Go.Shelf
attribute [local go_sem] Oper.semAt_some
set_option maxRecDepth 100000
theorem jz:cZ 93 3:=⟨_,Tryz.underlying93,rfl,by kernel_rfl⟩
def ee (k:Int) (p:Txt):List Value:=[.int .i64 k,.string (bs p),.int .i64 0]
theorem fq (k:Int) (p:Txt):∀u∈ee k p,u.oneCell'=true:=by
 intro u hu
 simp only[ee,List.mem_cons,List.not_mem_nil,or_false] at hu
 rcases hu with rfl|rfl|rfl<;>rfl
def gc:Value:=.slice none 0 0
theorem zec {ty ty2:TypeId} {d d2:TypeDesc} (hu:Tryz.prog.underlying ty=some d) (hu2:Tryz.prog.underlying ty2=some d2) {fn:Func} {p p2:Tmp} {R:Ending→World→Prop} {a:Act} {w:World} (g g2:Nat) {t t2:TypeId} {cs cs2:Array Value} {fr fr2:Nat×Nat} (hg:w.heap[g]?=some (.cells cs t fr)) (hg2:w.heap[g2]?=some (.cells cs2 t2 fr2)) (hR:R (.returned (.tuple #[.agg cs,.agg cs2])) w) (h:fn.results=#[.cell p ty,.cell p2 ty2]:=by rfl) (hp:a.tmps.getD p undef=.pointer (some ⟨g,0,none⟩):=by rfl) (hp2:a.tmps.getD p2 undef=.pointer (some ⟨g2,0,none⟩):=by rfl)
 (hd:(match d with|.struct _|.array _ _=>true|_=>false)=true:=by rfl) (hd2:(match d2 with|.struct _|.array _ _=>true|_=>false)=true:=by rfl) (hi:(Tryz.prog.info? ty).map (·.size)=some cs.size:=by kernel_rfl) (hi2:(Tryz.prog.info? ty2).map (·.size)=some cs2.size:=by kernel_rfl) (hf:a.defers=[]:=by rfl):bodyPost Tryz.prog fn R .ret a w:=by
 refine bodyPost_ret (v:=.tuple #[.agg cs,.agg cs2]) ?_ hf hR
 have hp':a.tmps[p]?.getD undef=.pointer (some ⟨g,0,none⟩):=by simpa using hp
 have hp2':a.tmps[p2]?.getD undef=.pointer (some ⟨g2,0,none⟩):=by simpa using hp2
 cases d<;>simp at hd<;>cases d2<;>simp at hd2<;>simp[results,h,hp',hp2',asAddr,run_loadVar_row w g t ty cs fr _ hg hu rfl hi,run_loadVar_row w g2 t2 ty2 cs2 fr2 _ hg2 hu2 rfl hi2]
theorem aw.past {D:Nat→Prop} {a b c:World} (h:aw D a b) (k:Below a.heap.size b c):aw D a c:=
 ⟨k.os.trans h.os,k.tape.trans h.tape,k.output.trans h.output,Nat.le_trans h.size k.size,fun j hj hd=>(k.block j hj).trans (h.block j hj hd)⟩
def zeF (B0:Nat) (b:bP) (w':World) (fv rv:Value):Prop:=(∃ss:List Txt,ss.Perm (strKeys (wrD b.wrote))∧w'.ownsRow B0 51 2 fv (ir b ss).length ((ir b ss).flatMap cO))∧w'.ownsRow B0 100 34 rv b.reads.length ((b.reads.map rdK).flatMap RdL.cells)
def dH (B0:Nat) (b:bP) (w':World) (u v:Value):Prop:=
 if b.over=true then u=.agg (ee 0 []).toArray∧∃fv rv:Value,v=.agg (dV (gi b) b.why fv rv).toArray∧zeF B0 b w' fv rv
 else u=.agg (ee 1 b.asks).toArray∧v=.agg (dV 0 0 gc gc).toArray
section
variable {B bb:Nat} {E:Nat→Prop} {env:List (Txt×Txt)} {y:ByL} {b:bP} {w:World}
theorem ft {w:World} {B e sz n:Nat} {v:Value} {xs:List Value} (h:w.ownsRow B e sz v n xs):v.oneCell'=true:=by
 obtain⟨a,c,rfl⟩:=az h
 rfl
set_option maxHeartbeats 16000000 in
theorem sn (h:ec B E bb env y b w) (hg:aL B w) (hf:rQ y b) (hw:WOk y b) (hok:bV b.run) (hy:y.env=dB env) (hev:∀x∈env,x.2.length≤1000000000000000) (ho:y.outs.length≤2000000) (hol:∀p∈y.outs,p.length≤1000000000)
 (nf:Nat) (caps:Array Value) (eg:∀args w,(callFunc nf args).run Tryz.prog w=.ok (.enter nf args) w) (ans:Txt→Option KnL) (hans:zaE E nf caps ans w) (hak:∀p k,ans p=some k→k.path=p∧k.data.length≤65536):
 Calls Tryz.prog 58 #[.pointer (some ⟨bb,0,none⟩),.func (.func nf) #[] caps] w fun e w'=>(∃u v,e=.returned (.tuple #[u,v])∧dH w.heap.size (pj (gK y ans) b) w' u v)∧aw E w w':=by
 have HB:=hid h
 have HG:=hid hg
 have HI:=hid (And.intro hf (And.intro hw hok))
 have HA:=hid hans
 clear h hg hf hw hok hans
 go_enter Tryz.func58,Tryz.ntmps58
 go_upto_block 0 with first|(refine fh jz ?_;intro z4 Wa hz4 hb4 hn4 hs4;have HS4:=hid hs4;clear hs4)|(refine fh eB ?_;intro z5 W0 hz5 hb5 hn5 hs5;have HS5:=hid hs5;clear hs5)
 try simp only[Act.put,sA,sB,sC]
 have HB0:=hid (Below.chain hb4 hb5)
 have hn40:=(hb5.block _ (lx (hid hn4))).trans hn4
 have hs4:=HS4.out
 have hs5:=HS5.out
 generalize Wa.heap.size=q5 at *
 have HN4:=hid hn40
 have HN5:=hid hn5
 clear hb4 hb5 hn4 hn40 hn5 HS4 HS5
 have HQ:=hid (And.intro hs4 hs5)
 clear hs4 hs5
 go_wp2_with fail
 go_loopg [] (501-b.reads.length) (fun gk wr=>∃(b1:bP) (E1:Nat→Prop),gk=501-b1.reads.length∧bT (gK y ans) b b1∧(rQ y b1∧WOk y b1∧bV b1.run)∧(∀j,E1 j→E j∨W0.heap.size≤j)∧aw E W0 wr∧ec B E1 bb env y b1 wr∧aL B wr)
 case atStart=>exact⟨b,E,rfl,.refl _,HI.out,fun j e=>.inl e,aw.refl _ _,HB.out.below HB0.out,HG.out.below HB0.out⟩
 case round=>
  obtain⟨b1,E1,rfl,hst,hinv,hE1,hfo,hbx,hgl⟩:=hrel
  obtain⟨D1,g,wm,ov,mv,rv,hB⟩:=hbx
  have hq:=HQ.out
  have hEl:=HB.out.db
  have hn4r:wr.heap[w.heap.size]?=some (.cells z4 93 (0,0)):=(hfo.block w.heap.size (by omega) (fun e=>by have:=(hEl _ e).2;omega)).trans HN4.out
  have hn5r:wr.heap[q5]?=some (.cells z5 82 (0,0)):=(hfo.block q5 (by omega) (fun e=>by have:=(hEl _ e).2;omega)).trans HN5.out
  have hfw:aw E w wr:=(aw.of_below HB0.out).chain hfo
  have HK:=hid (xp hB)
  have HX:=hid hB
  have HST:=hid hst
  have HINV:=hid hinv
  have HGL:=hid hgl
  have HEF:=hid (And.intro hE1 (And.intro hfo hfw))
  have HN4r:=hid hn4r
  have HN5r:=hid hn5r
  clear hB hst hinv hgl hE1 hfo hfw hq hEl hn4r hn5r
  cases hov:b1.over with
  |true=>
   rw[if_pos hov] at HK
   have hend:pj (gK y ans) b=b1:=eD HST.out (by unfold gK;rw[if_pos hov])
   have HE:=hid hend
   have HO:=hid (sw HX.out hov (by have:=HINV.out.2.2.kl;rw[HINV.out.1.kn] at this;omega) (by have:=HINV.out.2.1.len;omega) (fun x hx=>hol _ (HINV.out.2.1.sub x hx)))
   have HOV:=hid hov
   clear hend hov
   go_upto_region 4 with first|(go_at_call 106;refine HK.out.mono ?_;rintro e Wk ⟨rfl,hwk⟩;rw[hwk];clear hwk Wk)|(go_at_call 107;refine HO.out.mono ?_;rintro e W2 ⟨⟨fv,rv',ss,rfl,hpm,hfr,hrr⟩,hb2⟩;have HRO:=hid (And.intro hpm (And.intro hfr (And.intro hrr hb2)));have HOC:=hid (dv (gi b1) b1.why fv rv' (ft hfr) (ft hrr));clear hpm hfr hrr hb2)|(refine eS (xs:=(dV (gi b1) b1.why fv rv').toArray) eB rfl HOC.out ?_;intro W3 hb3 hn3 hs3)
   have HB3:=hid hb3
   have HN3:=hid hn3
   have HLT:=hid (show w.heap.size<wr.heap.size∧q5<wr.heap.size∧wr.heap.size≤W2.heap.size∧w.heap.size≤wr.heap.size from⟨lx HN4r,lx HN5r,HRO.out.2.2.2.size,by have:=lx HN4r;omega⟩)
   have hm4:=(hb3.block w.heap.size (by have:=HLT.out;omega)).trans ((HRO.out.2.2.2.block _ (lx HN4r)).trans HN4r.out)
   have hm5:=(hb3.block q5 (by have:=HLT.out;omega)).trans ((HRO.out.2.2.2.block _ (lx HN5r)).trans HN5r.out)
   clear hb3 hn3 hs3
   refine aD (fun W=>W.heap[W2.heap.size]?=some (.cells (dV (gi b1) b1.why fv rv').toArray 82 (0,0))) 3 (by kernel_rfl) ?_
   intro wd hwd
   have hS0:wd.heap[W2.heap.size]?=some (.cells (dV (gi b1) b1.why fv rv').toArray 82 (0,0)):=(hwd.block _ (lx HN3)).trans HN3.out
   refine zeZ 0 (some 24) (hi:=rfl) (.inr hS0) ?_
   apply Exists.intro
   refine⟨fun W=>?_,?_⟩
   ·go_simp
    try rfl
   try simp only[Act.put,sA,sB,sC]
   refine WL.ld 1 (some 25) eB (fun W hW=>ak hW) rfl (hi:=rfl) hS0 ?_
   try simp only[Act.put,sA,sB,sC]
   have hmd4:=(hwd.block _ (lx (hid hm4))).trans hm4
   have hmd5:=(hwd.block _ (lx (hid hm5))).trans hm5
   refine WL.o 2 (hi:=rfl) ?_
   intro K hK
   refine iM (xs:=(ee 0 []).toArray) jz hmd4 hz4 rfl (fq _ _) ?_
   intro W5 ht5 hn5 hs5
   have hne:W2.heap.size≠w.heap.size∧q5≠w.heap.size∧W2.heap.size≠q5:=by have:=HLT.out;have:=HQ.out;omega
   refine hK.out _ _ (.inr ((ht5.foot.block _ (lx (hid hS0)) hne.1).trans hS0)) ?_
   clear hK K
   try simp only[Act.put,sA]
   have hme5:=(ht5.foot.block q5 (lx (hid hmd5)) hne.2.1).trans hmd5
   refine WL.o 3 (hi:=rfl) ?_
   intro K hK
   refine iM (xs:=(dV (gi b1) b1.why fv rv').toArray) eB hme5 hz5 rfl HOC.out ?_
   intro W6 ht6 hn6 hs6
   refine hK.out _ _ (.inl (by kernel_rfl)) ?_
   clear hK K
   try simp only[Act.put]
   refine WL.d ?_
   have hn56:=(ht6.foot.block w.heap.size (lx (hid hn5)) hne.2.1.symm).trans hn5
   have H6:=hid (And.intro hn56 (And.intro hn6 (And.intro hwd (And.intro ht5 (And.intro ht6 hne)))))
   clear hn56 hn6 hwd ht5 ht6 hne hme5 hmd4 hmd5 hS0 hm4 hm5 hs5 hs6 hn5
   go_wp2_with fail
   obtain⟨hn4,hn5,hwd,ht5,ht6,hne⟩:=H6.out
   obtain⟨hpm,hfr,hrr,hb2⟩:=HRO.out
   obtain⟨hE1,hfo,hfw⟩:=HEF.out
   have aK:=HLT.out
   have hall:∀{e sz n:Nat} {v:Value} {xs:List Value},W2.ownsRow wr.heap.size e sz v n xs→W6.ownsRow w.heap.size e sz v n xs:=fun{e sz n v xs} h=>aR (aU h fun j hj=>by
    have hj2:=h.lt j hj
    exact(ht6.foot.block j (by have:=HB3.out.size;have:=hwd.size;have:=ht5.foot.size;omega) (by omega)).trans ((ht5.foot.block j (by have:=HB3.out.size;have:=hwd.size;omega) (by omega)).trans ((hwd.block j (by have:=HB3.out.size;omega)).trans (HB3.out.block j hj2.2)))) aK.2.2.2
   refine zec Tryz.underlying93 Tryz.underlying82 _ _ hn4 hn5 ?_ (hi:=by kernel_rfl) (hi2:=by kernel_rfl)
   refine⟨⟨_,_,rfl,?_⟩,?_⟩
   ·unfold dH
    rw[HE.out,if_pos HOV.out]
    exact⟨rfl,fv,rv',rfl,⟨ss,hpm,hall hfr⟩,hall hrr⟩
   ·exact((hfw.past (hb2.mono aK.2.2.2)).past (HB3.out.mono (by omega))).past ((hwd.mono (by have:=HB3.out.size;omega)).trans ((ht5.below (Nat.le_refl _)).trans (ht6.below (by have:=HQ.out;omega))))
  |false=>
   rw[if_neg (by rw[hov];decide)] at HK
   have HQA:=hid (HA.out wr HEF.out.2.2 b1.asks)
   have HOV:=hid hov
   have HLT:=hid (show w.heap.size<wr.heap.size∧q5<wr.heap.size from⟨lx HN4r,lx HN5r⟩)
   clear hov
   cases hq:ans b1.asks with
   |none=>
    have hend:pj (gK y ans) b=b1:=eD HST.out (by unfold gK;rw[if_neg (by rw[HOV.out];decide),hq];rfl)
    have HE:=hid hend
    rw[hq] at HQA
    clear hend hq
    go_upto_region 7 with first|(go_at_call 106;refine HK.out.mono ?_;rintro e Wk ⟨rfl,hwk⟩;rw[hwk];clear hwk Wk)|(refine HQA.out.mono ?_;rintro e W2 ⟨⟨z,rfl, -⟩,hb2⟩)|(refine eS (xs:=(knC z).toArray) eO rfl (gZ _) ?_;intro W3 hb3 hn3 hs3)
    have hb23:=Below.chain hb2 hb3
    have hm4:=(hb23.block _ (lx HN4r)).trans HN4r.out
    have hm5:=(hb23.block _ (lx HN5r)).trans HN5r.out
    have HB23:=hid hb23
    have HM5:=hid hm5
    clear hb2 hb3 hn3 hs3 hb23 hm5
    go_wp2_with first|(refine dQ (xs:=(ee 1 b1.asks).toArray) jz hm4 hz4 rfl (fq _ _) ?_;intro W5 ht5 hn5 hs5;have HT5:=hid (And.intro ht5 hn5);clear ht5 hn5 hs5;have hm5:=(HT5.out.1.foot.block q5 (lx HM5) (by have:=HQ.out;omega)).trans HM5.out)|(refine dQ (xs:=(dV 0 0 gc gc).toArray) eB hm5 hz5 rfl (dv _ _ _ _ rfl rfl) ?_;intro W6 ht6 hn6 hs6)
    have hq:=HQ.out
    obtain⟨ht5,hn5⟩:=HT5.out
    obtain⟨hE1,hfo,hfw⟩:=HEF.out
    have aK:=HLT.out
    have hn56:=(ht6.foot.block w.heap.size (lx (hid hn5)) (by omega)).trans hn5
    refine zec Tryz.underlying93 Tryz.underlying82 _ _ hn56 hn6 ?_ (hi:=by kernel_rfl) (hi2:=by kernel_rfl)
    refine⟨⟨_,_,rfl,?_⟩,?_⟩
    ·unfold dH
     rw[HE.out,if_neg (by rw[HOV.out];decide)]
     exact⟨rfl,rfl⟩
    ·exact(hfw.past (HB23.out.mono (by omega))).past ((ht5.below (Nat.le_refl _)).trans (ht6.below (by omega)))
   |some k=>
    have HSF:=hid (show gK y ans b1=some (iL y b1 k) by unfold gK;rw[if_neg (by rw[HOV.out];decide),hq];rfl)
    have HAK:=hid (hak _ _ hq)
    rw[hq] at HQA
    clear hq
    go_upto_region 6 with first|(go_at_call 106;refine HK.out.mono ?_;rintro e Wk ⟨rfl,hwk⟩;rw[hwk];clear hwk Wk)|(refine HQA.out.mono ?_;rintro e W2 ⟨⟨z,rfl,hz⟩,hb2⟩;obtain rfl:=hz k rfl)|(refine eS (xs:=(knC z).toArray) eO rfl (gZ _) ?_;intro W3 hb3 hn3 hs3)
    try simp only[Act.put,sA,sB,sC]
    have hb23:=Below.chain hb2 hb3
    obtain⟨hE1,hfo,hfw⟩:=HEF.out
    have HBX:=hid ((show ec B E1 bb env y b1 wr from⟨_,_,_,_,_,_,HX.out⟩).below hb23)
    have HGV:=hid (yz HBX.out (HGL.out.below hb23) HINV.out.1 HOV.out HINV.out.2.2 hy hev ho z HAK.out.1 HAK.out.2)
    have r3:=ak hn3
    have HB23:=hid hb23
    clear hb2 hb3 hn3 hs3 hb23 hE1 hfo hfw hz
    go_wp2_with first|(refine bX eO r3 (eG _) ?_)|(go_at_call 108;refine HGV.out.mono ?_;rintro e W4 ⟨rfl,hrk,hgo⟩)
    obtain⟨h1,h2⟩:=qd y b1 z HINV.out.1 HOV.out
    have h3:=(HINV.out.1.ask HOV.out).2.2.2.1
    rw[HINV.out.1.kn] at h3
    have h4:(iL y b1 z).reads.length=b1.reads.length+1:=by rw[h2,List.length_append];rfl
    obtain⟨hE1,hfo,hfw⟩:=HEF.out
    obtain⟨E4,hE4,hf4,hb4⟩:=hgo
    have hf3:aw E1 wr W4:=(aw.of_below HB23.out).chain hf4
    have hz1:=hfo.size
    have hz2:=HB23.out.size
    go_roundg (501-(iL y b1 z).reads.length)
    case measure=>omega
    case rel=>
     refine⟨iL y b1 z,E4,rfl,HST.out.tail HSF.out,⟨h1,yq z HINV.out.1 HOV.out HINV.out.2.1,hrk⟩,fun j e=>?_,hfo.trans hf3 fun j hj e=>?_,hb4,?_⟩
     ·rcases hE4 j e with e|e
      ·exact hE1 j e
      ·exact .inr (by omega)
     ·rcases hE1 j e with e|e
      ·exact e
      ·omega
     ·exact HGL.out.go hf3 fun j e=>(HX.out.db j e).1
end
theorem zel {ty ty2:TypeId} {d d2:TypeDesc} (hu:Tryz.prog.underlying ty=some d) (hu2:Tryz.prog.underlying ty2=some d2) {fn:Func} {p p2 q:Tmp} {R:Ending→World→Prop} {a:Act} {w:World} (g g2:Nat) {t t2:TypeId} {cs cs2:Array Value} {fr fr2:Nat×Nat} (hg:w.heap[g]?=some (.cells cs t fr)) (hg2:w.heap[g2]?=some (.cells cs2 t2 fr2)) (hR:R (.returned (.tuple #[.agg cs,.agg cs2,a.tmps.getD q undef])) w) (h:fn.results=#[.cell p ty,.cell p2 ty2,.tmp q]:=by rfl) (hp:a.tmps.getD p undef=.pointer (some ⟨g,0,none⟩):=by rfl) (hp2:a.tmps.getD p2 undef=.pointer (some ⟨g2,0,none⟩):=by rfl)
 (hd:(match d with|.struct _|.array _ _=>true|_=>false)=true:=by rfl) (hd2:(match d2 with|.struct _|.array _ _=>true|_=>false)=true:=by rfl) (hi:(Tryz.prog.info? ty).map (·.size)=some cs.size:=by kernel_rfl) (hi2:(Tryz.prog.info? ty2).map (·.size)=some cs2.size:=by kernel_rfl) (hf:a.defers=[]:=by rfl):bodyPost Tryz.prog fn R .ret a w:=by
 refine bodyPost_ret (v:=.tuple #[.agg cs,.agg cs2,a.tmps.getD q undef]) ?_ hf hR
 have hp':a.tmps[p]?.getD undef=.pointer (some ⟨g,0,none⟩):=by simpa using hp
 have hp2':a.tmps[p2]?.getD undef=.pointer (some ⟨g2,0,none⟩):=by simpa using hp2
 cases d<;>simp at hd<;>cases d2<;>simp at hd2<;>simp[results,h,hp',hp2',asAddr,run_loadVar_row w g t ty cs fr _ hg hu rfl hi,run_loadVar_row w g2 t2 ty2 cs2 fr2 _ hg2 hu2 rfl hi2]
theorem dH.form {B0:Nat} {b:bP} {w:World} {u v:Value} (h:dH B0 b w u v):∃(k:Int) (p:Txt) (q r:Int) (fv rv:Value),u=.agg (ee k p).toArray∧v=.agg (dV q r fv rv).toArray∧fv.oneCell'=true∧rv.oneCell'=true:=by
 unfold dH at h
 split at h
 ·obtain⟨h1,fv,rv,h2,⟨ss, -,h3⟩,h4⟩:=h
  exact⟨_,_,_,_,fv,rv,h1,h2,ft h3,ft h4⟩
 ·exact⟨_,_,_,_,gc,gc,h.1,h.2,rfl,rfl⟩
theorem dH.keep {B0 B1:Nat} {b:bP} {w w2:World} {u v:Value} (h:dH B0 b w u v) (hB:B1≤B0) (hk:∀k,B0≤k→k<w.heap.size→w2.heap[k]?=w.heap[k]?):dH B1 b w2 u v:=by
 unfold dH at h ⊢
 split at h
 ·rename_i ho
  rw[if_pos ho]
  obtain⟨h1,fv,rv,h2,⟨ss,h5,h3⟩,h4⟩:=h
  exact⟨h1,fv,rv,h2,⟨ss,h5,aR (aU h3 fun j hj=>hk j (h3.lt j hj).1 (h3.lt j hj).2) hB⟩,aR (aU h4 fun j hj=>hk j (h4.lt j hj).1 (h4.lt j hj).2) hB⟩
 ·rename_i ho
  rw[if_neg ho]
  exact h
theorem zcn {fs:List (Txt×Txt)} {v:Value} {c _B:Nat} {E:Nat→Prop} {w0 w:World} (hc:w0.cell? ⟨c,0,none⟩=some v) (h:aJ w0 2 cO v fs) (hl:fs.length≤2000000) (hb:Below w0.heap.size w0 w) (hE:∀j,E j→w0.heap.size≤j):
 zaE E 59 #[.pointer (some ⟨c,0,none⟩)] (fun p=>some (bt fs p)) w:=fun W hW p=>by
 have hbw:Below w0.heap.size w0 W:=hb.trans (hW.below hb.size hE)
 refine(zl fs v c p W (Below.keeps hbw hc) (h.below hbw (Nat.le_refl _)) hl).mono ?_
 rintro e w2 ⟨rfl,hb2⟩
 exact⟨⟨_,rfl,fun k hk=>Option.some.inj hk⟩,hb2⟩
theorem zcm {ks:List KnL} {v:Value} {c _B:Nat} {E:Nat→Prop} {w0 w:World} (hc:w0.cell? ⟨c,0,none⟩=some v) (h:aJ w0 3 knC v ks) (hl:ks.length≤2000000) (hb:Below w0.heap.size w0 w) (hE:∀j,E j→w0.heap.size≤j):
 zaE E 67 #[.pointer (some ⟨c,0,none⟩)] (knK ks) w:=fun W hW p=>by
 have hbw:Below w0.heap.size w0 W:=hb.trans (hW.below hb.size hE)
 refine(zaP ks v c p W (Below.keeps hbw hc) (h.below hbw (Nat.le_refl _)) hl).mono ?_
 rintro e w2 ⟨rfl,hb2⟩
 exact⟨⟨_,rfl,fun k hk=>by rw[hk];rfl⟩,hb2⟩
theorem qX {x:kf} (hs:eE x):(∀z∈x.env,z.2.length≤1000000000000000):=fun z hz=>by have:=hs.el z hz;omega
set_option maxHeartbeats 8000000 in
theorem zba (x:fy) (fv:Value) (fs:List (Txt×Txt)) (w:World) (hx:fm w x) (hs:eE x.l) (ht:x.l.tool.length≤1000000) (hm:bE w) (hp:eR w) (l:List bB) (htl:cP x.l.tool=.ok l)
 (hf:aJ w 2 cO fv fs) (hl:fs.length≤2000000) (hlong:fs.any (fun x=>(decide (65536<x.2.length)))=false) (hak:∀p k,(fun p=>some (bt fs p)) p=some k→k.path=p∧k.data.length≤65536):
 Calls Tryz.prog 26 #[.agg x.cells.toArray,fv] w fun e w'=>(∃u v,e=.returned (.tuple #[v,.int .i64 0])∧dH w.heap.size (jY (byA x.l) (fun p=>some (bt fs p)) l) w' u v)∧Below w.heap.size w w':=by
 have HX:=hid hx
 have HM:=hid (And.intro hm hp)
 have HF:=hid hf
 have HLEN:=hid (show x.cells.length=7 from rfl)
 clear hx hm hp hf
 obtain⟨fa,fc,rfl, -, -, -, -⟩:=HF.out.out (fun x=>cD _) (by omega)
 go_enter Tryz.func26,Tryz.ntmps26
 go_upto_region 1 with first|(refine df fC ?_;intro W1 hb1 hn1 hs1;have HS1:=hid hs1;clear hs1)|(refine fh eB ?_;intro z5 W3 hz5 hb5 hn5 hs5;have HS5:=hid hs5;clear hs5)
 try simp only[Act.put,sA,sB,sC]
 have hb2:=ab W1 (.cells #[.slice fa fs.length fc] 48)
 have hn2:=heap_alloc_new W1 (.cells #[.slice fa fs.length fc] 48)
 have hz2:(W1.alloc (.cells #[.slice fa fs.length fc] 48)).heap.size=W1.heap.size+1:=World.size_alloc _ _
 generalize W1.alloc (.cells #[.slice fa fs.length fc] 48)=Wb at *
 have hb23:=hb5
 have hnw5:=hn5
 rw[hz2] at hnw5
 have hzq:=HS5.out
 rw[hz2] at hzq
 have HN5:=hid hnw5
 clear hb5 hn5 HS5 hnw5
 have hs1:=HS1.out
 have HB3:=hid (Below.chain hb1 (Below.chain hb2 hb23))
 have r1:=aQ (Below.chain hb2 hb23) (ak hn1)
 have kc:W3.cell? ⟨W1.heap.size,0,none⟩=some (.slice fa fs.length fc):=Below.keeps hb23 ((cell_of_row _ _ 0 _ _ _ hn2).trans rfl)
 generalize W1.heap.size=q3 at *
 have HI:=hid (zZ (.slice fa fs.length fc) fs 56 #[] (enters_of Tryz.func56 (by kernel_rfl) rfl) (fun x=>(decide (65536<x.2.length))) W3 (HF.out.below HB3.out (Nat.le_refl _)) hl fun W hW z hz=>xi z W)
 rw[hlong] at HI
 have HBG:=hid (fun(W:World) (hb:Below w.heap.size w W)=>pq x W (HX.out.below hb) hs ht (HM.out.1.below hb) (HM.out.2.below hb) l htl)
 have HZ:=hid (And.intro hs1 hzq)
 clear hb1 hn1 hb2 hn2 hz2 hb23 HS1 hs1 hzq
 go_upto_region 2 with(go_at_call 55;refine HI.out.mono ?_;rintro e W4 ⟨rfl,hb4⟩)
 have r1:=aQ hb4 r1
 have HB4:=hid (Below.chain HB3.out hb4)
 have HB34:=hid hb4
 have KC:=hid kc
 clear hb4 kc
 go_upto_region 5 with first|(refine bX fC r1 HLEN.out ?_)|(go_at_call 57;refine(HBG.out _ HB4.out).mono ?_;rintro e W5 ⟨⟨bb,B,E,rfl,hB,hbx,hrk⟩,hb5⟩;have HR:=hid (And.intro hB (And.intro hbx (And.intro hrk hb5)));clear hB hbx hrk hb5)
 obtain⟨hB,hbx,hrk,hb5⟩:=HR.out
 have hEB:∀j,E j→W4.heap.size≤j:=fun j e=>Nat.le_trans hB (hbx.db j e).1
 have HGO:=hid (sn hbx (show aL B W5 from⟨w,by have:=HB4.out.size;omega,HM.out.1,HM.out.2,Below.chain HB4.out hb5⟩) (ox _ _).1 (sY _ _ (nA htl).1) hrk rfl (qX hs) (by show x.l.outs.length≤_;have:=hs.outs;omega) (fun p hp=>by have:=hs.ol p hp;omega) 59 #[.pointer (some ⟨q3,0,none⟩)] (enters_of Tryz.func59 (by kernel_rfl) rfl) (fun p=>some (bt fs p)) (zcn (_B:=0) KC.out (HF.out.below HB3.out (Nat.le_refl _)) hl (Below.chain HB34.out hb5) fun j e=>by have:=hEB j e;have:=HB34.out.size;omega) hak)
 have HEB:=hid (And.intro hEB hb5)
 clear hB hbx hrk hb5 hEB
 go_upto_region 6 with first|(go_at_call 58;refine HGO.out.mono ?_;rintro e W6 ⟨⟨u,v,rfl,eo⟩,hf6⟩;obtain⟨ka,pa,qa,ra,fva,rva,rfl,rfl,o1,o2⟩:=eo.form;have HRT:=hid (And.intro eo hf6);have HOC:=hid (dv qa ra fva rva o1 o2);clear eo hf6 o1 o2)|(refine fh jz ?_;intro z9 W7 hz9 hb7 hn7 hs7;have HS7:=hid hs7;clear hs7)|(refine fh eB ?_;intro z10 W8 hz10 hb8 hn8 hs8;have HS8:=hid hs8;clear hs8;have hn78:=(hb8.block _ (lx (hid hn7))).trans hn7)|(refine dQ (xs:=(ee ka pa).toArray) jz hn78 hz9 rfl (fq _ _) ?_;intro W9 ht9 hn9 hs9;have hn89:=(ht9.foot.block W7.heap.size (lx (hid hn8)) (by have:=HS7.out;omega)).trans hn8;clear hs9)|(refine dQ (xs:=(dV qa ra fva rva).toArray) eB hn89 hz10 rfl HOC.out ?_;intro W10 ht10 hn10 hs10;clear hs10)
 try simp only[Act.put,sA,sB,sC]
 obtain⟨hEB,hb5⟩:=HEB.out
 obtain⟨eo,hf6⟩:=HRT.out
 have hb6:=hf6.below hb5.size hEB
 have hne:W7.heap.size≠W6.heap.size:=by have:=HS7.out;omega
 have hz7:=hb7.size
 have hb610:Below W6.heap.size W6 W10:=(hb7.trans (hb8.mono hb7.size)).trans ((ht9.below (Nat.le_refl _)).trans (ht10.below hb7.size))
 have hb410:Below W4.heap.size W4 W10:=(hb5.trans hb6).trans (hb610.mono (by have:=hb5.size;have:=hf6.size;omega))
 have hb310:Below W3.heap.size W3 W10:=HB34.out.trans (hb410.mono HB34.out.size)
 have hrt10:=dH.keep (w2:=W10) (B1:=W5.heap.size) eo (Nat.le_refl _) fun k hk1 hk2=>hb610.block k hk2
 have hzz:=HZ.out
 have h34:=HB34.out.size
 have h45:=hb5.size
 have H10:=hid (And.intro hrt10 (And.intro hb310 (And.intro hzz (And.intro h34 h45))))
 clear HRT HGO HEB hb7 hb8 hn7 hn8 hn78 hn89
 have hm5:=(hb310.block _ (lx HN5)).trans HN5.out
 clear eo hf6 hb6 hb5 hEB hb610 hb410 hb310 hrt10 hz7 hne hzz h34 h45 ht9 ht10 hn9
 go_wp2_with first|(refine bX eB (ak hn10) rfl ?_)|(refine dQ (xs:=(dV qa ra fva rva).toArray) eB hm5 hz5 rfl HOC.out ?_;intro W11 ht11 hn11 hs11;clear hs11)
 obtain⟨hrt10,hb310,hzz,h34,h45⟩:=H10.out
 refine br2 Tryz.underlying82 _ hn11 ?_ (hi:=by kernel_rfl)
 refine⟨⟨_,_,rfl,dH.keep hrt10 (by omega) fun k hk1 hk2=>ht11.foot.block k hk2 (by omega)⟩,(HB3.out.trans (hb310.mono (by omega))).trans (ht11.below (by omega))⟩
set_option maxHeartbeats 8000000 in
theorem sx (x:fy) (fv:Value) (ks:List (KnL)) (w:World) (hx:fm w x) (hs:eE x.l) (ht:x.l.tool.length≤1000000) (hm:bE w) (hp:eR w) (l:List bB) (htl:cP x.l.tool=.ok l)
 (hf:aJ w 3 knC fv ks) (hl:ks.length≤2000000) (hlong:ks.any (fun x=>(x.is&&decide (65536<x.data.length)))=false) (hak:∀p k,(knK ks) p=some k→k.path=p∧k.data.length≤65536):
 Calls Tryz.prog 28 #[.agg x.cells.toArray,fv] w fun e w'=>(∃u v,e=.returned (.tuple #[u,v,.int .i64 0])∧dH w.heap.size (jY (byA x.l) (knK ks) l) w' u v)∧Below w.heap.size w w':=by
 have HX:=hid hx
 have HM:=hid (And.intro hm hp)
 have HF:=hid hf
 have HLEN:=hid (show x.cells.length=7 from rfl)
 clear hx hm hp hf
 obtain⟨fa,fc,rfl, -, -, -, -⟩:=HF.out.out (fun x=>eG _) (by omega)
 go_enter Tryz.func28,Tryz.ntmps28
 go_upto_region 1 with first|(refine df fC ?_;intro W1 hb1 hn1 hs1;have HS1:=hid hs1;clear hs1)|(refine fh jz ?_;intro z4 W2 hz4 hb4 hn4 hs4;have HS4:=hid hs4;clear hs4)|(refine fh eB ?_;intro z5 W3 hz5 hb5 hn5 hs5;have HS5:=hid hs5;clear hs5)
 try simp only[Act.put,sA,sB,sC]
 have hb2:=ab W1 (.cells #[.slice fa ks.length fc] 91)
 have hn2:=heap_alloc_new W1 (.cells #[.slice fa ks.length fc] 91)
 have hz2:(W1.alloc (.cells #[.slice fa ks.length fc] 91)).heap.size=W1.heap.size+1:=World.size_alloc _ _
 generalize W1.alloc (.cells #[.slice fa ks.length fc] 91)=Wb at *
 have hb23:=Below.chain hb4 hb5
 have hnw4:=(hb5.block _ (lx (hid hn4))).trans hn4
 rw[hz2] at hnw4
 have hq4:=HS4.out
 rw[hz2] at hq4
 have hzq:=And.intro hq4 HS5.out
 generalize W2.heap.size=q5 at *
 have HN4:=hid hnw4
 have HN5:=hid hn5
 clear hb4 hn4 hb5 hn5 HS5 HS4 hnw4 hq4
 have hs1:=HS1.out
 have HB3:=hid (Below.chain hb1 (Below.chain hb2 hb23))
 have r1:=aQ (Below.chain hb2 hb23) (ak hn1)
 have kc:W3.cell? ⟨W1.heap.size,0,none⟩=some (.slice fa ks.length fc):=Below.keeps hb23 ((cell_of_row _ _ 0 _ _ _ hn2).trans rfl)
 generalize W1.heap.size=q3 at *
 have HI:=hid (zah (.slice fa ks.length fc) ks 66 #[] (enters_of Tryz.func66 (by kernel_rfl) rfl) (fun x=>(x.is&&decide (65536<x.data.length))) W3 (HF.out.below HB3.out (Nat.le_refl _)) hl fun W hW z hz=>y7 z W)
 rw[hlong] at HI
 have HBG:=hid (fun(W:World) (hb:Below w.heap.size w W)=>pq x W (HX.out.below hb) hs ht (HM.out.1.below hb) (HM.out.2.below hb) l htl)
 have HZ:=hid (And.intro hs1 hzq)
 clear hb1 hn1 hb2 hn2 hz2 hb23 HS1 hs1 hzq
 go_upto_region 2 with(go_at_call 65;refine HI.out.mono ?_;rintro e W4 ⟨rfl,hb4⟩)
 have r1:=aQ hb4 r1
 have HB4:=hid (Below.chain HB3.out hb4)
 have HB34:=hid hb4
 have KC:=hid kc
 clear hb4 kc
 go_upto_region 5 with first|(refine bX fC r1 HLEN.out ?_)|(go_at_call 57;refine(HBG.out _ HB4.out).mono ?_;rintro e W5 ⟨⟨bb,B,E,rfl,hB,hbx,hrk⟩,hb5⟩;have HR:=hid (And.intro hB (And.intro hbx (And.intro hrk hb5)));clear hB hbx hrk hb5)
 obtain⟨hB,hbx,hrk,hb5⟩:=HR.out
 have hEB:∀j,E j→W4.heap.size≤j:=fun j e=>Nat.le_trans hB (hbx.db j e).1
 have HGO:=hid (sn hbx (show aL B W5 from⟨w,by have:=HB4.out.size;omega,HM.out.1,HM.out.2,Below.chain HB4.out hb5⟩) (ox _ _).1 (sY _ _ (nA htl).1) hrk rfl (qX hs) (by show x.l.outs.length≤_;have:=hs.outs;omega) (fun p hp=>by have:=hs.ol p hp;omega) 67 #[.pointer (some ⟨q3,0,none⟩)] (enters_of Tryz.func67 (by kernel_rfl) rfl) (knK ks) (zcm (_B:=0) KC.out (HF.out.below HB3.out (Nat.le_refl _)) hl (Below.chain HB34.out hb5) fun j e=>by have:=hEB j e;have:=HB34.out.size;omega) hak)
 have HEB:=hid (And.intro hEB hb5)
 clear hB hbx hrk hb5 hEB
 go_upto_region 6 with first|(go_at_call 58;refine HGO.out.mono ?_;rintro e W6 ⟨⟨u,v,rfl,eo⟩,hf6⟩;obtain⟨ka,pa,qa,ra,fva,rva,rfl,rfl,o1,o2⟩:=eo.form;have HRT:=hid (And.intro eo hf6);have HOC:=hid (dv qa ra fva rva o1 o2);clear eo hf6 o1 o2)|(refine fh jz ?_;intro z9 W7 hz9 hb7 hn7 hs7;have HS7:=hid hs7;clear hs7)|(refine fh eB ?_;intro z10 W8 hz10 hb8 hn8 hs8;have HS8:=hid hs8;clear hs8;have hn78:=(hb8.block _ (lx (hid hn7))).trans hn7)|(refine dQ (xs:=(ee ka pa).toArray) jz hn78 hz9 rfl (fq _ _) ?_;intro W9 ht9 hn9 hs9;have hn89:=(ht9.foot.block W7.heap.size (lx (hid hn8)) (by have:=HS7.out;omega)).trans hn8;clear hs9)|(refine dQ (xs:=(dV qa ra fva rva).toArray) eB hn89 hz10 rfl HOC.out ?_;intro W10 ht10 hn10 hs10;clear hs10)
 try simp only[Act.put,sA,sB,sC]
 obtain⟨hEB,hb5⟩:=HEB.out
 obtain⟨eo,hf6⟩:=HRT.out
 have hb6:=hf6.below hb5.size hEB
 have hne:W7.heap.size≠W6.heap.size:=by have:=HS7.out;omega
 have hz7:=hb7.size
 have hb610:Below W6.heap.size W6 W10:=(hb7.trans (hb8.mono hb7.size)).trans ((ht9.below (Nat.le_refl _)).trans (ht10.below hb7.size))
 have hb410:Below W4.heap.size W4 W10:=(hb5.trans hb6).trans (hb610.mono (by have:=hb5.size;have:=hf6.size;omega))
 have hb310:Below W3.heap.size W3 W10:=HB34.out.trans (hb410.mono HB34.out.size)
 have hrt10:=dH.keep (w2:=W10) (B1:=W5.heap.size) eo (Nat.le_refl _) fun k hk1 hk2=>hb610.block k hk2
 have hzz:=HZ.out
 have h34:=HB34.out.size
 have h45:=hb5.size
 have H10:=hid (And.intro hrt10 (And.intro hb310 (And.intro hzz (And.intro h34 h45))))
 clear HRT HGO HEB hb7 hb8 hn7 hn8 hn78 hn89
 have hm4:=(hb310.block _ (lx HN4)).trans HN4.out
 have hm5:=(hb310.block _ (lx HN5)).trans HN5.out
 have h9:=(ht10.foot.block W6.heap.size (lx (hid hn9)) hne.symm).trans hn9
 refine aD (fun W=>W.heap[W7.heap.size]?=some (.cells (dV qa ra fva rva).toArray 82 (0,0))∧W.heap[W6.heap.size]?=some (.cells (ee ka pa).toArray 93 (0,0))) 3 (by kernel_rfl) ?_
 intro wd hwd
 have hS0:wd.heap[W7.heap.size]?=some (.cells (dV qa ra fva rva).toArray 82 (0,0))∧wd.heap[W6.heap.size]?=some (.cells (ee ka pa).toArray 93 (0,0)):=⟨(hwd.block _ (lx (hid hn10))).trans hn10,(hwd.block _ (lx (hid h9))).trans h9⟩
 refine WL.ld 0 (some 31) jz (fun W hW=>ak hW.2) rfl (hi:=rfl) hS0 ?_
 try simp only[Act.put,sA,sB,sC]
 refine WL.ld 1 (some 32) eB (fun W hW=>ak hW.1) rfl (hi:=rfl) hS0 ?_
 try simp only[Act.put,sA,sB,sC]
 have hlo:q3+1<W6.heap.size∧q5<W6.heap.size∧q3+1≠q5∧w.heap.size≤q3∧W6.heap.size≤W7.heap.size:=by have:=hf6.size;omega
 have hmd4:=(hwd.block _ (lx (hid hm4))).trans hm4
 have hmd5:=(hwd.block _ (lx (hid hm5))).trans hm5
 refine WL.o 2 (hi:=rfl) ?_
 intro K hK
 refine iM (xs:=(ee ka pa).toArray) jz hmd4 hz4 rfl (fq _ _) ?_
 intro W11 ht11 hn11 hs11
 refine hK.out _ _ (.inr ⟨(ht11.foot.block _ (lx (hid hS0.1)) (by omega)).trans hS0.1,(ht11.foot.block _ (lx (hid hS0.2)) (by omega)).trans hS0.2⟩) ?_
 clear hK K
 try simp only[Act.put,sA]
 have hme5:=(ht11.foot.block q5 (lx (hid hmd5)) (by omega)).trans hmd5
 refine WL.o 3 (hi:=rfl) ?_
 intro K hK
 refine iM (xs:=(dV qa ra fva rva).toArray) eB hme5 hz5 rfl HOC.out ?_
 intro W12 ht12 hn12 hs12
 refine hK.out _ _ (.inl (by kernel_rfl)) ?_
 clear hK K
 try simp only[Act.put]
 have hn11':=(ht12.foot.block (q3+1) (lx (hid hn11)) (by omega)).trans hn11
 have H12:=hid (And.intro hn11' (And.intro hn12 (And.intro hwd (And.intro ht11 (And.intro ht12 hlo)))))
 clear hn11' hn12 hwd ht11 ht12 hlo hme5 hmd4 hmd5 hS0 hm4 hm5 hs11 hs12 hn11 h9 hn10 eo hf6 hb6 hb5 hEB hb610 hb410 hb310 hrt10 hz7 hne hzz h34 h45 ht9 ht10 hn9
 refine WL.o 4 (hi:=rfl) ?_
 intro K hK
 go_simp
 refine hK.out _ _ (.inl (by kernel_rfl)) ?_
 clear hK K
 try simp only[Act.put,sA,sB,sC]
 refine WL.d ?_
 go_wp2_with fail
 obtain⟨hn4,hn5,hwd,ht11,ht12,hlo⟩:=H12.out
 obtain⟨hrt10,hb310,hzz,h34,h45⟩:=H10.out
 refine zel Tryz.underlying93 Tryz.underlying82 _ _ hn4 hn5 ?_ (hi:=by kernel_rfl) (hi2:=by kernel_rfl)
 have hz10:=hwd.size
 have hz11:=ht11.foot.size
 have hz3:=hb310.size
 refine⟨⟨_,_,rfl,dH.keep hrt10 (by omega) fun k hk1 hk2=>(ht12.foot.block k (by omega) (by omega)).trans ((ht11.foot.block k (by omega) (by omega)).trans (hwd.block k hk2))⟩,((HB3.out.trans (hb310.mono (by omega))).trans (hwd.mono (by omega))).trans ((ht11.below (by omega)).trans (ht12.below (by omega)))⟩
theorem zr:cZ 75 4:=⟨_,Tryz.underlying75,rfl,by kernel_rfl⟩
def tb (fv av:Value):List Value:=[fv,av,gc,.bool false]
theorem iY (x:fy):x.cells.length=7:=rfl
set_option maxHeartbeats 8000000 in
theorem xJ (x:fy) (fs:List (Txt×Txt)) (fv av:Value) (w:World) (hf:aJ w 2 cO fv fs) (ha:aJ w 7 fy.cells av [x]) (hx:fm w x) (hs:eE x.l) (ht:x.l.tool.length≤1500000) (hl:fs.length≤1500000) (hfl:∀f∈fs,f.1.length≤1500000∧f.2.length≤1500000):
 Calls Tryz.prog 21 #[.agg (tb fv av).toArray] w fun e w'=>(∃q,e=.returned (.bool q)∧(q=false→x.l.tool.length≤8000∧x.l.env.length+x.l.ins.length+x.l.asks.length+x.l.outs.length≤120))∧Below w.heap.size w w':=by
 obtain⟨a,c,rfl,hc,hm, -,hxf⟩:=hf.out cD (by omega)
 obtain⟨a2,c2,rfl,hc2,hm2, -,hx2⟩:=ha.out iY (by omega)
 obtain⟨ae,ce,hev, -⟩:=aJ.out (sz:=2) (f:=kq) (fun _=>rfl) (by omega) hx.env
 obtain⟨ai,ci,hiv, -⟩:=hx.ins.out
 obtain⟨aa,ca,hav, -⟩:=hx.asks.out
 obtain⟨ao,co,hov, -⟩:=hx.outs.out
 obtain⟨b2,o2,rfl,hb2,hcl2⟩:=hx2 0 (by simp)
 have R2:=hid (hcl2 0 (by simp))
 have HXF:=hid hxf
 have HONE:=hid (show ∀u∈x.cells,u.oneCell'=true by
  intro u hu
  simp only[fy.cells,hev,hiv,hav,hov,List.mem_cons,List.not_mem_nil,or_false] at hu
  rcases hu with rfl|rfl|rfl|rfl|rfl|rfl|rfl<;>rfl)
 clear hf ha hx hxf hx2 hcl2
 go_enter Tryz.func21,Tryz.ntmps21
 go_upto_region 1 with(refine df zr ?_;intro W1 hb1 hn1 hs1)
 have k0:W1.cell? ⟨w.heap.size,0,none⟩=some (.slice a fs.length c):=(cell_of_row _ _ 0 _ _ _ hn1).trans rfl
 have k1:W1.cell? ⟨w.heap.size,1,none⟩=some (.slice (some ⟨b2,o2,none⟩) 1 c2):=(cell_of_row _ _ 1 _ _ _ hn1).trans rfl
 have k2:W1.cell? ⟨w.heap.size,2,none⟩=some (.slice none 0 0):=(cell_of_row _ _ 2 _ _ _ hn1).trans rfl
 have HB:=hid hb1
 clear hb1 hn1 hs1
 have HK1:=hid k1
 have HK2:=hid k2
 clear k1 k2
 go_wp2_with fail
 go_loopw [3,11] (fun s i wr=>∃(k n:Nat),k≤fs.length∧i=.int .i64 k∧s=.int .i64 n∧n≤k*50000∧Below W1.heap.size W1 wr) (fun _ i _=>fs.length-(intOf i).toNat)
 case atStart=>exact⟨0,0,Nat.zero_le _,rfl,rfl,Nat.zero_le _,Below.refl _ _⟩
 case round=>
  obtain⟨k,n,hk,rfl,rfl,hn,hbe⟩:=hrel
  by_cases aK:k<fs.length
  ·obtain⟨b0,o0,rfl,hb0,hcl0⟩:=HXF.out k aK
   have L0:=aQ (Below.chain HB.out hbe) (hcl0 k aK)
   obtain⟨hp,hd⟩:=hfl fs[k] (List.getElem_mem aK)
   generalize fs[k]=f at *
   have HBE:=hid hbe
   clear hcl0 hbe
   go_upto_region 5 with first|(refine bX tU L0 (cD _) ?_)|(refine eS (xs:=(cO f).toArray) tU rfl (oN _) ?_;intro W3 hb3 hn3 hs3)
   have f0:W3.cell? ⟨wr.heap.size,0,none⟩=some (.string (bs f.1)):=(cell_of_row _ _ 0 _ _ _ hn3).trans rfl
   have f1:W3.cell? ⟨wr.heap.size,1,none⟩=some (.string (bs f.2)):=(cell_of_row _ _ 1 _ _ _ hn3).trans rfl
   have HB3:=hid (Below.chain HBE.out hb3)
   clear hb3 hn3 hs3
   go_wp2_with fail
   exact⟨⟨k+1,n+(1+(f.1.length+f.2.length)/64),by omega,by go_num,by simp only[Value.int.injEq,true_and];omega,by omega,HB3.out⟩,by simp[intOf];omega⟩
  ·obtain rfl:k=fs.length:=by omega
   have HBE:=hid hbe
   have k1:=Below.keeps hbe HK1.out
   have R3:=aQ (Below.chain HB.out hbe) R2.out
   have k2:=Below.keeps hbe HK2.out
   clear hbe
   go_wp2_with fail
   have R3:=hid R3
   have K1:=hid k1
   have K2:=hid k2
   clear k1 k2
   generalize wr=w1 at *
   go_loopw [3,30] (fun s i wq=>∃(k m:Nat),k≤1∧i=.int .i64 k∧s=.int .i64 m∧m≤10000000000000+k*10000000000∧(k=1→x.l.env.length+x.l.ins.length+x.l.asks.length+x.l.outs.length+x.l.tool.length/64≤m)∧Below w1.heap.size w1 wq) (fun _ i _=>1-(intOf i).toNat)
   case atStart=>exact⟨0,n,by omega,rfl,rfl,by omega,fun e=>by omega,Below.refl _ _⟩
   case round=>
    obtain⟨k,m,hk,rfl,rfl,hm3,hmt,hbq⟩:=hrel
    by_cases aK:k<1
    ·obtain rfl:k=0:=by omega
     have L0:wr.rangeAt b2 (o2+0*7) x.cells:=aQ hbq R3.out
     have HBQ:=hid hbq
     clear hbq
     go_upto_region 10 with first|(refine bX fC L0 (iY _) ?_)|(refine eS (xs:=x.cells.toArray) fC rfl HONE.out ?_;intro W3 hb3 hn3 hs3)
     have g2:W3.cell? ⟨wr.heap.size,2,none⟩=some (.string (bs x.l.tool)):=(cell_of_row _ _ 2 _ _ _ hn3).trans rfl
     have g3:W3.cell? ⟨wr.heap.size,3,none⟩=some (.slice ae x.l.env.length ce):=(cell_of_row _ _ 3 _ _ _ hn3).trans (congrArg some hev)
     have g4:W3.cell? ⟨wr.heap.size,4,none⟩=some (.slice ai x.l.ins.length ci):=(cell_of_row _ _ 4 _ _ _ hn3).trans (congrArg some hiv)
     have g5:W3.cell? ⟨wr.heap.size,5,none⟩=some (.slice aa x.l.asks.length ca):=(cell_of_row _ _ 5 _ _ _ hn3).trans (congrArg some hav)
     have g6:W3.cell? ⟨wr.heap.size,6,none⟩=some (.slice ao x.l.outs.length co):=(cell_of_row _ _ 6 _ _ _ hn3).trans (congrArg some hov)
     have HB3:=hid (Below.chain HBQ.out hb3)
     clear hb3 hn3 hs3
     have hse:=hs.env
     have hsi:=hs.ins
     have hsa:=hs.asks
     have hso:=hs.outs
     go_wp2_with fail
     exact⟨⟨1,m+(x.l.env.length+x.l.ins.length+x.l.asks.length+x.l.outs.length+x.l.tool.length/64),by omega,by go_num,by simp only[Value.int.injEq,true_and];omega,by omega,fun _=>by omega,HB3.out⟩,by simp[intOf]⟩
    ·obtain rfl:k=1:=by omega
     have HMT:=hid (hmt rfl)
     have k1:=Below.keeps hbq K1.out
     have k2:=Below.keeps hbq K2.out
     have HBQ:=hid (Below.chain HB.out (Below.chain HBE.out hbq))
     clear hbq hmt
     by_cases h120:m≤120
     ·have e1:decide ((120:Int)<m)=false:=decide_eq_false (by omega)
      go_wp2_with fail
      go_ret
      exact⟨⟨_,rfl,fun _=>by have:=HMT.out;exact⟨by omega,by omega⟩⟩,HBQ.out⟩
     ·have e1:decide ((120:Int)<m)=true:=decide_eq_true (by omega)
      go_wp2_with fail
      go_ret
      exact⟨⟨_,rfl,fun h=>by cases h⟩,HBQ.out⟩
end Go.Proofs.YtlbipokkdiiaiaaGreatDoor
