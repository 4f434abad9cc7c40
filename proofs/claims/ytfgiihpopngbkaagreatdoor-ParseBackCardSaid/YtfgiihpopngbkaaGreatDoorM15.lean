/- Lemmas and walks that the statement needs: AllBlock, AllParam, MayS, MayR. -/
import Derived.Test.YtfgiihpopngbkaaGreatDoorM05
import Derived.Test.YtfgiihpopngbkaaGreatDoorM03
import Derived.Test.YtfgiihpopngbkaaGreatDoorM14
namespace Go.Proofs.YtfgiihpopngbkaaGreatDoor
set_option maxRecDepth 100000
open Go.RowKit
open Nat renaming lt_of_lt_of_le→nL,le_trans→nT
set_option maxHeartbeats 1000000 in
theorem not_mayBlock (x:NM) (b:Bool) (bx:Nat) (w:World) (hb:w.heap[bx]? = some (.cells #[.func (.func 39) #[] #[]] 60 (0,0))) (h:∀ W,Below w.heap.size w W→Calls Tryz.prog 39 #[x.val] W fun e w'=>e=.returned (.bool b)∧Below W.heap.size W w') :
  Calls Tryz.prog 36 #[x.val,.pointer (some ⟨bx,0,none⟩)] w fun e w'=>e=.returned (.bool (!b))∧Below w.heap.size w w':=by
 cases x with
 | mk k t l c ks a m =>
 have q:w.cell? ⟨bx,0,none⟩=some (.func (.func 39) #[] #[]):=cell_of_row w bx 0 _ _ _ hb;have hnot:∀ (x:Bool) (w:World),(Op.unary .not (.bool x)).run Tryz.prog w=.ok (.bool (!x)) w:=fun _ _=>rfl
 have H:=hid (h _ (below_new w (.cells #[.int .i64 k,.string (bs t),.int .i64 l,.int .i64 c,.slice a ks.length m] 27)));have hlt:bx<w.heap.size:=(Array.getElem?_eq_some_iff.1 hb).1;clear h hb;change Calls _ _ #[nodeV k t l c (.slice a ks.length m),_] _ _;change Hid (Calls _ _ #[nodeV k t l c (.slice a ks.length m)] _ _) at H;go_enter Tryz.func36,Tryz.ntmps36
 go_wp2_with fail;refine H.out.mono ?_;rintro e w1 ⟨rfl,hb1⟩;go_wp2_with fail;go_ret;exact ⟨rfl,Below.chain (below_new w _) hb1⟩
set_option maxHeartbeats 1000000 in
theorem index_mayBlock (p:NM→Bool) (v:Value) (ks:List NM) (bx:Nat) (w:World) (hl:KidsAt w v ks) (hlen:ks.length≤10000000) (hb:w.heap[bx]? = some (.cells #[.func (.func 39) #[] #[]] 60 (0,0)))
  (h:∀ j (hj:j<ks.length) W,Below w.heap.size w W→Calls Tryz.prog 39 #[ks[j].val] W fun e w'=>e=.returned (.bool (p ks[j]))∧Below W.heap.size W w') :
  Calls Tryz.prog 70 #[v,.func (.func 36) #[] #[.pointer (some ⟨bx,0,none⟩)]] w fun e w'=>(∃ r:Int,e=.returned (.int .i64 r)∧((ks.all p=true∧r=-1)∨(ks.all p=false∧∃ n:Nat,r=n)))∧Below w.heap.size w w':=by
 have HS:=hid (fun W (hW:Below w.heap.size w W)=>hl.below hW);have HC:=hid (fun j (hj:j<ks.length) W (hW:Below w.heap.size w W)=>not_mayBlock ks[j] (p ks[j]) bx W ((hW.block bx (Array.getElem?_eq_some_iff.1 hb).1).trans hb) (fun W' hW'=>h j hj W' (Below.chain hW hW')));obtain ⟨la,lc,rfl,hlc,hlm,-⟩:=hl.nodes;unfold maxLen at hlm;clear hl h hb;go_enter Tryz.func70,Tryz.ntmps70
 go_wp2_with fail;go_loopw [8] (fun i wr=>∃ j:Nat,j≤ks.length∧i=.int .i64 j∧Below w.heap.size w wr∧Hid ((ks.take j).all p=true)) (fun i _=>ks.length - (intOf i).toNat)
 case atStart=>exact ⟨0,by omega,rfl,Below.refl _ _,hid rfl⟩
 case round =>
  obtain ⟨j,hj,rfl,hbw,HA⟩:=hrel;have hsz:=hbw.size;by_cases hlt:j<ks.length
  ·have hd:decide (j<ks.length)=true:=decide_eq_true hlt;obtain ⟨la',lc',hv,-,-,hx⟩:=(HS.out _ hbw).nodes;obtain ⟨lb,lo,rfl,hlb,hcl⟩:=hx j hlt;obtain ⟨rfl,rfl⟩:la=some ⟨lb,lo,none⟩∧lc=lc':=by simpa using hv
   have hfc:=hcl j hlt;have HCj:=hid (HC.out j hlt _ hbw);have HN:=hid (show (ks.take (j+1)).all p=((ks.take j).all p && p ks[j]) by rw [List.take_succ_eq_append_getElem hlt,List.all_append];simp);have HF:=hid (fun hp:p ks[j]=false=>(show ks.all p=false by
    cases e:ks.all p with
    | false=>rfl
    | true=>rw [List.all_eq_true.1 e ks[j] (List.getElem_mem hlt)] at hp;cases hp))
   generalize ks[j]=x at *;cases x with
   | mk k t l c kk a m =>
   generalize p (.mk k t l c kk a m)=pb at *;change Hid (Calls _ _ #[nodeV k t l c (.slice a kk.length m),_] _ _) at HCj;obtain ⟨c0,c1,c2,c3,c4⟩:=hfc;replace c0:wr.cell? ⟨lb,lo+j * 5,none⟩=some (.int .i64 k):=c0;replace c1:wr.cell? ⟨lb,lo+j * 5+1,none⟩=some (.string (bs t)):=c1;replace c2:wr.cell? ⟨lb,lo+j * 5+2,none⟩=some (.int .i64 l):=c2;replace c3:wr.cell? ⟨lb,lo+j * 5+3,none⟩=some (.int .i64 c):=c3;replace c4:wr.cell? ⟨lb,lo+j * 5+4,none⟩=some (.slice a kk.length m):=c4;clear hcl hx hv;go_wp2_with fail;refine HCj.out.mono ?_;rintro e w1 ⟨rfl,hb1⟩;cases pb with
   | false =>
     go_wp2_with fail;go_ret;exact ⟨⟨_,rfl,.inr ⟨HF.out (by simp),j,rfl⟩⟩,Below.chain hbw hb1⟩
   | true =>
     go_wp2_with fail
     go_round
     case rel=>exact ⟨j+1,by omega,by go_num,Below.chain hbw hb1,hid (by rw [HN.out,HA.out];rfl)⟩
     case measure=>simp [intOf];omega
  ·have hd:decide (j<ks.length)=false:=decide_eq_false hlt;have HT:=hid (show ks.all p=true by have:=HA.out;rwa [List.take_of_length_le (by omega)] at this);go_wp2_with fail;go_ret;exact ⟨⟨_,rfl,.inl ⟨HT.out,rfl⟩⟩,hbw⟩
set_option maxHeartbeats 1000000 in
theorem all_mayBlock (p:NM→Bool) (v:Value) (ks:List NM) (w:World) (hl:KidsAt w v ks) (hlen:ks.length≤10000000)
  (h:∀ j (hj:j<ks.length) W,Below w.heap.size w W→Calls Tryz.prog 39 #[ks[j].val] W fun e w'=>e=.returned (.bool (p ks[j]))∧Below W.heap.size W w') :
  Calls Tryz.prog 22 #[v,.func (.func 39) #[] #[]] w fun e w'=>e=.returned (.bool (ks.all p))∧Below w.heap.size w w':=by
 have hnot:∀ (x:Bool) (w:World),(Op.unary .not (.bool x)).run Tryz.prog w=.ok (.bool (!x)) w:=fun _ _=>rfl
 have hmf:∀ (fn:Fn) (first cap:Array Value) (w:World),(Instr.makeFunc fn first cap).run Tryz.prog w=.ok (.func fn first cap) w:=fun _ _ _ _=>rfl
 have hb0:=below_new w (.cells #[.func (.func 39) #[] #[]] 60);have HI:=hid (index_mayBlock p v ks w.heap.size _ (hl.below hb0) hlen (heap_alloc_new w (.cells #[.func (.func 39) #[] #[]] 60)) (fun j hj W hW=>h j hj W (Below.chain hb0 hW)));obtain ⟨la,lc,rfl,-,-,-⟩:=hl.nodes;clear hl h hb0;go_enter Tryz.func22,Tryz.ntmps22
 go_wp2_with fail;go_enter Tryz.func35,Tryz.ntmps35
 go_wp2_with fail;refine HI.out.mono ?_;rintro e w1 ⟨⟨r,rfl,hr⟩,hb1⟩;rcases hr with ⟨ha,rfl⟩ | ⟨ha,n,rfl⟩
 ·have HA:=hid ha;clear ha;go_wp2_with fail;go_ret;exact ⟨by rw [HA.out];rfl,Below.chain (below_new w _) hb1⟩
 ·have HA:=hid ha;clear ha;have hn:(0:Int)≤(n:Int):=by omega
  go_wp2_with fail;go_ret;exact ⟨by rw [HA.out];rfl,Below.chain (below_new w _) hb1⟩
set_option maxHeartbeats 1000000 in
theorem not_mayParam (x:NM) (b:Bool) (bx:Nat) (w:World) (hb:w.heap[bx]? = some (.cells #[.func (.func 40) #[] #[]] 60 (0,0))) (h:∀ W,Below w.heap.size w W→Calls Tryz.prog 40 #[x.val] W fun e w'=>e=.returned (.bool b)∧Below W.heap.size W w') :
  Calls Tryz.prog 36 #[x.val,.pointer (some ⟨bx,0,none⟩)] w fun e w'=>e=.returned (.bool (!b))∧Below w.heap.size w w':=by
 cases x with
 | mk k t l c ks a m =>
 have q:w.cell? ⟨bx,0,none⟩=some (.func (.func 40) #[] #[]):=cell_of_row w bx 0 _ _ _ hb;have hnot:∀ (x:Bool) (w:World),(Op.unary .not (.bool x)).run Tryz.prog w=.ok (.bool (!x)) w:=fun _ _=>rfl
 have H:=hid (h _ (below_new w (.cells #[.int .i64 k,.string (bs t),.int .i64 l,.int .i64 c,.slice a ks.length m] 27)));have hlt:bx<w.heap.size:=(Array.getElem?_eq_some_iff.1 hb).1;clear h hb;change Calls _ _ #[nodeV k t l c (.slice a ks.length m),_] _ _;change Hid (Calls _ _ #[nodeV k t l c (.slice a ks.length m)] _ _) at H;go_enter Tryz.func36,Tryz.ntmps36
 go_wp2_with fail;refine H.out.mono ?_;rintro e w1 ⟨rfl,hb1⟩;go_wp2_with fail;go_ret;exact ⟨rfl,Below.chain (below_new w _) hb1⟩
set_option maxHeartbeats 1000000 in
theorem index_mayParam (p:NM→Bool) (v:Value) (ks:List NM) (bx:Nat) (w:World) (hl:KidsAt w v ks) (hlen:ks.length≤10000000) (hb:w.heap[bx]? = some (.cells #[.func (.func 40) #[] #[]] 60 (0,0)))
  (h:∀ j (hj:j<ks.length) W,Below w.heap.size w W→Calls Tryz.prog 40 #[ks[j].val] W fun e w'=>e=.returned (.bool (p ks[j]))∧Below W.heap.size W w') :
  Calls Tryz.prog 70 #[v,.func (.func 36) #[] #[.pointer (some ⟨bx,0,none⟩)]] w fun e w'=>(∃ r:Int,e=.returned (.int .i64 r)∧((ks.all p=true∧r=-1)∨(ks.all p=false∧∃ n:Nat,r=n)))∧Below w.heap.size w w':=by
 have HS:=hid (fun W (hW:Below w.heap.size w W)=>hl.below hW);have HC:=hid (fun j (hj:j<ks.length) W (hW:Below w.heap.size w W)=>not_mayParam ks[j] (p ks[j]) bx W ((hW.block bx (Array.getElem?_eq_some_iff.1 hb).1).trans hb) (fun W' hW'=>h j hj W' (Below.chain hW hW')));obtain ⟨la,lc,rfl,hlc,hlm,-⟩:=hl.nodes;unfold maxLen at hlm;clear hl h hb;go_enter Tryz.func70,Tryz.ntmps70
 go_wp2_with fail;go_loopw [8] (fun i wr=>∃ j:Nat,j≤ks.length∧i=.int .i64 j∧Below w.heap.size w wr∧Hid ((ks.take j).all p=true)) (fun i _=>ks.length - (intOf i).toNat)
 case atStart=>exact ⟨0,by omega,rfl,Below.refl _ _,hid rfl⟩
 case round =>
  obtain ⟨j,hj,rfl,hbw,HA⟩:=hrel;have hsz:=hbw.size;by_cases hlt:j<ks.length
  ·have hd:decide (j<ks.length)=true:=decide_eq_true hlt;obtain ⟨la',lc',hv,-,-,hx⟩:=(HS.out _ hbw).nodes;obtain ⟨lb,lo,rfl,hlb,hcl⟩:=hx j hlt;obtain ⟨rfl,rfl⟩:la=some ⟨lb,lo,none⟩∧lc=lc':=by simpa using hv
   have hfc:=hcl j hlt;have HCj:=hid (HC.out j hlt _ hbw);have HN:=hid (show (ks.take (j+1)).all p=((ks.take j).all p && p ks[j]) by rw [List.take_succ_eq_append_getElem hlt,List.all_append];simp);have HF:=hid (fun hp:p ks[j]=false=>(show ks.all p=false by
    cases e:ks.all p with
    | false=>rfl
    | true=>rw [List.all_eq_true.1 e ks[j] (List.getElem_mem hlt)] at hp;cases hp))
   generalize ks[j]=x at *;cases x with
   | mk k t l c kk a m =>
   generalize p (.mk k t l c kk a m)=pb at *;change Hid (Calls _ _ #[nodeV k t l c (.slice a kk.length m),_] _ _) at HCj;obtain ⟨c0,c1,c2,c3,c4⟩:=hfc;replace c0:wr.cell? ⟨lb,lo+j * 5,none⟩=some (.int .i64 k):=c0;replace c1:wr.cell? ⟨lb,lo+j * 5+1,none⟩=some (.string (bs t)):=c1;replace c2:wr.cell? ⟨lb,lo+j * 5+2,none⟩=some (.int .i64 l):=c2;replace c3:wr.cell? ⟨lb,lo+j * 5+3,none⟩=some (.int .i64 c):=c3;replace c4:wr.cell? ⟨lb,lo+j * 5+4,none⟩=some (.slice a kk.length m):=c4;clear hcl hx hv;go_wp2_with fail;refine HCj.out.mono ?_;rintro e w1 ⟨rfl,hb1⟩;cases pb with
   | false =>
     go_wp2_with fail;go_ret;exact ⟨⟨_,rfl,.inr ⟨HF.out (by simp),j,rfl⟩⟩,Below.chain hbw hb1⟩
   | true =>
     go_wp2_with fail
     go_round
     case rel=>exact ⟨j+1,by omega,by go_num,Below.chain hbw hb1,hid (by rw [HN.out,HA.out];rfl)⟩
     case measure=>simp [intOf];omega
  ·have hd:decide (j<ks.length)=false:=decide_eq_false hlt;have HT:=hid (show ks.all p=true by have:=HA.out;rwa [List.take_of_length_le (by omega)] at this);go_wp2_with fail;go_ret;exact ⟨⟨_,rfl,.inl ⟨HT.out,rfl⟩⟩,hbw⟩
set_option maxHeartbeats 1000000 in
theorem all_mayParam (p:NM→Bool) (v:Value) (ks:List NM) (w:World) (hl:KidsAt w v ks) (hlen:ks.length≤10000000)
  (h:∀ j (hj:j<ks.length) W,Below w.heap.size w W→Calls Tryz.prog 40 #[ks[j].val] W fun e w'=>e=.returned (.bool (p ks[j]))∧Below W.heap.size W w') :
  Calls Tryz.prog 22 #[v,.func (.func 40) #[] #[]] w fun e w'=>e=.returned (.bool (ks.all p))∧Below w.heap.size w w':=by
 have hnot:∀ (x:Bool) (w:World),(Op.unary .not (.bool x)).run Tryz.prog w=.ok (.bool (!x)) w:=fun _ _=>rfl
 have hmf:∀ (fn:Fn) (first cap:Array Value) (w:World),(Instr.makeFunc fn first cap).run Tryz.prog w=.ok (.func fn first cap) w:=fun _ _ _ _=>rfl
 have hb0:=below_new w (.cells #[.func (.func 40) #[] #[]] 60);have HI:=hid (index_mayParam p v ks w.heap.size _ (hl.below hb0) hlen (heap_alloc_new w (.cells #[.func (.func 40) #[] #[]] 60)) (fun j hj W hW=>h j hj W (Below.chain hb0 hW)));obtain ⟨la,lc,rfl,-,-,-⟩:=hl.nodes;clear hl h hb0;go_enter Tryz.func22,Tryz.ntmps22
 go_wp2_with fail;go_enter Tryz.func35,Tryz.ntmps35
 go_wp2_with fail;refine HI.out.mono ?_;rintro e w1 ⟨⟨r,rfl,hr⟩,hb1⟩;rcases hr with ⟨ha,rfl⟩ | ⟨ha,n,rfl⟩
 ·have HA:=hid ha;clear ha;go_wp2_with fail;go_ret;exact ⟨by rw [HA.out];rfl,Below.chain (below_new w _) hb1⟩
 ·have HA:=hid ha;clear ha;have hn:(0:Int)≤(n:Int):=by omega
  go_wp2_with fail;go_ret;exact ⟨by rw [HA.out];rfl,Below.chain (below_new w _) hb1⟩
set_option maxHeartbeats 2000000 in
theorem mayS_2 (t:List UInt8) (l c:Int) (kx:Int) (tx:List UInt8) (lx cx:Int) (ksx:List NM) (ax:Option Addr) (mx:Nat) (a:Option Addr) (m:Nat) (w:World) (hw:Laid w) (hh:HeldN AnyB w (.mk 2 t l c [(NM.mk kx tx lx cx ksx ax mx)] a m)) (ht:(t:List UInt8).length≤1000000) (IHx:Says 38 mE (NM.mk kx tx lx cx ksx ax mx)) :
  Calls Tryz.prog 23 #[nodeV 2 t l c (.slice a 1 m)] w fun e w'=>e=.returned (.bool (mS (NM.mk 2 t l c [(NM.mk kx tx lx cx ksx ax mx)] a m).tr))∧Below w.heap.size w w':=by
 have hnot:∀ (x:Bool) (w:World),(Op.unary .not (.bool x)).run Tryz.prog w=.ok (.bool (!x)) w:=fun _ _=>rfl
 obtain ⟨la,lc,hv,hlc,hlm,hx⟩:=hh.kidsAt.nodes;obtain ⟨kb,ko,hla,hkb,hcl⟩:=hx 0 (by simp);obtain ⟨rfl,rfl⟩:a=la∧m=lc:=by simpa using hv
 subst hla;have hm1:1≤m:=by simpa using hlc
 unfold maxLen at hlm;have Fx:=hid (show FiveN w kb ko (NM.mk kx tx lx cx ksx ax mx) from hcl 0 (by simp));have ggx:=hid (show HeldN AnyB w (NM.mk kx tx lx cx ksx ax mx) from hh.kidsAt.get 0 (by simp));clear hx hcl hv hlc;have HO:=hid (show mS (NM.mk 2 t l c [(NM.mk kx tx lx cx ksx ax mx)] (some ⟨kb,ko,none⟩) m).tr=(nameS t && mE (NM.mk kx tx lx cx ksx ax mx).tr) by
  rw [ntr_mk,mS_2,ntrs_cons,ntrs_nil];rfl
 )
 rw [HO.out];clear HO;have C0:=hid (fun W (hW:Below w.heap.size w W)=>isName_any t (by omega) W (hw.range.below hW));have C1:=hid (fun W (hW:Below w.heap.size w W)=>(show Calls Tryz.prog 38 #[nodeV kx tx lx cx (.slice ax ksx.length mx)] W _ from IHx W (hw.below hW) (ggx.out.below hW)));generalize nameS t=b0 at *;generalize mE (NM.mk kx tx lx cx ksx ax mx).tr=b1 at *;clear hh hw IHx ggx;obtain ⟨yx0,yx1,yx2,yx3,yx4⟩:=five_of Fx.out;have HB0:=hid (below_new w (.cells #[.int .i64 2,.string (bs t),.int .i64 l,.int .i64 c,.slice (some ⟨kb,ko,none⟩) 1 m] 27));go_enter Tryz.func23,Tryz.ntmps23
 go_wp2_with fail;refine (C0.out _ HB0.out).mono ?_;rintro e w1 ⟨rfl,hb1⟩;have HB1:=hid (Below.chain HB0.out hb1);have HR1:=hid ((hb1.block _ (by (try simp only [World.size_alloc]) <;> omega)).trans (heap_alloc_new w _));have hs1:=hb1.size
 try simp only [World.size_alloc] at hs1
 clear hb1 C0;obtain ⟨z0,z1,z2,z3,z4,-,-,-,-,-⟩:=row5 HR1.out;obtain ⟨yx0,yx1,yx2,yx3,yx4⟩:=five_of (Fx.out.keep (HB1.out.block kb hkb));have hkl1:kb<w1.heap.size:=by omega
 cases b0 with
 | false =>
   go_wp2_with fail;clear z0 z1 z2 z3 z4 yx0 yx1 yx2 yx3 yx4;go_ret
   first
   | exact ⟨rfl,HB1.out⟩
   | exact ⟨rfl,Below.chain HB1.out (below_new _ _)⟩
 | true =>
   go_wp2_with fail;clear z0 z1 z2 z3 z4 yx0 yx1 yx2 yx3 yx4;refine (C1.out _ HB1.out).mono ?_;rintro e w2 ⟨rfl,hb2⟩;have HB2:=hid (Below.chain HB1.out hb2);have HR2:=hid ((hb2.block _ (by (try simp only [World.size_alloc]) <;> omega)).trans HR1.out);have hs2:=hb2.size
   try simp only [World.size_alloc] at hs2
   clear hb2 C1;obtain ⟨z0,z1,z2,z3,z4,-,-,-,-,-⟩:=row5 HR2.out;obtain ⟨yx0,yx1,yx2,yx3,yx4⟩:=five_of (Fx.out.keep (HB2.out.block kb hkb));have hkl2:kb<w2.heap.size:=by omega
   go_wp2_with fail;clear z0 z1 z2 z3 z4 yx0 yx1 yx2 yx3 yx4;go_ret
   first
   | exact ⟨rfl,HB2.out⟩
   | exact ⟨rfl,Below.chain HB2.out (below_new _ _)⟩
set_option maxHeartbeats 2000000 in
theorem mayS_20 (t:List UInt8) (l c:Int) (ks:List NM) (a:Option Addr) (m:Nat) (w:World) (hw:Laid w) (hh:HeldN AnyB w (.mk 2 t l c ks a m)) (ht:(t:List UInt8).length≤1000000) (hn:ks.length≠1) :
  Calls Tryz.prog 23 #[nodeV 2 t l c (.slice a ks.length m)] w fun e w'=>e=.returned (.bool (mS (NM.mk 2 t l c ks a m).tr))∧Below w.heap.size w w':=by
 have hnot:∀ (x:Bool) (w:World),(Op.unary .not (.bool x)).run Tryz.prog w=.ok (.bool (!x)) w:=fun _ _=>rfl
 have HO:=hid (show mS (NM.mk 2 t l c ks a m).tr=(nameS t && false) by
  rw [ntr_mk,mS_2]
  match ks,hn with
  | [],_=>simp [ntrs_nil,oneM]
  | [_],h=>simp at h
  | _::_::_,_=>simp [ntrs_cons,oneM]
 )
 rw [HO.out];clear HO;have C0:=hid (fun W (hW:Below w.heap.size w W)=>isName_any t (by omega) W (hw.range.below hW));generalize nameS t=b0 at *;clear hh hw;have hn1:((ks.length:Int) == 1)=false:=eqF (by omega);have HB0:=hid (below_new w (.cells #[.int .i64 2,.string (bs t),.int .i64 l,.int .i64 c,.slice a ks.length m] 27));go_enter Tryz.func23,Tryz.ntmps23
 go_wp2_with fail;refine (C0.out _ HB0.out).mono ?_;rintro e w1 ⟨rfl,hb1⟩;have HB1:=hid (Below.chain HB0.out hb1);have HR1:=hid ((hb1.block _ (by (try simp only [World.size_alloc]) <;> omega)).trans (heap_alloc_new w _));have hs1:=hb1.size
 try simp only [World.size_alloc] at hs1
 clear hb1 C0;obtain ⟨z0,z1,z2,z3,z4,-,-,-,-,-⟩:=row5 HR1.out;cases b0 with
 | false =>
   go_wp2_with fail;clear z0 z1 z2 z3 z4;go_ret
   first
   | exact ⟨rfl,HB1.out⟩
   | exact ⟨rfl,Below.chain HB1.out (below_new _ _)⟩
 | true =>
   go_wp2_with fail;clear z0 z1 z2 z3 z4;go_ret
   first
   | exact ⟨rfl,HB1.out⟩
   | exact ⟨rfl,Below.chain HB1.out (below_new _ _)⟩
set_option maxHeartbeats 2000000 in
theorem mayS_3  (l c:Int) (kx:Int) (tx:List UInt8) (lx cx:Int) (ksx:List NM) (ax:Option Addr) (mx:Nat) (a:Option Addr) (m:Nat) (w:World) (hw:Laid w) (hh:HeldN AnyB w (.mk 3 [] l c [(NM.mk kx tx lx cx ksx ax mx)] a m)) (_ht:([]:List UInt8).length≤1000000) (h14:(kx == 14)=true) (IHx:Says 38 mE (NM.mk kx tx lx cx ksx ax mx)) :
  Calls Tryz.prog 23 #[nodeV 3 [] l c (.slice a 1 m)] w fun e w'=>e=.returned (.bool (mS (NM.mk 3 [] l c [(NM.mk kx tx lx cx ksx ax mx)] a m).tr))∧Below w.heap.size w w':=by
 have hnot:∀ (x:Bool) (w:World),(Op.unary .not (.bool x)).run Tryz.prog w=.ok (.bool (!x)) w:=fun _ _=>rfl
 obtain ⟨la,lc,hv,hlc,hlm,hx⟩:=hh.kidsAt.nodes;obtain ⟨kb,ko,hla,hkb,hcl⟩:=hx 0 (by simp);obtain ⟨rfl,rfl⟩:a=la∧m=lc:=by simpa using hv
 subst hla;have hm1:1≤m:=by simpa using hlc
 unfold maxLen at hlm;have Fx:=hid (show FiveN w kb ko (NM.mk kx tx lx cx ksx ax mx) from hcl 0 (by simp));have ggx:=hid (show HeldN AnyB w (NM.mk kx tx lx cx ksx ax mx) from hh.kidsAt.get 0 (by simp));clear hx hcl hv hlc;have HO:=hid (show mS (NM.mk 3 [] l c [(NM.mk kx tx lx cx ksx ax mx)] (some ⟨kb,ko,none⟩) m).tr=mE (NM.mk kx tx lx cx ksx ax mx).tr by
  rw [ntr_mk,mS_3,ntrs_cons,ntrs_nil];show (true && (Tr.kd (NM.mk kx tx lx cx ksx ax mx).tr == 14 && mE (NM.mk kx tx lx cx ksx ax mx).tr))=_;rw [ntr_mk,kd_mk,h14,Bool.true_and,Bool.true_and]
 )
 rw [HO.out];clear HO;have C0:=hid (fun W (hW:Below w.heap.size w W)=>(show Calls Tryz.prog 38 #[nodeV kx tx lx cx (.slice ax ksx.length mx)] W _ from IHx W (hw.below hW) (ggx.out.below hW)));generalize mE (NM.mk kx tx lx cx ksx ax mx).tr=b0 at *;clear hh hw IHx ggx;obtain ⟨yx0,yx1,yx2,yx3,yx4⟩:=five_of Fx.out;have HB0:=hid (below_new w (.cells #[.int .i64 3,.string (bs []),.int .i64 l,.int .i64 c,.slice (some ⟨kb,ko,none⟩) 1 m] 27));go_enter Tryz.func23,Tryz.ntmps23
 go_wp2_with fail;refine (C0.out _ HB0.out).mono ?_;rintro e w1 ⟨rfl,hb1⟩;have HB1:=hid (Below.chain HB0.out hb1);have HR1:=hid ((hb1.block _ (by (try simp only [World.size_alloc]) <;> omega)).trans (heap_alloc_new w _));have hs1:=hb1.size
 try simp only [World.size_alloc] at hs1
 clear hb1 C0;obtain ⟨z0,z1,z2,z3,z4,-,-,-,-,-⟩:=row5 HR1.out;obtain ⟨yx0,yx1,yx2,yx3,yx4⟩:=five_of (Fx.out.keep (HB1.out.block kb hkb));have hkl1:kb<w1.heap.size:=by omega
 go_wp2_with fail;clear z0 z1 z2 z3 z4 yx0 yx1 yx2 yx3 yx4;go_ret
 first
 | exact ⟨rfl,HB1.out⟩
 | exact ⟨rfl,Below.chain HB1.out (below_new _ _)⟩
set_option maxHeartbeats 2000000 in
theorem mayS_3k  (l c:Int) (kx:Int) (tx:List UInt8) (lx cx:Int) (ksx:List NM) (ax:Option Addr) (mx:Nat) (a:Option Addr) (m:Nat) (w:World) (_hw:Laid w) (hh:HeldN AnyB w (.mk 3 [] l c [(NM.mk kx tx lx cx ksx ax mx)] a m)) (_ht:([]:List UInt8).length≤1000000) (h14:(kx == 14)=false) :
  Calls Tryz.prog 23 #[nodeV 3 [] l c (.slice a 1 m)] w fun e w'=>e=.returned (.bool (mS (NM.mk 3 [] l c [(NM.mk kx tx lx cx ksx ax mx)] a m).tr))∧Below w.heap.size w w':=by
 have hnot:∀ (x:Bool) (w:World),(Op.unary .not (.bool x)).run Tryz.prog w=.ok (.bool (!x)) w:=fun _ _=>rfl
 obtain ⟨la,lc,hv,hlc,hlm,hx⟩:=hh.kidsAt.nodes;obtain ⟨kb,ko,hla,hkb,hcl⟩:=hx 0 (by simp);obtain ⟨rfl,rfl⟩:a=la∧m=lc:=by simpa using hv
 subst hla;have hm1:1≤m:=by simpa using hlc
 unfold maxLen at hlm;have Fx:=hid (show FiveN w kb ko (NM.mk kx tx lx cx ksx ax mx) from hcl 0 (by simp));have ggx:=hid (show HeldN AnyB w (NM.mk kx tx lx cx ksx ax mx) from hh.kidsAt.get 0 (by simp));clear hx hcl hv hlc;have HO:=hid (show mS (NM.mk 3 [] l c [(NM.mk kx tx lx cx ksx ax mx)] (some ⟨kb,ko,none⟩) m).tr=false by
  rw [ntr_mk,mS_3,ntrs_cons,ntrs_nil];show (true && (Tr.kd (NM.mk kx tx lx cx ksx ax mx).tr == 14 && mE (NM.mk kx tx lx cx ksx ax mx).tr))=_;rw [ntr_mk,kd_mk,h14];rfl
 )
 rw [HO.out];clear HO;clear hh _hw ggx;obtain ⟨yx0,yx1,yx2,yx3,yx4⟩:=five_of Fx.out;have HB0:=hid (below_new w (.cells #[.int .i64 3,.string (bs []),.int .i64 l,.int .i64 c,.slice (some ⟨kb,ko,none⟩) 1 m] 27));go_enter Tryz.func23,Tryz.ntmps23
 go_wp2_with fail;go_ret
 first
 | exact ⟨rfl,HB0.out⟩
 | exact ⟨rfl,Below.chain HB0.out (below_new _ _)⟩
set_option maxHeartbeats 2000000 in
theorem mayS_30  (l c:Int) (ks:List NM) (a:Option Addr) (m:Nat) (w:World) (_hw:Laid w) (hh:HeldN AnyB w (.mk 3 [] l c ks a m)) (_ht:([]:List UInt8).length≤1000000) (hn:ks.length≠1) :
  Calls Tryz.prog 23 #[nodeV 3 [] l c (.slice a ks.length m)] w fun e w'=>e=.returned (.bool (mS (NM.mk 3 [] l c ks a m).tr))∧Below w.heap.size w w':=by
 have hnot:∀ (x:Bool) (w:World),(Op.unary .not (.bool x)).run Tryz.prog w=.ok (.bool (!x)) w:=fun _ _=>rfl
 have HO:=hid (show mS (NM.mk 3 [] l c ks a m).tr=false by
  rw [ntr_mk,mS_3]
  match ks,hn with
  | [],_=>simp [ntrs_nil,doM]
  | [_],h=>simp at h
  | _::_::_,_=>simp [ntrs_cons,doM]
 )
 rw [HO.out];clear HO;clear hh _hw;have hn1:((ks.length:Int) == 1)=false:=eqF (by omega);have HB0:=hid (below_new w (.cells #[.int .i64 3,.string (bs []),.int .i64 l,.int .i64 c,.slice a ks.length m] 27));go_enter Tryz.func23,Tryz.ntmps23
 go_wp2_with fail;go_ret
 first
 | exact ⟨rfl,HB0.out⟩
 | exact ⟨rfl,Below.chain HB0.out (below_new _ _)⟩
set_option maxHeartbeats 2000000 in
theorem mayS_3t (tc:UInt8) (tr:List UInt8) (l c:Int) (ks:List NM) (a:Option Addr) (m:Nat) (w:World) (_hw:Laid w) (_hh:HeldN AnyB w (.mk 3 (tc::tr) l c ks a m)) (_ht:((tc::tr):List UInt8).length≤1000000) :
  Calls Tryz.prog 23 #[nodeV 3 (tc::tr) l c (.slice a ks.length m)] w fun e w'=>e=.returned (.bool (mS (NM.mk 3 (tc::tr) l c ks a m).tr))∧Below w.heap.size w w':=by
 have hnot:∀ (x:Bool) (w:World),(Op.unary .not (.bool x)).run Tryz.prog w=.ok (.bool (!x)) w:=fun _ _=>rfl
 have HO:=hid (show mS (NM.mk 3 (tc::tr) l c ks a m).tr=false by
  rw [ntr_mk,mS_3];rfl
 )
 rw [HO.out];clear HO;clear _hh _hw;have q:((tc::tr) == ([]:List UInt8))=false:=rfl;have HB0:=hid (below_new w (.cells #[.int .i64 3,.string (bs (tc::tr)),.int .i64 l,.int .i64 c,.slice a ks.length m] 27));go_enter Tryz.func23,Tryz.ntmps23
 go_wp2_with fail;go_ret
 first
 | exact ⟨rfl,HB0.out⟩
 | exact ⟨rfl,Below.chain HB0.out (below_new _ _)⟩
set_option maxHeartbeats 2000000 in
theorem mayS_4 (t:List UInt8) (l c:Int) (kx:Int) (tx:List UInt8) (lx cx:Int) (ksx:List NM) (ax:Option Addr) (mx:Nat) (ky:Int) (ty:List UInt8) (ly cy:Int) (ksy:List NM) (ay:Option Addr) (my:Nat) (a:Option Addr) (m:Nat) (w:World) (hw:Laid w) (hh:HeldN AnyB w (.mk 4 t l c [(NM.mk kx tx lx cx ksx ax mx),(NM.mk ky ty ly cy ksy ay my)] a m)) (ht:(t:List UInt8).length≤1000000) (IHx:Says 38 mE (NM.mk kx tx lx cx ksx ax mx)) (IHy:Says 39 mB (NM.mk ky ty ly cy ksy ay my)) :
  Calls Tryz.prog 23 #[nodeV 4 t l c (.slice a 2 m)] w fun e w'=>e=.returned (.bool (mS (NM.mk 4 t l c [(NM.mk kx tx lx cx ksx ax mx),(NM.mk ky ty ly cy ksy ay my)] a m).tr))∧Below w.heap.size w w':=by
 have hnot:∀ (x:Bool) (w:World),(Op.unary .not (.bool x)).run Tryz.prog w=.ok (.bool (!x)) w:=fun _ _=>rfl
 obtain ⟨la,lc,hv,hlc,hlm,hx⟩:=hh.kidsAt.nodes;obtain ⟨kb,ko,hla,hkb,hcl⟩:=hx 0 (by simp);obtain ⟨rfl,rfl⟩:a=la∧m=lc:=by simpa using hv
 subst hla;have hm1:2≤m:=by simpa using hlc
 unfold maxLen at hlm;have Fx:=hid (show FiveN w kb ko (NM.mk kx tx lx cx ksx ax mx) from hcl 0 (by simp));have ggx:=hid (show HeldN AnyB w (NM.mk kx tx lx cx ksx ax mx) from hh.kidsAt.get 0 (by simp));have Fy:=hid (show FiveN w kb (ko+5) (NM.mk ky ty ly cy ksy ay my) from hcl 1 (by simp));have ggy:=hid (show HeldN AnyB w (NM.mk ky ty ly cy ksy ay my) from hh.kidsAt.get 1 (by simp));clear hx hcl hv hlc;have HO:=hid (show mS (NM.mk 4 t l c [(NM.mk kx tx lx cx ksx ax mx),(NM.mk ky ty ly cy ksy ay my)] (some ⟨kb,ko,none⟩) m).tr=(nameS t && (mE (NM.mk kx tx lx cx ksx ax mx).tr && mB (NM.mk ky ty ly cy ksy ay my).tr)) by
  rw [ntr_mk,mS_4,ntrs_cons,ntrs_cons,ntrs_nil];rfl
 )
 rw [HO.out];clear HO;have C0:=hid (fun W (hW:Below w.heap.size w W)=>isName_any t (by omega) W (hw.range.below hW));have C1:=hid (fun W (hW:Below w.heap.size w W)=>(show Calls Tryz.prog 38 #[nodeV kx tx lx cx (.slice ax ksx.length mx)] W _ from IHx W (hw.below hW) (ggx.out.below hW)));have C2:=hid (fun W (hW:Below w.heap.size w W)=>(show Calls Tryz.prog 39 #[nodeV ky ty ly cy (.slice ay ksy.length my)] W _ from IHy W (hw.below hW) (ggy.out.below hW)));generalize nameS t=b0 at *;generalize mE (NM.mk kx tx lx cx ksx ax mx).tr=b1 at *;generalize mB (NM.mk ky ty ly cy ksy ay my).tr=b2 at *;clear hh hw IHx ggx IHy ggy;obtain ⟨yx0,yx1,yx2,yx3,yx4⟩:=five_of Fx.out;obtain ⟨yy0,yy1,yy2,yy3,yy4⟩:=five_of Fy.out;have HB0:=hid (below_new w (.cells #[.int .i64 4,.string (bs t),.int .i64 l,.int .i64 c,.slice (some ⟨kb,ko,none⟩) 2 m] 27));go_enter Tryz.func23,Tryz.ntmps23
 go_wp2_with fail;refine (C0.out _ HB0.out).mono ?_;rintro e w1 ⟨rfl,hb1⟩;have HB1:=hid (Below.chain HB0.out hb1);have HR1:=hid ((hb1.block _ (by (try simp only [World.size_alloc]) <;> omega)).trans (heap_alloc_new w _));have hs1:=hb1.size
 try simp only [World.size_alloc] at hs1
 clear hb1 C0;obtain ⟨z0,z1,z2,z3,z4,-,-,-,-,-⟩:=row5 HR1.out;obtain ⟨yx0,yx1,yx2,yx3,yx4⟩:=five_of (Fx.out.keep (HB1.out.block kb hkb));obtain ⟨yy0,yy1,yy2,yy3,yy4⟩:=five_of (Fy.out.keep (HB1.out.block kb hkb));have hkl1:kb<w1.heap.size:=by omega
 cases b0 with
 | false =>
   go_wp2_with fail;clear z0 z1 z2 z3 z4 yx0 yx1 yx2 yx3 yx4 yy0 yy1 yy2 yy3 yy4;go_ret
   first
   | exact ⟨rfl,HB1.out⟩
   | exact ⟨rfl,Below.chain HB1.out (below_new _ _)⟩
 | true =>
   go_wp2_with fail;clear z0 z1 z2 z3 z4 yx0 yx1 yx2 yx3 yx4 yy0 yy1 yy2 yy3 yy4;refine (C1.out _ HB1.out).mono ?_;rintro e w2 ⟨rfl,hb2⟩;have HB2:=hid (Below.chain HB1.out hb2);have HR2:=hid ((hb2.block _ (by (try simp only [World.size_alloc]) <;> omega)).trans HR1.out);have hs2:=hb2.size
   try simp only [World.size_alloc] at hs2
   clear hb2 C1;obtain ⟨z0,z1,z2,z3,z4,-,-,-,-,-⟩:=row5 HR2.out;obtain ⟨yx0,yx1,yx2,yx3,yx4⟩:=five_of (Fx.out.keep (HB2.out.block kb hkb));obtain ⟨yy0,yy1,yy2,yy3,yy4⟩:=five_of (Fy.out.keep (HB2.out.block kb hkb));have hkl2:kb<w2.heap.size:=by omega
   cases b1 with
   | false =>
     go_wp2_with fail;clear z0 z1 z2 z3 z4 yx0 yx1 yx2 yx3 yx4 yy0 yy1 yy2 yy3 yy4;go_ret
     first
     | exact ⟨rfl,HB2.out⟩
     | exact ⟨rfl,Below.chain HB2.out (below_new _ _)⟩
   | true =>
     go_wp2_with fail;clear z0 z1 z2 z3 z4 yx0 yx1 yx2 yx3 yx4 yy0 yy1 yy2 yy3 yy4;refine (C2.out _ HB2.out).mono ?_;rintro e w3 ⟨rfl,hb3⟩;have HB3:=hid (Below.chain HB2.out hb3);have HR3:=hid ((hb3.block _ (by (try simp only [World.size_alloc]) <;> omega)).trans HR2.out);have hs3:=hb3.size
     try simp only [World.size_alloc] at hs3
     clear hb3 C2;obtain ⟨z0,z1,z2,z3,z4,-,-,-,-,-⟩:=row5 HR3.out;obtain ⟨yx0,yx1,yx2,yx3,yx4⟩:=five_of (Fx.out.keep (HB3.out.block kb hkb));obtain ⟨yy0,yy1,yy2,yy3,yy4⟩:=five_of (Fy.out.keep (HB3.out.block kb hkb));have hkl3:kb<w3.heap.size:=by omega
     go_wp2_with fail;clear z0 z1 z2 z3 z4 yx0 yx1 yx2 yx3 yx4 yy0 yy1 yy2 yy3 yy4;go_ret
     first
     | exact ⟨rfl,HB3.out⟩
     | exact ⟨rfl,Below.chain HB3.out (below_new _ _)⟩
set_option maxHeartbeats 2000000 in
theorem mayS_40 (t:List UInt8) (l c:Int) (ks:List NM) (a:Option Addr) (m:Nat) (w:World) (hw:Laid w) (hh:HeldN AnyB w (.mk 4 t l c ks a m)) (ht:(t:List UInt8).length≤1000000) (hn:ks.length≠2) :
  Calls Tryz.prog 23 #[nodeV 4 t l c (.slice a ks.length m)] w fun e w'=>e=.returned (.bool (mS (NM.mk 4 t l c ks a m).tr))∧Below w.heap.size w w':=by
 have hnot:∀ (x:Bool) (w:World),(Op.unary .not (.bool x)).run Tryz.prog w=.ok (.bool (!x)) w:=fun _ _=>rfl
 have HO:=hid (show mS (NM.mk 4 t l c ks a m).tr=(nameS t && false) by
  rw [ntr_mk,mS_4]
  match ks,hn with
  | [],_=>simp [ntrs_nil,forM]
  | [_],_=>simp [ntrs_cons,ntrs_nil,forM]
  | [_,_],h=>simp at h
  | _::_::_::_,_=>simp [ntrs_cons,forM]
 )
 rw [HO.out];clear HO;have C0:=hid (fun W (hW:Below w.heap.size w W)=>isName_any t (by omega) W (hw.range.below hW));generalize nameS t=b0 at *;clear hh hw;have hn1:((ks.length:Int) == 2)=false:=eqF (by omega);have HB0:=hid (below_new w (.cells #[.int .i64 4,.string (bs t),.int .i64 l,.int .i64 c,.slice a ks.length m] 27));go_enter Tryz.func23,Tryz.ntmps23
 go_wp2_with fail;refine (C0.out _ HB0.out).mono ?_;rintro e w1 ⟨rfl,hb1⟩;have HB1:=hid (Below.chain HB0.out hb1);have HR1:=hid ((hb1.block _ (by (try simp only [World.size_alloc]) <;> omega)).trans (heap_alloc_new w _));have hs1:=hb1.size
 try simp only [World.size_alloc] at hs1
 clear hb1 C0;obtain ⟨z0,z1,z2,z3,z4,-,-,-,-,-⟩:=row5 HR1.out;cases b0 with
 | false =>
   go_wp2_with fail;clear z0 z1 z2 z3 z4;go_ret
   first
   | exact ⟨rfl,HB1.out⟩
   | exact ⟨rfl,Below.chain HB1.out (below_new _ _)⟩
 | true =>
   go_wp2_with fail;clear z0 z1 z2 z3 z4;go_ret
   first
   | exact ⟨rfl,HB1.out⟩
   | exact ⟨rfl,Below.chain HB1.out (below_new _ _)⟩
set_option maxHeartbeats 2000000 in
theorem mayS_52  (l c:Int) (kx:Int) (tx:List UInt8) (lx cx:Int) (ksx:List NM) (ax:Option Addr) (mx:Nat) (ky:Int) (ty:List UInt8) (ly cy:Int) (ksy:List NM) (ay:Option Addr) (my:Nat) (a:Option Addr) (m:Nat) (w:World) (hw:Laid w) (hh:HeldN AnyB w (.mk 5 [] l c [(NM.mk kx tx lx cx ksx ax mx),(NM.mk ky ty ly cy ksy ay my)] a m)) (_ht:([]:List UInt8).length≤1000000) (IHx:Says 38 mE (NM.mk kx tx lx cx ksx ax mx)) (IHy:Says 39 mB (NM.mk ky ty ly cy ksy ay my)) :
  Calls Tryz.prog 23 #[nodeV 5 [] l c (.slice a 2 m)] w fun e w'=>e=.returned (.bool (mS (NM.mk 5 [] l c [(NM.mk kx tx lx cx ksx ax mx),(NM.mk ky ty ly cy ksy ay my)] a m).tr))∧Below w.heap.size w w':=by
 have hnot:∀ (x:Bool) (w:World),(Op.unary .not (.bool x)).run Tryz.prog w=.ok (.bool (!x)) w:=fun _ _=>rfl
 obtain ⟨la,lc,hv,hlc,hlm,hx⟩:=hh.kidsAt.nodes;obtain ⟨kb,ko,hla,hkb,hcl⟩:=hx 0 (by simp);obtain ⟨rfl,rfl⟩:a=la∧m=lc:=by simpa using hv
 subst hla;have hm1:2≤m:=by simpa using hlc
 unfold maxLen at hlm;have Fx:=hid (show FiveN w kb ko (NM.mk kx tx lx cx ksx ax mx) from hcl 0 (by simp));have ggx:=hid (show HeldN AnyB w (NM.mk kx tx lx cx ksx ax mx) from hh.kidsAt.get 0 (by simp));have Fy:=hid (show FiveN w kb (ko+5) (NM.mk ky ty ly cy ksy ay my) from hcl 1 (by simp));have ggy:=hid (show HeldN AnyB w (NM.mk ky ty ly cy ksy ay my) from hh.kidsAt.get 1 (by simp));clear hx hcl hv hlc;have HT0:=hid (show KidsAt w (.slice (some ⟨kb,ko+5,none⟩) 1 (m - 1)) [(NM.mk ky ty ly cy ksy ay my)] from hh.kidsAt.tail (x:=(NM.mk kx tx lx cx ksx ax mx)) (ks:=[(NM.mk ky ty ly cy ksy ay my)]) _ (fun _=>rfl) (fun h=>by cases h));have HO:=hid (show mS (NM.mk 5 [] l c [(NM.mk kx tx lx cx ksx ax mx),(NM.mk ky ty ly cy ksy ay my)] (some ⟨kb,ko,none⟩) m).tr=(mE (NM.mk kx tx lx cx ksx ax mx).tr && ([(NM.mk ky ty ly cy ksy ay my)]:List NM).all (fun x=>mB x.tr)) by
  rw [ntr_mk,mS_5,ntrs_cons,ntrs_cons,ntrs_nil];unfold ifM;simp only [List.isEmpty_nil,Bool.true_and,List.all_cons,List.all_nil,Bool.and_true]
 )
 rw [HO.out];clear HO;have C0:=hid (fun W (hW:Below w.heap.size w W)=>(show Calls Tryz.prog 38 #[nodeV kx tx lx cx (.slice ax ksx.length mx)] W _ from IHx W (hw.below hW) (ggx.out.below hW)));have C1:=hid (fun W (hW:Below w.heap.size w W)=>all_mayBlock (fun x=>mB x.tr) (.slice (some ⟨kb,ko+5,none⟩) 1 (m - 1)) ([(NM.mk ky ty ly cy ksy ay my)]:List NM) W (HT0.out.below hW) (by simp) (fun j hj W2 hW2=>by
   match j,hj with
   | 0,_=>exact IHy W2 ((hw.below hW).below hW2) ((ggy.out.below hW).below hW2)))
 generalize mE (NM.mk kx tx lx cx ksx ax mx).tr=b0 at *;generalize ([(NM.mk ky ty ly cy ksy ay my)]:List NM).all (fun x=>mB x.tr)=b1 at *;clear hh hw IHx ggx IHy ggy HT0;obtain ⟨yx0,yx1,yx2,yx3,yx4⟩:=five_of Fx.out;obtain ⟨yy0,yy1,yy2,yy3,yy4⟩:=five_of Fy.out;have HB0:=hid (below_new w (.cells #[.int .i64 5,.string (bs []),.int .i64 l,.int .i64 c,.slice (some ⟨kb,ko,none⟩) 2 m] 27));go_enter Tryz.func23,Tryz.ntmps23
 go_wp2_with fail;refine (C0.out _ HB0.out).mono ?_;rintro e w1 ⟨rfl,hb1⟩;have HB1:=hid (Below.chain HB0.out hb1);have HR1:=hid ((hb1.block _ (by (try simp only [World.size_alloc]) <;> omega)).trans (heap_alloc_new w _));have hs1:=hb1.size
 try simp only [World.size_alloc] at hs1
 clear hb1 C0;obtain ⟨z0,z1,z2,z3,z4,-,-,-,-,-⟩:=row5 HR1.out;obtain ⟨yx0,yx1,yx2,yx3,yx4⟩:=five_of (Fx.out.keep (HB1.out.block kb hkb));obtain ⟨yy0,yy1,yy2,yy3,yy4⟩:=five_of (Fy.out.keep (HB1.out.block kb hkb));have hkl1:kb<w1.heap.size:=by omega
 cases b0 with
 | false =>
   go_wp2_with fail;clear z0 z1 z2 z3 z4 yx0 yx1 yx2 yx3 yx4 yy0 yy1 yy2 yy3 yy4;go_ret
   first
   | exact ⟨rfl,HB1.out⟩
   | exact ⟨rfl,Below.chain HB1.out (below_new _ _)⟩
 | true =>
   go_wp2_with fail;clear z0 z1 z2 z3 z4 yx0 yx1 yx2 yx3 yx4 yy0 yy1 yy2 yy3 yy4;refine (C1.out _ HB1.out).mono ?_;rintro e w2 ⟨rfl,hb2⟩;have HB2:=hid (Below.chain HB1.out hb2);have HR2:=hid ((hb2.block _ (by (try simp only [World.size_alloc]) <;> omega)).trans HR1.out);have hs2:=hb2.size
   try simp only [World.size_alloc] at hs2
   clear hb2 C1;obtain ⟨z0,z1,z2,z3,z4,-,-,-,-,-⟩:=row5 HR2.out;obtain ⟨yx0,yx1,yx2,yx3,yx4⟩:=five_of (Fx.out.keep (HB2.out.block kb hkb));obtain ⟨yy0,yy1,yy2,yy3,yy4⟩:=five_of (Fy.out.keep (HB2.out.block kb hkb));have hkl2:kb<w2.heap.size:=by omega
   go_wp2_with fail;clear z0 z1 z2 z3 z4 yx0 yx1 yx2 yx3 yx4 yy0 yy1 yy2 yy3 yy4;go_ret
   first
   | exact ⟨rfl,HB2.out⟩
   | exact ⟨rfl,Below.chain HB2.out (below_new _ _)⟩
set_option maxHeartbeats 2000000 in
theorem mayS_53  (l c:Int) (kx:Int) (tx:List UInt8) (lx cx:Int) (ksx:List NM) (ax:Option Addr) (mx:Nat) (ky:Int) (ty:List UInt8) (ly cy:Int) (ksy:List NM) (ay:Option Addr) (my:Nat) (kz:Int) (tz:List UInt8) (lz cz:Int) (ksz:List NM) (az:Option Addr) (mz:Nat) (a:Option Addr) (m:Nat) (w:World) (hw:Laid w) (hh:HeldN AnyB w (.mk 5 [] l c [(NM.mk kx tx lx cx ksx ax mx),(NM.mk ky ty ly cy ksy ay my),(NM.mk kz tz lz cz ksz az mz)] a m)) (_ht:([]:List UInt8).length≤1000000) (IHx:Says 38 mE (NM.mk kx tx lx cx ksx ax mx)) (IHy:Says 39 mB (NM.mk ky ty ly cy ksy ay my)) (IHz:Says 39 mB (NM.mk kz tz lz cz ksz az mz)) :
  Calls Tryz.prog 23 #[nodeV 5 [] l c (.slice a 3 m)] w fun e w'=>e=.returned (.bool (mS (NM.mk 5 [] l c [(NM.mk kx tx lx cx ksx ax mx),(NM.mk ky ty ly cy ksy ay my),(NM.mk kz tz lz cz ksz az mz)] a m).tr))∧Below w.heap.size w w':=by
 have hnot:∀ (x:Bool) (w:World),(Op.unary .not (.bool x)).run Tryz.prog w=.ok (.bool (!x)) w:=fun _ _=>rfl
 obtain ⟨la,lc,hv,hlc,hlm,hx⟩:=hh.kidsAt.nodes;obtain ⟨kb,ko,hla,hkb,hcl⟩:=hx 0 (by simp);obtain ⟨rfl,rfl⟩:a=la∧m=lc:=by simpa using hv
 subst hla;have hm1:3≤m:=by simpa using hlc
 unfold maxLen at hlm;have Fx:=hid (show FiveN w kb ko (NM.mk kx tx lx cx ksx ax mx) from hcl 0 (by simp));have ggx:=hid (show HeldN AnyB w (NM.mk kx tx lx cx ksx ax mx) from hh.kidsAt.get 0 (by simp));have Fy:=hid (show FiveN w kb (ko+5) (NM.mk ky ty ly cy ksy ay my) from hcl 1 (by simp));have ggy:=hid (show HeldN AnyB w (NM.mk ky ty ly cy ksy ay my) from hh.kidsAt.get 1 (by simp));have Fz:=hid (show FiveN w kb (ko+10) (NM.mk kz tz lz cz ksz az mz) from hcl 2 (by simp));have ggz:=hid (show HeldN AnyB w (NM.mk kz tz lz cz ksz az mz) from hh.kidsAt.get 2 (by simp));clear hx hcl hv hlc;have HT0:=hid (show KidsAt w (.slice (some ⟨kb,ko+5,none⟩) 2 (m - 1)) [(NM.mk ky ty ly cy ksy ay my),(NM.mk kz tz lz cz ksz az mz)] from hh.kidsAt.tail (x:=(NM.mk kx tx lx cx ksx ax mx)) (ks:=[(NM.mk ky ty ly cy ksy ay my),(NM.mk kz tz lz cz ksz az mz)]) _ (fun _=>rfl) (fun h=>by cases h));have HO:=hid (show mS (NM.mk 5 [] l c [(NM.mk kx tx lx cx ksx ax mx),(NM.mk ky ty ly cy ksy ay my),(NM.mk kz tz lz cz ksz az mz)] (some ⟨kb,ko,none⟩) m).tr=(mE (NM.mk kx tx lx cx ksx ax mx).tr && ([(NM.mk ky ty ly cy ksy ay my),(NM.mk kz tz lz cz ksz az mz)]:List NM).all (fun x=>mB x.tr)) by
  rw [ntr_mk,mS_5,ntrs_cons,ntrs_cons,ntrs_cons,ntrs_nil];unfold ifM;simp only [List.isEmpty_nil,Bool.true_and,List.all_cons,List.all_nil,Bool.and_true,Bool.and_assoc]
 )
 rw [HO.out];clear HO;have C0:=hid (fun W (hW:Below w.heap.size w W)=>(show Calls Tryz.prog 38 #[nodeV kx tx lx cx (.slice ax ksx.length mx)] W _ from IHx W (hw.below hW) (ggx.out.below hW)));have C1:=hid (fun W (hW:Below w.heap.size w W)=>all_mayBlock (fun x=>mB x.tr) (.slice (some ⟨kb,ko+5,none⟩) 2 (m - 1)) ([(NM.mk ky ty ly cy ksy ay my),(NM.mk kz tz lz cz ksz az mz)]:List NM) W (HT0.out.below hW) (by simp) (fun j hj W2 hW2=>by
   match j,hj with
   | 0,_=>exact IHy W2 ((hw.below hW).below hW2) ((ggy.out.below hW).below hW2)
   | 1,_=>exact IHz W2 ((hw.below hW).below hW2) ((ggz.out.below hW).below hW2)))
 generalize mE (NM.mk kx tx lx cx ksx ax mx).tr=b0 at *;generalize ([(NM.mk ky ty ly cy ksy ay my),(NM.mk kz tz lz cz ksz az mz)]:List NM).all (fun x=>mB x.tr)=b1 at *;clear hh hw IHx ggx IHy ggy IHz ggz HT0;obtain ⟨yx0,yx1,yx2,yx3,yx4⟩:=five_of Fx.out;obtain ⟨yy0,yy1,yy2,yy3,yy4⟩:=five_of Fy.out;obtain ⟨yz0,yz1,yz2,yz3,yz4⟩:=five_of Fz.out;have HB0:=hid (below_new w (.cells #[.int .i64 5,.string (bs []),.int .i64 l,.int .i64 c,.slice (some ⟨kb,ko,none⟩) 3 m] 27));go_enter Tryz.func23,Tryz.ntmps23
 go_wp2_with fail;refine (C0.out _ HB0.out).mono ?_;rintro e w1 ⟨rfl,hb1⟩;have HB1:=hid (Below.chain HB0.out hb1);have HR1:=hid ((hb1.block _ (by (try simp only [World.size_alloc]) <;> omega)).trans (heap_alloc_new w _));have hs1:=hb1.size
 try simp only [World.size_alloc] at hs1
 clear hb1 C0;obtain ⟨z0,z1,z2,z3,z4,-,-,-,-,-⟩:=row5 HR1.out;obtain ⟨yx0,yx1,yx2,yx3,yx4⟩:=five_of (Fx.out.keep (HB1.out.block kb hkb));obtain ⟨yy0,yy1,yy2,yy3,yy4⟩:=five_of (Fy.out.keep (HB1.out.block kb hkb));obtain ⟨yz0,yz1,yz2,yz3,yz4⟩:=five_of (Fz.out.keep (HB1.out.block kb hkb));have hkl1:kb<w1.heap.size:=by omega
 cases b0 with
 | false =>
   go_wp2_with fail;clear z0 z1 z2 z3 z4 yx0 yx1 yx2 yx3 yx4 yy0 yy1 yy2 yy3 yy4 yz0 yz1 yz2 yz3 yz4;go_ret
   first
   | exact ⟨rfl,HB1.out⟩
   | exact ⟨rfl,Below.chain HB1.out (below_new _ _)⟩
 | true =>
   go_wp2_with fail;clear z0 z1 z2 z3 z4 yx0 yx1 yx2 yx3 yx4 yy0 yy1 yy2 yy3 yy4 yz0 yz1 yz2 yz3 yz4;refine (C1.out _ HB1.out).mono ?_;rintro e w2 ⟨rfl,hb2⟩;have HB2:=hid (Below.chain HB1.out hb2);have HR2:=hid ((hb2.block _ (by (try simp only [World.size_alloc]) <;> omega)).trans HR1.out);have hs2:=hb2.size
   try simp only [World.size_alloc] at hs2
   clear hb2 C1;obtain ⟨z0,z1,z2,z3,z4,-,-,-,-,-⟩:=row5 HR2.out;obtain ⟨yx0,yx1,yx2,yx3,yx4⟩:=five_of (Fx.out.keep (HB2.out.block kb hkb));obtain ⟨yy0,yy1,yy2,yy3,yy4⟩:=five_of (Fy.out.keep (HB2.out.block kb hkb));obtain ⟨yz0,yz1,yz2,yz3,yz4⟩:=five_of (Fz.out.keep (HB2.out.block kb hkb));have hkl2:kb<w2.heap.size:=by omega
   go_wp2_with fail;clear z0 z1 z2 z3 z4 yx0 yx1 yx2 yx3 yx4 yy0 yy1 yy2 yy3 yy4 yz0 yz1 yz2 yz3 yz4;go_ret
   first
   | exact ⟨rfl,HB2.out⟩
   | exact ⟨rfl,Below.chain HB2.out (below_new _ _)⟩
set_option maxHeartbeats 2000000 in
theorem mayS_50  (l c:Int) (ks:List NM) (a:Option Addr) (m:Nat) (w:World) (_hw:Laid w) (hh:HeldN AnyB w (.mk 5 [] l c ks a m)) (_ht:([]:List UInt8).length≤1000000) (hn:ks.length≠2) (hn3:ks.length≠3) :
  Calls Tryz.prog 23 #[nodeV 5 [] l c (.slice a ks.length m)] w fun e w'=>e=.returned (.bool (mS (NM.mk 5 [] l c ks a m).tr))∧Below w.heap.size w w':=by
 have hnot:∀ (x:Bool) (w:World),(Op.unary .not (.bool x)).run Tryz.prog w=.ok (.bool (!x)) w:=fun _ _=>rfl
 have HO:=hid (show mS (NM.mk 5 [] l c ks a m).tr=false by
  rw [ntr_mk,mS_5]
  match ks,hn,hn3 with
  | [],_,_=>simp [ntrs_nil,ifM]
  | [_],_,_=>simp [ntrs_cons,ntrs_nil,ifM]
  | [_,_],h,_=>simp at h
  | [_,_,_],_,h=>simp at h
  | _::_::_::_::_,_,_=>simp [ntrs_cons,ifM]
 )
 rw [HO.out];clear HO;clear hh _hw;have hn1:((ks.length:Int) == 2)=false:=eqF (by omega);have hn2:((ks.length:Int) == 3)=false:=eqF (by omega);have HB0:=hid (below_new w (.cells #[.int .i64 5,.string (bs []),.int .i64 l,.int .i64 c,.slice a ks.length m] 27));go_enter Tryz.func23,Tryz.ntmps23
 go_wp2_with fail;go_ret
 first
 | exact ⟨rfl,HB0.out⟩
 | exact ⟨rfl,Below.chain HB0.out (below_new _ _)⟩
set_option maxHeartbeats 2000000 in
theorem mayS_5t (tc:UInt8) (tr:List UInt8) (l c:Int) (ks:List NM) (a:Option Addr) (m:Nat) (w:World) (_hw:Laid w) (_hh:HeldN AnyB w (.mk 5 (tc::tr) l c ks a m)) (_ht:((tc::tr):List UInt8).length≤1000000) :
  Calls Tryz.prog 23 #[nodeV 5 (tc::tr) l c (.slice a ks.length m)] w fun e w'=>e=.returned (.bool (mS (NM.mk 5 (tc::tr) l c ks a m).tr))∧Below w.heap.size w w':=by
 have hnot:∀ (x:Bool) (w:World),(Op.unary .not (.bool x)).run Tryz.prog w=.ok (.bool (!x)) w:=fun _ _=>rfl
 have HO:=hid (show mS (NM.mk 5 (tc::tr) l c ks a m).tr=false by
  rw [ntr_mk,mS_5];rfl
 )
 rw [HO.out];clear HO;clear _hh _hw;have q:((tc::tr) == ([]:List UInt8))=false:=rfl;have HB0:=hid (below_new w (.cells #[.int .i64 5,.string (bs (tc::tr)),.int .i64 l,.int .i64 c,.slice a ks.length m] 27));go_enter Tryz.func23,Tryz.ntmps23
 go_wp2_with fail;go_ret
 first
 | exact ⟨rfl,HB0.out⟩
 | exact ⟨rfl,Below.chain HB0.out (below_new _ _)⟩
set_option maxHeartbeats 2000000 in
theorem mayS_60 (t:List UInt8) (l c:Int) (ks:List NM) (a:Option Addr) (m:Nat) (w:World) (hw:Laid w) (_hh:HeldN AnyB w (.mk 6 t l c ks a m)) (ht:(t:List UInt8).length≤1000000) (hn:ks=[]) :
  Calls Tryz.prog 23 #[nodeV 6 t l c (.slice a ks.length m)] w fun e w'=>e=.returned (.bool (mS (NM.mk 6 t l c ks a m).tr))∧Below w.heap.size w w':=by
 have hnot:∀ (x:Bool) (w:World),(Op.unary .not (.bool x)).run Tryz.prog w=.ok (.bool (!x)) w:=fun _ _=>rfl
 have HO:=hid (show mS (NM.mk 6 t l c ks a m).tr=(nameS t && false) by
  rw [ntr_mk,mS_6,hn,ntrs_nil];rfl
 )
 rw [HO.out];clear HO;have C0:=hid (fun W (hW:Below w.heap.size w W)=>isName_any t (by omega) W (hw.range.below hW));generalize nameS t=b0 at *;clear _hh hw;have hn1:¬ ((1:Int)≤(ks.length:Int)):=by rw [hn];simp
 clear hn;have HB0:=hid (below_new w (.cells #[.int .i64 6,.string (bs t),.int .i64 l,.int .i64 c,.slice a ks.length m] 27));go_enter Tryz.func23,Tryz.ntmps23
 go_wp2_with fail;refine (C0.out _ HB0.out).mono ?_;rintro e w1 ⟨rfl,hb1⟩;have HB1:=hid (Below.chain HB0.out hb1);have HR1:=hid ((hb1.block _ (by (try simp only [World.size_alloc]) <;> omega)).trans (heap_alloc_new w _));have hs1:=hb1.size
 try simp only [World.size_alloc] at hs1
 clear hb1 C0;obtain ⟨z0,z1,z2,z3,z4,-,-,-,-,-⟩:=row5 HR1.out;cases b0 with
 | false =>
   go_wp2_with fail;clear z0 z1 z2 z3 z4;go_ret
   first
   | exact ⟨rfl,HB1.out⟩
   | exact ⟨rfl,Below.chain HB1.out (below_new _ _)⟩
 | true =>
   go_wp2_with fail;clear z0 z1 z2 z3 z4;go_ret
   first
   | exact ⟨rfl,HB1.out⟩
   | exact ⟨rfl,Below.chain HB1.out (below_new _ _)⟩
set_option maxHeartbeats 2000000 in
theorem mayS_no (k:Int) (t:List UInt8) (l c:Int) (ks:List NM) (a:Option Addr) (m:Nat) (w:World) (_hw:Laid w) (_hh:HeldN AnyB w (.mk k t l c ks a m)) (_ht:(t:List UInt8).length≤1000000) (h:isS k=false) :
  Calls Tryz.prog 23 #[nodeV k t l c (.slice a ks.length m)] w fun e w'=>e=.returned (.bool (mS (NM.mk k t l c ks a m).tr))∧Below w.heap.size w w':=by
 have hnot:∀ (x:Bool) (w:World),(Op.unary .not (.bool x)).run Tryz.prog w=.ok (.bool (!x)) w:=fun _ _=>rfl
 have HO:=hid (show mS (NM.mk k t l c ks a m).tr=false by
  rw [ntr_mk,mS_no _ _ h]
 )
 rw [HO.out];clear HO;clear _hh _hw;unfold isS at h;simp only [Bool.or_eq_false_iff] at h;obtain ⟨⟨⟨⟨h2,h3⟩,h4⟩,h5⟩,h6⟩:=h;have HB0:=hid (below_new w (.cells #[.int .i64 k,.string (bs t),.int .i64 l,.int .i64 c,.slice a ks.length m] 27));go_enter Tryz.func23,Tryz.ntmps23
 go_wp2_with fail;go_ret
 first
 | exact ⟨rfl,HB0.out⟩
 | exact ⟨rfl,Below.chain HB0.out (below_new _ _)⟩
set_option maxHeartbeats 2000000 in
theorem mayS_6 (t:List UInt8) (l c:Int) (ks:List NM) (a:Option Addr) (m:Nat) (w:World) (hw:Laid w) (hh:HeldN AnyB w (.mk 6 t l c ks a m)) (ht:(t:List UInt8).length≤1000000) (n:Nat) (kz:Int) (tz:List UInt8) (lz cz:Int) (ksz:List NM) (az:Option Addr) (mz:Nat) (hks:ks.length=n+1) (hkl:ks.length≤1000000) (hz:ks[n]=(NM.mk kz tz lz cz ksz az mz)) (IH:∀ j (hj:j<n),Says 40 mP ks[j]) (IHz:Says 39 mB (NM.mk kz tz lz cz ksz az mz)) :
  Calls Tryz.prog 23 #[nodeV 6 t l c (.slice a (n+1) m)] w fun e w'=>e=.returned (.bool (mS (NM.mk 6 t l c ks a m).tr))∧Below w.heap.size w w':=by
 have hnot:∀ (x:Bool) (w:World),(Op.unary .not (.bool x)).run Tryz.prog w=.ok (.bool (!x)) w:=fun _ _=>rfl
 obtain ⟨la,lc,hv,hlc,hlm,hx⟩:=hh.kidsAt.nodes;obtain ⟨kb,ko,hla,hkb,hcl⟩:=hx 0 (by omega);obtain ⟨rfl,rfl⟩:a=la∧m=lc:=by simpa using hv
 subst hla;rw [hks] at hlc;unfold maxLen at hlm;have Fz:=hid (show FiveN w kb (ko+n * 5) (NM.mk kz tz lz cz ksz az mz) from by have:=hcl n (by omega);rwa [hz] at this);have ggz:=hid (show HeldN AnyB w (NM.mk kz tz lz cz ksz az mz) from by have:=hh.kidsAt.get n (by omega);rwa [hz] at this);have HT0:=hid (show KidsAt w (.slice (some ⟨kb,ko,none⟩) n m) (ks.take n) from (hh.kidsAt).take n (by omega));clear hx hcl hv;have HO:=hid (show mS (NM.mk 6 t l c ks (some ⟨kb,ko,none⟩) m).tr=(nameS t && ((ks.take n).all (fun x=>mP x.tr) && mB (NM.mk kz tz lz cz ksz az mz).tr)) by
  rw [ntr_mk,mS_6];have hsp:ks=ks.take n++[(NM.mk kz tz lz cz ksz az mz)]:=by
   have h1:ks.take (n+1)=ks:=List.take_of_length_le (by omega);rw [List.take_succ_eq_append_getElem (by omega),hz] at h1;exact h1.symm
  have e:NM.trs ks=(ks.take n).map NM.tr++[(NM.mk kz tz lz cz ksz az mz).tr]:=by
   rw [ntrs_map];exact (congrArg (List.map NM.tr) hsp).trans (by rw [List.map_append];rfl)
  unfold ruleM;rw [e,List.getLast?_concat,List.dropLast_concat,List.all_map];rfl
 )
 rw [HO.out];clear HO;have C0:=hid (fun W (hW:Below w.heap.size w W)=>isName_any t (by omega) W (hw.range.below hW));have C1:=hid (fun W (hW:Below w.heap.size w W)=>all_mayParam (fun x=>mP x.tr) (.slice (some ⟨kb,ko,none⟩) n m) (ks.take n) W (HT0.out.below hW) (by rw [List.length_take];omega) (fun j hj W2 hW2=>(by
    have hj1:j<n:=by rw [List.length_take] at hj;omega
    rw [List.getElem_take];exact IH j hj1 W2 ((hw.below hW).below hW2) ((hh.kidsAt.get j (by omega)).below hW |>.below hW2))))
 have C2:=hid (fun W (hW:Below w.heap.size w W)=>(show Calls Tryz.prog 39 #[nodeV kz tz lz cz (.slice az ksz.length mz)] W _ from IHz W (hw.below hW) (ggz.out.below hW)));generalize nameS t=b0 at *;generalize (ks.take n).all (fun x=>mP x.tr)=b1 at *;generalize mB (NM.mk kz tz lz cz ksz az mz).tr=b2 at *;clear hh hw IH IHz HT0 ggz hz hks hkl;obtain ⟨yz0,yz1,yz2,yz3,yz4⟩:=five_of Fz.out;have HB0:=hid (below_new w (.cells #[.int .i64 6,.string (bs t),.int .i64 l,.int .i64 c,.slice (some ⟨kb,ko,none⟩) (n+1) m] 27));go_enter Tryz.func23,Tryz.ntmps23
 go_wp2_with fail;refine (C0.out _ HB0.out).mono ?_;rintro e w1 ⟨rfl,hb1⟩;have HB1:=hid (Below.chain HB0.out hb1);have HR1:=hid ((hb1.block _ (by (try simp only [World.size_alloc]) <;> omega)).trans (heap_alloc_new w _));have hs1:=hb1.size
 try simp only [World.size_alloc] at hs1
 clear hb1 C0;obtain ⟨z0,z1,z2,z3,z4,-,-,-,-,-⟩:=row5 HR1.out;obtain ⟨yz0,yz1,yz2,yz3,yz4⟩:=five_of (Fz.out.keep (HB1.out.block kb hkb));have hkl1:kb<w1.heap.size:=by omega
 cases b0 with
 | false =>
   go_wp2_with fail;clear z0 z1 z2 z3 z4 yz0 yz1 yz2 yz3 yz4;go_ret
   first
   | exact ⟨rfl,HB1.out⟩
   | exact ⟨rfl,Below.chain HB1.out (below_new _ _)⟩
 | true =>
   go_wp2_with fail;clear z0 z1 z2 z3 z4 yz0 yz1 yz2 yz3 yz4;refine (C1.out _ HB1.out).mono ?_;rintro e w2 ⟨rfl,hb2⟩;have HB2:=hid (Below.chain HB1.out hb2);have HR2:=hid ((hb2.block _ (by (try simp only [World.size_alloc]) <;> omega)).trans HR1.out);have hs2:=hb2.size
   try simp only [World.size_alloc] at hs2
   clear hb2 C1;obtain ⟨z0,z1,z2,z3,z4,-,-,-,-,-⟩:=row5 HR2.out;obtain ⟨yz0,yz1,yz2,yz3,yz4⟩:=five_of (Fz.out.keep (HB2.out.block kb hkb));have hkl2:kb<w2.heap.size:=by omega
   cases b1 with
   | false =>
     go_wp2_with fail;clear z0 z1 z2 z3 z4 yz0 yz1 yz2 yz3 yz4;go_ret
     first
     | exact ⟨rfl,HB2.out⟩
     | exact ⟨rfl,Below.chain HB2.out (below_new _ _)⟩
   | true =>
     go_wp2_with fail;clear z0 z1 z2 z3 z4 yz0 yz1 yz2 yz3 yz4;refine (C2.out _ HB2.out).mono ?_;rintro e w3 ⟨rfl,hb3⟩;have HB3:=hid (Below.chain HB2.out hb3);have HR3:=hid ((hb3.block _ (by (try simp only [World.size_alloc]) <;> omega)).trans HR2.out);have hs3:=hb3.size
     try simp only [World.size_alloc] at hs3
     clear hb3 C2;obtain ⟨z0,z1,z2,z3,z4,-,-,-,-,-⟩:=row5 HR3.out;obtain ⟨yz0,yz1,yz2,yz3,yz4⟩:=five_of (Fz.out.keep (HB3.out.block kb hkb));have hkl3:kb<w3.heap.size:=by omega
     go_wp2_with fail;clear z0 z1 z2 z3 z4 yz0 yz1 yz2 yz3 yz4;go_ret
     first
     | exact ⟨rfl,HB3.out⟩
     | exact ⟨rfl,Below.chain HB3.out (below_new _ _)⟩
end Go.Proofs.YtfgiihpopngbkaaGreatDoor
