/- Lemmas and walks that the statement needs: LexQuote, AllExpr, AllArg, AllStmt, MayE, MayA, RpArg. -/
import Derived.Test.YtfgiihpopngbkaaGreatDoorP06
namespace Go.Proofs.YtfgiihpopngbkaaGreatDoor
set_option maxRecDepth 100000
set_option maxHeartbeats 8000000
open Go.RowKit
open Nat renaming le_trans→nT
open Nat renaming le_refl→nRe
open Go.World renaming size_alloc→wSz
open _root_.Array renaming getElem?_eq_some_iff→aGe
open Go renaming cell_of_row→cRo,heap_alloc_new→hAn
theorem yN (s:List UInt8) (hs:s.length≤1000000000) (b:Nat) (w:World) (hu:uL w b) :
  Calls Tryz.prog 32 #[.pointer (some ⟨b,0,none⟩),.string (bs s)] w fun e w'=>e=.returned (.string (bs (s.flatMap bS)))∧Below b w w':=by
 obtain ⟨v,w1,hr,hsl,hw1,hb1⟩:=hu;obtain ⟨b1,o1,c1,rfl,_,_,h6⟩:=nU hsl;have hne:b1≠b:=by have:=h6.lt;omega
 have H6:=hid (h6.past hb1 hw1);have Hr:=hid hr;have aL:b<w.heap.size:=World.block_lt_of_cell? w _ hr.c0;clear hr h6 hsl hb1;have hmeth:∀ (n r:Nat) (W:World),(method (n+1) 161 (.pointer (some ⟨r,0,none⟩)) "Replace").run Tryz.prog W=.ok (229,.pointer (some ⟨r,0,none⟩)) W:=fun n r W=>by kernel_rfl
 have hmeth':=hmeth 290;go_enter Tryz.func32,Tryz.ntmps32
 go_wp2_with (first
  | (go_at_call 59;refine (zck b b1 o1 c1 _ _ Hr.out H6.out hne).mono ?_;rintro e w2 ⟨rfl,⟨r,hR,lo,hlo,hB⟩,hb2⟩;have q3:=hR.c3;have HB:=hid hB;clear hB)
  | (go_at_call 229;refine (z7 s hs lo r _ HB.out).mono ?_;rintro e w3 ⟨rfl,hb3⟩))
 go_ret;exact ⟨rfl,hb2.trans (hb3.mono (nT (Nat.le_of_lt aL) hb2.size))⟩
theorem zav (w:World):a9 (w.alloc (.cells #[.string ⟨#[34]⟩,.string ⟨#[92,34]⟩,.string ⟨#[92]⟩,.string ⟨#[92,92]⟩,.string ⟨#[10]⟩,.string ⟨#[92,110]⟩] 9)) 1 (.slice (some ⟨w.heap.size,0,none⟩) 6 6) 6 (cb xG) :=
 ⟨rfl,some ⟨w.heap.size,0,none⟩,6,rfl,nRe _,by decide,fun e=>(by cases e),fun _=>⟨w.heap.size,0,rfl,by simp,fun j u hj=>by
  have:=ml w #[.string ⟨#[34]⟩,.string ⟨#[92,34]⟩,.string ⟨#[92]⟩,.string ⟨#[92,92]⟩,.string ⟨#[10]⟩,.string ⟨#[92,110]⟩] 9 (0,0) j u hj;have hadd:(⟨w.heap.size,0,none⟩:Addr).add j=⟨w.heap.size,0+j,none⟩:=by unfold Addr.add;split <;> simp_all
  rwa [hadd] at this⟩⟩
theorem qg (s:List UInt8) (hs:s.length≤1000000000) (q:List UInt8) (hq:dR s=q) (w:World) :
  Calls Tryz.prog 17 #[.string (bs s)] w fun e w'=>e=.returned (.string (bs q))∧Below w.heap.size w w':=by
 have HQ:=hid hq;clear hq;go_enter Tryz.func17,Tryz.ntmps17
 go_wp2_with fail
 go_loop [6] (fun i=>∃ k:Nat,k≤s.length∧i=.int .i64 k∧Hid ((s.take k).any ft=false)) (fun i=>s.length - (intOf i).toNat)
 case atStart=>exact ⟨0,by omega,rfl,hid (by simp)⟩
 case round =>
  obtain ⟨k,hk,rfl,HA⟩:=hrel;by_cases aL:k<s.length
  ·have HS:Hid (ft s[k]=false→(s.take (k+1)).any ft=false):=hid (fun h=>by rw [iR s k aL,List.any_append,HA.out,Bool.false_or];simp [h]);by_cases c1:s[k].toNat<32
   ·have c1':(s[k].toNat:Int)<32:=by omega
    by_cases c2:s[k].toNat=10
    ·have q2:((s[k].toNat:Int) != 10)=false:=neF (by omega);have q3:((s[k].toNat:Int) == 127)=false:=eqF (by omega);have HN:=hid (HS.out (vz c2));clear c1 c2;go_wp2_with fail
     go_round
     case rel=>exact ⟨k+1,by omega,by go_num,HN⟩
     case measure=>simp [intOf];omega
    ·have q2:((s[k].toNat:Int) != 10)=true:=neT (by omega);have HE:Hid (q=[]):=hid (by rw [← HQ.out,ms aL (qV c2 (.inl c1))]);clear c1 c2;go_wp2_with fail;go_ret;exact ⟨by rw [HE.out];rfl,Below.refl _ _⟩
   ·have c1':¬ (s[k].toNat:Int)<32:=by omega
    by_cases c2:s[k].toNat=127
    ·have q3:((s[k].toNat:Int) == 127)=true:=eqT (by omega);have HE:Hid (q=[]):=hid (by rw [← HQ.out,ms aL (qV (by omega) (.inr c2))]);clear c1 c2;go_wp2_with fail;go_ret;exact ⟨by rw [HE.out];rfl,Below.refl _ _⟩
    ·have q3:((s[k].toNat:Int) == 127)=false:=eqF (by omega);have HN:=hid (HS.out (ro (fun h=>h.elim c1 c2)));clear c1 c2;go_wp2_with fail
     go_round
     case rel=>exact ⟨k+1,by omega,by go_num,HN⟩
     case measure=>simp [intOf];omega
  ·obtain rfl:k=s.length:=by omega
   have hno:=HA.out;rw [List.take_length] at hno;have HE:Hid (q=34::(s.flatMap bS++[34])):=hid (by rw [← HQ.out,t9 hno]);have hNl:(s.flatMap bS).length≤2 * s.length:=by have:=oc s s.length;rwa [mi] at this
   obtain ⟨t,ht⟩:∃ t,s.flatMap bS=t:=⟨_,rfl⟩;have hrep:=fun b w=>yN s hs b w
   rw [ht] at HE hNl hrep;clear hno HA ht;go_wp2_with (first
    | (go_at_call 31;refine (z6 _ _ (zav w)).mono ?_;rintro e w1 ⟨b,rfl,hun,hb0,hbl,hb1⟩)
    | (go_at_call 32;refine (hrep b _ hun).mono ?_;rintro e w2 ⟨rfl,hb2⟩))
   go_ret;refine ⟨by rw [HE.out];rfl,(((Below.refl w.heap.size w).alloc (nRe _) _).trans (hb1.mono (by simp))).trans (hb2.mono ?_)⟩;simpa using nT (Nat.le_succ _) (by simpa using hb0)
theorem sf (x:NM) (b:Bool) (bx:Nat) (w:World) (hb:w.heap[bx]? = some (.cells #[.func (.func 38) #[] #[]] 60 (0,0))) (h:∀ W,Below w.heap.size w W→Calls Tryz.prog 38 #[x.val] W fun e w'=>e=.returned (.bool b)∧Below W.heap.size W w') :
  Calls Tryz.prog 36 #[x.val,.pointer (some ⟨bx,0,none⟩)] w fun e w'=>e=.returned (.bool (!b))∧Below w.heap.size w w':=by
 cases x with
 | mk k t l c ks a m =>
 have q:w.cell? ⟨bx,0,none⟩=some (.func (.func 38) #[] #[]):=cRo w bx 0 _ _ _ hb;have bC:=nb;have H:=hid (h _ (ag w (.cells #[.int .i64 k,.string (bs t),.int .i64 l,.int .i64 c,.slice a ks.length m] 27)));have aL:bx<w.heap.size:=(aGe.1 hb).1;clear h hb;change Calls _ _ #[aB k t l c (.slice a ks.length m),_] _ _;change Hid (Calls _ _ #[aB k t l c (.slice a ks.length m)] _ _) at H;go_enter Tryz.func36,Tryz.ntmps36
 go_wp2_with fail;refine H.out.mono ?_;rintro e w1 ⟨rfl,hb1⟩;go_wp2_with fail;go_ret;exact ⟨rfl,zdy (ag w _) hb1⟩
theorem pu (p:NM→Bool) (v:Value) (ks:List NM) (bx:Nat) (w:World) (hl:cn w v ks) (aF:ks.length≤10000000) (hb:w.heap[bx]? = some (.cells #[.func (.func 38) #[] #[]] 60 (0,0)))
  (h:∀ j (hj:j<ks.length) W,Below w.heap.size w W→Calls Tryz.prog 38 #[ks[j].val] W fun e w'=>e=.returned (.bool (p ks[j]))∧Below W.heap.size W w') :
  Calls Tryz.prog 70 #[v,.func (.func 36) #[] #[.pointer (some ⟨bx,0,none⟩)]] w fun e w'=>(∃ r:Int,e=.returned (.int .i64 r)∧((ks.all p=true∧r=-1)∨(ks.all p=false∧∃ n:Nat,r=n)))∧Below w.heap.size w w':=by
 have HS:=hid (fun W (hW:Below w.heap.size w W)=>hl.below hW);have HC:=hid (fun j (hj:j<ks.length) W (hW:Below w.heap.size w W)=>sf ks[j] (p ks[j]) bx W ((hW.block bx (aGe.1 hb).1).trans hb) (fun W' hW'=>h j hj W' (zdy hW hW')));obtain ⟨la,lc,rfl,iI,hlm,-⟩:=hl.nodes;unfold maxLen at hlm;clear hl h hb;go_enter Tryz.func70,Tryz.ntmps70
 go_wp2_with fail;go_loopw [8] (fun i wr=>∃ j:Nat,j≤ks.length∧i=.int .i64 j∧Below w.heap.size w wr∧Hid ((ks.take j).all p=true)) (fun i _=>ks.length - (intOf i).toNat)
 case atStart=>exact ⟨0,by omega,rfl,Below.refl _ _,hid rfl⟩
 case round =>
  obtain ⟨j,hj,rfl,hbw,HA⟩:=hrel;have hsz:=hbw.size;by_cases aL:j<ks.length
  ·have hd:decide (j<ks.length)=true:=decide_eq_true aL;obtain ⟨la',lc',hv,-,-,hx⟩:=(HS.out _ hbw).nodes;obtain ⟨lb,lo,rfl,hlb,cw⟩:=hx j aL;obtain ⟨rfl,rfl⟩:la=some ⟨lb,lo,none⟩∧lc=lc':=by simpa using hv
   have hfc:=cw j aL;have HCj:=hid (HC.out j aL _ hbw);have HN:=hid (show (ks.take (j+1)).all p=((ks.take j).all p && p ks[j]) by rw [List.take_succ_eq_append_getElem aL,List.all_append];simp);have HF:=hid (fun hp:p ks[j]=false=>(show ks.all p=false by
    cases e:ks.all p with
    | false=>rfl
    | true=>rw [List.all_eq_true.1 e ks[j] (List.getElem_mem aL)] at hp;cases hp))
   generalize ks[j]=x at *;cases x with
   | mk k t l c kk a m =>
   generalize p (.mk k t l c kk a m)=pb at *;change Hid (Calls _ _ #[aB k t l c (.slice a kk.length m),_] _ _) at HCj;obtain ⟨c0,c1,c2,c3,c4⟩:=hfc;replace c0:wr.cell? ⟨lb,lo+j * 5,none⟩=some (.int .i64 k):=c0;replace c1:wr.cell? ⟨lb,lo+j * 5+1,none⟩=some (.string (bs t)):=c1;replace c2:wr.cell? ⟨lb,lo+j * 5+2,none⟩=some (.int .i64 l):=c2;replace c3:wr.cell? ⟨lb,lo+j * 5+3,none⟩=some (.int .i64 c):=c3;replace c4:wr.cell? ⟨lb,lo+j * 5+4,none⟩=some (.slice a kk.length m):=c4;clear cw hx hv;go_wp2_with fail;refine HCj.out.mono ?_;rintro e w1 ⟨rfl,hb1⟩;cases pb with
   | false =>
     go_wp2_with fail;go_ret;exact ⟨⟨_,rfl,.inr ⟨HF.out (by simp),j,rfl⟩⟩,zdy hbw hb1⟩
   | true =>
     go_wp2_with fail
     go_round
     case rel=>exact ⟨j+1,by omega,by go_num,zdy hbw hb1,hid (by rw [HN.out,HA.out];rfl)⟩
     case measure=>simp [intOf];omega
  ·have hd:decide (j<ks.length)=false:=decide_eq_false aL;have HT:=hid (show ks.all p=true by have:=HA.out;rwa [List.take_of_length_le (by omega)] at this);go_wp2_with fail;go_ret;exact ⟨⟨_,rfl,.inl ⟨HT.out,rfl⟩⟩,hbw⟩
theorem gu (p:NM→Bool) (v:Value) (ks:List NM) (w:World) (hl:cn w v ks) (aF:ks.length≤10000000)
  (h:∀ j (hj:j<ks.length) W,Below w.heap.size w W→Calls Tryz.prog 38 #[ks[j].val] W fun e w'=>e=.returned (.bool (p ks[j]))∧Below W.heap.size W w') :
  Calls Tryz.prog 22 #[v,.func (.func 38) #[] #[]] w fun e w'=>e=.returned (.bool (ks.all p))∧Below w.heap.size w w':=by
 have bC:=nb;have qo:=mf;have hb0:=ag w (.cells #[.func (.func 38) #[] #[]] 60);have HI:=hid (pu p v ks w.heap.size _ (hl.below hb0) aF (hAn w (.cells #[.func (.func 38) #[] #[]] 60)) (fun j hj W hW=>h j hj W (zdy hb0 hW)));obtain ⟨la,lc,rfl,-,-,-⟩:=hl.nodes;clear hl h hb0;go_enter Tryz.func22,Tryz.ntmps22
 go_wp2_with fail;go_enter Tryz.func35,Tryz.ntmps35
 go_wp2_with fail;refine HI.out.mono ?_;rintro e w1 ⟨⟨r,rfl,hr⟩,hb1⟩;rcases hr with ⟨ha,rfl⟩ | ⟨ha,n,rfl⟩
 ·have HA:=hid ha;clear ha;go_wp2_with fail;go_ret;exact ⟨by rw [HA.out];rfl,zdy (ag w _) hb1⟩
 ·have HA:=hid ha;clear ha;have hn:(0:Int)≤(n:Int):=by omega
  go_wp2_with fail;go_ret;exact ⟨by rw [HA.out];rfl,zdy (ag w _) hb1⟩
theorem tD (x:NM) (b:Bool) (bx:Nat) (w:World) (hb:w.heap[bx]? = some (.cells #[.func (.func 74) #[] #[]] 60 (0,0))) (h:∀ W,Below w.heap.size w W→Calls Tryz.prog 74 #[x.val] W fun e w'=>e=.returned (.bool b)∧Below W.heap.size W w') :
  Calls Tryz.prog 36 #[x.val,.pointer (some ⟨bx,0,none⟩)] w fun e w'=>e=.returned (.bool (!b))∧Below w.heap.size w w':=by
 cases x with
 | mk k t l c ks a m =>
 have q:w.cell? ⟨bx,0,none⟩=some (.func (.func 74) #[] #[]):=cRo w bx 0 _ _ _ hb;have bC:=nb;have H:=hid (h _ (ag w (.cells #[.int .i64 k,.string (bs t),.int .i64 l,.int .i64 c,.slice a ks.length m] 27)));have aL:bx<w.heap.size:=(aGe.1 hb).1;clear h hb;change Calls _ _ #[aB k t l c (.slice a ks.length m),_] _ _;change Hid (Calls _ _ #[aB k t l c (.slice a ks.length m)] _ _) at H;go_enter Tryz.func36,Tryz.ntmps36
 go_wp2_with fail;refine H.out.mono ?_;rintro e w1 ⟨rfl,hb1⟩;go_wp2_with fail;go_ret;exact ⟨rfl,zdy (ag w _) hb1⟩
theorem qO (p:NM→Bool) (v:Value) (ks:List NM) (bx:Nat) (w:World) (hl:cn w v ks) (aF:ks.length≤10000000) (hb:w.heap[bx]? = some (.cells #[.func (.func 74) #[] #[]] 60 (0,0)))
  (h:∀ j (hj:j<ks.length) W,Below w.heap.size w W→Calls Tryz.prog 74 #[ks[j].val] W fun e w'=>e=.returned (.bool (p ks[j]))∧Below W.heap.size W w') :
  Calls Tryz.prog 70 #[v,.func (.func 36) #[] #[.pointer (some ⟨bx,0,none⟩)]] w fun e w'=>(∃ r:Int,e=.returned (.int .i64 r)∧((ks.all p=true∧r=-1)∨(ks.all p=false∧∃ n:Nat,r=n)))∧Below w.heap.size w w':=by
 have HS:=hid (fun W (hW:Below w.heap.size w W)=>hl.below hW);have HC:=hid (fun j (hj:j<ks.length) W (hW:Below w.heap.size w W)=>tD ks[j] (p ks[j]) bx W ((hW.block bx (aGe.1 hb).1).trans hb) (fun W' hW'=>h j hj W' (zdy hW hW')));obtain ⟨la,lc,rfl,iI,hlm,-⟩:=hl.nodes;unfold maxLen at hlm;clear hl h hb;go_enter Tryz.func70,Tryz.ntmps70
 go_wp2_with fail;go_loopw [8] (fun i wr=>∃ j:Nat,j≤ks.length∧i=.int .i64 j∧Below w.heap.size w wr∧Hid ((ks.take j).all p=true)) (fun i _=>ks.length - (intOf i).toNat)
 case atStart=>exact ⟨0,by omega,rfl,Below.refl _ _,hid rfl⟩
 case round =>
  obtain ⟨j,hj,rfl,hbw,HA⟩:=hrel;have hsz:=hbw.size;by_cases aL:j<ks.length
  ·have hd:decide (j<ks.length)=true:=decide_eq_true aL;obtain ⟨la',lc',hv,-,-,hx⟩:=(HS.out _ hbw).nodes;obtain ⟨lb,lo,rfl,hlb,cw⟩:=hx j aL;obtain ⟨rfl,rfl⟩:la=some ⟨lb,lo,none⟩∧lc=lc':=by simpa using hv
   have hfc:=cw j aL;have HCj:=hid (HC.out j aL _ hbw);have HN:=hid (show (ks.take (j+1)).all p=((ks.take j).all p && p ks[j]) by rw [List.take_succ_eq_append_getElem aL,List.all_append];simp);have HF:=hid (fun hp:p ks[j]=false=>(show ks.all p=false by
    cases e:ks.all p with
    | false=>rfl
    | true=>rw [List.all_eq_true.1 e ks[j] (List.getElem_mem aL)] at hp;cases hp))
   generalize ks[j]=x at *;cases x with
   | mk k t l c kk a m =>
   generalize p (.mk k t l c kk a m)=pb at *;change Hid (Calls _ _ #[aB k t l c (.slice a kk.length m),_] _ _) at HCj;obtain ⟨c0,c1,c2,c3,c4⟩:=hfc;replace c0:wr.cell? ⟨lb,lo+j * 5,none⟩=some (.int .i64 k):=c0;replace c1:wr.cell? ⟨lb,lo+j * 5+1,none⟩=some (.string (bs t)):=c1;replace c2:wr.cell? ⟨lb,lo+j * 5+2,none⟩=some (.int .i64 l):=c2;replace c3:wr.cell? ⟨lb,lo+j * 5+3,none⟩=some (.int .i64 c):=c3;replace c4:wr.cell? ⟨lb,lo+j * 5+4,none⟩=some (.slice a kk.length m):=c4;clear cw hx hv;go_wp2_with fail;refine HCj.out.mono ?_;rintro e w1 ⟨rfl,hb1⟩;cases pb with
   | false =>
     go_wp2_with fail;go_ret;exact ⟨⟨_,rfl,.inr ⟨HF.out (by simp),j,rfl⟩⟩,zdy hbw hb1⟩
   | true =>
     go_wp2_with fail
     go_round
     case rel=>exact ⟨j+1,by omega,by go_num,zdy hbw hb1,hid (by rw [HN.out,HA.out];rfl)⟩
     case measure=>simp [intOf];omega
  ·have hd:decide (j<ks.length)=false:=decide_eq_false aL;have HT:=hid (show ks.all p=true by have:=HA.out;rwa [List.take_of_length_le (by omega)] at this);go_wp2_with fail;go_ret;exact ⟨⟨_,rfl,.inl ⟨HT.out,rfl⟩⟩,hbw⟩
theorem ux (p:NM→Bool) (v:Value) (ks:List NM) (w:World) (hl:cn w v ks) (aF:ks.length≤10000000)
  (h:∀ j (hj:j<ks.length) W,Below w.heap.size w W→Calls Tryz.prog 74 #[ks[j].val] W fun e w'=>e=.returned (.bool (p ks[j]))∧Below W.heap.size W w') :
  Calls Tryz.prog 22 #[v,.func (.func 74) #[] #[]] w fun e w'=>e=.returned (.bool (ks.all p))∧Below w.heap.size w w':=by
 have bC:=nb;have qo:=mf;have hb0:=ag w (.cells #[.func (.func 74) #[] #[]] 60);have HI:=hid (qO p v ks w.heap.size _ (hl.below hb0) aF (hAn w (.cells #[.func (.func 74) #[] #[]] 60)) (fun j hj W hW=>h j hj W (zdy hb0 hW)));obtain ⟨la,lc,rfl,-,-,-⟩:=hl.nodes;clear hl h hb0;go_enter Tryz.func22,Tryz.ntmps22
 go_wp2_with fail;go_enter Tryz.func35,Tryz.ntmps35
 go_wp2_with fail;refine HI.out.mono ?_;rintro e w1 ⟨⟨r,rfl,hr⟩,hb1⟩;rcases hr with ⟨ha,rfl⟩ | ⟨ha,n,rfl⟩
 ·have HA:=hid ha;clear ha;go_wp2_with fail;go_ret;exact ⟨by rw [HA.out];rfl,zdy (ag w _) hb1⟩
 ·have HA:=hid ha;clear ha;have hn:(0:Int)≤(n:Int):=by omega
  go_wp2_with fail;go_ret;exact ⟨by rw [HA.out];rfl,zdy (ag w _) hb1⟩
theorem r7 (x:NM) (b:Bool) (bx:Nat) (w:World) (hb:w.heap[bx]? = some (.cells #[.func (.func 23) #[] #[]] 60 (0,0))) (h:∀ W,Below w.heap.size w W→Calls Tryz.prog 23 #[x.val] W fun e w'=>e=.returned (.bool b)∧Below W.heap.size W w') :
  Calls Tryz.prog 36 #[x.val,.pointer (some ⟨bx,0,none⟩)] w fun e w'=>e=.returned (.bool (!b))∧Below w.heap.size w w':=by
 cases x with
 | mk k t l c ks a m =>
 have q:w.cell? ⟨bx,0,none⟩=some (.func (.func 23) #[] #[]):=cRo w bx 0 _ _ _ hb;have bC:=nb;have H:=hid (h _ (ag w (.cells #[.int .i64 k,.string (bs t),.int .i64 l,.int .i64 c,.slice a ks.length m] 27)));have aL:bx<w.heap.size:=(aGe.1 hb).1;clear h hb;change Calls _ _ #[aB k t l c (.slice a ks.length m),_] _ _;change Hid (Calls _ _ #[aB k t l c (.slice a ks.length m)] _ _) at H;go_enter Tryz.func36,Tryz.ntmps36
 go_wp2_with fail;refine H.out.mono ?_;rintro e w1 ⟨rfl,hb1⟩;go_wp2_with fail;go_ret;exact ⟨rfl,zdy (ag w _) hb1⟩
theorem pz (p:NM→Bool) (v:Value) (ks:List NM) (bx:Nat) (w:World) (hl:cn w v ks) (aF:ks.length≤10000000) (hb:w.heap[bx]? = some (.cells #[.func (.func 23) #[] #[]] 60 (0,0)))
  (h:∀ j (hj:j<ks.length) W,Below w.heap.size w W→Calls Tryz.prog 23 #[ks[j].val] W fun e w'=>e=.returned (.bool (p ks[j]))∧Below W.heap.size W w') :
  Calls Tryz.prog 70 #[v,.func (.func 36) #[] #[.pointer (some ⟨bx,0,none⟩)]] w fun e w'=>(∃ r:Int,e=.returned (.int .i64 r)∧((ks.all p=true∧r=-1)∨(ks.all p=false∧∃ n:Nat,r=n)))∧Below w.heap.size w w':=by
 have HS:=hid (fun W (hW:Below w.heap.size w W)=>hl.below hW);have HC:=hid (fun j (hj:j<ks.length) W (hW:Below w.heap.size w W)=>r7 ks[j] (p ks[j]) bx W ((hW.block bx (aGe.1 hb).1).trans hb) (fun W' hW'=>h j hj W' (zdy hW hW')));obtain ⟨la,lc,rfl,iI,hlm,-⟩:=hl.nodes;unfold maxLen at hlm;clear hl h hb;go_enter Tryz.func70,Tryz.ntmps70
 go_wp2_with fail;go_loopw [8] (fun i wr=>∃ j:Nat,j≤ks.length∧i=.int .i64 j∧Below w.heap.size w wr∧Hid ((ks.take j).all p=true)) (fun i _=>ks.length - (intOf i).toNat)
 case atStart=>exact ⟨0,by omega,rfl,Below.refl _ _,hid rfl⟩
 case round =>
  obtain ⟨j,hj,rfl,hbw,HA⟩:=hrel;have hsz:=hbw.size;by_cases aL:j<ks.length
  ·have hd:decide (j<ks.length)=true:=decide_eq_true aL;obtain ⟨la',lc',hv,-,-,hx⟩:=(HS.out _ hbw).nodes;obtain ⟨lb,lo,rfl,hlb,cw⟩:=hx j aL;obtain ⟨rfl,rfl⟩:la=some ⟨lb,lo,none⟩∧lc=lc':=by simpa using hv
   have hfc:=cw j aL;have HCj:=hid (HC.out j aL _ hbw);have HN:=hid (show (ks.take (j+1)).all p=((ks.take j).all p && p ks[j]) by rw [List.take_succ_eq_append_getElem aL,List.all_append];simp);have HF:=hid (fun hp:p ks[j]=false=>(show ks.all p=false by
    cases e:ks.all p with
    | false=>rfl
    | true=>rw [List.all_eq_true.1 e ks[j] (List.getElem_mem aL)] at hp;cases hp))
   generalize ks[j]=x at *;cases x with
   | mk k t l c kk a m =>
   generalize p (.mk k t l c kk a m)=pb at *;change Hid (Calls _ _ #[aB k t l c (.slice a kk.length m),_] _ _) at HCj;obtain ⟨c0,c1,c2,c3,c4⟩:=hfc;replace c0:wr.cell? ⟨lb,lo+j * 5,none⟩=some (.int .i64 k):=c0;replace c1:wr.cell? ⟨lb,lo+j * 5+1,none⟩=some (.string (bs t)):=c1;replace c2:wr.cell? ⟨lb,lo+j * 5+2,none⟩=some (.int .i64 l):=c2;replace c3:wr.cell? ⟨lb,lo+j * 5+3,none⟩=some (.int .i64 c):=c3;replace c4:wr.cell? ⟨lb,lo+j * 5+4,none⟩=some (.slice a kk.length m):=c4;clear cw hx hv;go_wp2_with fail;refine HCj.out.mono ?_;rintro e w1 ⟨rfl,hb1⟩;cases pb with
   | false =>
     go_wp2_with fail;go_ret;exact ⟨⟨_,rfl,.inr ⟨HF.out (by simp),j,rfl⟩⟩,zdy hbw hb1⟩
   | true =>
     go_wp2_with fail
     go_round
     case rel=>exact ⟨j+1,by omega,by go_num,zdy hbw hb1,hid (by rw [HN.out,HA.out];rfl)⟩
     case measure=>simp [intOf];omega
  ·have hd:decide (j<ks.length)=false:=decide_eq_false aL;have HT:=hid (show ks.all p=true by have:=HA.out;rwa [List.take_of_length_le (by omega)] at this);go_wp2_with fail;go_ret;exact ⟨⟨_,rfl,.inl ⟨HT.out,rfl⟩⟩,hbw⟩
theorem m4 (p:NM→Bool) (v:Value) (ks:List NM) (w:World) (hl:cn w v ks) (aF:ks.length≤10000000)
  (h:∀ j (hj:j<ks.length) W,Below w.heap.size w W→Calls Tryz.prog 23 #[ks[j].val] W fun e w'=>e=.returned (.bool (p ks[j]))∧Below W.heap.size W w') :
  Calls Tryz.prog 22 #[v,.func (.func 23) #[] #[]] w fun e w'=>e=.returned (.bool (ks.all p))∧Below w.heap.size w w':=by
 have bC:=nb;have qo:=mf;have hb0:=ag w (.cells #[.func (.func 23) #[] #[]] 60);have HI:=hid (pz p v ks w.heap.size _ (hl.below hb0) aF (hAn w (.cells #[.func (.func 23) #[] #[]] 60)) (fun j hj W hW=>h j hj W (zdy hb0 hW)));obtain ⟨la,lc,rfl,-,-,-⟩:=hl.nodes;clear hl h hb0;go_enter Tryz.func22,Tryz.ntmps22
 go_wp2_with fail;go_enter Tryz.func35,Tryz.ntmps35
 go_wp2_with fail;refine HI.out.mono ?_;rintro e w1 ⟨⟨r,rfl,hr⟩,hb1⟩;rcases hr with ⟨ha,rfl⟩ | ⟨ha,n,rfl⟩
 ·have HA:=hid ha;clear ha;go_wp2_with fail;go_ret;exact ⟨by rw [HA.out];rfl,zdy (ag w _) hb1⟩
 ·have HA:=hid ha;clear ha;have hn:(0:Int)≤(n:Int):=by omega
  go_wp2_with fail;go_ret;exact ⟨by rw [HA.out];rfl,zdy (ag w _) hb1⟩
mutual
def NM.fit:NM→Prop
 | .mk _ t _ _ ks _ _=>t.length≤1000000∧ks.length≤1000000∧zdQ ks
def zdQ:List NM→Prop
 | []=>True
 | x::r=>x.fit∧zdQ r
end
theorem kY {k l c:Int} {t:List UInt8} {ks:List NM} {a:Option Addr} {m:Nat} (h:(NM.mk k t l c ks a m).fit):t.length≤1000000∧ks.length≤1000000∧zdQ ks:=by unfold NM.fit at h;exact h
theorem gw:∀ {ks:List NM},zdQ ks→∀ k (h:k<ks.length),ks[k].fit
 | [],_,k,h=>by simp at h
 | x::r,hf,k,h=>by
   unfold zdQ at hf;cases k with
   | zero=>exact hf.1
   | succ k=>exact gw hf.2 k (by simpa using h)
def dO (F:FuncId) (p:Tr→Bool) (x:NM):Prop:=∀ w,bB w→am aR w x→Calls Tryz.prog F #[x.val] w fun e w'=>e=.returned (.bool (p x.tr))∧Below w.heap.size w w'
theorem dO.c {F:FuncId} {p:Tr→Bool} {k:Int} {t:List UInt8} {l c:Int} {ks:List NM} {a:Option Addr} {m:Nat} (h:dO F p (.mk k t l c ks a m)) {w:World} (hw:bB w) (hg:Hid (am aR w (.mk k t l c ks a m))) :
  Hid (∀ W,Below w.heap.size w W→Calls Tryz.prog F #[aB k t l c (.slice a ks.length m)] W fun e w'=>e=.returned (.bool (p (NM.mk k t l c ks a m).tr))∧Below W.heap.size W w'):=hid fun W hW=>h W (hw.below hW) (hg.out.below hW)
theorem eO (p:Tr→Bool) (ks:List NM):(NM.trs ks).all p=ks.all (fun x=>p x.tr):=by rw [bR,List.all_map];rfl
theorem zbO (t:List UInt8) (l c:Int) (ks:List NM) (a:Option Addr) (m:Nat) (w:World) (hw:bB w) (_hh:am aR w (.mk 9 t l c ks a m)) (ht:t.length≤1000000) (hk:ks.length≤1000000) :
  Calls Tryz.prog 38 #[aB 9 t l c (.slice a ks.length m)] w fun e w'=>e=.returned (.bool (mE (NM.mk 9 t l c ks a m).tr))∧Below w.heap.size w w':=by
 rw [aq,zq];have H0:=ag w (.cells #[.int .i64 9,.string (bs t),.int .i64 l,.int .i64 c,.slice a ks.length m] 27);have HC:=hid (cq t (by omega) _ (hw.range.below H0));clear hw _hh;by_cases h0:ks=[]
 ·have q:((ks.length:Int) == 0)=true:=eqT (by rw [h0];rfl);have HO:Hid (((NM.trs ks).isEmpty && aM t)=aM t):=hid (by rw [h0,ar];rfl);generalize aM t=b at *;rw [HO.out];clear h0 HO H0;go_enter Tryz.func38,Tryz.ntmps38
  go_wp2_with fail;refine HC.out.mono ?_;rintro e w1 ⟨rfl,hb1⟩;go_wp2_with fail;go_ret;exact ⟨rfl,zdy (ag w _) hb1⟩
 ·have q:((ks.length:Int) == 0)=false:=eqF (by have:=List.length_pos_iff.2 h0;omega);have HO:Hid (((NM.trs ks).isEmpty && aM t)=false):=hid (by cases ks with | nil=>exact absurd rfl h0 | cons x r=>rw [ai];rfl);rw [HO.out];clear h0 HO H0 HC;go_enter Tryz.func38,Tryz.ntmps38
  go_wp2_with fail;go_ret;exact ⟨rfl,ag w _⟩
theorem zW (t:List UInt8) (l c:Int) (ks:List NM) (a:Option Addr) (m:Nat) (w:World) (hw:bB w) (_hh:am aR w (.mk 10 t l c ks a m)) (ht:t.length≤1000000) (hk:ks.length≤1000000) :
  Calls Tryz.prog 38 #[aB 10 t l c (.slice a ks.length m)] w fun e w'=>e=.returned (.bool (mE (NM.mk 10 t l c ks a m).tr))∧Below w.heap.size w w':=by
 rw [aq,vq];have H0:=ag w (.cells #[.int .i64 10,.string (bs t),.int .i64 l,.int .i64 c,.slice a ks.length m] 27);have HC:=hid (rf t (by omega) _ (hw.below H0));clear hw _hh;by_cases h0:ks=[]
 ·have q:((ks.length:Int) == 0)=true:=eqT (by rw [h0];rfl);have HO:Hid (((NM.trs ks).isEmpty && fg 2 t)=fg 2 t):=hid (by rw [h0,ar];rfl);generalize fg 2 t=b at *;rw [HO.out];clear h0 HO H0;go_enter Tryz.func38,Tryz.ntmps38
  go_wp2_with fail;refine HC.out.mono ?_;rintro e w1 ⟨rfl,hb1⟩;go_wp2_with fail;go_ret;exact ⟨rfl,zdy (ag w _) hb1⟩
 ·have q:((ks.length:Int) == 0)=false:=eqF (by have:=List.length_pos_iff.2 h0;omega);have HO:Hid (((NM.trs ks).isEmpty && fg 2 t)=false):=hid (by cases ks with | nil=>exact absurd rfl h0 | cons x r=>rw [ai];rfl);rw [HO.out];clear h0 HO H0 HC;go_enter Tryz.func38,Tryz.ntmps38
  go_wp2_with fail;go_ret;exact ⟨rfl,ag w _⟩
theorem zab (t:List UInt8) (l c:Int) (ks:List NM) (a:Option Addr) (m:Nat) (w:World) (_hw:bB w) (_hh:am aR w (.mk 11 t l c ks a m)) (ht:t.length≤1000000) (hk:ks.length≤1000000) :
  Calls Tryz.prog 38 #[aB 11 t l c (.slice a ks.length m)] w fun e w'=>e=.returned (.bool (mE (NM.mk 11 t l c ks a m).tr))∧Below w.heap.size w w':=by
 rw [aq,zk];have H0:=ag w (.cells #[.int .i64 11,.string (bs t),.int .i64 l,.int .i64 c,.slice a ks.length m] 27);obtain ⟨qt,hqt⟩:∃ qt,dR t=qt:=⟨_,rfl⟩;have HC:=hid (fun W=>qg t (by omega) qt hqt W);clear _hw _hh;by_cases h0:ks=[]
 ·have q:((ks.length:Int) == 0)=true:=eqT (by rw [h0];rfl);have HO:Hid (((NM.trs ks).isEmpty && !(t.any ft))=!qt.isEmpty):=hid (by
   rw [h0,ar,← hqt];unfold dR;cases t.any ft <;> rfl)
  rw [HO.out];clear h0 HO H0 hqt;cases qt with
  | nil =>
    go_enter Tryz.func38,Tryz.ntmps38
    go_wp2_with fail;refine (HC.out _).mono ?_;rintro e w1 ⟨rfl,hb1⟩;go_wp2_with fail;go_ret;exact ⟨rfl,zdy (ag w _) hb1⟩
  | cons qc qr =>
    have q2:((qc::qr) == ([]:List UInt8))=false:=rfl;go_enter Tryz.func38,Tryz.ntmps38
    go_wp2_with fail;refine (HC.out _).mono ?_;rintro e w1 ⟨rfl,hb1⟩;go_wp2_with fail;go_ret;exact ⟨rfl,zdy (ag w _) hb1⟩
 ·have q:((ks.length:Int) == 0)=false:=eqF (by have:=List.length_pos_iff.2 h0;omega);have HO:Hid (((NM.trs ks).isEmpty && !(t.any ft))=false):=hid (by cases ks with | nil=>exact absurd rfl h0 | cons x r=>rw [ai];rfl);rw [HO.out];clear h0 HO H0 HC;go_enter Tryz.func38,Tryz.ntmps38
  go_wp2_with fail;go_ret;exact ⟨rfl,ag w _⟩
theorem zT (t:List UInt8) (l c:Int) (ks:List NM) (a:Option Addr) (m:Nat) (w:World) (hw:bB w) (hh:am aR w (.mk 12 t l c ks a m)) (ht:t.length≤1000000) (hk:ks.length≤1000000) (IH:∀ j (hj:j<ks.length),dO 38 mE ks[j]):
  Calls Tryz.prog 38 #[aB 12 t l c (.slice a ks.length m)] w fun e w'=>e=.returned (.bool (mE (NM.mk 12 t l c ks a m).tr))∧Below w.heap.size w w':=by
 rw [aq,uK,eO];have H0:=ag w (.cells #[.int .i64 12,.string (bs t),.int .i64 l,.int .i64 c,.slice a ks.length m] 27);have HC:=hid (gu (fun x=>mE x.tr) _ ks _ (hh.kidsAt.below H0) (by omega) (fun j hj W hW=>IH j hj W ((hw.below H0).below hW) ((hh.kidsAt.below H0).get j hj |>.below hW)));clear hw hh IH H0;cases t with
 | cons tc tr =>
   have q:((tc::tr) == ([]:List UInt8))=false:=rfl;clear HC;go_enter Tryz.func38,Tryz.ntmps38
   go_wp2_with fail;go_ret;exact ⟨rfl,ag w _⟩
 | nil =>
   have HO:Hid ((([]:List UInt8).isEmpty && ks.all (fun x=>mE x.tr))=ks.all (fun x=>mE x.tr)):=hid rfl;rw [HO.out];clear HO;generalize ks.all (fun x=>mE x.tr)=b at *;go_enter Tryz.func38,Tryz.ntmps38
   go_wp2_with fail;refine HC.out.mono ?_;rintro e w1 ⟨rfl,hb1⟩;go_wp2_with fail;go_ret;exact ⟨rfl,zdy (ag w _) hb1⟩
theorem zb4 (t:List UInt8) (l c:Int) (ks:List NM) (a:Option Addr) (m:Nat) (w:World) (hw:bB w) (hh:am aR w (.mk 8 t l c ks a m)) (ht:t.length≤1000000) (hk:ks.length≤1000000) (IH:∀ j (hj:j<ks.length),dO 23 mS ks[j]):
  Calls Tryz.prog 39 #[aB 8 t l c (.slice a ks.length m)] w fun e w'=>e=.returned (.bool (mB (NM.mk 8 t l c ks a m).tr))∧Below w.heap.size w w':=by
 rw [aq,zbe,eO];have H0:=ag w (.cells #[.int .i64 8,.string (bs t),.int .i64 l,.int .i64 c,.slice a ks.length m] 27);have HC:=hid (m4 (fun x=>mS x.tr) _ ks _ (hh.kidsAt.below H0) (by omega) (fun j hj W hW=>IH j hj W ((hw.below H0).below hW) ((hh.kidsAt.below H0).get j hj |>.below hW)));clear hw hh IH H0;cases t with
 | cons tc tr =>
   have q:((tc::tr) == ([]:List UInt8))=false:=rfl;clear HC;go_enter Tryz.func39,Tryz.ntmps39
   go_wp2_with fail;go_ret;exact ⟨rfl,ag w _⟩
 | nil =>
   have HO:Hid ((([]:List UInt8).isEmpty && ks.all (fun x=>mS x.tr))=ks.all (fun x=>mS x.tr)):=hid rfl;rw [HO.out];clear HO;generalize ks.all (fun x=>mS x.tr)=b at *;go_enter Tryz.func39,Tryz.ntmps39
   go_wp2_with fail;refine HC.out.mono ?_;rintro e w1 ⟨rfl,hb1⟩;go_wp2_with fail;go_ret;exact ⟨rfl,zdy (ag w _) hb1⟩
theorem zaj (t:List UInt8) (l c:Int) (ks:List NM) (a:Option Addr) (m:Nat) (w:World) (hw:bB w) (hh:am aR w (.mk 14 t l c ks a m)) (ht:t.length≤1000000) (hk:ks.length≤1000000) (IH:∀ j (hj:j<ks.length),dO 74 mA ks[j]):
  Calls Tryz.prog 38 #[aB 14 t l c (.slice a ks.length m)] w fun e w'=>e=.returned (.bool (mE (NM.mk 14 t l c ks a m).tr))∧Below w.heap.size w w':=by
 rw [aq,vh,eO];have H0:=ag w (.cells #[.int .i64 14,.string (bs t),.int .i64 l,.int .i64 c,.slice a ks.length m] 27);have HN:=hid (cq t (by omega) _ (hw.range.below H0));have HC:=hid (fun W (hW:Below w.heap.size w W)=>ux (fun x=>mA x.tr) _ ks _ (hh.kidsAt.below hW) (by omega) (fun j hj W' hW'=>IH j hj W' ((hw.below hW).below hW') ((hh.kidsAt.below hW).get j hj |>.below hW')));clear hw hh IH H0;generalize ks.all (fun x=>mA x.tr)=b at *;generalize aM t=bn at *;cases bn with
 | false =>
   clear HC;go_enter Tryz.func38,Tryz.ntmps38
   go_wp2_with fail;refine HN.out.mono ?_;rintro e w1 ⟨rfl,hb1⟩;go_wp2_with fail;go_ret;exact ⟨rfl,zdy (ag w _) hb1⟩
 | true =>
   go_enter Tryz.func38,Tryz.ntmps38
   go_wp2_with fail;refine HN.out.mono ?_;rintro e w1 ⟨rfl,hb1⟩;have HB:=hid (zdy (ag w _) hb1);obtain ⟨k0,k1,k2,k3,k4,f0,f1,f2,f3,f4⟩:=eV ((hb1.block _ (by rw [wSz];omega)).trans (hAn w _));clear hb1 f0 f1 f2 f3 f4;go_wp2_with fail;refine (HC.out _ HB.out).mono ?_;rintro e w2 ⟨rfl,hb2⟩;go_wp2_with fail;go_ret;exact ⟨rfl,zdy HB.out hb2⟩
theorem zS (k:Int) (t:List UInt8) (l c:Int) (ks:List NM) (a:Option Addr) (m:Nat) (w:World) (h:isE k=false) :
  Calls Tryz.prog 38 #[aB k t l c (.slice a ks.length m)] w fun e w'=>e=.returned (.bool (mE (NM.mk k t l c ks a m).tr))∧Below w.heap.size w w':=by
 rw [aq,zbA _ _ h];unfold isE at h;simp only [Bool.or_eq_false_iff] at h;obtain ⟨⟨⟨⟨⟨⟨h9,h10⟩,h11⟩,h12⟩,h13⟩,h14⟩,h16⟩:=h;go_enter Tryz.func38,Tryz.ntmps38
 go_wp2_with fail;go_ret;exact ⟨rfl,ag w _⟩
theorem zas (k:Int) (t:List UInt8) (l c:Int) (ks:List NM) (a:Option Addr) (m:Nat) (w:World) (h:(k == 8)=false) :
  Calls Tryz.prog 39 #[aB k t l c (.slice a ks.length m)] w fun e w'=>e=.returned (.bool (mB (NM.mk k t l c ks a m).tr))∧Below w.heap.size w w':=by
 rw [aq,zbv _ _ h];go_enter Tryz.func39,Tryz.ntmps39
 go_wp2_with fail;go_ret;exact ⟨rfl,ag w _⟩
theorem zbQ  (l c:Int) (kx:Int) (tx:List UInt8) (lx cx:Int) (ksx:List NM) (ax:Option Addr) (mx:Nat) (a:Option Addr) (m:Nat) (w:World) (hw:bB w) (hh:am aR w (.mk 15 [] l c [(NM.mk kx tx lx cx ksx ax mx)] a m)) (_ht:([]:List UInt8).length≤1000000) (IHx:dO 38 mE (NM.mk kx tx lx cx ksx ax mx)) :
  Calls Tryz.prog 74 #[aB 15 [] l c (.slice a 1 m)] w fun e w'=>e=.returned (.bool (mA (NM.mk 15 [] l c [(NM.mk kx tx lx cx ksx ax mx)] a m).tr))∧Below w.heap.size w w':=by
 have bC:=nb;obtain ⟨kb,ko,rfl,bk,hm1,hlm,Fx,ggx⟩:=fp hh;have HO:=hid (show mA (NM.mk 15 [] l c [(NM.mk kx tx lx cx ksx ax mx)] (some ⟨kb,ko,none⟩) m).tr=mE (NM.mk kx tx lx cx ksx ax mx).tr by
  rw [aq,kI,ai,ar];simp [iA]
 )
 rw [HO.out];clear HO;have C0:=IHx.c hw ggx;generalize mE (NM.mk kx tx lx cx ksx ax mx).tr=b0 at *;clear hh hw IHx ggx;obtain ⟨yx0,yx1,yx2,yx3,yx4⟩:=aj Fx.out;have HB0:=hid (ag w (.cells #[.int .i64 15,.string (bs []),.int .i64 l,.int .i64 c,.slice (some ⟨kb,ko,none⟩) 1 m] 27));go_enter Tryz.func74,Tryz.ntmps74
 go_wp2_with fail;refine (C0.out _ HB0.out).mono ?_;rintro e w1 ⟨rfl,hb1⟩;have HB1:=bc HB0 hb1;have HR1:=rk0 hb1;have hs1:=hb1.size
 try simp only [wSz] at hs1
 clear hb1 C0;obtain ⟨z0,z1,z2,z3,z4⟩:=r5 HR1.out;obtain ⟨yx0,yx1,yx2,yx3,yx4⟩:=aj (Fx.out.keep (HB1.out.block kb bk));have hkl1:kb<w1.heap.size:=by omega
 go_wp2_with fail;clear z0 z1 z2 z3 z4 yx0 yx1 yx2 yx3 yx4;go_ret;exact ⟨rfl,HB1.out⟩
theorem zb0 (tc:UInt8) (tr:List UInt8) (l c:Int) (kx:Int) (tx:List UInt8) (lx cx:Int) (ksx:List NM) (ax:Option Addr) (mx:Nat) (a:Option Addr) (m:Nat) (w:World) (hw:bB w) (hh:am aR w (.mk 15 (tc::tr) l c [(NM.mk kx tx lx cx ksx ax mx)] a m)) (ht:((tc::tr):List UInt8).length≤1000000) (IHx:dO 38 mE (NM.mk kx tx lx cx ksx ax mx)) :
  Calls Tryz.prog 74 #[aB 15 (tc::tr) l c (.slice a 1 m)] w fun e w'=>e=.returned (.bool (mA (NM.mk 15 (tc::tr) l c [(NM.mk kx tx lx cx ksx ax mx)] a m).tr))∧Below w.heap.size w w':=by
 have bC:=nb;obtain ⟨kb,ko,rfl,bk,hm1,hlm,Fx,ggx⟩:=fp hh;have HO:=hid (show mA (NM.mk 15 (tc::tr) l c [(NM.mk kx tx lx cx ksx ax mx)] (some ⟨kb,ko,none⟩) m).tr=(aM (tc::tr) && mE (NM.mk kx tx lx cx ksx ax mx).tr) by
  rw [aq,kI,ai,ar];simp [iA]
 )
 rw [HO.out];clear HO;have C0:=hid (fun W (hW:Below w.heap.size w W)=>cq (tc::tr) (by omega) W (hw.range.below hW));have C1:=IHx.c hw ggx;generalize aM (tc::tr)=b0 at *;generalize mE (NM.mk kx tx lx cx ksx ax mx).tr=b1 at *;clear hh hw IHx ggx;have q:((tc::tr) == ([]:List UInt8))=false:=rfl;obtain ⟨yx0,yx1,yx2,yx3,yx4⟩:=aj Fx.out;have HB0:=hid (ag w (.cells #[.int .i64 15,.string (bs (tc::tr)),.int .i64 l,.int .i64 c,.slice (some ⟨kb,ko,none⟩) 1 m] 27));go_enter Tryz.func74,Tryz.ntmps74
 go_wp2_with fail;refine (C0.out _ HB0.out).mono ?_;rintro e w1 ⟨rfl,hb1⟩;have HB1:=bc HB0 hb1;have HR1:=rk0 hb1;have hs1:=hb1.size
 try simp only [wSz] at hs1
 clear hb1 C0;obtain ⟨z0,z1,z2,z3,z4⟩:=r5 HR1.out;obtain ⟨yx0,yx1,yx2,yx3,yx4⟩:=aj (Fx.out.keep (HB1.out.block kb bk));have hkl1:kb<w1.heap.size:=by omega
 cases b0 with
 | false =>
   go_wp2_with fail;clear z0 z1 z2 z3 z4 yx0 yx1 yx2 yx3 yx4;go_ret;exact ⟨rfl,HB1.out⟩
 | true =>
   go_wp2_with fail;clear z0 z1 z2 z3 z4 yx0 yx1 yx2 yx3 yx4;refine (C1.out _ HB1.out).mono ?_;rintro e w2 ⟨rfl,hb2⟩;have HB2:=bc HB1 hb2;have HR2:=rk HR1 hb2;have hs2:=hb2.size
   try simp only [wSz] at hs2
   clear hb2 C1;obtain ⟨z0,z1,z2,z3,z4⟩:=r5 HR2.out;obtain ⟨yx0,yx1,yx2,yx3,yx4⟩:=aj (Fx.out.keep (HB2.out.block kb bk));have hkl2:kb<w2.heap.size:=by omega
   go_wp2_with fail;clear z0 z1 z2 z3 z4 yx0 yx1 yx2 yx3 yx4;go_ret;exact ⟨rfl,HB2.out⟩
theorem zax  (l c:Int) (ks:List NM) (a:Option Addr) (m:Nat) (w:World) (_hw:bB w) (hh:am aR w (.mk 15 [] l c ks a m)) (_ht:([]:List UInt8).length≤1000000) (hn:ks.length≠1) :
  Calls Tryz.prog 74 #[aB 15 [] l c (.slice a ks.length m)] w fun e w'=>e=.returned (.bool (mA (NM.mk 15 [] l c ks a m).tr))∧Below w.heap.size w w':=by
 have bC:=nb;have HO:=hid (show mA (NM.mk 15 [] l c ks a m).tr=false by
  rw [aq,kI]
  match ks,hn with
  | [],_=>simp [ar,iA]
  | [_],h=>simp at h
  | _::_::_,_=>simp [ai,iA]
 )
 rw [HO.out];clear HO;clear hh _hw;have hn1:((ks.length:Int) == 1)=false:=eqF (by omega);have HB0:=hid (ag w (.cells #[.int .i64 15,.string (bs []),.int .i64 l,.int .i64 c,.slice a ks.length m] 27));go_enter Tryz.func74,Tryz.ntmps74
 go_wp2_with fail;go_ret;exact ⟨rfl,HB0.out⟩
theorem za1 (tc:UInt8) (tr:List UInt8) (l c:Int) (ks:List NM) (a:Option Addr) (m:Nat) (w:World) (hw:bB w) (hh:am aR w (.mk 15 (tc::tr) l c ks a m)) (ht:((tc::tr):List UInt8).length≤1000000) (hn:ks.length≠1) :
  Calls Tryz.prog 74 #[aB 15 (tc::tr) l c (.slice a ks.length m)] w fun e w'=>e=.returned (.bool (mA (NM.mk 15 (tc::tr) l c ks a m).tr))∧Below w.heap.size w w':=by
 have bC:=nb;have HO:=hid (show mA (NM.mk 15 (tc::tr) l c ks a m).tr=(aM (tc::tr) && false) by
  rw [aq,kI]
  match ks,hn with
  | [],_=>simp [ar,iA]
  | [_],h=>simp at h
  | _::_::_,_=>simp [ai,iA]
 )
 rw [HO.out];clear HO;have C0:=hid (fun W (hW:Below w.heap.size w W)=>cq (tc::tr) (by omega) W (hw.range.below hW));generalize aM (tc::tr)=b0 at *;clear hh hw;have hn1:((ks.length:Int) == 1)=false:=eqF (by omega);have q:((tc::tr) == ([]:List UInt8))=false:=rfl;have HB0:=hid (ag w (.cells #[.int .i64 15,.string (bs (tc::tr)),.int .i64 l,.int .i64 c,.slice a ks.length m] 27));go_enter Tryz.func74,Tryz.ntmps74
 go_wp2_with fail;refine (C0.out _ HB0.out).mono ?_;rintro e w1 ⟨rfl,hb1⟩;have HB1:=bc HB0 hb1;have HR1:=rk0 hb1;have hs1:=hb1.size
 try simp only [wSz] at hs1
 clear hb1 C0;obtain ⟨z0,z1,z2,z3,z4⟩:=r5 HR1.out;cases b0 with
 | false =>
   go_wp2_with fail;clear z0 z1 z2 z3 z4;go_ret;exact ⟨rfl,HB1.out⟩
 | true =>
   go_wp2_with fail;clear z0 z1 z2 z3 z4;go_ret;exact ⟨rfl,HB1.out⟩
theorem zaP (k:Int) (t:List UInt8) (l c:Int) (ks:List NM) (a:Option Addr) (m:Nat) (w:World) (_hw:bB w) (_hh:am aR w (.mk k t l c ks a m)) (_ht:(t:List UInt8).length≤1000000) (h:(k == 15)=false) :
  Calls Tryz.prog 74 #[aB k t l c (.slice a ks.length m)] w fun e w'=>e=.returned (.bool (mA (NM.mk k t l c ks a m).tr))∧Below w.heap.size w w':=by
 have bC:=nb;have HO:=hid (show mA (NM.mk k t l c ks a m).tr=false by
  rw [aq,zbx _ _ h]
 )
 rw [HO.out];clear HO;clear _hh _hw;have HB0:=hid (ag w (.cells #[.int .i64 k,.string (bs t),.int .i64 l,.int .i64 c,.slice a ks.length m] 27));go_enter Tryz.func74,Tryz.ntmps74
 go_wp2_with fail;go_ret;exact ⟨rfl,HB0.out⟩
theorem zdl  (l c:Int) (kx:Int) (tx:List UInt8) (lx cx:Int) (ksx:List NM) (ax:Option Addr) (mx:Nat) (a:Option Addr) (m:Nat) (w:World) (hw:bB w) (hh:am aR w (.mk 15 [] l c [(NM.mk kx tx lx cx ksx ax mx)] a m)) (_ht:([]:List UInt8).length≤1000000) (IHx:dO 86 mE (NM.mk kx tx lx cx ksx ax mx)) :
  Calls Tryz.prog 87 #[aB 15 [] l c (.slice a 1 m)] w fun e w'=>e=.returned (.bool (mA (NM.mk 15 [] l c [(NM.mk kx tx lx cx ksx ax mx)] a m).tr))∧Below w.heap.size w w':=by
 have bC:=nb;obtain ⟨kb,ko,rfl,bk,hm1,hlm,Fx,ggx⟩:=fp hh;have HO:=hid (show mA (NM.mk 15 [] l c [(NM.mk kx tx lx cx ksx ax mx)] (some ⟨kb,ko,none⟩) m).tr=mE (NM.mk kx tx lx cx ksx ax mx).tr by
  rw [aq,kI,ai,ar];simp [iA]
 )
 rw [HO.out];clear HO;have C0:=IHx.c hw ggx;generalize mE (NM.mk kx tx lx cx ksx ax mx).tr=b0 at *;clear hh hw IHx ggx;obtain ⟨yx0,yx1,yx2,yx3,yx4⟩:=aj Fx.out;have HB0:=hid (ag w (.cells #[.int .i64 15,.string (bs []),.int .i64 l,.int .i64 c,.slice (some ⟨kb,ko,none⟩) 1 m] 27));go_enter Tryz.func87,Tryz.ntmps87
 go_wp2_with fail;refine (C0.out _ HB0.out).mono ?_;rintro e w1 ⟨rfl,hb1⟩;have HB1:=bc HB0 hb1;have HR1:=rk0 hb1;have hs1:=hb1.size
 try simp only [wSz] at hs1
 clear hb1 C0;obtain ⟨z0,z1,z2,z3,z4⟩:=r5 HR1.out;obtain ⟨yx0,yx1,yx2,yx3,yx4⟩:=aj (Fx.out.keep (HB1.out.block kb bk));have hkl1:kb<w1.heap.size:=by omega
 go_wp2_with fail;clear z0 z1 z2 z3 z4 yx0 yx1 yx2 yx3 yx4;go_ret;exact ⟨rfl,HB1.out⟩
theorem zdd (tc:UInt8) (tr:List UInt8) (l c:Int) (kx:Int) (tx:List UInt8) (lx cx:Int) (ksx:List NM) (ax:Option Addr) (mx:Nat) (a:Option Addr) (m:Nat) (w:World) (hw:bB w) (hh:am aR w (.mk 15 (tc::tr) l c [(NM.mk kx tx lx cx ksx ax mx)] a m)) (ht:((tc::tr):List UInt8).length≤1000000) (IHx:dO 86 mE (NM.mk kx tx lx cx ksx ax mx)) :
  Calls Tryz.prog 87 #[aB 15 (tc::tr) l c (.slice a 1 m)] w fun e w'=>e=.returned (.bool (mA (NM.mk 15 (tc::tr) l c [(NM.mk kx tx lx cx ksx ax mx)] a m).tr))∧Below w.heap.size w w':=by
 have bC:=nb;obtain ⟨kb,ko,rfl,bk,hm1,hlm,Fx,ggx⟩:=fp hh;have HO:=hid (show mA (NM.mk 15 (tc::tr) l c [(NM.mk kx tx lx cx ksx ax mx)] (some ⟨kb,ko,none⟩) m).tr=(aM (tc::tr) && mE (NM.mk kx tx lx cx ksx ax mx).tr) by
  rw [aq,kI,ai,ar];simp [iA]
 )
 rw [HO.out];clear HO;have C0:=hid (fun W (hW:Below w.heap.size w W)=>cV (tc::tr) (by omega) W);have C1:=IHx.c hw ggx;generalize aM (tc::tr)=b0 at *;generalize mE (NM.mk kx tx lx cx ksx ax mx).tr=b1 at *;clear hh hw IHx ggx;have q:((tc::tr) == ([]:List UInt8))=false:=rfl;obtain ⟨yx0,yx1,yx2,yx3,yx4⟩:=aj Fx.out;have HB0:=hid (ag w (.cells #[.int .i64 15,.string (bs (tc::tr)),.int .i64 l,.int .i64 c,.slice (some ⟨kb,ko,none⟩) 1 m] 27));go_enter Tryz.func87,Tryz.ntmps87
 go_wp2_with fail;refine (C0.out _ HB0.out).mono ?_;rintro e w1 ⟨rfl,hb1⟩;have HB1:=bc HB0 hb1;have HR1:=rk0 hb1;have hs1:=hb1.size
 try simp only [wSz] at hs1
 clear hb1 C0;obtain ⟨z0,z1,z2,z3,z4⟩:=r5 HR1.out;obtain ⟨yx0,yx1,yx2,yx3,yx4⟩:=aj (Fx.out.keep (HB1.out.block kb bk));have hkl1:kb<w1.heap.size:=by omega
 cases b0 with
 | false =>
   go_wp2_with fail;clear z0 z1 z2 z3 z4 yx0 yx1 yx2 yx3 yx4;go_ret;exact ⟨rfl,HB1.out⟩
 | true =>
   go_wp2_with fail;clear z0 z1 z2 z3 z4 yx0 yx1 yx2 yx3 yx4;refine (C1.out _ HB1.out).mono ?_;rintro e w2 ⟨rfl,hb2⟩;have HB2:=bc HB1 hb2;have HR2:=rk HR1 hb2;have hs2:=hb2.size
   try simp only [wSz] at hs2
   clear hb2 C1;obtain ⟨z0,z1,z2,z3,z4⟩:=r5 HR2.out;obtain ⟨yx0,yx1,yx2,yx3,yx4⟩:=aj (Fx.out.keep (HB2.out.block kb bk));have hkl2:kb<w2.heap.size:=by omega
   go_wp2_with fail;clear z0 z1 z2 z3 z4 yx0 yx1 yx2 yx3 yx4;go_ret;exact ⟨rfl,HB2.out⟩
theorem zcS  (l c:Int) (ks:List NM) (a:Option Addr) (m:Nat) (w:World) (_hw:bB w) (hh:am aR w (.mk 15 [] l c ks a m)) (_ht:([]:List UInt8).length≤1000000) (hn:ks.length≠1) :
  Calls Tryz.prog 87 #[aB 15 [] l c (.slice a ks.length m)] w fun e w'=>e=.returned (.bool (mA (NM.mk 15 [] l c ks a m).tr))∧Below w.heap.size w w':=by
 have bC:=nb;have HO:=hid (show mA (NM.mk 15 [] l c ks a m).tr=false by
  rw [aq,kI]
  match ks,hn with
  | [],_=>simp [ar,iA]
  | [_],h=>simp at h
  | _::_::_,_=>simp [ai,iA]
 )
 rw [HO.out];clear HO;clear hh _hw;have hn1:((ks.length:Int) == 1)=false:=eqF (by omega);have HB0:=hid (ag w (.cells #[.int .i64 15,.string (bs []),.int .i64 l,.int .i64 c,.slice a ks.length m] 27));go_enter Tryz.func87,Tryz.ntmps87
 go_wp2_with fail;go_ret;exact ⟨rfl,HB0.out⟩
theorem zcI (tc:UInt8) (tr:List UInt8) (l c:Int) (ks:List NM) (a:Option Addr) (m:Nat) (w:World) (_hw:bB w) (hh:am aR w (.mk 15 (tc::tr) l c ks a m)) (ht:((tc::tr):List UInt8).length≤1000000) (hn:ks.length≠1) :
  Calls Tryz.prog 87 #[aB 15 (tc::tr) l c (.slice a ks.length m)] w fun e w'=>e=.returned (.bool (mA (NM.mk 15 (tc::tr) l c ks a m).tr))∧Below w.heap.size w w':=by
 have bC:=nb;have HO:=hid (show mA (NM.mk 15 (tc::tr) l c ks a m).tr=(aM (tc::tr) && false) by
  rw [aq,kI]
  match ks,hn with
  | [],_=>simp [ar,iA]
  | [_],h=>simp at h
  | _::_::_,_=>simp [ai,iA]
 )
 rw [HO.out];clear HO;have C0:=hid (fun W (hW:Below w.heap.size w W)=>cV (tc::tr) (by omega) W);generalize aM (tc::tr)=b0 at *;clear hh _hw;have hn1:((ks.length:Int) == 1)=false:=eqF (by omega);have q:((tc::tr) == ([]:List UInt8))=false:=rfl;have HB0:=hid (ag w (.cells #[.int .i64 15,.string (bs (tc::tr)),.int .i64 l,.int .i64 c,.slice a ks.length m] 27));go_enter Tryz.func87,Tryz.ntmps87
 go_wp2_with fail;refine (C0.out _ HB0.out).mono ?_;rintro e w1 ⟨rfl,hb1⟩;have HB1:=bc HB0 hb1;have HR1:=rk0 hb1;have hs1:=hb1.size
 try simp only [wSz] at hs1
 clear hb1 C0;obtain ⟨z0,z1,z2,z3,z4⟩:=r5 HR1.out;cases b0 with
 | false =>
   go_wp2_with fail;clear z0 z1 z2 z3 z4;go_ret;exact ⟨rfl,HB1.out⟩
 | true =>
   go_wp2_with fail;clear z0 z1 z2 z3 z4;go_ret;exact ⟨rfl,HB1.out⟩
theorem zcm (k:Int) (t:List UInt8) (l c:Int) (ks:List NM) (a:Option Addr) (m:Nat) (w:World) (_hw:bB w) (_hh:am aR w (.mk k t l c ks a m)) (_ht:(t:List UInt8).length≤1000000) (h:(k == 15)=false) :
  Calls Tryz.prog 87 #[aB k t l c (.slice a ks.length m)] w fun e w'=>e=.returned (.bool (mA (NM.mk k t l c ks a m).tr))∧Below w.heap.size w w':=by
 have bC:=nb;have HO:=hid (show mA (NM.mk k t l c ks a m).tr=false by
  rw [aq,zbx _ _ h]
 )
 rw [HO.out];clear HO;clear _hh _hw;have HB0:=hid (ag w (.cells #[.int .i64 k,.string (bs t),.int .i64 l,.int .i64 c,.slice a ks.length m] 27));go_enter Tryz.func87,Tryz.ntmps87
 go_wp2_with fail;go_ret;exact ⟨rfl,HB0.out⟩
theorem zcz (t:List UInt8) (l c:Int) (kx:Int) (tx:List UInt8) (lx cx:Int) (ksx:List NM) (ax:Option Addr) (mx:Nat) (a:Option Addr) (m:Nat) (w:World) (_hw:bB w) (hh:am aR w (.mk 7 t l c [(NM.mk kx tx lx cx ksx ax mx)] a m)) (ht:(t:List UInt8).length≤1000000) (h9:(kx == 9)=false) :
  Calls Tryz.prog 121 #[aB 7 t l c (.slice a 1 m)] w fun e w'=>e=.returned (.bool (mP (NM.mk 7 t l c [(NM.mk kx tx lx cx ksx ax mx)] a m).tr))∧Below w.heap.size w w':=by
 have bC:=nb;obtain ⟨kb,ko,rfl,bk,hm1,hlm,Fx,ggx⟩:=fp hh;have HO:=hid (show mP (NM.mk 7 t l c [(NM.mk kx tx lx cx ksx ax mx)] (some ⟨kb,ko,none⟩) m).tr=(aM t && false) by
  rw [aq,jl,ai,ar];unfold eT f5;simp only [aq,bX,h9,Bool.false_and,Bool.and_false]
 )
 rw [HO.out];clear HO;have C0:=hid (fun W (hW:Below w.heap.size w W)=>cV t (by omega) W);generalize aM t=b0 at *;clear hh _hw ggx;obtain ⟨yx0,yx1,yx2,yx3,yx4⟩:=aj Fx.out;have HB0:=hid (ag w (.cells #[.int .i64 7,.string (bs t),.int .i64 l,.int .i64 c,.slice (some ⟨kb,ko,none⟩) 1 m] 27));go_enter Tryz.func121,Tryz.ntmps121
 go_wp2_with fail;refine (C0.out _ HB0.out).mono ?_;rintro e w1 ⟨rfl,hb1⟩;have HB1:=bc HB0 hb1;have HR1:=rk0 hb1;have hs1:=hb1.size
 try simp only [wSz] at hs1
 clear hb1 C0;obtain ⟨z0,z1,z2,z3,z4⟩:=r5 HR1.out;obtain ⟨yx0,yx1,yx2,yx3,yx4⟩:=aj (Fx.out.keep (HB1.out.block kb bk));have hkl1:kb<w1.heap.size:=by omega
 cases b0 with
 | false =>
   go_wp2_with fail;clear z0 z1 z2 z3 z4 yx0 yx1 yx2 yx3 yx4;go_ret
   first
   | exact ⟨rfl,HB1.out⟩
   | exact ⟨rfl,zdy HB1.out (ag _ _)⟩
 | true =>
   go_wp2_with fail;clear z0 z1 z2 z3 z4 yx0 yx1 yx2 yx3 yx4;go_ret
   first
   | exact ⟨rfl,HB1.out⟩
   | exact ⟨rfl,zdy HB1.out (ag _ _)⟩
theorem zc9 (t:List UInt8) (l c:Int) (kx:Int) (tx:List UInt8) (lx cx:Int) (ksx:List NM) (ax:Option Addr) (mx:Nat) (a:Option Addr) (m:Nat) (w:World) (_hw:bB w) (hh:am aR w (.mk 7 t l c [(NM.mk kx tx lx cx ksx ax mx)] a m)) (ht:(t:List UInt8).length≤1000000) (h9:(kx == 9)=true) (hk:ksx≠[]) :
  Calls Tryz.prog 121 #[aB 7 t l c (.slice a 1 m)] w fun e w'=>e=.returned (.bool (mP (NM.mk 7 t l c [(NM.mk kx tx lx cx ksx ax mx)] a m).tr))∧Below w.heap.size w w':=by
 have bC:=nb;obtain ⟨kb,ko,rfl,bk,hm1,hlm,Fx,ggx⟩:=fp hh;have HO:=hid (show mP (NM.mk 7 t l c [(NM.mk kx tx lx cx ksx ax mx)] (some ⟨kb,ko,none⟩) m).tr=(aM t && (cY tx && false)) by
  have hke:(NM.trs ksx).isEmpty=false:=by cases ksx with | nil=>exact absurd rfl hk | cons z r=>rw [ai];rfl
  rw [aq,jl,ai,ar];unfold eT f5;simp only [aq,bX,jN,Tr.kids,h9,hke,Bool.true_and,Bool.and_false]
 )
 rw [HO.out];clear HO;have C0:=hid (fun W (hW:Below w.heap.size w W)=>cV t (by omega) W);have C1:=hid (fun W (hW:Below w.heap.size w W)=>kv tx W);generalize aM t=b0 at *;generalize cY tx=b1 at *;clear hh _hw ggx;have hk0:((ksx.length:Int) == 0)=false:=eqF (by have:=List.length_pos_iff.2 hk;omega);clear hk;obtain ⟨yx0,yx1,yx2,yx3,yx4⟩:=aj Fx.out;have HB0:=hid (ag w (.cells #[.int .i64 7,.string (bs t),.int .i64 l,.int .i64 c,.slice (some ⟨kb,ko,none⟩) 1 m] 27));go_enter Tryz.func121,Tryz.ntmps121
 go_wp2_with fail;refine (C0.out _ HB0.out).mono ?_;rintro e w1 ⟨rfl,hb1⟩;have HB1:=bc HB0 hb1;have HR1:=rk0 hb1;have hs1:=hb1.size
 try simp only [wSz] at hs1
 clear hb1 C0;obtain ⟨z0,z1,z2,z3,z4⟩:=r5 HR1.out;obtain ⟨yx0,yx1,yx2,yx3,yx4⟩:=aj (Fx.out.keep (HB1.out.block kb bk));have hkl1:kb<w1.heap.size:=by omega
 cases b0 with
 | false =>
   go_wp2_with fail;clear z0 z1 z2 z3 z4 yx0 yx1 yx2 yx3 yx4;go_ret
   first
   | exact ⟨rfl,HB1.out⟩
   | exact ⟨rfl,zdy HB1.out (ag _ _)⟩
 | true =>
   go_wp2_with fail;clear z0 z1 z2 z3 z4 yx0 yx1 yx2 yx3 yx4;refine (C1.out _ HB1.out).mono ?_;rintro e w2 ⟨rfl,hb2⟩;have HB2:=bc HB1 hb2;have HR2:=rk HR1 hb2;have hs2:=hb2.size
   try simp only [wSz] at hs2
   clear hb2 C1;obtain ⟨z0,z1,z2,z3,z4⟩:=r5 HR2.out;obtain ⟨yx0,yx1,yx2,yx3,yx4⟩:=aj (Fx.out.keep (HB2.out.block kb bk));have hkl2:kb<w2.heap.size:=by omega
   cases b1 with
   | false =>
     go_wp2_with fail;clear z0 z1 z2 z3 z4 yx0 yx1 yx2 yx3 yx4;go_ret
     first
     | exact ⟨rfl,HB2.out⟩
     | exact ⟨rfl,zdy HB2.out (ag _ _)⟩
   | true =>
     go_wp2_with fail;clear z0 z1 z2 z3 z4 yx0 yx1 yx2 yx3 yx4;go_ret
     first
     | exact ⟨rfl,HB2.out⟩
     | exact ⟨rfl,zdy HB2.out (ag _ _)⟩
theorem zcE (t:List UInt8) (l c:Int) (kx:Int) (tx:List UInt8) (lx cx:Int) (ksx:List NM) (ax:Option Addr) (mx:Nat) (a:Option Addr) (m:Nat) (w:World) (_hw:bB w) (hh:am aR w (.mk 7 t l c [(NM.mk kx tx lx cx ksx ax mx)] a m)) (ht:(t:List UInt8).length≤1000000) (h9:(kx == 9)=true) (hk:ksx=[]) :
  Calls Tryz.prog 121 #[aB 7 t l c (.slice a 1 m)] w fun e w'=>e=.returned (.bool (mP (NM.mk 7 t l c [(NM.mk kx tx lx cx ksx ax mx)] a m).tr))∧Below w.heap.size w w':=by
 have bC:=nb;obtain ⟨kb,ko,rfl,bk,hm1,hlm,Fx,ggx⟩:=fp hh;have HO:=hid (show mP (NM.mk 7 t l c [(NM.mk kx tx lx cx ksx ax mx)] (some ⟨kb,ko,none⟩) m).tr=(aM t && cY tx) by
  rw [aq,jl,ai,ar];unfold eT f5;subst hk;simp only [aq,bX,jN,Tr.kids,h9,ar,Bool.true_and,List.isEmpty_nil,Bool.and_true]
 )
 rw [HO.out];clear HO;have C0:=hid (fun W (hW:Below w.heap.size w W)=>cV t (by omega) W);have C1:=hid (fun W (hW:Below w.heap.size w W)=>kv tx W);generalize aM t=b0 at *;generalize cY tx=b1 at *;clear hh _hw ggx;have hk0:((ksx.length:Int) == 0)=true:=eqT (by rw [hk];rfl);clear hk;obtain ⟨yx0,yx1,yx2,yx3,yx4⟩:=aj Fx.out;have HB0:=hid (ag w (.cells #[.int .i64 7,.string (bs t),.int .i64 l,.int .i64 c,.slice (some ⟨kb,ko,none⟩) 1 m] 27));go_enter Tryz.func121,Tryz.ntmps121
 go_wp2_with fail;refine (C0.out _ HB0.out).mono ?_;rintro e w1 ⟨rfl,hb1⟩;have HB1:=bc HB0 hb1;have HR1:=rk0 hb1;have hs1:=hb1.size
 try simp only [wSz] at hs1
 clear hb1 C0;obtain ⟨z0,z1,z2,z3,z4⟩:=r5 HR1.out;obtain ⟨yx0,yx1,yx2,yx3,yx4⟩:=aj (Fx.out.keep (HB1.out.block kb bk));have hkl1:kb<w1.heap.size:=by omega
 cases b0 with
 | false =>
   go_wp2_with fail;clear z0 z1 z2 z3 z4 yx0 yx1 yx2 yx3 yx4;go_ret
   first
   | exact ⟨rfl,HB1.out⟩
   | exact ⟨rfl,zdy HB1.out (ag _ _)⟩
 | true =>
   go_wp2_with fail;clear z0 z1 z2 z3 z4 yx0 yx1 yx2 yx3 yx4;refine (C1.out _ HB1.out).mono ?_;rintro e w2 ⟨rfl,hb2⟩;have HB2:=bc HB1 hb2;have HR2:=rk HR1 hb2;have hs2:=hb2.size
   try simp only [wSz] at hs2
   clear hb2 C1;obtain ⟨z0,z1,z2,z3,z4⟩:=r5 HR2.out;obtain ⟨yx0,yx1,yx2,yx3,yx4⟩:=aj (Fx.out.keep (HB2.out.block kb bk));have hkl2:kb<w2.heap.size:=by omega
   cases b1 with
   | false =>
     go_wp2_with fail;clear z0 z1 z2 z3 z4 yx0 yx1 yx2 yx3 yx4;go_ret
     first
     | exact ⟨rfl,HB2.out⟩
     | exact ⟨rfl,zdy HB2.out (ag _ _)⟩
   | true =>
     go_wp2_with fail;clear z0 z1 z2 z3 z4 yx0 yx1 yx2 yx3 yx4;go_ret
     first
     | exact ⟨rfl,HB2.out⟩
     | exact ⟨rfl,zdy HB2.out (ag _ _)⟩
theorem zcF (t:List UInt8) (l c:Int) (kx:Int) (tx:List UInt8) (lx cx:Int) (ksx:List NM) (ax:Option Addr) (mx:Nat) (ky:Int) (ty:List UInt8) (ly cy:Int) (ksy:List NM) (ay:Option Addr) (my:Nat) (a:Option Addr) (m:Nat) (w:World) (_hw:bB w) (hh:am aR w (.mk 7 t l c [(NM.mk kx tx lx cx ksx ax mx),(NM.mk ky ty ly cy ksy ay my)] a m)) (ht:(t:List UInt8).length≤1000000) (h9:(kx == 9)=false) :
  Calls Tryz.prog 121 #[aB 7 t l c (.slice a 2 m)] w fun e w'=>e=.returned (.bool (mP (NM.mk 7 t l c [(NM.mk kx tx lx cx ksx ax mx),(NM.mk ky ty ly cy ksy ay my)] a m).tr))∧Below w.heap.size w w':=by
 have bC:=nb;obtain ⟨kb,ko,rfl,bk,hm1,hlm,Fx,ggx,Fy,ggy⟩:=iM hh;have HO:=hid (show mP (NM.mk 7 t l c [(NM.mk kx tx lx cx ksx ax mx),(NM.mk ky ty ly cy ksy ay my)] (some ⟨kb,ko,none⟩) m).tr=(aM t && false) by
  rw [aq,jl,ai,ai,ar];unfold eT f5;simp only [aq,bX,h9,Bool.false_and,Bool.and_false]
 )
 rw [HO.out];clear HO;have C0:=hid (fun W (hW:Below w.heap.size w W)=>cV t (by omega) W);generalize aM t=b0 at *;clear hh _hw ggx ggy;obtain ⟨yx0,yx1,yx2,yx3,yx4⟩:=aj Fx.out;obtain ⟨yy0,yy1,yy2,yy3,yy4⟩:=aj Fy.out;have HB0:=hid (ag w (.cells #[.int .i64 7,.string (bs t),.int .i64 l,.int .i64 c,.slice (some ⟨kb,ko,none⟩) 2 m] 27));go_enter Tryz.func121,Tryz.ntmps121
 go_wp2_with fail;refine (C0.out _ HB0.out).mono ?_;rintro e w1 ⟨rfl,hb1⟩;have HB1:=bc HB0 hb1;have HR1:=rk0 hb1;have hs1:=hb1.size
 try simp only [wSz] at hs1
 clear hb1 C0;obtain ⟨z0,z1,z2,z3,z4⟩:=r5 HR1.out;obtain ⟨yx0,yx1,yx2,yx3,yx4⟩:=aj (Fx.out.keep (HB1.out.block kb bk));obtain ⟨yy0,yy1,yy2,yy3,yy4⟩:=aj (Fy.out.keep (HB1.out.block kb bk));have hkl1:kb<w1.heap.size:=by omega
 cases b0 with
 | false =>
   go_wp2_with fail;clear z0 z1 z2 z3 z4 yx0 yx1 yx2 yx3 yx4 yy0 yy1 yy2 yy3 yy4;go_ret
   first
   | exact ⟨rfl,HB1.out⟩
   | exact ⟨rfl,zdy HB1.out (ag _ _)⟩
 | true =>
   go_wp2_with fail;clear z0 z1 z2 z3 z4 yx0 yx1 yx2 yx3 yx4 yy0 yy1 yy2 yy3 yy4;go_ret
   first
   | exact ⟨rfl,HB1.out⟩
   | exact ⟨rfl,zdy HB1.out (ag _ _)⟩
theorem zcH (t:List UInt8) (l c:Int) (kx:Int) (tx:List UInt8) (lx cx:Int) (ksx:List NM) (ax:Option Addr) (mx:Nat) (ky:Int) (ty:List UInt8) (ly cy:Int) (ksy:List NM) (ay:Option Addr) (my:Nat) (a:Option Addr) (m:Nat) (w:World) (_hw:bB w) (hh:am aR w (.mk 7 t l c [(NM.mk kx tx lx cx ksx ax mx),(NM.mk ky ty ly cy ksy ay my)] a m)) (ht:(t:List UInt8).length≤1000000) (h9:(kx == 9)=true) (hk:ksx≠[]) :
  Calls Tryz.prog 121 #[aB 7 t l c (.slice a 2 m)] w fun e w'=>e=.returned (.bool (mP (NM.mk 7 t l c [(NM.mk kx tx lx cx ksx ax mx),(NM.mk ky ty ly cy ksy ay my)] a m).tr))∧Below w.heap.size w w':=by
 have bC:=nb;obtain ⟨kb,ko,rfl,bk,hm1,hlm,Fx,ggx,Fy,ggy⟩:=iM hh;have HO:=hid (show mP (NM.mk 7 t l c [(NM.mk kx tx lx cx ksx ax mx),(NM.mk ky ty ly cy ksy ay my)] (some ⟨kb,ko,none⟩) m).tr=(aM t && (cY tx && false)) by
  have hke:(NM.trs ksx).isEmpty=false:=by cases ksx with | nil=>exact absurd rfl hk | cons z r=>rw [ai];rfl
  rw [aq,jl,ai,ai,ar];unfold eT f5;simp only [aq,bX,jN,Tr.kids,h9,hke,Bool.true_and,Bool.and_false,Bool.false_and]
 )
 rw [HO.out];clear HO;have C0:=hid (fun W (hW:Below w.heap.size w W)=>cV t (by omega) W);have C1:=hid (fun W (hW:Below w.heap.size w W)=>kv tx W);generalize aM t=b0 at *;generalize cY tx=b1 at *;clear hh _hw ggx ggy;have hk0:((ksx.length:Int) == 0)=false:=eqF (by have:=List.length_pos_iff.2 hk;omega);clear hk;obtain ⟨yx0,yx1,yx2,yx3,yx4⟩:=aj Fx.out;obtain ⟨yy0,yy1,yy2,yy3,yy4⟩:=aj Fy.out;have HB0:=hid (ag w (.cells #[.int .i64 7,.string (bs t),.int .i64 l,.int .i64 c,.slice (some ⟨kb,ko,none⟩) 2 m] 27));go_enter Tryz.func121,Tryz.ntmps121
 go_wp2_with fail;refine (C0.out _ HB0.out).mono ?_;rintro e w1 ⟨rfl,hb1⟩;have HB1:=bc HB0 hb1;have HR1:=rk0 hb1;have hs1:=hb1.size
 try simp only [wSz] at hs1
 clear hb1 C0;obtain ⟨z0,z1,z2,z3,z4⟩:=r5 HR1.out;obtain ⟨yx0,yx1,yx2,yx3,yx4⟩:=aj (Fx.out.keep (HB1.out.block kb bk));obtain ⟨yy0,yy1,yy2,yy3,yy4⟩:=aj (Fy.out.keep (HB1.out.block kb bk));have hkl1:kb<w1.heap.size:=by omega
 cases b0 with
 | false =>
   go_wp2_with fail;clear z0 z1 z2 z3 z4 yx0 yx1 yx2 yx3 yx4 yy0 yy1 yy2 yy3 yy4;go_ret
   first
   | exact ⟨rfl,HB1.out⟩
   | exact ⟨rfl,zdy HB1.out (ag _ _)⟩
 | true =>
   go_wp2_with fail;clear z0 z1 z2 z3 z4 yx0 yx1 yx2 yx3 yx4 yy0 yy1 yy2 yy3 yy4;refine (C1.out _ HB1.out).mono ?_;rintro e w2 ⟨rfl,hb2⟩;have HB2:=bc HB1 hb2;have HR2:=rk HR1 hb2;have hs2:=hb2.size
   try simp only [wSz] at hs2
   clear hb2 C1;obtain ⟨z0,z1,z2,z3,z4⟩:=r5 HR2.out;obtain ⟨yx0,yx1,yx2,yx3,yx4⟩:=aj (Fx.out.keep (HB2.out.block kb bk));obtain ⟨yy0,yy1,yy2,yy3,yy4⟩:=aj (Fy.out.keep (HB2.out.block kb bk));have hkl2:kb<w2.heap.size:=by omega
   cases b1 with
   | false =>
     go_wp2_with fail;clear z0 z1 z2 z3 z4 yx0 yx1 yx2 yx3 yx4 yy0 yy1 yy2 yy3 yy4;go_ret
     first
     | exact ⟨rfl,HB2.out⟩
     | exact ⟨rfl,zdy HB2.out (ag _ _)⟩
   | true =>
     go_wp2_with fail;clear z0 z1 z2 z3 z4 yx0 yx1 yx2 yx3 yx4 yy0 yy1 yy2 yy3 yy4;go_ret
     first
     | exact ⟨rfl,HB2.out⟩
     | exact ⟨rfl,zdy HB2.out (ag _ _)⟩
theorem zco (t:List UInt8) (l c:Int) (kx:Int) (tx:List UInt8) (lx cx:Int) (ksx:List NM) (ax:Option Addr) (mx:Nat) (ky:Int) (ty:List UInt8) (ly cy:Int) (ksy:List NM) (ay:Option Addr) (my:Nat) (a:Option Addr) (m:Nat) (w:World) (hw:bB w) (hh:am aR w (.mk 7 t l c [(NM.mk kx tx lx cx ksx ax mx),(NM.mk ky ty ly cy ksy ay my)] a m)) (ht:(t:List UInt8).length≤1000000) (h9:(kx == 9)=true) (hk:ksx=[]) (IHy:dO 86 mE (NM.mk ky ty ly cy ksy ay my)) :
  Calls Tryz.prog 121 #[aB 7 t l c (.slice a 2 m)] w fun e w'=>e=.returned (.bool (mP (NM.mk 7 t l c [(NM.mk kx tx lx cx ksx ax mx),(NM.mk ky ty ly cy ksy ay my)] a m).tr))∧Below w.heap.size w w':=by
 have bC:=nb;obtain ⟨kb,ko,rfl,bk,hm1,hlm,Fx,ggx,Fy,ggy⟩:=iM hh;have HO:=hid (show mP (NM.mk 7 t l c [(NM.mk kx tx lx cx ksx ax mx),(NM.mk ky ty ly cy ksy ay my)] (some ⟨kb,ko,none⟩) m).tr=(aM t && (cY tx && mE (NM.mk ky ty ly cy ksy ay my).tr)) by
  rw [aq,jl,ai,ai,ar];unfold eT f5;subst hk;simp only [aq,bX,jN,Tr.kids,h9,ar,Bool.true_and,List.isEmpty_nil,Bool.and_true]
 )
 rw [HO.out];clear HO;have C0:=hid (fun W (hW:Below w.heap.size w W)=>cV t (by omega) W);have C1:=hid (fun W (hW:Below w.heap.size w W)=>kv tx W);have C2:=IHy.c hw ggy;generalize aM t=b0 at *;generalize cY tx=b1 at *;generalize mE (NM.mk ky ty ly cy ksy ay my).tr=b2 at *;clear hh hw ggx IHy ggy;have hk0:((ksx.length:Int) == 0)=true:=eqT (by rw [hk];rfl);clear hk;obtain ⟨yx0,yx1,yx2,yx3,yx4⟩:=aj Fx.out;obtain ⟨yy0,yy1,yy2,yy3,yy4⟩:=aj Fy.out;have HB0:=hid (ag w (.cells #[.int .i64 7,.string (bs t),.int .i64 l,.int .i64 c,.slice (some ⟨kb,ko,none⟩) 2 m] 27));go_enter Tryz.func121,Tryz.ntmps121
 go_wp2_with fail;refine (C0.out _ HB0.out).mono ?_;rintro e w1 ⟨rfl,hb1⟩;have HB1:=bc HB0 hb1;have HR1:=rk0 hb1;have hs1:=hb1.size
 try simp only [wSz] at hs1
 clear hb1 C0;obtain ⟨z0,z1,z2,z3,z4⟩:=r5 HR1.out;obtain ⟨yx0,yx1,yx2,yx3,yx4⟩:=aj (Fx.out.keep (HB1.out.block kb bk));obtain ⟨yy0,yy1,yy2,yy3,yy4⟩:=aj (Fy.out.keep (HB1.out.block kb bk));have hkl1:kb<w1.heap.size:=by omega
 cases b0 with
 | false =>
   go_wp2_with fail;clear z0 z1 z2 z3 z4 yx0 yx1 yx2 yx3 yx4 yy0 yy1 yy2 yy3 yy4;go_ret
   first
   | exact ⟨rfl,HB1.out⟩
   | exact ⟨rfl,zdy HB1.out (ag _ _)⟩
 | true =>
   go_wp2_with fail;clear z0 z1 z2 z3 z4 yx0 yx1 yx2 yx3 yx4 yy0 yy1 yy2 yy3 yy4;refine (C1.out _ HB1.out).mono ?_;rintro e w2 ⟨rfl,hb2⟩;have HB2:=bc HB1 hb2;have HR2:=rk HR1 hb2;have hs2:=hb2.size
   try simp only [wSz] at hs2
   clear hb2 C1;obtain ⟨z0,z1,z2,z3,z4⟩:=r5 HR2.out;obtain ⟨yx0,yx1,yx2,yx3,yx4⟩:=aj (Fx.out.keep (HB2.out.block kb bk));obtain ⟨yy0,yy1,yy2,yy3,yy4⟩:=aj (Fy.out.keep (HB2.out.block kb bk));have hkl2:kb<w2.heap.size:=by omega
   cases b1 with
   | false =>
     go_wp2_with fail;clear z0 z1 z2 z3 z4 yx0 yx1 yx2 yx3 yx4 yy0 yy1 yy2 yy3 yy4;go_ret
     first
     | exact ⟨rfl,HB2.out⟩
     | exact ⟨rfl,zdy HB2.out (ag _ _)⟩
   | true =>
     go_wp2_with fail;clear z0 z1 z2 z3 z4 yx0 yx1 yx2 yx3 yx4 yy0 yy1 yy2 yy3 yy4;refine (C2.out _ HB2.out).mono ?_;rintro e w3 ⟨rfl,hb3⟩;have HB3:=bc HB2 hb3;have HR3:=rk HR2 hb3;have hs3:=hb3.size
     try simp only [wSz] at hs3
     clear hb3 C2;obtain ⟨z0,z1,z2,z3,z4⟩:=r5 HR3.out;obtain ⟨yx0,yx1,yx2,yx3,yx4⟩:=aj (Fx.out.keep (HB3.out.block kb bk));obtain ⟨yy0,yy1,yy2,yy3,yy4⟩:=aj (Fy.out.keep (HB3.out.block kb bk));have hkl3:kb<w3.heap.size:=by omega
     go_wp2_with fail;clear z0 z1 z2 z3 z4 yx0 yx1 yx2 yx3 yx4 yy0 yy1 yy2 yy3 yy4;go_ret
     first
     | exact ⟨rfl,HB3.out⟩
     | exact ⟨rfl,zdy HB3.out (ag _ _)⟩
theorem zdm (t:List UInt8) (l c:Int) (ks:List NM) (a:Option Addr) (m:Nat) (w:World) (_hw:bB w) (_hh:am aR w (.mk 7 t l c ks a m)) (ht:(t:List UInt8).length≤1000000) (hn:ks=[]) :
  Calls Tryz.prog 121 #[aB 7 t l c (.slice a ks.length m)] w fun e w'=>e=.returned (.bool (mP (NM.mk 7 t l c ks a m).tr))∧Below w.heap.size w w':=by
 have bC:=nb;have HO:=hid (show mP (NM.mk 7 t l c ks a m).tr=(aM t && false) by
  rw [aq,jl,hn,ar];rfl
 )
 rw [HO.out];clear HO;have C0:=hid (fun W (hW:Below w.heap.size w W)=>cV t (by omega) W);generalize aM t=b0 at *;clear _hh _hw;have hn1:((ks.length:Int)<1):=by rw [hn];simp
 clear hn;have HB0:=hid (ag w (.cells #[.int .i64 7,.string (bs t),.int .i64 l,.int .i64 c,.slice a ks.length m] 27));go_enter Tryz.func121,Tryz.ntmps121
 go_wp2_with fail;refine (C0.out _ HB0.out).mono ?_;rintro e w1 ⟨rfl,hb1⟩;have HB1:=bc HB0 hb1;have HR1:=rk0 hb1;have hs1:=hb1.size
 try simp only [wSz] at hs1
 clear hb1 C0;obtain ⟨z0,z1,z2,z3,z4⟩:=r5 HR1.out;cases b0 with
 | false =>
   go_wp2_with fail;clear z0 z1 z2 z3 z4;go_ret
   first
   | exact ⟨rfl,HB1.out⟩
   | exact ⟨rfl,zdy HB1.out (ag _ _)⟩
 | true =>
   go_wp2_with fail;clear z0 z1 z2 z3 z4;go_ret
   first
   | exact ⟨rfl,HB1.out⟩
   | exact ⟨rfl,zdy HB1.out (ag _ _)⟩
theorem zdx (t:List UInt8) (l c:Int) (ks:List NM) (a:Option Addr) (m:Nat) (w:World) (_hw:bB w) (hh:am aR w (.mk 7 t l c ks a m)) (ht:(t:List UInt8).length≤1000000) (hn:2<ks.length) :
  Calls Tryz.prog 121 #[aB 7 t l c (.slice a ks.length m)] w fun e w'=>e=.returned (.bool (mP (NM.mk 7 t l c ks a m).tr))∧Below w.heap.size w w':=by
 have bC:=nb;have HO:=hid (show mP (NM.mk 7 t l c ks a m).tr=(aM t && false) by
  rw [aq,jl]
  match ks,hn with
  | _::_::_::_,_=>simp [ai,eT]
 )
 rw [HO.out];clear HO;have C0:=hid (fun W (hW:Below w.heap.size w W)=>cV t (by omega) W);generalize aM t=b0 at *;clear hh _hw;have hn1:¬ ((ks.length:Int)<1):=by omega
 have hn2:((2:Int)<(ks.length:Int)):=by omega
 have HB0:=hid (ag w (.cells #[.int .i64 7,.string (bs t),.int .i64 l,.int .i64 c,.slice a ks.length m] 27));go_enter Tryz.func121,Tryz.ntmps121
 go_wp2_with fail;refine (C0.out _ HB0.out).mono ?_;rintro e w1 ⟨rfl,hb1⟩;have HB1:=bc HB0 hb1;have HR1:=rk0 hb1;have hs1:=hb1.size
 try simp only [wSz] at hs1
 clear hb1 C0;obtain ⟨z0,z1,z2,z3,z4⟩:=r5 HR1.out;cases b0 with
 | false =>
   go_wp2_with fail;clear z0 z1 z2 z3 z4;go_ret
   first
   | exact ⟨rfl,HB1.out⟩
   | exact ⟨rfl,zdy HB1.out (ag _ _)⟩
 | true =>
   go_wp2_with fail;clear z0 z1 z2 z3 z4;go_ret
   first
   | exact ⟨rfl,HB1.out⟩
   | exact ⟨rfl,zdy HB1.out (ag _ _)⟩
theorem zcA (k:Int) (t:List UInt8) (l c:Int) (ks:List NM) (a:Option Addr) (m:Nat) (w:World) (_hw:bB w) (_hh:am aR w (.mk k t l c ks a m)) (_ht:(t:List UInt8).length≤1000000) (h:(k == 7)=false) :
  Calls Tryz.prog 121 #[aB k t l c (.slice a ks.length m)] w fun e w'=>e=.returned (.bool (mP (NM.mk k t l c ks a m).tr))∧Below w.heap.size w w':=by
 have bC:=nb;have HO:=hid (show mP (NM.mk k t l c ks a m).tr=false by
  rw [aq,zbw _ _ h]
 )
 rw [HO.out];clear HO;clear _hh _hw;have hne:(k != 7)=true:=by simpa using h
 have HB0:=hid (ag w (.cells #[.int .i64 k,.string (bs t),.int .i64 l,.int .i64 c,.slice a ks.length m] 27));go_enter Tryz.func121,Tryz.ntmps121
 go_wp2_with fail;go_ret
 first
 | exact ⟨rfl,HB0.out⟩
 | exact ⟨rfl,zdy HB0.out (ag _ _)⟩
end Go.Proofs.YtfgiihpopngbkaaGreatDoor
