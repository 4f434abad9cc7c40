/- Lemmas and walks that the statement needs: NodeSame, Weight, WeightLaw, Alive, PlacesPlain, LawDown, PlacesTree, ParseCode, CodeRead. -/
import Derived.Test.YtfgiihpopngbkaaGreatDoorM05
import Derived.Test.YtfgiihpopngbkaaGreatDoorM26
import Derived.Test.YtfgiihpopngbkaaGreatDoorM13
import Derived.Test.YtfgiihpopngbkaaGreatDoorM06
import Derived.Test.YtfgiihpopngbkaaGreatDoorM04
namespace Go.Proofs.YtfgiihpopngbkaaGreatDoor
set_option maxRecDepth 100000
open Go.RowKit
open Nat renaming lt_of_lt_of_le→nL,le_trans→nT
mutual
def sameN:Tr→Tr→Bool
 | .mk k t l,.mk k' t' l'=>decide (k=k') && decide (t=t') && sameNs l l'
def sameNs:List Tr→List Tr→Bool
 | [],[]=>true
 | x::r,y::s=>sameN x y && sameNs r s
 | [],_::_=>false
 | _::_,[]=>false
end
theorem sameN_mk (k:Int) (t:List UInt8) (l:List Tr) (k':Int) (t':List UInt8) (l':List Tr):sameN (.mk k t l) (.mk k' t' l')=(decide (k=k') && decide (t=t') && sameNs l l'):=by rw [sameN]
theorem sameNs_nil:sameNs [] []=true:=by rw [sameNs]
theorem sameNs_cons (x y:Tr) (r s:List Tr):sameNs (x::r) (y::s)=(sameN x y && sameNs r s):=by rw [sameNs]
theorem sameNs_nc (y:Tr) (s:List Tr):sameNs [] (y::s)=false:=by rw [sameNs]
theorem sameNs_cn (y:Tr) (s:List Tr):sameNs (y::s) []=false:=by rw [sameNs]
mutual
theorem sameN_eq:∀ {x y:Tr},sameN x y=true ↔ x=y
 | .mk k t l,.mk k' t' l'=>by
   rw [sameN_mk,Bool.and_eq_true,Bool.and_eq_true,decide_eq_true_eq,decide_eq_true_eq,sameNs_eq (x:=l) (y:=l')];constructor
   ·rintro ⟨⟨rfl,rfl⟩,rfl⟩;rfl
   ·intro h;cases h;exact ⟨⟨rfl,rfl⟩,rfl⟩
theorem sameNs_eq:∀ {x y:List Tr},sameNs x y=true ↔ x=y
 | [],[]=>by rw [sameNs_nil];simp
 | x::r,y::s=>by
   rw [sameNs_cons,Bool.and_eq_true,sameN_eq (x:=x) (y:=y),sameNs_eq (x:=r) (y:=s)];constructor
   ·rintro ⟨rfl,rfl⟩;rfl
   ·intro h;cases h;exact ⟨rfl,rfl⟩
 | [],_::_=>by rw [sameNs_nc];simp
 | _::_,[]=>by rw [sameNs_cn];simp
end
theorem sameNs_bad:∀ {l l':List NM} (j:Nat) (h:j<l.length) (h':j<l'.length),sameN l[j].tr l'[j].tr=false→sameNs (NM.trs l) (NM.trs l')=false:=by
 intro l l' j h h' hs;cases e:sameNs (NM.trs l) (NM.trs l') with
 | false=>rfl
 | true =>
   have q:=sameNs_eq.1 e;rw [ntrs_map,ntrs_map] at q;have q1:(l.map NM.tr)[j]? = (l'.map NM.tr)[j]?:=by rw [q]
   rw [List.getElem?_map,List.getElem?_map,List.getElem?_eq_getElem h,List.getElem?_eq_getElem h'] at q1;simp only [Option.map_some,Option.some.injEq] at q1;rw [sameN_eq.2 q1] at hs;cases hs
theorem sameNs_take {l l':List NM} (j:Nat) (h:j<l.length) (h':j<l'.length) (ht:sameNs (NM.trs (l.take j)) (NM.trs (l'.take j))=true) (hs:sameN l[j].tr l'[j].tr=true):sameNs (NM.trs (l.take (j+1))) (NM.trs (l'.take (j+1)))=true:=by
 rw [sameNs_eq] at ht ⊢;rw [ntrs_map,ntrs_map] at ht ⊢;rw [List.take_add_one,List.take_add_one,List.map_append,List.map_append,ht,List.getElem?_eq_getElem h,List.getElem?_eq_getElem h'];simp only [Option.toList_some,List.map_cons,List.map_nil];rw [sameN_eq.1 hs]
theorem sameNs_len {l l':List NM} (h:l.length≠l'.length):sameNs (NM.trs l) (NM.trs l')=false:=by
 cases e:sameNs (NM.trs l) (NM.trs l') with
 | false=>rfl
 | true=>exact absurd (by rw [← ntrs_len l,← ntrs_len l',sameNs_eq.1 e]) h
theorem below_new2 (w:World) (o o':Obj):Below w.heap.size w ((w.alloc o).alloc o'):=(below_new w o).alloc (by simp) _
structure BoxN (w:World) (b:Nat) (k:Int) (t:List UInt8) (l c:Int) (sl:Value):Prop where
 c0:w.cell? ⟨b,0,none⟩=some (.int .i64 k)
 c1:w.cell? ⟨b,1,none⟩=some (.string (bs t))
 c2:w.cell? ⟨b,2,none⟩=some (.int .i64 l)
 c3:w.cell? ⟨b,3,none⟩=some (.int .i64 c)
 c4:w.cell? ⟨b,4,none⟩=some sl
theorem boxN_new (w:World) (k:Int) (t:List UInt8) (l c:Int) (sl:Value) (e:TypeId) (fr:Nat × Nat):BoxN (w.alloc (.cells #[.int .i64 k,.string (bs t),.int .i64 l,.int .i64 c,sl] e fr)) w.heap.size k t l c sl :=
 ⟨by rw [World.cell?_alloc_mark];rfl,by rw [World.cell?_alloc_mark];rfl,by rw [World.cell?_alloc_mark];rfl,by rw [World.cell?_alloc_mark];rfl,by rw [World.cell?_alloc_mark];rfl⟩
theorem BoxN.keeps {w w':World} {b:Nat} {k l c:Int} {t:List UInt8} {sl:Value} (h:BoxN w b k t l c sl) (hb:Below w.heap.size w w'):BoxN w' b k t l c sl :=
 ⟨keeps_of hb h.c0,keeps_of hb h.c1,keeps_of hb h.c2,keeps_of hb h.c3,keeps_of hb h.c4⟩
theorem boxN_two (w:World) (k:Int) (t:List UInt8) (l c:Int) (sl:Value) (o:Obj) (e:TypeId) (fr:Nat × Nat):BoxN ((w.alloc (.cells #[.int .i64 k,.string (bs t),.int .i64 l,.int .i64 c,sl] e fr)).alloc o) w.heap.size k t l c sl :=
 (boxN_new w k t l c sl e fr).keeps (below_new _ o)
theorem boxN_next (w:World) (k:Int) (t:List UInt8) (l c:Int) (sl:Value) (o:Obj) (e:TypeId) (fr:Nat × Nat):BoxN ((w.alloc o).alloc (.cells #[.int .i64 k,.string (bs t),.int .i64 l,.int .i64 c,sl] e fr)) (w.heap.size+1) k t l c sl:=by
 have:=boxN_new (w.alloc o) k t l c sl e fr;simpa using this
def NSameC (N:Nat):Prop:=∀ (k:Int) (t:List UInt8) (l c:Int) (ks:List NM) (a:Option Addr) (m:Nat) (k':Int) (t':List UInt8) (l' c':Int) (ks':List NM) (a':Option Addr) (m':Nat),(NM.mk k t l c ks a m).hi≤N→∀ w,HeldN AnyB w (.mk k t l c ks a m)→HeldN AnyB w (.mk k' t' l' c' ks' a' m') →
    Calls Tryz.prog 14 #[nodeV k t l c (.slice a ks.length m),nodeV k' t' l' c' (.slice a' ks'.length m')] w fun e w'=>e=.returned (.bool (sameN (NM.mk k t l c ks a m).tr (NM.mk k' t' l' c' ks' a' m').tr))∧Below w.heap.size w w'
set_option maxHeartbeats 2000000 in
theorem equal_nodes (l l':List NM) (lv lv':Value) (w:World) (hl:KidsAt w lv l) (hl':KidsAt w lv' l') 
  (HC:Hid (∀ j (hj:j<l.length) (hj':j<l'.length) W,Below w.heap.size w W→Calls Tryz.prog 14 #[nodeV l[j].k l[j].t l[j].l l[j].c l[j].sl,nodeV l'[j].k l'[j].t l'[j].l l'[j].c l'[j].sl] W fun e w'=>e=.returned (.bool (sameN l[j].tr l'[j].tr))∧Below W.heap.size W w')) :
  Calls Tryz.prog 28 #[lv,lv',.func (.func 14) #[] #[]] w fun e w'=>e=.returned (.bool (sameNs (NM.trs l) (NM.trs l')))∧Below w.heap.size w w':=by
 have HS:=hid (fun W (hW:Below w.heap.size w W)=>hl.below hW);have HS':=hid (fun W (hW:Below w.heap.size w W)=>hl'.below hW);obtain ⟨la,lc,rfl,hlc,hlm,-⟩:=hl.nodes;obtain ⟨la',lc',rfl,hlc',hlm',-⟩:=hl'.nodes;unfold maxLen at hlm hlm';clear hl hl';by_cases hc:l.length=l'.length
 case neg =>
  have HF:Hid (sameNs (NM.trs l) (NM.trs l')=false):=hid (sameNs_len hc);have q:((l.length:Int) != (l'.length:Int))=true:=neT (by omega);clear hc;go_enter Tryz.func28,Tryz.ntmps28
  go_wp2_with fail;go_ret;exact ⟨by rw [HF.out];rfl,Below.refl _ _⟩
 have hll:=hid hc;have u1:((l.length:Int) != (l'.length:Int))=false:=neF (by omega);have hll1:l.length≤l'.length:=by omega
 clear hc;obtain ⟨bb,HE⟩:∃ bb,Hid (bb=sameNs (NM.trs l) (NM.trs l')):=⟨_,hid rfl⟩;rw [← HE.out];go_enter Tryz.func28,Tryz.ntmps28
 go_wp2_with fail;go_loopw [17] (fun i wr=>∃ j:Nat,j≤l.length∧i=.int .i64 j∧Hid (sameNs (NM.trs (l.take j)) (NM.trs (l'.take j))=true)∧Below w.heap.size w wr) (fun i _=>l.length - (intOf i).toNat)
 case atStart=>exact ⟨0,by omega,rfl,hid (by simp [ntrs_nil,sameNs_nil]),Below.refl _ _⟩
 case round =>
  obtain ⟨j,hj,rfl,HA,hbw⟩:=hrel;by_cases hlt:j<l.length
  ·have hlt':j<l'.length:=by omega
   obtain ⟨la2,lc2,hv,-,-,hx⟩:=(HS.out _ hbw).nodes;obtain ⟨lb,lo,rfl,hlb,hcl⟩:=hx j hlt;obtain ⟨rfl,rfl⟩:la=some ⟨lb,lo,none⟩∧lc=lc2:=by simpa using hv
   obtain ⟨p0,p1,p2,p3,p4⟩:=hcl j hlt;clear hx hv hcl;obtain ⟨la2',lc2',hv,-,-,hx⟩:=(HS'.out _ hbw).nodes;obtain ⟨lb',lo',rfl,hlb',hcl⟩:=hx j hlt';obtain ⟨rfl,rfl⟩:la'=some ⟨lb',lo',none⟩∧lc'=lc2':=by simpa using hv
   obtain ⟨r0,r1,r2,r3,r4⟩:=hcl j hlt';clear hx hv hcl;have HCj:=hid (fun W hW=>HC.out j hlt hlt' W (Below.chain hbw hW));have HBad:=hid (fun h=>sameNs_bad (l:=l) (l':=l') j hlt hlt' h);have HNx:=hid (fun h=>sameNs_take (l:=l) (l':=l') j hlt hlt' HA.out h);have hs1:∃ a n m,l[j].sl=.slice a n m:=by cases l[j];exact ⟨_,_,_,rfl⟩
   have hs1':∃ a n m,l'[j].sl=.slice a n m:=by cases l'[j];exact ⟨_,_,_,rfl⟩
   generalize sameN l[j].tr l'[j].tr=sb at *;generalize l[j].k=xk at *;generalize l[j].t=xt at *;generalize l[j].l=xl at *;generalize l[j].c=xc at *;generalize l[j].sl=xs at *;generalize l'[j].k=yk at *;generalize l'[j].t=yt at *;generalize l'[j].l=yl at *;generalize l'[j].c=yc at *;generalize l'[j].sl=ys at *;obtain ⟨la3,ln3,lc3,rfl⟩:=hs1;obtain ⟨la4,ln4,lc4,rfl⟩:=hs1';have hbA:=below_new wr (.cells #[.int .i64 xk,.string (bs xt),.int .i64 xl,.int .i64 xc,.slice la3 ln3 lc3] 27 (0,0));have k0:=keeps_of hbA r0;have k1:=keeps_of hbA r1;have k2:=keeps_of hbA r2;have k3:=keeps_of hbA r3;have k4:=keeps_of hbA r4;have hbB:=below_new2 wr (.cells #[.int .i64 xk,.string (bs xt),.int .i64 xl,.int .i64 xc,.slice la3 ln3 lc3] 27 (0,0)) (.cells #[.int .i64 yk,.string (bs yt),.int .i64 yl,.int .i64 yc,.slice la4 ln4 lc4] 27 (0,0));have hbx:=boxN_two wr xk xt xl xc (.slice la3 ln3 lc3) (.cells #[.int .i64 yk,.string (bs yt),.int .i64 yl,.int .i64 yc,.slice la4 ln4 lc4] 27 (0,0)) 27 (0,0);have hby:=boxN_next wr yk yt yl yc (.slice la4 ln4 lc4) (.cells #[.int .i64 xk,.string (bs xt),.int .i64 xl,.int .i64 xc,.slice la3 ln3 lc3] 27 (0,0)) 27 (0,0);obtain ⟨a0,a1,a2,a3,a4⟩:=hbx;obtain ⟨b0,b1,b2,b3,b4⟩:=hby;go_wp2_with fail;refine (HCj.out _ hbB).mono ?_;rintro e w1 ⟨rfl,hb1⟩;have hbq:=Below.chain hbw (Below.chain hbB hb1);cases sb with
   | true =>
     have HN:=hid (HNx.out rfl);go_wp2_with fail;exact ⟨⟨j+1,by omega,by go_num,HN,hbq⟩,by simp [intOf];omega⟩
   | false =>
     have HF:Hid (bb=false):=hid (by rw [HE.out];exact HBad.out rfl);go_wp2_with fail;go_ret;exact ⟨by rw [HF.out];rfl,hbq⟩
  ·obtain rfl:j=l.length:=by omega
   have HF:Hid (bb=true):=hid (by rw [HE.out];have:=HA.out;rwa [List.take_length,hll.out,List.take_length] at this);go_wp2_with fail;go_ret;exact ⟨by rw [HF.out];rfl,hbw⟩
set_option maxHeartbeats 2000000 in
theorem nsame_step (N:Nat) (IH:NSameC N):NSameC (N+1):=by
 intro k t l c ks a m k' t' l' c' ks' a' m' hN w hH hH';have hl:=hH.kidsAt;have hl':=hH'.kidsAt;rw [hi_mk] at hN;have CF:=hid (fun W0 (hW0:Below w.heap.size w W0)=>equal_nodes ks ks' (.slice a ks.length m) (.slice a' ks'.length m') W0 (hl.below hW0) (hl'.below hW0) (hid (fun j hj hj' W hW=>by
  have hWW:=Below.chain hW0 hW;have h1:=(hl.below hWW).get j hj;have h1':=(hl'.below hWW).get j hj';have h2:=his_get (ks:=ks) (N:=N) (by omega) j hj;generalize ks[j]=x at *;generalize ks'[j]=y at *;cases x with
  | mk p q r s u v z =>
  cases y with
  | mk p' q' r' s' u' v' z'=>exact IH p q r s u v z p' q' r' s' u' v' z' h2 W h1 h1')))
 have HBA:=hid (boxN_two w k t l c (.slice a ks.length m) (.cells #[.int .i64 k',.string (bs t'),.int .i64 l',.int .i64 c',.slice a' ks'.length m'] 27 (0,0)) 27 (0,0));have HBB:=hid (boxN_next w k' t' l' c' (.slice a' ks'.length m') (.cells #[.int .i64 k,.string (bs t),.int .i64 l,.int .i64 c,.slice a ks.length m] 27 (0,0)) 27 (0,0));have hb2n:=below_new2 w (.cells #[.int .i64 k,.string (bs t),.int .i64 l,.int .i64 c,.slice a ks.length m] 27 (0,0)) (.cells #[.int .i64 k',.string (bs t'),.int .i64 l',.int .i64 c',.slice a' ks'.length m'] 27 (0,0));have hba:=HBA.out;have hbb:=HBB.out;obtain ⟨a0,a1,a2,a3,a4⟩:=hba;obtain ⟨b0,b1,b2,b3,b4⟩:=hbb;have HE:=hid (sameN_mk k t (NM.trs ks) k' t' (NM.trs ks'));rw [ntr_mk,ntr_mk];clear hl hl' hH hH' hN IH;generalize sameN (.mk k t (NM.trs ks)) (.mk k' t' (NM.trs ks'))=bb at *;generalize sameNs (NM.trs ks) (NM.trs ks')=sb at *;by_cases hc:k=k'
 case neg =>
  have HF:Hid (bb=false):=hid (by rw [HE.out];rw [decide_eq_false hc];rfl);have q:(k == k')=false:=eqF hc;clear hc;go_enter Tryz.func14,Tryz.ntmps14
  go_wp2_with fail;go_ret;exact ⟨by rw [HF.out];rfl,hb2n⟩
 subst hc;by_cases hc:t=t'
 case neg =>
  have HF:Hid (bb=false):=hid (by rw [HE.out];rw [decide_eq_false hc];simp);have q:(t == t')=false:=beq_eq_false_iff_ne.2 hc;clear hc;go_enter Tryz.func14,Tryz.ntmps14
  go_wp2_with fail;go_ret;exact ⟨by rw [HF.out];rfl,hb2n⟩
 subst hc;have HF:Hid (bb=sb):=hid (by rw [HE.out];simp);go_enter Tryz.func14,Tryz.ntmps14
 go_wp2_with fail;refine (CF.out _ hb2n).mono ?_;rintro e w2 ⟨rfl,hb2⟩;go_wp2_with fail;go_ret;exact ⟨by rw [HF.out];rfl,Below.chain hb2n hb2⟩
theorem nsame_all:∀ N,NSameC N
 | 0=>by
   intro k t l c ks a m k' t' l' c' ks' a' m' hN;rw [hi_mk] at hN;omega
 | N+1=>nsame_step N (nsame_all N)
theorem same_any (k:Int) (t:List UInt8) (l c:Int) (ks:List NM) (a:Option Addr) (m:Nat) (k':Int) (t':List UInt8) (l' c':Int) (ks':List NM) (a':Option Addr) (m':Nat) (w:World) (h:HeldN AnyB w (.mk k t l c ks a m)) (h':HeldN AnyB w (.mk k' t' l' c' ks' a' m')) :
  Calls Tryz.prog 14 #[nodeV k t l c (.slice a ks.length m),nodeV k' t' l' c' (.slice a' ks'.length m')] w fun e w'=>e=.returned (.bool (sameN (NM.mk k t l c ks a m).tr (NM.mk k' t' l' c' ks' a' m').tr))∧Below w.heap.size w w' :=
 nsame_all _ k t l c ks a m k' t' l' c' ks' a' m' (Nat.le_refl _) w h h'
mutual
def weightN:Tr→Nat→Nat
 | .mk _ t l,d=>if 500<d∨5000<l.length then 100000 else weightNs l d (1+t.length)
def weightNs:List Tr→Nat→Nat→Nat
 | [],_,s=>s
 | x::r,d,s=>if 20000<s+weightN x (d+1) then 100000 else weightNs r d (s+weightN x (d+1))
end
theorem weightN_mk (k:Int) (t:List UInt8) (l:List Tr) (d:Nat):weightN (.mk k t l) d=if 500<d∨5000<l.length then 100000 else weightNs l d (1+t.length):=by rw [weightN]
theorem weightNs_nil (d s:Nat):weightNs [] d s=s:=by rw [weightNs]
theorem weightNs_cons (x:Tr) (r:List Tr) (d s:Nat):weightNs (x::r) d s=if 20000<s+weightN x (d+1) then 100000 else weightNs r d (s+weightN x (d+1)):=by rw [weightNs]
mutual
def NM.small:NM→Prop
 | .mk _ t _ _ ks _ _=>t.length≤140737488351232∧NM.smalls ks
def NM.smalls:List NM→Prop
 | []=>True
 | x::r=>x.small∧NM.smalls r
end
theorem small_mk {k l c:Int} {t:List UInt8} {ks:List NM} {a:Option Addr} {m:Nat} (h:(NM.mk k t l c ks a m).small):t.length≤140737488351232∧NM.smalls ks:=by unfold NM.small at h;exact h
theorem smalls_get:∀ {ks:List NM},NM.smalls ks→∀ k (h:k<ks.length),ks[k].small
 | [],_,k,h=>by simp at h
 | x::r,hf,k,h=>by
   unfold NM.smalls at hf;cases k with
   | zero=>exact hf.1
   | succ k=>exact smalls_get hf.2 k (by simpa using h)
theorem weightNs_small:∀ (l:List Tr) (d s:Nat),s≤140737488351233→weightNs l d s≤140737488351233
 | [],d,s,h=>by rw [weightNs_nil];exact h
 | x::r,d,s,h=>by
   rw [weightNs_cons];split
   ·omega
   ·exact weightNs_small r d _ (by omega)
theorem weight_small (x:NM) (h:x.small) (d:Nat):weightN x.tr d≤140737488351233:=by
 cases x with
 | mk k t l c ks a m =>
 have:=(small_mk h).1;rw [ntr_mk,weightN_mk];split
 ·omega
 ·exact weightNs_small _ _ _ (by omega)
theorem weight_drop (ks:List NM) (d s j:Nat) (h:j<ks.length):weightNs (NM.trs (ks.drop j)) d s=if 20000<s+weightN ks[j].tr (d+1) then 100000 else weightNs (NM.trs (ks.drop (j+1))) d (s+weightN ks[j].tr (d+1)):=by
 rw [List.drop_eq_getElem_cons h,ntrs_cons,weightNs_cons]
def WeightC (N:Nat):Prop:=∀ (k:Int) (t:List UInt8) (l c:Int) (ks:List NM) (a:Option Addr) (m:Nat) (d:Nat),501≤d+N→d≤501→(NM.mk k t l c ks a m).small→∀ w,HeldN AnyB w (.mk k t l c ks a m) →
    Calls Tryz.prog 11 #[nodeV k t l c (.slice a ks.length m),.int .i64 (d:Int)] w fun e w'=>e=.returned (.int .i64 (weightN (NM.mk k t l c ks a m).tr d:Nat))∧Below w.heap.size w w'
set_option maxHeartbeats 2000000 in
theorem weight_many (k:Int) (t:List UInt8) (l c:Int) (ks:List NM) (a:Option Addr) (m:Nat) (d:Nat) (w:World) (hd:d≤501) (hm:ks.length≤maxLen) (h:500<d∨5000<ks.length) :
  Calls Tryz.prog 11 #[nodeV k t l c (.slice a ks.length m),.int .i64 (d:Int)] w fun e w'=>e=.returned (.int .i64 (weightN (NM.mk k t l c ks a m).tr d:Nat))∧Below w.heap.size w w':=by
 have HF:=hid (show weightN (NM.mk k t l c ks a m).tr d=100000 by rw [ntr_mk,weightN_mk,ntrs_len,if_pos h]);unfold maxLen at hm;rw [HF.out];have hb:=below_new w (.cells #[.int .i64 k,.string (bs t),.int .i64 l,.int .i64 c,.slice a ks.length m] 27);by_cases hc:500<d
 ·have q:decide ((500:Int)<(d:Int))=true:=decide_eq_true (by omega);have q2:(500:Int)<(d:Int):=by omega
  clear h;go_enter Tryz.func11,Tryz.ntmps11
  go_wp2_with fail;go_ret;exact ⟨rfl,hb⟩
 ·have h2:=h.resolve_left hc;have q:decide ((500:Int)<(d:Int))=false:=decide_eq_false (by omega);have q2:¬ (500:Int)<(d:Int):=by omega
  have q3:decide ((5000:Int)<(ks.length:Int))=true:=decide_eq_true (by omega);have q4:(5000:Int)<(ks.length:Int):=by omega
  clear h;go_enter Tryz.func11,Tryz.ntmps11
  go_wp2_with fail;go_ret;exact ⟨rfl,hb⟩
set_option maxHeartbeats 2000000 in
theorem weight_step (N:Nat) (IH:WeightC N):WeightC (N+1):=by
 intro k t l c ks a m d hN hd hs w hH;obtain ⟨ht,hks⟩:=small_mk hs;have hl:=hH.kidsAt;have hln:ks.length≤m∧m≤maxLen:=by obtain ⟨_,_,e,h1,h2,-⟩:=hl.nodes;simp only [Value.slice.injEq] at e;obtain ⟨-,-,rfl⟩:=e;exact ⟨h1,h2⟩
 have hmx:=nT hln.1 hln.2;unfold maxLen at hln;obtain ⟨hlc,hlm⟩:=hln;by_cases hbig:500<d∨5000<ks.length
 ·exact weight_many k t l c ks a m d w hd hmx hbig
 obtain ⟨h500,h5000⟩:d≤500∧ks.length≤5000:=by omega
 have HC:=hid (fun j (hj:j<ks.length) W (hW:Below w.heap.size w W)=>show Calls Tryz.prog 11 #[nodeV ks[j].k ks[j].t ks[j].l ks[j].c ks[j].sl,.int .i64 ((d+1:Nat):Int)] W (fun e w'=>e=.returned (.int .i64 (weightN ks[j].tr (d+1):Nat))∧Below W.heap.size W w') by
  have h1:=(hl.below hW).get j hj;have h2:=smalls_get hks j hj;generalize ks[j]=x at *;cases x with
  | mk p q r s u v z=>exact IH p q r s u v z (d+1) (by omega) (by omega) h2 W h1)
 have HWS:=hid (fun j (hj:j<ks.length)=>weight_small ks[j] (smalls_get hks j hj) (d+1));have HS:=hid (fun W (hW:Below w.heap.size w W)=>hl.below hW);obtain ⟨R,hR⟩:∃ R,R=weightN (NM.mk k t l c ks a m).tr d:=⟨_,rfl⟩;have HR:Hid (weightNs (NM.trs (ks.drop 0)) d (1+t.length)=R):=hid (by rw [hR,ntr_mk,weightN_mk,ntrs_len,if_neg hbig];rfl);rw [← hR];have q1:decide ((500:Int)<(d:Int))=false:=decide_eq_false (by omega);have q2:¬ (500:Int)<(d:Int):=by omega
 have q3:decide ((5000:Int)<(ks.length:Int))=false:=decide_eq_false (by omega);have q4:¬ (5000:Int)<(ks.length:Int):=by omega
 clear hmx hR hbig hN hs hks hH hl IH hd;have hb:=below_new w (.cells #[.int .i64 k,.string (bs t),.int .i64 l,.int .i64 c,.slice a ks.length m] 27);go_enter Tryz.func11,Tryz.ntmps11
 go_wp2_with fail;go_loopw [5,23] (fun s i wr=>∃ (j n:Nat),j≤ks.length∧i=.int .i64 j∧s=.int .i64 (n:Int)∧n≤140737488351233∧Hid (weightNs (NM.trs (ks.drop j)) d n=R)∧Below w.heap.size w wr) (fun _ i _=>ks.length - (intOf i).toNat)
 case atStart=>exact ⟨0,1+t.length,by omega,rfl,by go_num,by omega,HR,hb⟩
 case round =>
  obtain ⟨j,n,hj,rfl,rfl,hn,HA,hbw⟩:=hrel;by_cases hlt:j<ks.length
  ·obtain ⟨la2,lc2,hv,-,-,hx⟩:=(HS.out _ hbw).nodes;obtain ⟨lb,lo,rfl,hlb,hcl⟩:=hx j hlt;obtain ⟨rfl,rfl⟩:a=some ⟨lb,lo,none⟩∧m=lc2:=by simpa using hv
   obtain ⟨p0,p1,p2,p3,p4⟩:=hcl j hlt;clear hx hv hcl;have HCj:=hid (fun W hW=>HC.out j hlt W (Below.chain hbw hW));have HNx:=hid (weight_drop ks d n j hlt);have hws:=HWS.out j hlt;have hs1:∃ a n m,ks[j].sl=.slice a n m:=by cases ks[j];exact ⟨_,_,_,rfl⟩
   generalize weightN ks[j].tr (d+1)=g at *;generalize ks[j].k=xk at *;generalize ks[j].t=xt at *;generalize ks[j].l=xl at *;generalize ks[j].c=xc at *;generalize ks[j].sl=xs at *;obtain ⟨la3,ln3,lc3,rfl⟩:=hs1;have hbA:=below_new wr (.cells #[.int .i64 xk,.string (bs xt),.int .i64 xl,.int .i64 xc,.slice la3 ln3 lc3] 27 (0,0));obtain ⟨a0,a1,a2,a3,a4⟩:=boxN_new wr xk xt xl xc (.slice la3 ln3 lc3) 27 (0,0);go_wp2_with fail;refine (HCj.out _ hbA).mono ?_;rintro e w1 ⟨rfl,hb1⟩;have hbq:=Below.chain hbw (Below.chain hbA hb1);by_cases hc:20000<n+g
   ·have HF:Hid (R=100000):=hid (by rw [← HA.out,HNx.out,if_pos hc]);have q5:(20000:Int)<(n:Int)+(g:Int):=by omega
    go_wp2_with fail;go_ret;exact ⟨by rw [HF.out];rfl,hbq⟩
   ·have HN:Hid (weightNs (NM.trs (ks.drop (j+1))) d (n+g)=R):=hid (by rw [← HA.out,HNx.out,if_neg hc]);have q5:¬ (20000:Int)<(n:Int)+(g:Int):=by omega
    go_wp2_with fail;exact ⟨⟨j+1,n+g,by omega,by go_num,by go_num,by omega,HN,hbq⟩,by simp [intOf];omega⟩
  ·obtain rfl:j=ks.length:=by omega
   have HF:Hid (R=n):=hid (by rw [← HA.out,List.drop_length,ntrs_nil,weightNs_nil]);go_wp2_with fail;go_ret;exact ⟨by rw [HF.out];rfl,hbw⟩
theorem weight_all:∀ N,WeightC N
 | 0=>by
   intro k t l c ks a m d hN hd hs w hH;have hl:=hH.kidsAt;have hln:ks.length≤m∧m≤maxLen:=by obtain ⟨_,_,e,h1,h2,-⟩:=hl.nodes;simp only [Value.slice.injEq] at e;obtain ⟨-,-,rfl⟩:=e;exact ⟨h1,h2⟩
   exact weight_many k t l c ks a m d w hd (nT hln.1 hln.2) (.inl (by omega))
 | N+1=>weight_step N (weight_all N)
theorem weight_any (k:Int) (t:List UInt8) (l c:Int) (ks:List NM) (a:Option Addr) (m:Nat) (hs:(NM.mk k t l c ks a m).small) (w:World) (hH:HeldN AnyB w (.mk k t l c ks a m)) :
  Calls Tryz.prog 11 #[nodeV k t l c (.slice a ks.length m),.int .i64 0] w fun e w'=>e=.returned (.int .i64 (weightN (NM.mk k t l c ks a m).tr 0:Nat))∧Below w.heap.size w w' :=
 weight_all 501 k t l c ks a m 0 (by omega) (by omega) hs w hH
theorem weightNs_ge:∀ {l:List Tr} {d s:Nat},weightNs l d s≤4000→s≤4000
 | [],d,s,h=>by rw [weightNs_nil] at h;exact h
 | x::r,d,s,h=>by
   rw [weightNs_cons] at h;split at h
   ·omega
   ·have:=weightNs_ge h;omega
mutual
theorem weight_fit:∀ (x:NM) (d:Nat),weightN x.tr d≤4000→x.fit∧d+x.hi≤501
 | .mk k t l c ks a m,d,h=>by
   rw [ntr_mk,weightN_mk] at h;split at h
   ·omega
   ·rename_i hn;rw [ntrs_len] at hn;have h1:=weightNs_ge h;have h2:=weight_fits ks d (1+t.length) h;unfold NM.fit;rw [hi_mk];exact ⟨⟨by omega,by omega,h2.1⟩,by
     rcases h2.2 with rfl | h3
     ·rw [NM.his];omega
     ·omega⟩
theorem weight_fits:∀ (ks:List NM) (d s:Nat),weightNs (NM.trs ks) d s≤4000→NM.fits ks∧(ks=[]∨d+1+NM.his ks≤501)
 | [],d,s,_=>by unfold NM.fits;exact ⟨trivial,.inl rfl⟩
 | x::r,d,s,h=>by
   rw [ntrs_cons,weightNs_cons] at h;split at h
   ·omega
   ·have h1:=weightNs_ge h;have h2:=weight_fit x (d+1) (by omega);have h3:=weight_fits r d _ h;unfold NM.fits;refine ⟨⟨h2.1,h3.1⟩,.inr ?_⟩;rw [NM.his];have h4:=h2.2;rcases h3.2 with rfl | h5
    ·rw [NM.his];omega
    ·omega
end
theorem isOk_of {x:PR (List Nd)} (h:isOk x=true):∃ a r,x=.ok a r:=by
 cases x with
 | ok a r=>exact ⟨a,r,rfl⟩
 | bad e p=>cases h
 | oof=>cases h
theorem alive_read:∃ a r,readL aliveS=.ok a r∧Nd.trs a=[aliveT]:=by
 obtain ⟨a,r,h⟩:=isOk_of alive_ok;refine ⟨a,r,h,?_⟩;have:=alive_trs;rw [h] at this;exact this
set_option maxHeartbeats 2000000 in
theorem alive_any (w:World) (hw:Laid w):Calls Tryz.prog 8 #[] w fun e w'=>e=.returned (.bool true)∧Below w.heap.size w w':=by
 have HR1:=hid (read_any aliveS (by decide) w hw.range);have HR2:=hid (fun W (hW:RangeAt W)=>read_any [120,32,61,32,59] (by decide) W hW);go_enter Tryz.func8,Tryz.ntmps8
 go_wp2_with fail;refine HR1.out.mono ?_;rintro e w1 ⟨hb1,hret⟩;obtain ⟨a,r,hx,htr⟩:=alive_read;rw [hx] at hret;obtain ⟨ks,ad,cap,rfl,hare,hheld⟩:=hret;have htrs:NM.trs ks=[aliveT]:=(are_trs hare).trans htr;have hfit:=weight_fit (.mk 1 [] 1 1 ks ad cap) 0 (by rw [ntr_mk,htrs];decide +kernel);have HP:=hid (fun W (hW:Below w1.heap.size w1 W)=>print_any 1 [] 1 1 ks ad cap W ((hw.below hb1).below hW) ((HeldN.any hheld).below hW) hfit.1 (by omega) (fun _=>by rw [htrs,alive_page];decide));have HE:Hid (printL (NM.mk 1 [] 1 1 ks ad cap).tr=(aliveW,0)):=hid (by rw [ntr_mk,htrs];exact alive_print);rw [HE.out] at HP;have HB1:=hid hb1;have HW1:=hid (hw.below hb1);clear hfit htrs htr hx hare hheld HE HR1 hb1;obtain ⟨W,hwh,hbW,⟨a0,a1,a2,a3,a4⟩⟩:∃ W,Hid (W=(w1.alloc (.cells #[.int .i64 1,.string (bs []),.int .i64 1,.int .i64 1,.slice ad ks.length cap] 27)).alloc (.cells #[.int .i64 0,.int .i64 0] 24))∧Below w1.heap.size w1 W∧BoxN W w1.heap.size 1 [] 1 1 (.slice ad ks.length cap) :=
  ⟨_,hid rfl,below_new2 w1 _ _,boxN_two w1 1 [] 1 1 _ _ _ _⟩
 go_wp2_with fail;rw [← hwh.out];clear hwh;have HBW:=hid (Below.chain HB1.out hbW);have HWW:=hid (HW1.out.below hbW);have HPW:=hid (HP.out W hbW);clear HP hbW;go_wp2_with fail;refine HPW.out.mono ?_;rintro e w2 ⟨rfl,hb2⟩;have HB2:=hid (Below.chain HBW.out hb2);have HW2:=hid (HWW.out.below hb2);clear hb2;go_wp2_with fail;refine (HR2.out _ HW2.out.range).mono ?_;rintro e w3 ⟨hb3,hret⟩;rw [alive_bad] at hret;subst hret;have HB3:=hid (Below.chain HB2.out hb3);clear hb3;go_wp2_with fail;go_ret;exact ⟨rfl,Below.chain HB3.out (Below.chain (below_new _ _) (below_new _ _))⟩
theorem lex_feeds (n:Nat) (s:List UInt8):∀ m:Nat,lexL (m,1) (List.replicate n 10++s)=lexL (m+n,1) s:=by
 induction n with
 | zero=>intro m;rfl
 | succ n ih =>
   intro m;show lexL (m,1) (10::(List.replicate n 10++s))=_;rw [lex_gap (by decide)];have e:adv (m,1) 10=(m+1,1):=by unfold adv;rw [if_pos (by decide)]
   rw [e,ih,show m+1+n=m+(n+1) by omega]
theorem advs_feeds (n:Nat) (s:List UInt8):∀ m:Nat,advs (m,1) (List.replicate n 10++s)=advs (m+n,1) s:=by
 induction n with
 | zero=>intro m;rfl
 | succ n ih =>
   intro m;show advs (m,1) (10::(List.replicate n 10++s))=_;rw [advs_cons];have e:adv (m,1) 10=(m+1,1):=by unfold adv;rw [if_pos (by decide)]
   rw [e,ih,show m+1+n=m+(n+1) by omega]
theorem lex_down_bad (d:Nat):∀ (k:Nat) (s:List UInt8) (p:Pl),s.length≤k→(lexL p s).2.1≠0→(lexL (p.1+d,p.2) s).2.2=((lexL p s).2.2.1+d,(lexL p s).2.2.2)
 | _,[],_,_,h=>absurd rfl h
 | 0,c::r,_,hk,_=>by simp at hk
 | k+1,c::r,p,hk,h=>by
   obtain ⟨kd,t,n,e,hp⟩:∃ kd t n,∃ e,pieceL (c::r)=(kd,t,n,e):=⟨_,_,_,_,rfl⟩;by_cases he:e=0
   ·subst he;have hs:=piece_size hp;rw [lex_piece hp] at h;rw [lex_piece hp,lex_piece hp,advs_down];have ih:=lex_down_bad d k ((c::r).drop n) (advs p ((c::r).take n)) (by simp at hk ⊢;omega);have id:=(lex_down d k ((c::r).drop n) (advs p ((c::r).take n)) (by simp at hk ⊢;omega)).1;unfold finT at h ⊢;by_cases e0:(lexL (advs p ((c::r).take n)) ((c::r).drop n)).2.1=0
    ·rw [if_pos e0] at h;exact absurd rfl h
    ·rw [if_neg (by rw [id];exact e0),if_neg e0];exact ih e0
   ·rw [lex_bad hp he,lex_bad hp he]
theorem adv_lines (p:Pl) (c:UInt8):(adv p c).1≤p.1+1:=by unfold adv;split <;> simp
theorem advs_lines:∀ (s:List UInt8) (p:Pl),(advs p s).1≤p.1+s.length
 | [],p=>Nat.le_refl _
 | c::s,p=>by
   rw [advs_cons,List.length_cons];have:=advs_lines s (adv p c);have:=adv_lines p c;omega
theorem lex_lines:∀ (k:Nat) (s:List UInt8) (p:Pl),s.length≤k→(∀ t ∈ (lexL p s).1,t.2.2.1≤p.1+s.length)∧(lexL p s).2.2.1≤p.1+s.length
 | _,[],_,_=>⟨(fun t h=>by cases h),Nat.zero_le _⟩
 | 0,c::r,_,hk=>by simp at hk
 | k+1,c::r,p,hk=>by
   obtain ⟨kd,t,n,e,hp⟩:∃ kd t n,∃ e,pieceL (c::r)=(kd,t,n,e):=⟨_,_,_,_,rfl⟩;by_cases he:e=0
   ·subst he;have hs:=piece_size hp;rw [lex_piece hp];have ih:=lex_lines k ((c::r).drop n) (advs p ((c::r).take n)) (by simp at hk ⊢;omega);have ha:=advs_lines ((c::r).take n) p;have hl:((c::r).take n).length+((c::r).drop n).length=(c::r).length:=by rw [← List.length_append,List.take_append_drop]
    unfold finT;split
    ·refine ⟨fun t ht=>?_,Nat.zero_le _⟩;rcases List.mem_append.1 ht with h | h
     ·split at h
      ·cases h
      ·rw [List.mem_singleton] at h;subst h;exact Nat.le_add_right _ _
     ·have:=ih.1 t h;omega
    ·exact ⟨(fun t h=>by cases h),by have:=ih.2;show (lexL _ _).2.2.1≤_;omega⟩
   ·rw [lex_bad hp he];exact ⟨(fun t h=>by cases h),Nat.le_add_right _ _⟩
def Dn (d:Nat) (p p':Pl):Prop:=p.1≤100000∧p'=(p.1+d,p.2)
theorem down_rel (d:Nat):∀ l:List Tok,(∀ t ∈ l,t.2.2.1≤100000)→RelL (Dn d) l (downT d l)
 | [],_=>.nil
 | (_,_,_)::r,h=>.cons ⟨h _ (List.mem_cons_self ..),rfl⟩ (down_rel d r fun t ht=>h t (List.mem_cons_of_mem _ ht))
theorem read_down (d:Nat) (s:List UInt8) (h:d+s.length≤65536):RelR (Dn d) (RelNs (Dn d)) (readL s) (readL (List.replicate d 10++s)):=by
 have a1:=all_good (s:=s) (by omega);have a2:allT (List.replicate d 10++s)=lexL (1+d,1) s:=by
  rw [all_good (by rw [List.length_append,List.length_replicate];omega),lex_feeds]
 have hd:=lex_down d s.length s (1,1) (Nat.le_refl _);have hb:(∀ t ∈ (lexL (1,1) s).1,t.2.2.1≤1+s.length)∧(lexL (1,1) s).2.2.1≤1+s.length:=lex_lines s.length s (1,1) (Nat.le_refl _);have ha:(advs (1,1) s).1≤1+s.length:=advs_lines s (1,1);unfold readL;rw [a1,a2];by_cases e:(lexL (1,1) s).2.1=0
 ·rw [if_pos e,if_pos (hd.1.trans e),hd.2,advs_feeds,advs_down d s (1,1)];have hl:(downT d (lexL (1,1) s).1).length=(lexL (1,1) s).1.length:=by unfold downT;rw [List.length_map]
  rw [hl];exact (stmt_rel (R:=Dn d) (en:=advs (1,1) s) (en':=((advs (1,1) s).1+d,(advs (1,1) s).2)) ⟨by omega,rfl⟩ _ _ (Nat.le_refl _)).stmts false _ _ 0 (down_rel d _ fun t ht=>by have:=hb.1 t ht;omega)
 ·rw [if_neg e,if_neg (by rw [hd.1];exact e)];exact ⟨hd.1.symm,by have:=hb.2;omega,lex_down_bad d s.length s (1,1) (Nat.le_refl _) e⟩
theorem read_fine (s:List UInt8):readL s≠.oof:=by
 unfold readL;split
 ·have:=(stmt_fine (advs (1,1) s) (10 * (allT s).1.length+20)).stmts false (allT s).1 0 (by omega);intro e;rw [e] at this;exact this.elim
 ·intro e;cases e
mutual
def NM.down (d:Int):NM→NM→Prop
 | .mk _ _ l c ks _ _,.mk _ _ l' c' ks' _ _=>l'=l+d∧0≤l'∧l'≤1000000000∧c'=c∧NM.downs d ks ks'
def NM.downs (d:Int):List NM→List NM→Prop
 | [],[]=>True
 | x::r,y::s=>NM.down d x y∧NM.downs d r s
 | [],_::_=>False
 | _::_,[]=>False
end
theorem downs_len {d:Int}:∀ {x y:List NM},NM.downs d x y→x.length=y.length
 | [],[],_=>rfl
 | x::r,y::s,h=>by unfold NM.downs at h;rw [List.length_cons,List.length_cons,downs_len h.2]
 | [],_::_,h=>by unfold NM.downs at h;exact h.elim
 | _::_,[],h=>by unfold NM.downs at h;exact h.elim
theorem downs_get {d:Int}:∀ {x y:List NM},NM.downs d x y→∀ j (h:j<x.length) (h':j<y.length),NM.down d x[j] y[j]
 | [],_,_,j,h,_=>by simp at h
 | x::r,[],hd,_,_,_=>by unfold NM.downs at hd;exact hd.elim
 | x::r,y::s,hd,0,_,_=>by unfold NM.downs at hd;exact hd.1
 | x::r,y::s,hd,j+1,h,h'=>by
   unfold NM.downs at hd;exact downs_get hd.2 j (by simpa using h) (by simpa using h')
def DownC (N:Nat):Prop:=∀ (d:Int) (k:Int) (t:List UInt8) (l c:Int) (ks:List NM) (a:Option Addr) (m:Nat) (k':Int) (t':List UInt8) (l' c':Int) (ks':List NM) (a':Option Addr) (m':Nat),(NM.mk k t l c ks a m).hi≤N→NM.down d (.mk k t l c ks a m) (.mk k' t' l' c' ks' a' m')→0≤d→d≤1000→∀ w,HeldN AnyB w (.mk k t l c ks a m)→HeldN AnyB w (.mk k' t' l' c' ks' a' m') →
    Calls Tryz.prog 15 #[nodeV k t l c (.slice a ks.length m),nodeV k' t' l' c' (.slice a' ks'.length m'),.int .i64 d] w fun e w'=>e=.returned (.bool true)∧Below w.heap.size w w'
set_option maxHeartbeats 2000000 in
theorem down_step (N:Nat) (IH:DownC N):DownC (N+1):=by
 intro d k t l c ks a m k' t' l' c' ks' a' m' hN hD hd0 hd1 w hH hH';have hl:=hH.kidsAt;have hl':=hH'.kidsAt;rw [hi_mk] at hN;unfold NM.down at hD;obtain ⟨hDl,hl0,hl1,rfl,hDk⟩:=hD;have hll0:=downs_len hDk;have HC:=hid (fun j (hj:j<ks.length) (hj':j<ks'.length) W (hW:Below w.heap.size w W)=>show Calls Tryz.prog 15 #[nodeV ks[j].k ks[j].t ks[j].l ks[j].c ks[j].sl,nodeV ks'[j].k ks'[j].t ks'[j].l ks'[j].c ks'[j].sl,.int .i64 d] W (fun e w'=>e=.returned (.bool true)∧Below W.heap.size W w') by
  have h1:=(hl.below hW).get j hj;have h1':=(hl'.below hW).get j hj';have h2:=his_get (ks:=ks) (N:=N) (by omega) j hj;have h3:=downs_get hDk j hj hj';generalize ks[j]=x at *;generalize ks'[j]=y at *;cases x with
  | mk p q r s u v z =>
  cases y with
  | mk p' q' r' s' u' v' z'=>exact IH d p q r s u v z p' q' r' s' u' v' z' h2 h3 hd0 hd1 W h1 h1')
 have HS:=hid (fun W (hW:Below w.heap.size w W)=>hl.below hW);have HS':=hid (fun W (hW:Below w.heap.size w W)=>hl'.below hW);have hln:ks.length≤m∧m≤maxLen:=by obtain ⟨_,_,e,h1,h2,-⟩:=hl.nodes;simp only [Value.slice.injEq] at e;obtain ⟨-,-,rfl⟩:=e;exact ⟨h1,h2⟩
 have hln':ks'.length≤m'∧m'≤maxLen:=by obtain ⟨_,_,e,h1,h2,-⟩:=hl'.nodes;simp only [Value.slice.injEq] at e;obtain ⟨-,-,rfl⟩:=e;exact ⟨h1,h2⟩
 unfold maxLen at hln hln';obtain ⟨hlc,hlm⟩:=hln;obtain ⟨hlc',hlm'⟩:=hln';have HBA:=hid (boxN_two w k t l c' (.slice a ks.length m) (.cells #[.int .i64 k',.string (bs t'),.int .i64 l',.int .i64 c',.slice a' ks'.length m'] 27 (0,0)) 27 (0,0));have HBB:=hid (boxN_next w k' t' l' c' (.slice a' ks'.length m') (.cells #[.int .i64 k,.string (bs t),.int .i64 l,.int .i64 c',.slice a ks.length m] 27 (0,0)) 27 (0,0));have hb2n:=below_new2 w (.cells #[.int .i64 k,.string (bs t),.int .i64 l,.int .i64 c',.slice a ks.length m] 27 (0,0)) (.cells #[.int .i64 k',.string (bs t'),.int .i64 l',.int .i64 c',.slice a' ks'.length m'] 27 (0,0));have hba:=HBA.out;have hbb:=HBB.out;obtain ⟨a0,a1,a2,a3,a4⟩:=hba;obtain ⟨b0,b1,b2,b3,b4⟩:=hbb;clear hl hl' hH hH' hN IH hDk;have u1:((ks.length:Int) != (ks'.length:Int))=false:=neF (by omega);have u2:(l' != l+d)=false:=neF hDl;have u3:(c' != c')=false:=neF rfl;have hll1:ks.length≤ks'.length:=by omega
 have hr0:0≤l+d:=by omega
 have hr1:l+d≤1000000000:=by omega
 clear hDl hl0 hl1 hll0;go_enter Tryz.func15,Tryz.ntmps15
 go_wp2_with fail;go_loopw [38] (fun i wr=>∃ j:Nat,j≤ks.length∧i=.int .i64 j∧Below w.heap.size w wr∧BoxN wr w.heap.size k t l c' (.slice a ks.length m)∧BoxN wr (w.heap.size+1) k' t' l' c' (.slice a' ks'.length m')) (fun i _=>ks.length - (intOf i).toNat)
 case atStart=>exact ⟨0,by omega,rfl,hb2n,HBA.out,HBB.out⟩
 case round =>
  obtain ⟨j,hj,rfl,hbw,hba,hbb⟩:=hrel;have HXA:=hid hba;have HXB:=hid hbb;clear a0 a1 a2 a3 a4 b0 b1 b2 b3 b4;obtain ⟨a0,a1,a2,a3,a4⟩:=hba;obtain ⟨b0,b1,b2,b3,b4⟩:=hbb;by_cases hlt:j<ks.length
  ·have hlt':j<ks'.length:=by omega
   obtain ⟨la2,lc2,hv,-,-,hx⟩:=(HS.out _ hbw).nodes;obtain ⟨lb,lo,rfl,hlb,hcl⟩:=hx j hlt;obtain ⟨rfl,rfl⟩:a=some ⟨lb,lo,none⟩∧m=lc2:=by simpa using hv
   obtain ⟨p0,p1,p2,p3,p4⟩:=hcl j hlt;clear hx hv hcl;obtain ⟨la2',lc2',hv,-,-,hx⟩:=(HS'.out _ hbw).nodes;obtain ⟨lb',lo',rfl,hlb',hcl⟩:=hx j hlt';obtain ⟨rfl,rfl⟩:a'=some ⟨lb',lo',none⟩∧m'=lc2':=by simpa using hv
   obtain ⟨r0,r1,r2,r3,r4⟩:=hcl j hlt';clear hx hv hcl;have HCj:=hid (fun W hW=>HC.out j hlt hlt' W (Below.chain hbw hW));generalize ks[j].k=xk at *;generalize ks[j].t=xt at *;generalize ks[j].l=xl at *;generalize ks[j].c=xc at *;generalize ks[j].sl=xs at *;generalize ks'[j].k=yk at *;generalize ks'[j].t=yt at *;generalize ks'[j].l=yl at *;generalize ks'[j].c=yc at *;generalize ks'[j].sl=ys at *;go_wp2_with fail;refine wp_region_wq (by kernel_rfl) (by kernel_rfl) ?_
   repeat (refine WQ.step (fun K hK=>?_);go_simp;first | (refine hK _ ?_;clear hK K) | (apply Exists.intro;refine ⟨fun W hW=>?_,hK _ ?_⟩;(first | (go_at_call 15;exact Calls.quiet_below hW (HCj.out W hW)) | (first | with_reducible rfl | (have zz0:=Below.keeps hW a0;have zz1:=Below.keeps hW a1;have zz2:=Below.keeps hW a2;have zz3:=Below.keeps hW a3;have zz4:=Below.keeps hW a4;have zz5:=Below.keeps hW b0;have zz6:=Below.keeps hW b1;have zz7:=Below.keeps hW b2;have zz8:=Below.keeps hW b3;have zz9:=Below.keeps hW b4;have zz10:=Below.keeps hW p0;have zz11:=Below.keeps hW p1;have zz12:=Below.keeps hW p2;have zz13:=Below.keeps hW p3;have zz14:=Below.keeps hW p4;have zz15:=Below.keeps hW r0;have zz16:=Below.keeps hW r1;have zz17:=Below.keeps hW r2;have zz18:=Below.keeps hW r3;have zz19:=Below.keeps hW r4;go_simp;first | rfl | exact ⟨rfl,rfl⟩ | (rw [if_neg (by omega)];exact ⟨rfl,rfl⟩))));clear hK K))
   refine WQ.nil ?_;intro wq hwq;have hbq:=Below.chain hbw hwq;have hxa:=HXA.out.keeps hwq;have hxb:=HXB.out.keeps hwq;go_wp2_with fail;exact ⟨⟨j+1,by omega,by go_num,hbq,hxa,hxb⟩,by simp [intOf];omega⟩
  ·obtain rfl:j=ks.length:=by omega
   go_wp2_with fail;go_ret;exact ⟨rfl,hbw⟩
theorem down_all:∀ N,DownC N
 | 0=>by
   intro d k t l c ks a m k' t' l' c' ks' a' m' hN;rw [hi_mk] at hN;omega
 | N+1=>down_step N (down_all N)
mutual
theorem down_of {d:Nat} (hd:d≤1000):∀ {n n':Nd} {x y:NM},RelN (Dn d) n n'→x.is n→y.is n'→NM.down d x y∧x.tr=y.tr
 | .mk k s p a,_,.mk xk xt xl xc xs xa xm,.mk yk yt yl yc ys ya ym,h,hx,hy=>by
   cases h with
   | mk hp ht =>
   unfold NM.is at hx hy;obtain ⟨rfl,rfl,rfl,rfl,hx⟩:=hx;obtain ⟨rfl,rfl,rfl,rfl,hy⟩:=hy;obtain ⟨hp1,rfl⟩:=hp;have hh:=downs_of hd ht hx hy;unfold NM.down;rw [ntr_mk,ntr_mk,hh.2];refine ⟨⟨by simp,by omega,by simp only;omega,rfl,hh.1⟩,rfl⟩
theorem downs_of {d:Nat} (hd:d≤1000):∀ {n n':List Nd} {x y:List NM},RelNs (Dn d) n n'→NM.are x n→NM.are y n'→NM.downs d x y∧NM.trs x=NM.trs y
 | [],_,[],[],h,_,_=>by unfold NM.downs;exact ⟨trivial,rfl⟩
 | [],_,[],y::ys,h,_,hy=>by cases h;unfold NM.are at hy;exact hy.elim
 | [],_,x::xs,_,h,hx,_=>by unfold NM.are at hx;exact hx.elim
 | n::ns,_,[],_,_,hx,_=>by unfold NM.are at hx;exact hx.elim
 | n::ns,_,x::xs,[],h,_,hy=>by cases h;unfold NM.are at hy;exact hy.elim
 | n::ns,_,x::xs,y::ys,h,hx,hy=>by
   cases h with
   | cons h1 h2 =>
   unfold NM.are at hx hy;have e1:=down_of hd h1 hx.1 hy.1;have e2:=downs_of hd h2 hx.2 hy.2;unfold NM.downs;rw [ntrs_cons,ntrs_cons,e1.2,e2.2];exact ⟨⟨e1.1,e2.1⟩,rfl⟩
end
def Coded {α:Type} (p:Nat→Prop):PR α→Prop
 | .oof=>False
 | .bad e _=>e≠0
 | .ok _ r=>p r.length
theorem Coded.then {α β:Type} {p q:Nat→Prop} {x:PR α} {k:α→List Tok→PR β} (h:Coded p x) (hk:∀ a r,p r.length→Coded q (k a r)):Coded q (x.then k):=by
 cases x with
 | oof=>exact h.elim
 | ok a r=>exact hk a r h
 | bad e p=>exact h
theorem Coded.then' {α:Type} {p q:Nat→Prop} {x:PR α} (h:Coded p x) (hk:∀ n,p n→q n):Coded q x:=by
 cases x with
 | oof=>exact h.elim
 | ok a r=>exact hk _ h
 | bad e p=>exact h
theorem take_coded (en:Pl) {is:Bool} {l:List Tok} (h:is=true→l≠[]):Coded (fun n=>n<l.length) (pTake en is l):=by
 unfold pTake;cases is with
 | false=>(show (_:Nat)≠0;decide)
 | true=>cases l with
   | nil=>exact absurd rfl (h rfl)
   | cons t r=>show r.length<(t::r).length;simp
theorem eat_coded (en:Pl) (s:List UInt8) (l:List Tok):Coded (fun n=>n<l.length) (pEat en s l):=take_coded en sign_ne
theorem open_coded (en:Pl) {is:Bool} (d:Nat) {l:List Tok} (h:is=true→l≠[]):Coded (fun n=>n<l.length) (pOpen en is d l):=by
 unfold pOpen;split
 ·(show (_:Nat)≠0;decide)
 ·exact take_coded en h
structure ExprK (en:Pl) (f:Nat):Prop where
 prim:∀ l d,10 * l.length+3≤f→Coded (fun n=>n<l.length) (pPrim en f l d)
 sumGo:∀ x l d,10 * l.length+1≤f→Coded (fun n=>n≤l.length) (pSumGo en f x l d)
 sum:∀ l d,10 * l.length+4≤f→Coded (fun n=>n<l.length) (pSum en f l d)
 expr:∀ l d,10 * l.length+5≤f→Coded (fun n=>n<l.length) (pExpr en f l d)
 call:∀ l d,10 * l.length+2≤f→Coded (fun n=>n<l.length) (pCall en f l d)
 one:∀ k l d,10 * l.length+6≤f→Coded (fun n=>n<l.length) (pOne en f k l d)
 list:∀ k up first l d,10 * l.length+7≤f→Coded (fun n=>n≤l.length) (pList en f k up first l d)
theorem expr_coded (en:Pl):∀ f,ExprK en f
 | 0=>⟨fun _ _ h=>by omega,fun _ _ _ h=>by omega,fun _ _ h=>by omega,fun _ _ h=>by omega,fun _ _ h=>by omega,fun _ _ _ h=>by omega,fun _ _ _ _ _ h=>by omega⟩
 | f+1=>by
   have ih:=expr_coded en f;refine ⟨?_,?_,?_,?_,?_,?_,?_⟩
   ·intro l d hf;rw [pPrim];split
    ·rename_i h;exact (take_coded en fun _=>kind_ne (by decide) h).then fun _ r hr=>hr
    split
    ·rename_i h;exact (take_coded en fun _=>kind_ne (by decide) h).then fun _ r hr=>hr
    split
    ·exact ih.call l d (by omega)
    split
    ·rename_i h;exact (take_coded en fun _=>name_ne h).then fun _ r hr=>hr
    split
    ·rename_i h;exact (open_coded en d fun _=>word_ne h).then fun _ r hr=>(ih.prim r _ (by omega)).then fun _ r' hr'=>(by show r'.length<l.length;omega)
    split
    ·rename_i h;exact (open_coded en d fun _=>sign_ne h).then fun _ r hr=>(ih.list _ _ _ r _ (by omega)).then fun _ r' hr'=>(eat_coded en _ r').then fun _ r2 hr2=>(by show r2.length<l.length;omega)
    split
    ·rename_i h;exact (open_coded en d fun _=>sign_ne h).then fun _ r hr=>(ih.list _ _ _ r _ (by omega)).then fun _ r' hr'=>(eat_coded en _ r').then fun _ r2 hr2=>(by show r2.length<l.length;omega)
    exact (open_coded en d sign_ne).then fun _ r hr=>(ih.expr r _ (by omega)).then fun _ r' hr'=>(eat_coded en _ r').then fun _ r2 hr2=>(by show r2.length<l.length;omega)
   ·intro x l d hf;rw [pSumGo];split
    ·rename_i h;exact (take_coded en fun _=>sign_ne h).then fun _ r hr=>(ih.prim r d (by omega)).then fun _ r' hr'=>(ih.sumGo _ r' d (by omega)).then' fun n hn=>by omega
    ·show l.length≤l.length;omega
   ·intro l d hf;rw [pSum];exact (ih.prim l d (by omega)).then fun _ r hr=>(ih.sumGo _ r d (by omega)).then' fun n hn=>by omega
   ·intro l d hf;rw [pExpr];refine (ih.sum l d (by omega)).then fun _ r hr=>?_
    split
    ·rename_i h;have hne:r≠[]:=by
      simp only [Bool.or_eq_true] at h;rcases h with (h | h) | h
      ·exact sign_ne h
      ·exact sign_ne h
      ·exact word_ne h
     exact (take_coded en fun _=>hne).then fun _ r' hr'=>(ih.sum r' d (by omega)).then fun _ r2 hr2=>(by show r2.length<l.length;omega)
    ·exact hr
   ·intro l d hf;rw [pCall];exact (take_coded en name_ne).then fun _ r hr=>(open_coded en d sign_ne).then fun _ r1 hr1=>(ih.list _ _ _ r1 _ (by omega)).then fun _ r2 hr2=>(eat_coded en _ r2).then fun _ r3 hr3=>(by show r3.length<l.length;omega)
   ·intro k l d hf;rw [pOne];split
    ·refine (take_coded en name_ne).then fun _ r hr=>(eat_coded en _ r).then fun _ r1 hr1=>(take_coded en type_ne).then fun _ r2 hr2=>?_
     split
     ·exact (eat_coded en _ r2).then fun _ r3 hr3=>(ih.expr r3 d (by omega)).then fun _ r4 hr4=>(by show r4.length<l.length;omega)
     ·show r2.length<l.length;omega
    split
    ·split
     ·rename_i h;simp only [Bool.and_eq_true] at h;exact (take_coded en fun _=>name_ne h.1).then fun _ r hr=>(eat_coded en _ r).then fun _ r1 hr1=>(ih.expr r1 d (by omega)).then fun _ r2 hr2=>(by show r2.length<l.length;omega)
     ·exact (ih.expr l d (by omega)).then fun _ r hr=>hr
    split
    ·exact (ih.expr l d (by omega)).then fun _ r hr=>hr
    ·exact (take_coded en (kind_ne (by decide))).then fun _ r hr=>(eat_coded en _ r).then fun _ r1 hr1=>(ih.expr r1 d (by omega)).then fun _ r2 hr2=>(by show r2.length<l.length;omega)
   ·intro k up first l d hf
    rw [pList];split
    ·show l.length≤l.length;omega
    ·have hc:Coded (fun n=>n≤l.length) (if first=true then PR.ok (zeroT en) l else pEat en [44] l):=by
      split
      ·show l.length≤l.length;omega
      ·exact (eat_coded en [44] l).then' fun n hn=>by omega
     exact hc.then fun _ r hr=>(ih.one k r d (by omega)).then fun _ r1 hr1=>(ih.list _ _ _ r1 d (by omega)).then fun _ r2 hr2=>(by show r2.length≤l.length;omega)
structure StmtK (en:Pl) (f:Nat):Prop where
 block:∀ l d,10 * l.length+2≤f→Coded (fun n=>n<l.length) (pBlock en f l d)
 stmt:∀ l d,10 * l.length+8≤f→Coded (fun n=>n<l.length) (pStmt en f l d)
 stmts:∀ up l d,10 * l.length+9≤f→Coded (fun n=>n≤l.length) (pStmts en f up l d)
theorem stmt_coded (en:Pl):∀ f,StmtK en f
 | 0=>⟨fun _ _ h=>by omega,fun _ _ h=>by omega,fun _ _ _ h=>by omega⟩
 | f+1=>by
   have ih:=stmt_coded en f;have ie:=expr_coded en f;refine ⟨?_,?_,?_⟩
   ·intro l d hf;rw [pBlock];exact (open_coded en d sign_ne).then fun _ r hr=>(ih.stmts _ r _ (by omega)).then fun _ r1 hr1=>(eat_coded en _ r1).then fun _ r2 hr2=>(by show r2.length<l.length;omega)
   ·intro l d hf;rw [pStmt];split
    ·rename_i h;exact (take_coded en fun _=>word_ne h).then fun _ r hr=>(take_coded en name_ne).then fun _ r1 hr1=>(take_coded en word_ne).then fun _ r2 hr2=>(ie.expr r2 d (by omega)).then fun _ r3 hr3=>(ih.block r3 d (by omega)).then fun _ r4 hr4=>(by show r4.length<l.length;omega)
    split
    ·rename_i h;refine (take_coded en fun _=>word_ne h).then fun _ r hr=>(ie.expr r d (by omega)).then fun _ r1 hr1=>(ih.block r1 d (by omega)).then fun _ r2 hr2=>?_
     split
     ·rename_i h2;exact (take_coded en fun _=>word_ne h2).then fun _ r3 hr3=>(ih.block r3 d (by omega)).then fun _ r4 hr4=>(by show r4.length<l.length;omega)
     ·show r2.length<l.length;omega
    split
    ·rename_i h;exact (take_coded en fun _=>word_ne h).then fun _ r hr=>(take_coded en name_ne).then fun _ r1 hr1=>(eat_coded en _ r1).then fun _ r2 hr2=>(ie.list _ _ _ r2 d (by omega)).then fun _ r3 hr3=>(eat_coded en _ r3).then fun _ r4 hr4 =>
      (ih.block r4 d (by omega)).then fun _ r5 hr5=>(by show r5.length<l.length;omega)
    split
    ·exact (ie.call l d (by omega)).then fun _ r hr=>(eat_coded en _ r).then fun _ r1 hr1=>(by show r1.length<l.length;omega)
    ·exact (take_coded en name_ne).then fun _ r hr=>(eat_coded en _ r).then fun _ r1 hr1=>(ie.expr r1 d (by omega)).then fun _ r2 hr2=>(eat_coded en _ r2).then fun _ r3 hr3=>(by show r3.length<l.length;omega)
   ·intro up l d hf;rw [pStmts];split
    ·show l.length≤l.length;omega
    ·exact (ih.stmt l d (by omega)).then fun _ r hr=>(ih.stmts _ r d (by omega)).then fun _ r1 hr1=>(by show r1.length≤l.length;omega)
theorem read_code {s:List UInt8} {e:Nat} {p:Pl} (h:readL s=.bad e p):e≠0:=by
 unfold readL at h;split at h
 ·have:=(stmt_coded (advs (1,1) s) (10 * (allT s).1.length+20)).stmts false (allT s).1 0 (by omega);rw [h] at this;exact this
 ·rename_i hn;cases h
  exact hn
end Go.Proofs.YtfgiihpopngbkaaGreatDoor
