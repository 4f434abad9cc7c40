/- Lemmas and walks that the statement needs: BackLaw, FrameNode. -/
import Derived.Test.YtfgiihpopngbkaaGreatDoorM34
import Derived.Test.YtfgiihpopngbkaaGreatDoorM27
import Derived.Test.YtfgiihpopngbkaaGreatDoorM29
import Derived.Test.YtfgiihpopngbkaaGreatDoorM01
import Derived.Deep.Fields
import Derived.ChangeSame
import Derived.Lib.SmallJoins
namespace Go.Proofs.YtfgiihpopngbkaaGreatDoor
set_option maxRecDepth 100000
open Go.RowKit
open Nat renaming lt_of_lt_of_le→nL,le_trans→nT
theorem print_gives (k:Int) (t:List UInt8) (l c:Int) (ks:List NM) (a:Option Addr) (m:Nat) (w:World) (hw:Laid w) (hh:HeldN AnyB w (.mk k t l c ks a m)) (hf:(NM.mk k t l c ks a m).fit) (hhi:(NM.mk k t l c ks a m).hi≤90000)
  (hlen:okTs (NM.trs ks)=true→(render (fileP (NM.trs ks))).length≤140737488351232) (X:List UInt8) (h:printL (NM.mk k t l c ks a m).tr=(X,0)) :
  Calls Tryz.prog 12 #[nodeV k t l c (.slice a ks.length m)] w fun e w'=>e=.returned (.tuple #[.string (bs X),.int .i64 0])∧Below w.heap.size w w':=by
 have:=print_any k t l c ks a m w hw hh hf hhi hlen;rw [h] at this;exact this
theorem row_keep {w w':World} {b:Nat} {o:Obj} (h:w.heap[b]? = some o) (hb:Below w.heap.size w w'):w'.heap[b]? = some o:=(hb.block b (Array.getElem?_eq_some_iff.1 h).1).trans h
theorem print_wrong (k:Int) (t:List UInt8) (l c:Int) (ks:List NM) (a:Option Addr) (m:Nat) (w:World) (hw:Laid w) (hh:HeldN AnyB w (.mk k t l c ks a m)) (hf:(NM.mk k t l c ks a m).fit) (hhi:(NM.mk k t l c ks a m).hi≤90000)
  (hlen:okTs (NM.trs ks)=true→(render (fileP (NM.trs ks))).length≤140737488351232) (X:List UInt8) (n:Nat) (h:printL (NM.mk k t l c ks a m).tr=(X,n)) :
  Calls Tryz.prog 12 #[nodeV k t l c (.slice a ks.length m)] w fun e w'=>e=.returned (.tuple #[.string (bs X),.int .i64 (n:Int)])∧Below w.heap.size w w':=by
 have:=print_any k t l c ks a m w hw hh hf hhi hlen;rw [h] at this;exact this
set_option maxHeartbeats 2000000 in
theorem back_heavy (k:Int) (t:List UInt8) (l c:Int) (ks:List NM) (a:Option Addr) (m:Nat) (s:List UInt8) (_hs:s.length≤140737488351232) (hsm:(NM.mk k t l c ks a m).small) (w:World) (hw:Laid w) (hh:HeldN AnyB w (.mk k t l c ks a m)) (hbig:4000<weightN (NM.mk k t l c ks a m).tr 0) :
  Calls Tryz.prog 5 #[nodeV k t l c (.slice a ks.length m),.string (bs s)] w fun e w'=>e=.returned (.bool true)∧Below w.heap.size w w':=by
 obtain ⟨w1,hwh,hb1,hr1,hlt1⟩:∃ W,Hid (W=w.alloc (.cells #[.int .i64 k,.string (bs t),.int .i64 l,.int .i64 c,.slice a ks.length m] 27))∧Below w.heap.size w W∧W.heap[w.heap.size]? = some (.cells #[.int .i64 k,.string (bs t),.int .i64 l,.int .i64 c,.slice a ks.length m] 27 (0,0))∧w.heap.size<W.heap.size :=
  ⟨_,hid rfl,below_new w _,heap_alloc_new w _,by rw [World.size_alloc];omega⟩
 have Ha:=hid (alive_any w1 (hw.below hb1));have HW1:=hid (hw.below hb1);have HX1:=hid (hh.below hb1);have HB1:=hid hb1;have HR1:=hid hr1;have HWt:=hid (fun W (hH:HeldN AnyB W (.mk k t l c ks a m))=>weight_any k t l c ks a m hsm W hH);generalize hwt:weightN (NM.mk k t l c ks a m).tr 0=wt at *;clear hw hh hb1 hr1;go_enter Tryz.func5,Tryz.ntmps5
 go_wp2_with fail;rw [← hwh.out];clear hwh;refine Ha.out.mono ?_;rintro e w2 ⟨rfl,hb2⟩;have HB2:=hid (Below.chain HB1.out hb2);have HR2:=hid ((hb2.block _ hlt1).trans HR1.out);have HW2:=hid (HW1.out.below hb2);have HX2:=hid (HX1.out.below hb2);clear hb2 Ha HW1 HX1 HB1 HR1;have hlt2:w.heap.size<w2.heap.size:=(Array.getElem?_eq_some_iff.1 HR2.out).1;obtain ⟨z0,z1,z2,z3,z4,-,-,-,-,-⟩:=row5 HR2.out;go_wp2_with fail;clear z0 z1 z2 z3 z4;refine (HWt.out _ HX2.out).mono ?_;rintro e w3 ⟨rfl,hb3⟩;have HB3:=hid (Below.chain HB2.out hb3);have HR3:=hid ((hb3.block _ hlt2).trans HR2.out);have HW3:=hid (HW2.out.below hb3);have HX3:=hid (HX2.out.below hb3);clear hb3 HWt HB2 HR2 HW2 HX2 hlt2;have hlt3:w.heap.size<w3.heap.size:=(Array.getElem?_eq_some_iff.1 HR3.out).1;obtain ⟨z0,z1,z2,z3,z4,-,-,-,-,-⟩:=row5 HR3.out;go_wp2_with fail;clear z0 z1 z2 z3 z4;go_ret;exact ⟨rfl,HB3.out⟩
set_option maxHeartbeats 2000000 in
theorem back_long (k:Int) (t:List UInt8) (l c:Int) (ks:List NM) (a:Option Addr) (m:Nat) (s:List UInt8) (hs:s.length≤140737488351232) (hsm:(NM.mk k t l c ks a m).small) (w:World) (hw:Laid w) (hh:HeldN AnyB w (.mk k t l c ks a m)) (hbig:weightN (NM.mk k t l c ks a m).tr 0≤4000) (hlong:2000<s.length) :
  Calls Tryz.prog 5 #[nodeV k t l c (.slice a ks.length m),.string (bs s)] w fun e w'=>e=.returned (.bool true)∧Below w.heap.size w w':=by
 obtain ⟨w1,hwh,hb1,hr1,hlt1⟩:∃ W,Hid (W=w.alloc (.cells #[.int .i64 k,.string (bs t),.int .i64 l,.int .i64 c,.slice a ks.length m] 27))∧Below w.heap.size w W∧W.heap[w.heap.size]? = some (.cells #[.int .i64 k,.string (bs t),.int .i64 l,.int .i64 c,.slice a ks.length m] 27 (0,0))∧w.heap.size<W.heap.size :=
  ⟨_,hid rfl,below_new w _,heap_alloc_new w _,by rw [World.size_alloc];omega⟩
 have Ha:=hid (alive_any w1 (hw.below hb1));have HW1:=hid (hw.below hb1);have HX1:=hid (hh.below hb1);have HB1:=hid hb1;have HR1:=hid hr1;have HWt:=hid (fun W (hH:HeldN AnyB W (.mk k t l c ks a m))=>weight_any k t l c ks a m hsm W hH);generalize hwt:weightN (NM.mk k t l c ks a m).tr 0=wt at *;clear hw hh hb1 hr1;go_enter Tryz.func5,Tryz.ntmps5
 go_wp2_with fail;rw [← hwh.out];clear hwh;refine Ha.out.mono ?_;rintro e w2 ⟨rfl,hb2⟩;have HB2:=hid (Below.chain HB1.out hb2);have HR2:=hid ((hb2.block _ hlt1).trans HR1.out);have HW2:=hid (HW1.out.below hb2);have HX2:=hid (HX1.out.below hb2);clear hb2 Ha HW1 HX1 HB1 HR1;have hlt2:w.heap.size<w2.heap.size:=(Array.getElem?_eq_some_iff.1 HR2.out).1;obtain ⟨z0,z1,z2,z3,z4,-,-,-,-,-⟩:=row5 HR2.out;go_wp2_with fail;clear z0 z1 z2 z3 z4;refine (HWt.out _ HX2.out).mono ?_;rintro e w3 ⟨rfl,hb3⟩;have HB3:=hid (Below.chain HB2.out hb3);have HR3:=hid ((hb3.block _ hlt2).trans HR2.out);have HW3:=hid (HW2.out.below hb3);have HX3:=hid (HX2.out.below hb3);clear hb3 HWt HB2 HR2 HW2 HX2 hlt2;have hlt3:w.heap.size<w3.heap.size:=(Array.getElem?_eq_some_iff.1 HR3.out).1;obtain ⟨z0,z1,z2,z3,z4,-,-,-,-,-⟩:=row5 HR3.out;go_wp2_with fail;clear z0 z1 z2 z3 z4;go_ret;exact ⟨rfl,HB3.out⟩
set_option maxHeartbeats 4000000 in
theorem back_no (k:Int) (t:List UInt8) (l c:Int) (ks:List NM) (a:Option Addr) (m:Nat) (s:List UInt8) (hs:s.length≤140737488351232) (hsm:(NM.mk k t l c ks a m).small) (w:World) (hw:Laid w) (hh:HeldN AnyB w (.mk k t l c ks a m)) (hbig:weightN (NM.mk k t l c ks a m).tr 0≤4000) (hlong:s.length≤2000) (hp:(printL (NM.mk k t l c ks a m).tr).2≠0) :
  Calls Tryz.prog 5 #[nodeV k t l c (.slice a ks.length m),.string (bs s)] w fun e w'=>e=.returned (.bool true)∧Below w.heap.size w w':=by
 obtain ⟨ps,pe,hpp⟩:∃ ps pe,printL (NM.mk k t l c ks a m).tr=(ps,pe):=⟨_,_,rfl⟩;rw [hpp] at hp;have hwf:=weight_fit (NM.mk k t l c ks a m) 0 hbig;have hsz:=weight_sz (NM.mk k t l c ks a m).tr 0 hbig;have HPA:=hid (fun W (hW:Laid W) (hH:HeldN AnyB W (.mk k t l c ks a m))=>print_wrong k t l c ks a m W hW hH hwf.1 (by have:=hwf.2;omega) (fun h=>file_len h (by rw [ntr_mk,sz_mk] at hsz;omega)) ps pe hpp);clear hwf hsz;obtain ⟨w1,hwh,hb1,hr1,hlt1⟩:∃ W,Hid (W=w.alloc (.cells #[.int .i64 k,.string (bs t),.int .i64 l,.int .i64 c,.slice a ks.length m] 27))∧Below w.heap.size w W∧W.heap[w.heap.size]? = some (.cells #[.int .i64 k,.string (bs t),.int .i64 l,.int .i64 c,.slice a ks.length m] 27 (0,0))∧w.heap.size<W.heap.size :=
  ⟨_,hid rfl,below_new w _,heap_alloc_new w _,by rw [World.size_alloc];omega⟩
 have Ha:=hid (alive_any w1 (hw.below hb1));have HW1:=hid (hw.below hb1);have HX1:=hid (hh.below hb1);have HB1:=hid hb1;have HR1:=hid hr1;have HWt:=hid (fun W (hH:HeldN AnyB W (.mk k t l c ks a m))=>weight_any k t l c ks a m hsm W hH);generalize hwt:weightN (NM.mk k t l c ks a m).tr 0=wt at *;clear hw hh hpp hb1 hr1;have q:((pe:Int) == 0)=false:=eqF (by have:pe≠0:=hp;omega);clear hp;go_enter Tryz.func5,Tryz.ntmps5
 go_wp2_with fail;rw [← hwh.out];clear hwh;refine Ha.out.mono ?_;rintro e w2 ⟨rfl,hb2⟩;have HB2:=hid (Below.chain HB1.out hb2);have HR2:=hid ((hb2.block _ hlt1).trans HR1.out);have HW2:=hid (HW1.out.below hb2);have HX2:=hid (HX1.out.below hb2);clear hb2 Ha HW1 HX1 HB1 HR1;have hlt2:w.heap.size<w2.heap.size:=(Array.getElem?_eq_some_iff.1 HR2.out).1;obtain ⟨z0,z1,z2,z3,z4,-,-,-,-,-⟩:=row5 HR2.out;go_wp2_with fail;clear z0 z1 z2 z3 z4;refine (HWt.out _ HX2.out).mono ?_;rintro e w3 ⟨rfl,hb3⟩;have HB3:=hid (Below.chain HB2.out hb3);have HR3:=hid ((hb3.block _ hlt2).trans HR2.out);have HW3:=hid (HW2.out.below hb3);have HX3:=hid (HX2.out.below hb3);clear hb3 HWt HB2 HR2 HW2 HX2 hlt2;have hlt3:w.heap.size<w3.heap.size:=(Array.getElem?_eq_some_iff.1 HR3.out).1;obtain ⟨z0,z1,z2,z3,z4,-,-,-,-,-⟩:=row5 HR3.out;go_wp2_with fail;clear z0 z1 z2 z3 z4;refine (HPA.out _ HW3.out HX3.out).mono ?_;rintro e w4 ⟨rfl,hb4⟩;have HB4:=hid (Below.chain HB3.out hb4);have HR4:=hid ((hb4.block _ hlt3).trans HR3.out);have HW4:=hid (HW3.out.below hb4);have HX4:=hid (HX3.out.below hb4);clear hb4 HPA HB3 HR3 HW3 HX3 hlt3;have hlt4:w.heap.size<w4.heap.size:=(Array.getElem?_eq_some_iff.1 HR4.out).1;have HBc:=HB4;have HWc:=HW4;clear HB4 HW4 HR4 HX4 hlt4;have HRt:=hid (read_any s hs w4 HWc.out.range);go_wp2_with fail;refine HRt.out.mono ?_;rintro e u1 ⟨hb1,hret⟩;have HBd:=hid (Below.chain HBc.out hb1);have HWd:=hid (HWc.out.below hb1);clear hb1 HRt HBc HWc;cases hx:readL s with
 | oof=>exact absurd hx (read_fine s)
 | bad er p =>
   rw [hx] at hret;subst hret;have he:=read_code hx;have q:((er:Int) != 0)=true:=by simp;omega
   go_wp2_with fail;go_ret;exact ⟨rfl,Below.chain HBd.out (below_new2 _ _ _)⟩
 | ok n r =>
   rw [hx] at hret;obtain ⟨ks1,a1,m1,rfl,hare,hheld⟩:=hret;obtain ⟨f1,f2,f3,f4,f5⟩:=read_back (by omega) hx;rw [← are_trs hare] at f1 f2 f3 f4 f5;have hpr:=print_is f2 f1;rw [if_pos ⟨f3,f4⟩] at hpr;obtain ⟨zz,rr,hz,hzt⟩:=(read_there f2 f1).1 ⟨f3,f4⟩;clear hx hare f1 f2 f3;obtain ⟨X,hX⟩:∃ X,X=render (fileP (NM.trs ks1)):=⟨_,rfl⟩;rw [← hX] at hpr hz f4;have HXX:=hid hX;clear hX;have hb2:=below_new2 u1 (.cells #[.int .i64 1,.string (bs []),.int .i64 1,.int .i64 1,.slice a1 ks1.length m1] 27) (.cells #[.int .i64 0,.int .i64 0] 24);have HC1:=hid (boxN_two u1 1 [] 1 1 (.slice a1 ks1.length m1) (.cells #[.int .i64 0,.int .i64 0] 24) 27 (0,0));have HBe:=hid (Below.chain HBd.out hb2);have HWe:=hid (HWd.out.below hb2);have HN:=hid ((HeldN.any hheld).below hb2);have hfit:=sz_fit (NM.mk 1 [] 1 1 ks1 a1 m1) (by rw [ntr_mk,sz_mk];simp only [List.length_nil];omega);have hhi:(NM.mk 1 [] 1 1 ks1 a1 m1).hi≤90000:=by have:=hfit.2;rw [ntr_mk,sz_mk] at this;simp only [List.length_nil] at this;omega
   have HP1:=hid (print_gives 1 [] 1 1 ks1 a1 m1 _ HWe.out HN.out hfit.1 hhi (fun _=>by rw [← HXX.out];omega) X (by rw [ntr_mk,hpr]));clear hb2 hheld HBd HWd hfit hhi;obtain ⟨c0,c1,c2,c3,c4⟩:=HC1.out;go_wp2_with fail;clear c0 c1 c2 c3 c4;refine HP1.out.mono ?_;rintro e u2 ⟨rfl,hb2⟩;have HBf:=hid (Below.chain HBe.out hb2);have HWf:=hid (HWe.out.below hb2);have HN2:=hid (HN.out.below hb2);have HC2:=hid (HC1.out.keeps hb2);clear hb2 HP1 HBe HWe HN HC1;have HRx:=hid (read_any X (by omega) u2 HWf.out.range);rw [hz] at HRx;go_wp2_with fail;refine HRx.out.mono ?_;rintro e u3 ⟨hb3,ks2,a2,m2,rfl,hare2,hheld2⟩;have ht2:NM.trs ks2=NM.trs ks1:=(are_trs hare2).trans hzt;have hb4:=below_new2 u3 (.cells #[.int .i64 1,.string (bs []),.int .i64 1,.int .i64 1,.slice a2 ks2.length m2] 27) (.cells #[.int .i64 0,.int .i64 0] 24);have HC3:=hid ((HC2.out.keeps hb3).keeps hb4);have HD3:=hid (boxN_two u3 1 [] 1 1 (.slice a2 ks2.length m2) (.cells #[.int .i64 0,.int .i64 0] 24) 27 (0,0));have HBg:=hid (Below.chain (Below.chain HBf.out hb3) hb4);have HWg:=hid ((HWf.out.below hb3).below hb4);have HN3:=hid ((HN2.out.below hb3).below hb4);have HM3:=hid ((HeldN.any hheld2).below hb4);have hfit:=sz_fit (NM.mk 1 [] 1 1 ks2 a2 m2) (by rw [ntr_mk,ht2,sz_mk];simp only [List.length_nil];omega);have hhi:(NM.mk 1 [] 1 1 ks2 a2 m2).hi≤90000:=by have:=hfit.2;rw [ntr_mk,ht2,sz_mk] at this;simp only [List.length_nil] at this;omega
   have HP2:=hid (print_gives 1 [] 1 1 ks2 a2 m2 _ HWg.out HM3.out hfit.1 hhi (fun _=>by rw [ht2,← HXX.out];omega) X (by rw [ntr_mk,ht2,hpr]));have HT:=hid ht2;clear hb3 hb4 HRx hheld2 hare2 hfit hhi HBf HWf HN2 HC2 ht2 hz hzt hpr HXX;obtain ⟨d0,d1,d2,d3,d4⟩:=HD3.out;go_wp2_with fail;clear d0 d1 d2 d3 d4;refine HP2.out.mono ?_;rintro e u4 ⟨rfl,hb4⟩;have HBh:=hid (Below.chain HBg.out hb4);have HSM:=hid (same_any 1 [] 1 1 ks2 a2 m2 1 [] 1 1 ks1 a1 m1 u4 (HM3.out.below hb4) (HN3.out.below hb4));have HTT:Hid (sameN (NM.mk 1 [] 1 1 ks2 a2 m2).tr (NM.mk 1 [] 1 1 ks1 a1 m1).tr=true):=hid (by rw [ntr_mk,ntr_mk,HT.out];exact sameN_eq.2 rfl);rw [HTT.out] at HSM;have HC4:=HC3.out.keeps hb4;have HD4:=HD3.out.keeps hb4;clear hb4 HP2 HBg HWg HN3 HM3 HC3 HD3 HTT HT;obtain ⟨c0,c1,c2,c3,c4⟩:=HC4;obtain ⟨d0,d1,d2,d3,d4⟩:=HD4;go_wp2_with fail;clear c0 c1 c2 c3 c4 d0 d1 d2 d3 d4;refine HSM.out.mono ?_;rintro e u5 ⟨rfl,hb5⟩;go_wp2_with fail;go_ret;exact ⟨rfl,Below.chain HBh.out hb5⟩
set_option maxHeartbeats 4000000 in
theorem back_yes (k:Int) (t:List UInt8) (l c:Int) (ks:List NM) (a:Option Addr) (m:Nat) (s:List UInt8) (hs:s.length≤140737488351232) (hsm:(NM.mk k t l c ks a m).small) (w:World) (hw:Laid w) (hh:HeldN AnyB w (.mk k t l c ks a m)) (hbig:weightN (NM.mk k t l c ks a m).tr 0≤4000) (hlong:s.length≤2000) (hp:(printL (NM.mk k t l c ks a m).tr).2=0) :
  Calls Tryz.prog 5 #[nodeV k t l c (.slice a ks.length m),.string (bs s)] w fun e w'=>e=.returned (.bool true)∧Below w.heap.size w w':=by
 obtain ⟨pl,pz,pr,hq1,-,-,hq2,hq3,hpl⟩:=print_back hp;obtain ⟨ps,pe,hpp⟩:∃ ps pe,printL (NM.mk k t l c ks a m).tr=(ps,pe):=⟨_,_,rfl⟩;rw [hpp] at hp hq2 hpl;obtain rfl:pe=0:=hp;have hwf:=weight_fit (NM.mk k t l c ks a m) 0 hbig;have hsz:=weight_sz (NM.mk k t l c ks a m).tr 0 hbig;have HPA:=hid (fun W (hW:Laid W) (hH:HeldN AnyB W (.mk k t l c ks a m))=>print_gives k t l c ks a m W hW hH hwf.1 (by have:=hwf.2;omega) (fun h=>file_len h (by rw [ntr_mk,sz_mk] at hsz;omega)) ps hpp);clear hwf hsz;obtain ⟨w1,hwh,hb1,hr1,hlt1⟩:∃ W,Hid (W=w.alloc (.cells #[.int .i64 k,.string (bs t),.int .i64 l,.int .i64 c,.slice a ks.length m] 27))∧Below w.heap.size w W∧W.heap[w.heap.size]? = some (.cells #[.int .i64 k,.string (bs t),.int .i64 l,.int .i64 c,.slice a ks.length m] 27 (0,0))∧w.heap.size<W.heap.size :=
  ⟨_,hid rfl,below_new w _,heap_alloc_new w _,by rw [World.size_alloc];omega⟩
 have Ha:=hid (alive_any w1 (hw.below hb1));have HW1:=hid (hw.below hb1);have HX1:=hid (hh.below hb1);have HB1:=hid hb1;have HR1:=hid hr1;have HWt:=hid (fun W (hH:HeldN AnyB W (.mk k t l c ks a m))=>weight_any k t l c ks a m hsm W hH);generalize hwt:weightN (NM.mk k t l c ks a m).tr 0=wt at *;clear hw hh hpp hb1 hr1;have HQ2:Hid (readL ps=.ok pz pr):=hid hq2;have HQ1:=hid hq1;have HQ3:=hid hq3;replace hpl:ps.length≤140737488351232:=by have:ps.length≤65536:=hpl;omega
 clear hq1 hq2 hq3;go_enter Tryz.func5,Tryz.ntmps5
 go_wp2_with fail;rw [← hwh.out];clear hwh;refine Ha.out.mono ?_;rintro e w2 ⟨rfl,hb2⟩;have HB2:=hid (Below.chain HB1.out hb2);have HR2:=hid ((hb2.block _ hlt1).trans HR1.out);have HW2:=hid (HW1.out.below hb2);have HX2:=hid (HX1.out.below hb2);clear hb2 Ha HW1 HX1 HB1 HR1;have hlt2:w.heap.size<w2.heap.size:=(Array.getElem?_eq_some_iff.1 HR2.out).1;obtain ⟨z0,z1,z2,z3,z4,-,-,-,-,-⟩:=row5 HR2.out;go_wp2_with fail;clear z0 z1 z2 z3 z4;refine (HWt.out _ HX2.out).mono ?_;rintro e w3 ⟨rfl,hb3⟩;have HB3:=hid (Below.chain HB2.out hb3);have HR3:=hid ((hb3.block _ hlt2).trans HR2.out);have HW3:=hid (HW2.out.below hb3);have HX3:=hid (HX2.out.below hb3);clear hb3 HWt HB2 HR2 HW2 HX2 hlt2;have hlt3:w.heap.size<w3.heap.size:=(Array.getElem?_eq_some_iff.1 HR3.out).1;obtain ⟨z0,z1,z2,z3,z4,-,-,-,-,-⟩:=row5 HR3.out;go_wp2_with fail;clear z0 z1 z2 z3 z4;refine (HPA.out _ HW3.out HX3.out).mono ?_;rintro e w4 ⟨rfl,hb4⟩;have HB4:=hid (Below.chain HB3.out hb4);have HR4:=hid ((hb4.block _ hlt3).trans HR3.out);have HW4:=hid (HW3.out.below hb4);have HX4:=hid (HX3.out.below hb4);clear hb4 HPA HB3 HR3 HW3 HX3 hlt3;have hlt4:w.heap.size<w4.heap.size:=(Array.getElem?_eq_some_iff.1 HR4.out).1;have HRp:=hid (read_any ps hpl w4 HW4.out.range);rw [HQ2.out] at HRp;go_wp2_with fail;refine HRp.out.mono ?_;rintro e w5 ⟨hb5,ks0,a0,m0,rfl,hare0,hheld0⟩;have hb6:=below_new2 w5 (.cells #[.int .i64 1,.string (bs []),.int .i64 1,.int .i64 1,.slice a0 ks0.length m0] 27) (.cells #[.int .i64 0,.int .i64 0] 24);have HB6:=hid (Below.chain (Below.chain HB4.out hb5) hb6);have HR6:=hid (row_keep (row_keep HR4.out hb5) hb6);have HW6:=hid ((HW4.out.below hb5).below hb6);have HX6:=hid ((HX4.out.below hb5).below hb6);have HY6:=hid ((HeldN.any hheld0).below hb6);have HD6:=hid (boxN_two w5 1 [] 1 1 (.slice a0 ks0.length m0) (.cells #[.int .i64 0,.int .i64 0] 24) 27 (0,0));have HSM:=hid (refsame_any 1 [] 1 1 ks0 a0 m0 k t l c ks a m _ HY6.out HX6.out);have HTT:Hid (sameN (NM.mk 1 [] 1 1 ks0 a0 m0).tr (NM.mk k t l c ks a m).tr=true):=hid (by rw [ntr_mk,HQ1.out,are_trs hare0,HQ3.out];exact sameN_eq.2 rfl);rw [HTT.out] at HSM;clear hb5 hb6 HRp hare0 hheld0 HB4 HR4 HW4 HX4 hlt4 HTT HQ1 HQ2 HQ3 HY6 HX6;obtain ⟨z0,z1,z2,z3,z4,-,-,-,-,-⟩:=row5 HR6.out;obtain ⟨d0,d1,d2,d3,d4⟩:=HD6.out;go_wp2_with fail;clear z0 z1 z2 z3 z4 d0 d1 d2 d3 d4;refine HSM.out.mono ?_;rintro e w7 ⟨rfl,hb7⟩;have HBc:=hid (Below.chain HB6.out hb7);have HWc:=hid (HW6.out.below hb7);clear hb7 HSM HB6 HR6 HW6 HD6;have HRt:=hid (read_any s hs w7 HWc.out.range);go_wp2_with fail;refine HRt.out.mono ?_;rintro e u1 ⟨hb1,hret⟩;have HBd:=hid (Below.chain HBc.out hb1);have HWd:=hid (HWc.out.below hb1);clear hb1 HRt HBc HWc;cases hx:readL s with
 | oof=>exact absurd hx (read_fine s)
 | bad er p =>
   rw [hx] at hret;subst hret;have he:=read_code hx;have q:((er:Int) != 0)=true:=by simp;omega
   go_wp2_with fail;go_ret;exact ⟨rfl,Below.chain HBd.out (below_new2 _ _ _)⟩
 | ok n r =>
   rw [hx] at hret;obtain ⟨ks1,a1,m1,rfl,hare,hheld⟩:=hret;obtain ⟨f1,f2,f3,f4,f5⟩:=read_back (by omega) hx;rw [← are_trs hare] at f1 f2 f3 f4 f5;have hpr:=print_is f2 f1;rw [if_pos ⟨f3,f4⟩] at hpr;obtain ⟨zz,rr,hz,hzt⟩:=(read_there f2 f1).1 ⟨f3,f4⟩;clear hx hare f1 f2 f3;obtain ⟨X,hX⟩:∃ X,X=render (fileP (NM.trs ks1)):=⟨_,rfl⟩;rw [← hX] at hpr hz f4;have HXX:=hid hX;clear hX;have hb2:=below_new2 u1 (.cells #[.int .i64 1,.string (bs []),.int .i64 1,.int .i64 1,.slice a1 ks1.length m1] 27) (.cells #[.int .i64 0,.int .i64 0] 24);have HC1:=hid (boxN_two u1 1 [] 1 1 (.slice a1 ks1.length m1) (.cells #[.int .i64 0,.int .i64 0] 24) 27 (0,0));have HBe:=hid (Below.chain HBd.out hb2);have HWe:=hid (HWd.out.below hb2);have HN:=hid ((HeldN.any hheld).below hb2);have hfit:=sz_fit (NM.mk 1 [] 1 1 ks1 a1 m1) (by rw [ntr_mk,sz_mk];simp only [List.length_nil];omega);have hhi:(NM.mk 1 [] 1 1 ks1 a1 m1).hi≤90000:=by have:=hfit.2;rw [ntr_mk,sz_mk] at this;simp only [List.length_nil] at this;omega
   have HP1:=hid (print_gives 1 [] 1 1 ks1 a1 m1 _ HWe.out HN.out hfit.1 hhi (fun _=>by rw [← HXX.out];omega) X (by rw [ntr_mk,hpr]));clear hb2 hheld HBd HWd hfit hhi;obtain ⟨c0,c1,c2,c3,c4⟩:=HC1.out;go_wp2_with fail;clear c0 c1 c2 c3 c4;refine HP1.out.mono ?_;rintro e u2 ⟨rfl,hb2⟩;have HBf:=hid (Below.chain HBe.out hb2);have HWf:=hid (HWe.out.below hb2);have HN2:=hid (HN.out.below hb2);have HC2:=hid (HC1.out.keeps hb2);clear hb2 HP1 HBe HWe HN HC1;have HRx:=hid (read_any X (by omega) u2 HWf.out.range);rw [hz] at HRx;go_wp2_with fail;refine HRx.out.mono ?_;rintro e u3 ⟨hb3,ks2,a2,m2,rfl,hare2,hheld2⟩;have ht2:NM.trs ks2=NM.trs ks1:=(are_trs hare2).trans hzt;have hb4:=below_new2 u3 (.cells #[.int .i64 1,.string (bs []),.int .i64 1,.int .i64 1,.slice a2 ks2.length m2] 27) (.cells #[.int .i64 0,.int .i64 0] 24);have HC3:=hid ((HC2.out.keeps hb3).keeps hb4);have HD3:=hid (boxN_two u3 1 [] 1 1 (.slice a2 ks2.length m2) (.cells #[.int .i64 0,.int .i64 0] 24) 27 (0,0));have HBg:=hid (Below.chain (Below.chain HBf.out hb3) hb4);have HWg:=hid ((HWf.out.below hb3).below hb4);have HN3:=hid ((HN2.out.below hb3).below hb4);have HM3:=hid ((HeldN.any hheld2).below hb4);have hfit:=sz_fit (NM.mk 1 [] 1 1 ks2 a2 m2) (by rw [ntr_mk,ht2,sz_mk];simp only [List.length_nil];omega);have hhi:(NM.mk 1 [] 1 1 ks2 a2 m2).hi≤90000:=by have:=hfit.2;rw [ntr_mk,ht2,sz_mk] at this;simp only [List.length_nil] at this;omega
   have HP2:=hid (print_gives 1 [] 1 1 ks2 a2 m2 _ HWg.out HM3.out hfit.1 hhi (fun _=>by rw [ht2,← HXX.out];omega) X (by rw [ntr_mk,ht2,hpr]));have HT:=hid ht2;clear hb3 hb4 HRx hheld2 hare2 hfit hhi HBf HWf HN2 HC2 ht2 hz hzt hpr HXX;obtain ⟨d0,d1,d2,d3,d4⟩:=HD3.out;go_wp2_with fail;clear d0 d1 d2 d3 d4;refine HP2.out.mono ?_;rintro e u4 ⟨rfl,hb4⟩;have HBh:=hid (Below.chain HBg.out hb4);have HSM:=hid (same_any 1 [] 1 1 ks2 a2 m2 1 [] 1 1 ks1 a1 m1 u4 (HM3.out.below hb4) (HN3.out.below hb4));have HTT:Hid (sameN (NM.mk 1 [] 1 1 ks2 a2 m2).tr (NM.mk 1 [] 1 1 ks1 a1 m1).tr=true):=hid (by rw [ntr_mk,ntr_mk,HT.out];exact sameN_eq.2 rfl);rw [HTT.out] at HSM;have HC4:=HC3.out.keeps hb4;have HD4:=HD3.out.keeps hb4;clear hb4 HP2 HBg HWg HN3 HM3 HC3 HD3 HTT HT;obtain ⟨c0,c1,c2,c3,c4⟩:=HC4;obtain ⟨d0,d1,d2,d3,d4⟩:=HD4;go_wp2_with fail;clear c0 c1 c2 c3 c4 d0 d1 d2 d3 d4;refine HSM.out.mono ?_;rintro e u5 ⟨rfl,hb5⟩;go_wp2_with fail;go_ret;exact ⟨rfl,Below.chain HBh.out hb5⟩
theorem back_any (k:Int) (t:List UInt8) (l c:Int) (ks:List NM) (a:Option Addr) (m:Nat) (s:List UInt8) (hs:s.length≤140737488351232) (hsm:(NM.mk k t l c ks a m).small) (w:World) (hw:Laid w) (hh:HeldN AnyB w (.mk k t l c ks a m)) :
  Calls Tryz.prog 5 #[nodeV k t l c (.slice a ks.length m),.string (bs s)] w fun e w'=>e=.returned (.bool true)∧Below w.heap.size w w':=by
 by_cases hbig:4000<weightN (NM.mk k t l c ks a m).tr 0
 ·exact back_heavy k t l c ks a m s hs hsm w hw hh hbig
 by_cases hlong:2000<s.length
 ·exact back_long k t l c ks a m s hs hsm w hw hh (by omega) hlong
 by_cases hp:(printL (NM.mk k t l c ks a m).tr).2=0
 ·exact back_yes k t l c ks a m s hs hsm w hw hh (by omega) (by omega) hp
 ·exact back_no k t l c ks a m s hs hsm w hw hh (by omega) (by omega) hp
end Go.Proofs.YtfgiihpopngbkaaGreatDoor
namespace Go.Proofs.YtfgiihpopngbkaaGreatDoor
open Nat renaming lt_of_lt_of_le→nL,le_trans→nT
open Go.Joins Go.ChangeShapes Go.WideShapes Go.ChangeAt Go.RowKit Go.Deep
set_option maxRecDepth 100000
theorem wts_mem {H:Type} {P:Program} {e:TypeId} {d:DataW H}:∀ {ds:List (DataW H)},d ∈ ds→∀ n ∈ d.weights P e,n ∈ DataW.weightsAll P e ds
 | d0::ds,hd,n,hn=>by
   simp only [DataW.weightsAll,List.mem_append];rcases List.mem_cons.1 hd with rfl | hd
   ·exact .inl hn
   ·exact .inr (wts_mem hd n hn)
theorem node_under:∃ f0 f1 f2 f3:Field,Tryz.prog.underlying 27=some (.struct #[f0,f1,f2,f3])∧f0.type=3∧f1.type=9∧f2.type=24∧f3.type=25∧f0.offset=0∧f1.offset=1∧f2.offset=2∧f3.offset=4 :=
 ⟨_,_,_,_,rfl,rfl,rfl,rfl,rfl,rfl,rfl,rfl,rfl⟩
theorem place_under:∃ f0 f1:Field,Tryz.prog.underlying 24=some (.struct #[f0,f1])∧f0.type=3∧f1.type=3∧f0.offset=0∧f1.offset=1 :=
 ⟨_,_,rfl,rfl,rfl,rfl,rfl⟩
theorem node_cells:Tryz.prog.cellsOf 27=5:=by kernel_rfl
theorem place_cells:Tryz.prog.cellsOf 24=2:=by kernel_rfl
theorem int_cells:Tryz.prog.cellsOf 3=1:=by kernel_rfl
theorem str_cells:Tryz.prog.cellsOf 9=1:=by kernel_rfl
theorem nds_cells:Tryz.prog.cellsOf 25=1:=by kernel_rfl
theorem nm_list {P:Nat→NM→Prop}:∀ len,(∀ i,i<len→∃ x,P i x)→∃ l:List NM,l.length=len∧∀ i (h:i<l.length),P i l[i]
 | 0,_=>⟨[],rfl,fun i h=>by simp at h⟩
 | len+1,h=>by
   obtain ⟨l,hl,hp⟩:=nm_list len (fun i hi=>h i (by omega));obtain ⟨x,hx⟩:=h len (by omega);refine ⟨l++[x],by simp [hl],fun i hi=>?_⟩;by_cases e:i<l.length
   ·rw [List.getElem_append_left e];exact hp i e
   ·have:i=len:=by simp at hi;omega
    subst this;rw [List.getElem_append_right (by omega)];simpa [hl] using hx
theorem heldNs_of {W:World}:∀ {l:List NM},(∀ i (h:i<l.length),HeldN AnyB W l[i])→HeldNs AnyB W l
 | [],_=>heldNs_nil
 | v::r,h=>by
   unfold HeldNs;exact ⟨h 0 (by simp),heldNs_of (fun i hi=>h (i+1) (by simpa using hi))⟩
theorem smalls_of:∀ {l:List NM},(∀ i (h:i<l.length),l[i].small)→NM.smalls l
 | [],_=>by unfold NM.smalls;trivial
 | v::r,h=>by
   unfold NM.smalls;exact ⟨h 0 (by simp),smalls_of (fun i hi=>h (i+1) (by simpa using hi))⟩
theorem nmCells_at:∀ (l:List NM) (i:Nat) (h:i<l.length) (r:Nat),r<5→(nmCells l)[i * 5+r]? = l[i].cells[r]?
 | v::t,0,_,r,hr=>by
   rw [nmCells_cons,Nat.zero_mul,Nat.zero_add,List.getElem?_append_left (by rw [v.cells_len];exact hr)];rfl
 | v::t,i+1,h,r,hr=>by
   rw [nmCells_cons,List.getElem?_append_right (by rw [v.cells_len];omega),v.cells_len,show (i+1) * 5+r - 5=i * 5+r by omega];exact nmCells_at t i (by simpa using h) r hr
 | [],i,h,_,_=>by simp at h
theorem read_node {H:Type} {enc:TypeId × Value→H} {W:World}:∀ (N:Nat) (d:DataW H) (p:List MemPlace) (cs:List Value) (n:Nat),SizeOf.sizeOf d≤N →
  DataW.trod enc Tryz.prog W 0 (fun _=>true) true n 27 cs=some (d,p)→(∀ z ∈ d.weights Tryz.prog 27,z≤reachBytes) →
  ∃ x:NM,x.cells=cs∧HeldN AnyB W x∧x.small:=by
 intro N;induction N with
 | zero=>intro d;intros;rename_i h _ _;exfalso;cases d <;> simp at h
 | succ N ih =>
   intro d p cs n hN h hw;obtain ⟨f0,f1,f2,f3,hu,t0,t1,t2,t3,o0,o1,o2,o3⟩:=node_under;obtain ⟨xs,n1,-,hx,hcl,hlen,hg⟩:=DataW.trod_struct hu h;rw [node_cells] at hcl
   match cs,hcl with
   | [c0,c1,c2,c3,c4],_ =>
   match xs,hlen with
   | [y0,y1,y2,y3],_ =>
   have h0:=hg 0 f0 rfl;have h1:=hg 1 f1 rfl;have h2:=hg 2 f2 rfl;have h3:=hg 3 f3 rfl;rw [t0,o0,int_cells] at h0;rw [t1,o1,str_cells] at h1;rw [t2,o2,place_cells] at h2;rw [t3,o3,nds_cells] at h3;replace h0:DataW.trod enc Tryz.prog W 0 (fun _=>true) true n1 3 [c0]=some y0:=h0;replace h1:DataW.trod enc Tryz.prog W 0 (fun _=>true) true n1 9 [c1]=some y1:=h1;replace h2:DataW.trod enc Tryz.prog W 0 (fun _=>true) true n1 24 [c2,c3]=some y2:=h2;replace h3:DataW.trod enc Tryz.prog W 0 (fun _=>true) true n1 25 [c4]=some y3:=h3;obtain ⟨a0,e0,-,-⟩:=DataW.trod_int Tryz.underlying3 h0;obtain ⟨s1,e1,f1',-⟩:=DataW.trod_string Tryz.underlying9 h1;obtain ⟨g0,g1,hpu,u0,u1,v0,v1⟩:=place_under;obtain ⟨zs,n2,-,-,-,hzl,hzg⟩:=DataW.trod_struct hpu h2
   match zs,hzl with
   | [z0,z1],_ =>
   have k0:=hzg 0 g0 rfl;have k1:=hzg 1 g1 rfl;rw [u0,v0,int_cells] at k0;rw [u1,v1,int_cells] at k1;obtain ⟨a2,e2,-,-⟩:=DataW.trod_int Tryz.underlying3 (cs:=[c2]) k0;obtain ⟨a3,e3,-,-⟩:=DataW.trod_int Tryz.underlying3 (cs:=[c3]) k1;simp only [List.cons.injEq,and_true] at e0 e1 e2 e3;subst e0 e1 e2 e3;simp only [Prod.mk.injEq,List.map_cons,List.map_nil] at hx;obtain ⟨hd,-⟩:=hx;have hws:∀ z,z ∈ y1.1.weights Tryz.prog 9∨z ∈ y3.1.weights Tryz.prog 25→z≤reachBytes:=by
    intro z hz;refine hw z ?_;rw [hd];simp only [DataW.weights,hu,List.map_cons,List.map_nil,t0,t1,t2,t3,DataW.weightsEach,List.mem_append];rcases hz with hz | hz
    ·exact .inr (.inl hz)
    ·exact .inr (.inr (.inr (.inl hz)))
   have hs1:s1.data.toList.length≤140737488351232:=by
    have:=hws s1.data.toList.length (.inl (by rw [f1'];simp [DataW.weights]));simp only [reachBytes] at this;omega
   rcases open_slice Tryz.underlying25 h3 with ⟨hcs,-⟩ | ⟨a,len,cap,m,n3,D,Pl,hcs,-,hl,hm,hmm,hxx,hi⟩
   ·obtain rfl:c4=.slice none 0 0:=by simpa using hcs
    refine ⟨.mk a0 s1.data.toList a2 a3 [] none 0,rfl,held_none _ _ _ _,?_⟩;unfold NM.small;exact ⟨hs1,by unfold NM.smalls;trivial⟩
   ·obtain rfl:c4=.slice (some a) len cap:=by simpa using hcs
    simp only [if_true] at hmm;rw [node_cells] at hi;have hyi:∀ i,i<len→∃ x:NM,(∀ r u,x.cells[r]? = some u→W.cell? (a.add (i * 5+r))=some u)∧HeldN AnyB W x∧x.small:=by
     intro i hil;obtain ⟨cs',hc,hf⟩:=hi i (by omega);obtain ⟨_,hcl',hat⟩:=World.cells?_some hc;have hs3:SizeOf.sizeOf (D i)≤N:=by
      have m2:D i ∈ (List.range len).map D:=List.mem_map.2 ⟨i,List.mem_range.2 hil,rfl⟩;have k3:=List.sizeOf_lt_of_mem m2;have k4:SizeOf.sizeOf y3.1=1+SizeOf.sizeOf ((List.range len).map D)+SizeOf.sizeOf ((List.range (m - len)).map fun j=>D (len+j)):=by rw [hxx];simp
      have k5:SizeOf.sizeOf d=1+SizeOf.sizeOf [y0.1,y1.1,y2.1,y3.1]:=by rw [hd];simp
      have k6:SizeOf.sizeOf y3.1<SizeOf.sizeOf [y0.1,y1.1,y2.1,y3.1]:=List.sizeOf_lt_of_mem (by simp);omega
     obtain ⟨x,hxc,hxh,hxf⟩:=ih (D i) (Pl i) cs' n3 hs3 hf (fun z hz=>hws z (.inr (by
      rw [hxx];simp only [DataW.weights,Tryz.underlying25,List.mem_cons,List.mem_append];exact .inr (.inl (wts_mem (List.mem_map.2 ⟨i,List.mem_range.2 hil,rfl⟩) z hz)))))
     refine ⟨x,fun r u hr=>?_,hxh,hxf⟩;have hr5:r<5:=by have:=(List.getElem?_eq_some_iff.1 hr).1;rw [x.cells_len] at this;exact this
     have:=hat r hr5;rw [← Go.Deep.add_add,this];rw [hxc] at hr;have hcl5:cs'.length=5:=hcl';rw [← hr,List.getElem?_eq_getElem (by omega)]
    obtain ⟨l,hll,hp⟩:=nm_list (P:=fun i x=>(∀ r u,x.cells[r]? = some u→W.cell? (a.add (i * 5+r))=some u)∧HeldN AnyB W x∧x.small) len hyi;have hHL:HeldNs AnyB W l:=heldNs_of (fun i h=>(hp i h).2.1);have hFL:NM.smalls l:=smalls_of (fun i h=>(hp i h).2.2);have hSl:SliceAt W 5 (.slice (some a) l.length cap) l.length (nmCells l):=by
     refine ⟨by rw [nmCells_len],some a,cap,rfl,by rw [hll];exact hl,hm,fun h=>(by cases h),fun hne=>?_⟩;have hl0:0<l.length:=by
      rcases Nat.eq_zero_or_pos l.length with h0 | h0
      ·rw [List.length_eq_zero_iff.1 h0] at hne;exact absurd rfl hne
      ·exact h0
     have hcell:∀ j u,(nmCells l)[j]? = some u→W.cell? (a.add j)=some u:=by
      intro j u hu;have hj:j<l.length * 5:=by rw [← nmCells_len];exact (List.getElem?_eq_some_iff.1 hu).1
      have hq':j / 5 * 5+j % 5=j:=by omega
      have:=nmCells_at l (j / 5) (by omega) (j % 5) (Nat.mod_lt _ (by omega));rw [hq'] at this;rw [this] at hu;have:=(hp (j / 5) (by omega)).1 _ _ hu;rwa [hq'] at this
     have h00:∃ u,(nmCells l)[0]? = some u:=⟨_,List.getElem?_eq_getElem (by rw [nmCells_len];omega)⟩;obtain ⟨u0,hu0⟩:=h00;obtain ⟨b,off,spot⟩:=a;have hspot:spot=none:=by simpa [Addr.add] using World.cell?_spot (hcell 0 u0 hu0)
     subst hspot;refine ⟨b,off,rfl,?_,fun j u hu=>?_⟩
     ·have:=World.block_lt_of_cell? W _ (hcell 0 u0 hu0);simpa [Addr.add] using this
     ·rw [← add_plain];exact hcell j u hu
    refine ⟨.mk a0 s1.data.toList a2 a3 l (some a) cap,?_,mk_heldN ⟨hSl,fun _ _ _ _ _ _=>trivial⟩ hHL,?_⟩
    ·show [_,_,_,_,Value.slice (some a) l.length cap]=_;rw [hll];rfl
    ·unfold NM.small;exact ⟨hs1,hFL⟩
theorem arg_node {H:Type} {enc:TypeId × Value→H} {W:World} {base:Nat} {v:Value} {d:DataW H} {p:List MemPlace}
  (hv:Value.okWide Tryz.prog W .any base 27 v) (h:DataW.Trod enc Tryz.prog W 0 (fun _=>true) true 27 v d p) (hw:∀ n ∈ d.weights Tryz.prog 27,n≤reachBytes) :
  ∃ (k:Int) (t:List UInt8) (l c:Int) (ks:List NM) (a:Option Addr) (m:Nat),v=nodeV k t l c (.slice a ks.length m)∧HeldN AnyB W (.mk k t l c ks a m)∧(NM.mk k t l c ks a m).small:=by
 obtain ⟨f0,f1,f2,f3,hu,-⟩:=node_under;obtain ⟨cs,rfl,-⟩:=okWide_struct hu hv;obtain ⟨fuel,hf⟩:=h;obtain ⟨x,hx,hh,hs⟩:=read_node _ d p cs.toList fuel (Nat.le_refl _) hf hw;cases x with
 | mk k t l c ks a m =>
   refine ⟨k,t,l,c,ks,a,m,?_,hh,hs⟩;obtain ⟨cl⟩:=cs;rw [show cl=_ from hx.symm];rfl
end Go.Proofs.YtfgiihpopngbkaaGreatDoor
