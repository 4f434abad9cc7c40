/- Lemmas and walks that the statement needs: MayS, MayR, May, PageBuild, PageWrite, ParseFuel, ParseRel. -/
import Derived.Test.YtfgiihpopngbkaaGreatDoorP09
import Derived.Test.YtfgiihpopngbkaaGreatDoorP08
import Derived.Lib.FrozenHead
namespace Go.Proofs.YtfgiihpopngbkaaGreatDoor
set_option maxRecDepth 100000
set_option maxHeartbeats 8000000
open Go.RowKit
open List renaming length_append→lAp
open Go.World renaming size_alloc→wSz
open _root_.Bool renaming and_eq_true→bAe
open _root_.Array renaming getElem?_eq_some_iff→aGe
open Go renaming cell_of_row→cRo,heap_alloc_new→hAn,heap_setCell_same→hSs
theorem zbP (t:List UInt8) (l c:Int) (kx:Int) (tx:List UInt8) (lx cx:Int) (ksx:List NM) (ax:Option Addr) (mx:Nat) (a:Option Addr) (m:Nat) (w:World) (hw:bB w) (hh:am aR w (.mk 2 t l c [(NM.mk kx tx lx cx ksx ax mx)] a m)) (ht:(t:List UInt8).length≤1000000) (IHx:dO 38 mE (NM.mk kx tx lx cx ksx ax mx)) :
  Calls Tryz.prog 23 #[aB 2 t l c (.slice a 1 m)] w fun e w'=>e=.returned (.bool (mS (NM.mk 2 t l c [(NM.mk kx tx lx cx ksx ax mx)] a m).tr))∧Below w.heap.size w w':=by
 have bC:=nb;obtain ⟨kb,ko,rfl,bk,hm1,hlm,Fx,ggx⟩:=fp hh;have HO:=hid (show mS (NM.mk 2 t l c [(NM.mk kx tx lx cx ksx ax mx)] (some ⟨kb,ko,none⟩) m).tr=(aM t && mE (NM.mk kx tx lx cx ksx ax mx).tr) by
  rw [aq,xE,ai,ar];rfl
 )
 rw [HO.out];clear HO;have C0:=hid (fun W (hW:Below w.heap.size w W)=>cq t (by omega) W (hw.range.below hW));have C1:=IHx.c hw ggx;generalize aM t=b0 at *;generalize mE (NM.mk kx tx lx cx ksx ax mx).tr=b1 at *;clear hh hw IHx ggx;obtain ⟨yx0,yx1,yx2,yx3,yx4⟩:=aj Fx.out;have HB0:=hid (ag w (.cells #[.int .i64 2,.string (bs t),.int .i64 l,.int .i64 c,.slice (some ⟨kb,ko,none⟩) 1 m] 27));go_enter Tryz.func23,Tryz.ntmps23
 go_wp2_with fail;refine (C0.out _ HB0.out).mono ?_;rintro e w1 ⟨rfl,hb1⟩;have HB1:=bc HB0 hb1;have HR1:=rk0 hb1;have hs1:=hb1.size
 try simp only [wSz] at hs1
 clear hb1 C0;obtain ⟨z0,z1,z2,z3,z4⟩:=r5 HR1.out;obtain ⟨yx0,yx1,yx2,yx3,yx4⟩:=aj (Fx.out.keep (HB1.out.block kb bk));have hkl1:kb<w1.heap.size:=by omega
 cases b0 with
 | false =>
   go_wp2_with fail;clear z0 z1 z2 z3 z4 yx0 yx1 yx2 yx3 yx4;go_ret;exact ⟨rfl,HB1.out⟩
 | true =>
   go_wp2_with fail;clear z0 z1 z2 z3 z4 yx0 yx1 yx2 yx3 yx4;refine (C1.out _ HB1.out).mono ?_;rintro e w2 ⟨rfl,hb2⟩;have HB2:=bc HB1 hb2;have HR2:=rk HR1 hb2;have hs2:=hb2.size
   try simp only [wSz] at hs2
   clear hb2 C1;obtain ⟨z0,z1,z2,z3,z4⟩:=r5 HR2.out;obtain ⟨yx0,yx1,yx2,yx3,yx4⟩:=aj (Fx.out.keep (HB2.out.block kb bk));have hkl2:kb<w2.heap.size:=by omega
   go_wp2_with fail;clear z0 z1 z2 z3 z4 yx0 yx1 yx2 yx3 yx4;go_ret;exact ⟨rfl,HB2.out⟩
theorem za3 (t:List UInt8) (l c:Int) (ks:List NM) (a:Option Addr) (m:Nat) (w:World) (hw:bB w) (hh:am aR w (.mk 2 t l c ks a m)) (ht:(t:List UInt8).length≤1000000) (hn:ks.length≠1) :
  Calls Tryz.prog 23 #[aB 2 t l c (.slice a ks.length m)] w fun e w'=>e=.returned (.bool (mS (NM.mk 2 t l c ks a m).tr))∧Below w.heap.size w w':=by
 have bC:=nb;have HO:=hid (show mS (NM.mk 2 t l c ks a m).tr=(aM t && false) by
  rw [aq,xE]
  match ks,hn with
  | [],_=>simp [ar,iA]
  | [_],h=>simp at h
  | _::_::_,_=>simp [ai,iA]
 )
 rw [HO.out];clear HO;have C0:=hid (fun W (hW:Below w.heap.size w W)=>cq t (by omega) W (hw.range.below hW));generalize aM t=b0 at *;clear hh hw;have hn1:((ks.length:Int) == 1)=false:=eqF (by omega);have HB0:=hid (ag w (.cells #[.int .i64 2,.string (bs t),.int .i64 l,.int .i64 c,.slice a ks.length m] 27));go_enter Tryz.func23,Tryz.ntmps23
 go_wp2_with fail;refine (C0.out _ HB0.out).mono ?_;rintro e w1 ⟨rfl,hb1⟩;have HB1:=bc HB0 hb1;have HR1:=rk0 hb1;have hs1:=hb1.size
 try simp only [wSz] at hs1
 clear hb1 C0;obtain ⟨z0,z1,z2,z3,z4⟩:=r5 HR1.out;cases b0 with
 | false =>
   go_wp2_with fail;clear z0 z1 z2 z3 z4;go_ret;exact ⟨rfl,HB1.out⟩
 | true =>
   go_wp2_with fail;clear z0 z1 z2 z3 z4;go_ret;exact ⟨rfl,HB1.out⟩
theorem zbL  (l c:Int) (kx:Int) (tx:List UInt8) (lx cx:Int) (ksx:List NM) (ax:Option Addr) (mx:Nat) (a:Option Addr) (m:Nat) (w:World) (hw:bB w) (hh:am aR w (.mk 3 [] l c [(NM.mk kx tx lx cx ksx ax mx)] a m)) (_ht:([]:List UInt8).length≤1000000) (h14:(kx == 14)=true) (IHx:dO 38 mE (NM.mk kx tx lx cx ksx ax mx)) :
  Calls Tryz.prog 23 #[aB 3 [] l c (.slice a 1 m)] w fun e w'=>e=.returned (.bool (mS (NM.mk 3 [] l c [(NM.mk kx tx lx cx ksx ax mx)] a m).tr))∧Below w.heap.size w w':=by
 have bC:=nb;obtain ⟨kb,ko,rfl,bk,hm1,hlm,Fx,ggx⟩:=fp hh;have HO:=hid (show mS (NM.mk 3 [] l c [(NM.mk kx tx lx cx ksx ax mx)] (some ⟨kb,ko,none⟩) m).tr=mE (NM.mk kx tx lx cx ksx ax mx).tr by
  rw [aq,pA,ai,ar];show (true && (Tr.kd (NM.mk kx tx lx cx ksx ax mx).tr == 14 && mE (NM.mk kx tx lx cx ksx ax mx).tr))=_;rw [aq,bX,h14,Bool.true_and,Bool.true_and]
 )
 rw [HO.out];clear HO;have C0:=IHx.c hw ggx;generalize mE (NM.mk kx tx lx cx ksx ax mx).tr=b0 at *;clear hh hw IHx ggx;obtain ⟨yx0,yx1,yx2,yx3,yx4⟩:=aj Fx.out;have HB0:=hid (ag w (.cells #[.int .i64 3,.string (bs []),.int .i64 l,.int .i64 c,.slice (some ⟨kb,ko,none⟩) 1 m] 27));go_enter Tryz.func23,Tryz.ntmps23
 go_wp2_with fail;refine (C0.out _ HB0.out).mono ?_;rintro e w1 ⟨rfl,hb1⟩;have HB1:=bc HB0 hb1;have HR1:=rk0 hb1;have hs1:=hb1.size
 try simp only [wSz] at hs1
 clear hb1 C0;obtain ⟨z0,z1,z2,z3,z4⟩:=r5 HR1.out;obtain ⟨yx0,yx1,yx2,yx3,yx4⟩:=aj (Fx.out.keep (HB1.out.block kb bk));have hkl1:kb<w1.heap.size:=by omega
 go_wp2_with fail;clear z0 z1 z2 z3 z4 yx0 yx1 yx2 yx3 yx4;go_ret;exact ⟨rfl,HB1.out⟩
theorem za5  (l c:Int) (kx:Int) (tx:List UInt8) (lx cx:Int) (ksx:List NM) (ax:Option Addr) (mx:Nat) (a:Option Addr) (m:Nat) (w:World) (_hw:bB w) (hh:am aR w (.mk 3 [] l c [(NM.mk kx tx lx cx ksx ax mx)] a m)) (_ht:([]:List UInt8).length≤1000000) (h14:(kx == 14)=false) :
  Calls Tryz.prog 23 #[aB 3 [] l c (.slice a 1 m)] w fun e w'=>e=.returned (.bool (mS (NM.mk 3 [] l c [(NM.mk kx tx lx cx ksx ax mx)] a m).tr))∧Below w.heap.size w w':=by
 have bC:=nb;obtain ⟨kb,ko,rfl,bk,hm1,hlm,Fx,ggx⟩:=fp hh;have HO:=hid (show mS (NM.mk 3 [] l c [(NM.mk kx tx lx cx ksx ax mx)] (some ⟨kb,ko,none⟩) m).tr=false by
  rw [aq,pA,ai,ar];show (true && (Tr.kd (NM.mk kx tx lx cx ksx ax mx).tr == 14 && mE (NM.mk kx tx lx cx ksx ax mx).tr))=_;rw [aq,bX,h14];rfl
 )
 rw [HO.out];clear HO;clear hh _hw ggx;obtain ⟨yx0,yx1,yx2,yx3,yx4⟩:=aj Fx.out;have HB0:=hid (ag w (.cells #[.int .i64 3,.string (bs []),.int .i64 l,.int .i64 c,.slice (some ⟨kb,ko,none⟩) 1 m] 27));go_enter Tryz.func23,Tryz.ntmps23
 go_wp2_with fail;go_ret;exact ⟨rfl,HB0.out⟩
theorem zO  (l c:Int) (ks:List NM) (a:Option Addr) (m:Nat) (w:World) (_hw:bB w) (hh:am aR w (.mk 3 [] l c ks a m)) (_ht:([]:List UInt8).length≤1000000) (hn:ks.length≠1) :
  Calls Tryz.prog 23 #[aB 3 [] l c (.slice a ks.length m)] w fun e w'=>e=.returned (.bool (mS (NM.mk 3 [] l c ks a m).tr))∧Below w.heap.size w w':=by
 have bC:=nb;have HO:=hid (show mS (NM.mk 3 [] l c ks a m).tr=false by
  rw [aq,pA]
  match ks,hn with
  | [],_=>simp [ar,doM]
  | [_],h=>simp at h
  | _::_::_,_=>simp [ai,doM]
 )
 rw [HO.out];clear HO;clear hh _hw;have hn1:((ks.length:Int) == 1)=false:=eqF (by omega);have HB0:=hid (ag w (.cells #[.int .i64 3,.string (bs []),.int .i64 l,.int .i64 c,.slice a ks.length m] 27));go_enter Tryz.func23,Tryz.ntmps23
 go_wp2_with fail;go_ret;exact ⟨rfl,HB0.out⟩
theorem zad (tc:UInt8) (tr:List UInt8) (l c:Int) (ks:List NM) (a:Option Addr) (m:Nat) (w:World) (_hw:bB w) (_hh:am aR w (.mk 3 (tc::tr) l c ks a m)) (_ht:((tc::tr):List UInt8).length≤1000000) :
  Calls Tryz.prog 23 #[aB 3 (tc::tr) l c (.slice a ks.length m)] w fun e w'=>e=.returned (.bool (mS (NM.mk 3 (tc::tr) l c ks a m).tr))∧Below w.heap.size w w':=by
 have bC:=nb;have HO:=hid (show mS (NM.mk 3 (tc::tr) l c ks a m).tr=false by
  rw [aq,pA];rfl
 )
 rw [HO.out];clear HO;clear _hh _hw;have q:((tc::tr) == ([]:List UInt8))=false:=rfl;have HB0:=hid (ag w (.cells #[.int .i64 3,.string (bs (tc::tr)),.int .i64 l,.int .i64 c,.slice a ks.length m] 27));go_enter Tryz.func23,Tryz.ntmps23
 go_wp2_with fail;go_ret;exact ⟨rfl,HB0.out⟩
theorem zbS (t:List UInt8) (l c:Int) (kx:Int) (tx:List UInt8) (lx cx:Int) (ksx:List NM) (ax:Option Addr) (mx:Nat) (ky:Int) (ty:List UInt8) (ly cy:Int) (ksy:List NM) (ay:Option Addr) (my:Nat) (a:Option Addr) (m:Nat) (w:World) (hw:bB w) (hh:am aR w (.mk 4 t l c [(NM.mk kx tx lx cx ksx ax mx),(NM.mk ky ty ly cy ksy ay my)] a m)) (ht:(t:List UInt8).length≤1000000) (IHx:dO 38 mE (NM.mk kx tx lx cx ksx ax mx)) (IHy:dO 39 mB (NM.mk ky ty ly cy ksy ay my)) :
  Calls Tryz.prog 23 #[aB 4 t l c (.slice a 2 m)] w fun e w'=>e=.returned (.bool (mS (NM.mk 4 t l c [(NM.mk kx tx lx cx ksx ax mx),(NM.mk ky ty ly cy ksy ay my)] a m).tr))∧Below w.heap.size w w':=by
 have bC:=nb;obtain ⟨kb,ko,rfl,bk,hm1,hlm,Fx,ggx,Fy,ggy⟩:=iM hh;have HO:=hid (show mS (NM.mk 4 t l c [(NM.mk kx tx lx cx ksx ax mx),(NM.mk ky ty ly cy ksy ay my)] (some ⟨kb,ko,none⟩) m).tr=(aM t && (mE (NM.mk kx tx lx cx ksx ax mx).tr && mB (NM.mk ky ty ly cy ksy ay my).tr)) by
  rw [aq,vT,ai,ai,ar];rfl
 )
 rw [HO.out];clear HO;have C0:=hid (fun W (hW:Below w.heap.size w W)=>cq t (by omega) W (hw.range.below hW));have C1:=IHx.c hw ggx;have C2:=IHy.c hw ggy;generalize aM t=b0 at *;generalize mE (NM.mk kx tx lx cx ksx ax mx).tr=b1 at *;generalize mB (NM.mk ky ty ly cy ksy ay my).tr=b2 at *;clear hh hw IHx ggx IHy ggy;obtain ⟨yx0,yx1,yx2,yx3,yx4⟩:=aj Fx.out;obtain ⟨yy0,yy1,yy2,yy3,yy4⟩:=aj Fy.out;have HB0:=hid (ag w (.cells #[.int .i64 4,.string (bs t),.int .i64 l,.int .i64 c,.slice (some ⟨kb,ko,none⟩) 2 m] 27));go_enter Tryz.func23,Tryz.ntmps23
 go_wp2_with fail;refine (C0.out _ HB0.out).mono ?_;rintro e w1 ⟨rfl,hb1⟩;have HB1:=bc HB0 hb1;have HR1:=rk0 hb1;have hs1:=hb1.size
 try simp only [wSz] at hs1
 clear hb1 C0;obtain ⟨z0,z1,z2,z3,z4⟩:=r5 HR1.out;obtain ⟨yx0,yx1,yx2,yx3,yx4⟩:=aj (Fx.out.keep (HB1.out.block kb bk));obtain ⟨yy0,yy1,yy2,yy3,yy4⟩:=aj (Fy.out.keep (HB1.out.block kb bk));have hkl1:kb<w1.heap.size:=by omega
 cases b0 with
 | false =>
   go_wp2_with fail;clear z0 z1 z2 z3 z4 yx0 yx1 yx2 yx3 yx4 yy0 yy1 yy2 yy3 yy4;go_ret;exact ⟨rfl,HB1.out⟩
 | true =>
   go_wp2_with fail;clear z0 z1 z2 z3 z4 yx0 yx1 yx2 yx3 yx4 yy0 yy1 yy2 yy3 yy4;refine (C1.out _ HB1.out).mono ?_;rintro e w2 ⟨rfl,hb2⟩;have HB2:=bc HB1 hb2;have HR2:=rk HR1 hb2;have hs2:=hb2.size
   try simp only [wSz] at hs2
   clear hb2 C1;obtain ⟨z0,z1,z2,z3,z4⟩:=r5 HR2.out;obtain ⟨yx0,yx1,yx2,yx3,yx4⟩:=aj (Fx.out.keep (HB2.out.block kb bk));obtain ⟨yy0,yy1,yy2,yy3,yy4⟩:=aj (Fy.out.keep (HB2.out.block kb bk));have hkl2:kb<w2.heap.size:=by omega
   cases b1 with
   | false =>
     go_wp2_with fail;clear z0 z1 z2 z3 z4 yx0 yx1 yx2 yx3 yx4 yy0 yy1 yy2 yy3 yy4;go_ret;exact ⟨rfl,HB2.out⟩
   | true =>
     go_wp2_with fail;clear z0 z1 z2 z3 z4 yx0 yx1 yx2 yx3 yx4 yy0 yy1 yy2 yy3 yy4;refine (C2.out _ HB2.out).mono ?_;rintro e w3 ⟨rfl,hb3⟩;have HB3:=bc HB2 hb3;have HR3:=rk HR2 hb3;have hs3:=hb3.size
     try simp only [wSz] at hs3
     clear hb3 C2;obtain ⟨z0,z1,z2,z3,z4⟩:=r5 HR3.out;obtain ⟨yx0,yx1,yx2,yx3,yx4⟩:=aj (Fx.out.keep (HB3.out.block kb bk));obtain ⟨yy0,yy1,yy2,yy3,yy4⟩:=aj (Fy.out.keep (HB3.out.block kb bk));have hkl3:kb<w3.heap.size:=by omega
     go_wp2_with fail;clear z0 z1 z2 z3 z4 yx0 yx1 yx2 yx3 yx4 yy0 yy1 yy2 yy3 yy4;go_ret;exact ⟨rfl,HB3.out⟩
theorem zX (t:List UInt8) (l c:Int) (ks:List NM) (a:Option Addr) (m:Nat) (w:World) (hw:bB w) (hh:am aR w (.mk 4 t l c ks a m)) (ht:(t:List UInt8).length≤1000000) (hn:ks.length≠2) :
  Calls Tryz.prog 23 #[aB 4 t l c (.slice a ks.length m)] w fun e w'=>e=.returned (.bool (mS (NM.mk 4 t l c ks a m).tr))∧Below w.heap.size w w':=by
 have bC:=nb;have HO:=hid (show mS (NM.mk 4 t l c ks a m).tr=(aM t && false) by
  rw [aq,vT]
  match ks,hn with
  | [],_=>simp [ar,ln]
  | [_],_=>simp [ai,ar,ln]
  | [_,_],h=>simp at h
  | _::_::_::_,_=>simp [ai,ln]
 )
 rw [HO.out];clear HO;have C0:=hid (fun W (hW:Below w.heap.size w W)=>cq t (by omega) W (hw.range.below hW));generalize aM t=b0 at *;clear hh hw;have hn1:((ks.length:Int) == 2)=false:=eqF (by omega);have HB0:=hid (ag w (.cells #[.int .i64 4,.string (bs t),.int .i64 l,.int .i64 c,.slice a ks.length m] 27));go_enter Tryz.func23,Tryz.ntmps23
 go_wp2_with fail;refine (C0.out _ HB0.out).mono ?_;rintro e w1 ⟨rfl,hb1⟩;have HB1:=bc HB0 hb1;have HR1:=rk0 hb1;have hs1:=hb1.size
 try simp only [wSz] at hs1
 clear hb1 C0;obtain ⟨z0,z1,z2,z3,z4⟩:=r5 HR1.out;cases b0 with
 | false =>
   go_wp2_with fail;clear z0 z1 z2 z3 z4;go_ret;exact ⟨rfl,HB1.out⟩
 | true =>
   go_wp2_with fail;clear z0 z1 z2 z3 z4;go_ret;exact ⟨rfl,HB1.out⟩
theorem zU  (l c:Int) (kx:Int) (tx:List UInt8) (lx cx:Int) (ksx:List NM) (ax:Option Addr) (mx:Nat) (ky:Int) (ty:List UInt8) (ly cy:Int) (ksy:List NM) (ay:Option Addr) (my:Nat) (a:Option Addr) (m:Nat) (w:World) (hw:bB w) (hh:am aR w (.mk 5 [] l c [(NM.mk kx tx lx cx ksx ax mx),(NM.mk ky ty ly cy ksy ay my)] a m)) (_ht:([]:List UInt8).length≤1000000) (IHx:dO 38 mE (NM.mk kx tx lx cx ksx ax mx)) (IHy:dO 39 mB (NM.mk ky ty ly cy ksy ay my)) :
  Calls Tryz.prog 23 #[aB 5 [] l c (.slice a 2 m)] w fun e w'=>e=.returned (.bool (mS (NM.mk 5 [] l c [(NM.mk kx tx lx cx ksx ax mx),(NM.mk ky ty ly cy ksy ay my)] a m).tr))∧Below w.heap.size w w':=by
 have bC:=nb;obtain ⟨kb,ko,rfl,bk,hm1,hlm,Fx,ggx,Fy,ggy⟩:=iM hh;have HT0:=hid (show cn w (.slice (some ⟨kb,ko+5,none⟩) 1 (m - 1)) [(NM.mk ky ty ly cy ksy ay my)] from hh.kidsAt.tail (x:=(NM.mk kx tx lx cx ksx ax mx)) (ks:=[(NM.mk ky ty ly cy ksy ay my)]) _ (fun _=>rfl) (fun h=>by cases h));have HO:=hid (show mS (NM.mk 5 [] l c [(NM.mk kx tx lx cx ksx ax mx),(NM.mk ky ty ly cy ksy ay my)] (some ⟨kb,ko,none⟩) m).tr=(mE (NM.mk kx tx lx cx ksx ax mx).tr && ([(NM.mk ky ty ly cy ksy ay my)]:List NM).all (fun x=>mB x.tr)) by
  rw [aq,pk,ai,ai,ar];unfold ifM;simp only [List.isEmpty_nil,Bool.true_and,List.all_cons,List.all_nil,Bool.and_true]
 )
 rw [HO.out];clear HO;have C0:=IHx.c hw ggx;have C1:=hid (fun W (hW:Below w.heap.size w W)=>l6 (fun x=>mB x.tr) (.slice (some ⟨kb,ko+5,none⟩) 1 (m - 1)) ([(NM.mk ky ty ly cy ksy ay my)]:List NM) W (HT0.out.below hW) (by simp) (fun j hj W2 hW2=>by
   match j,hj with
   | 0,_=>exact IHy W2 ((hw.below hW).below hW2) ((ggy.out.below hW).below hW2)))
 generalize mE (NM.mk kx tx lx cx ksx ax mx).tr=b0 at *;generalize ([(NM.mk ky ty ly cy ksy ay my)]:List NM).all (fun x=>mB x.tr)=b1 at *;clear hh hw IHx ggx IHy ggy HT0;obtain ⟨yx0,yx1,yx2,yx3,yx4⟩:=aj Fx.out;obtain ⟨yy0,yy1,yy2,yy3,yy4⟩:=aj Fy.out;have HB0:=hid (ag w (.cells #[.int .i64 5,.string (bs []),.int .i64 l,.int .i64 c,.slice (some ⟨kb,ko,none⟩) 2 m] 27));go_enter Tryz.func23,Tryz.ntmps23
 go_wp2_with fail;refine (C0.out _ HB0.out).mono ?_;rintro e w1 ⟨rfl,hb1⟩;have HB1:=bc HB0 hb1;have HR1:=rk0 hb1;have hs1:=hb1.size
 try simp only [wSz] at hs1
 clear hb1 C0;obtain ⟨z0,z1,z2,z3,z4⟩:=r5 HR1.out;obtain ⟨yx0,yx1,yx2,yx3,yx4⟩:=aj (Fx.out.keep (HB1.out.block kb bk));obtain ⟨yy0,yy1,yy2,yy3,yy4⟩:=aj (Fy.out.keep (HB1.out.block kb bk));have hkl1:kb<w1.heap.size:=by omega
 cases b0 with
 | false =>
   go_wp2_with fail;clear z0 z1 z2 z3 z4 yx0 yx1 yx2 yx3 yx4 yy0 yy1 yy2 yy3 yy4;go_ret;exact ⟨rfl,HB1.out⟩
 | true =>
   go_wp2_with fail;clear z0 z1 z2 z3 z4 yx0 yx1 yx2 yx3 yx4 yy0 yy1 yy2 yy3 yy4;refine (C1.out _ HB1.out).mono ?_;rintro e w2 ⟨rfl,hb2⟩;have HB2:=bc HB1 hb2;have HR2:=rk HR1 hb2;have hs2:=hb2.size
   try simp only [wSz] at hs2
   clear hb2 C1;obtain ⟨z0,z1,z2,z3,z4⟩:=r5 HR2.out;obtain ⟨yx0,yx1,yx2,yx3,yx4⟩:=aj (Fx.out.keep (HB2.out.block kb bk));obtain ⟨yy0,yy1,yy2,yy3,yy4⟩:=aj (Fy.out.keep (HB2.out.block kb bk));have hkl2:kb<w2.heap.size:=by omega
   go_wp2_with fail;clear z0 z1 z2 z3 z4 yx0 yx1 yx2 yx3 yx4 yy0 yy1 yy2 yy3 yy4;go_ret;exact ⟨rfl,HB2.out⟩
theorem zbh  (l c:Int) (kx:Int) (tx:List UInt8) (lx cx:Int) (ksx:List NM) (ax:Option Addr) (mx:Nat) (ky:Int) (ty:List UInt8) (ly cy:Int) (ksy:List NM) (ay:Option Addr) (my:Nat) (kz:Int) (tz:List UInt8) (lz cz:Int) (ksz:List NM) (az:Option Addr) (mz:Nat) (a:Option Addr) (m:Nat) (w:World) (hw:bB w) (hh:am aR w (.mk 5 [] l c [(NM.mk kx tx lx cx ksx ax mx),(NM.mk ky ty ly cy ksy ay my),(NM.mk kz tz lz cz ksz az mz)] a m)) (_ht:([]:List UInt8).length≤1000000) (IHx:dO 38 mE (NM.mk kx tx lx cx ksx ax mx)) (IHy:dO 39 mB (NM.mk ky ty ly cy ksy ay my)) (IHz:dO 39 mB (NM.mk kz tz lz cz ksz az mz)) :
  Calls Tryz.prog 23 #[aB 5 [] l c (.slice a 3 m)] w fun e w'=>e=.returned (.bool (mS (NM.mk 5 [] l c [(NM.mk kx tx lx cx ksx ax mx),(NM.mk ky ty ly cy ksy ay my),(NM.mk kz tz lz cz ksz az mz)] a m).tr))∧Below w.heap.size w w':=by
 have bC:=nb;obtain ⟨kb,ko,rfl,bk,hm1,hlm,Fx,ggx,Fy,ggy,Fz,ggz⟩:=xU hh;have HT0:=hid (show cn w (.slice (some ⟨kb,ko+5,none⟩) 2 (m - 1)) [(NM.mk ky ty ly cy ksy ay my),(NM.mk kz tz lz cz ksz az mz)] from hh.kidsAt.tail (x:=(NM.mk kx tx lx cx ksx ax mx)) (ks:=[(NM.mk ky ty ly cy ksy ay my),(NM.mk kz tz lz cz ksz az mz)]) _ (fun _=>rfl) (fun h=>by cases h));have HO:=hid (show mS (NM.mk 5 [] l c [(NM.mk kx tx lx cx ksx ax mx),(NM.mk ky ty ly cy ksy ay my),(NM.mk kz tz lz cz ksz az mz)] (some ⟨kb,ko,none⟩) m).tr=(mE (NM.mk kx tx lx cx ksx ax mx).tr && ([(NM.mk ky ty ly cy ksy ay my),(NM.mk kz tz lz cz ksz az mz)]:List NM).all (fun x=>mB x.tr)) by
  rw [aq,pk,ai,ai,ai,ar];unfold ifM;simp only [List.isEmpty_nil,Bool.true_and,List.all_cons,List.all_nil,Bool.and_true,Bool.and_assoc]
 )
 rw [HO.out];clear HO;have C0:=IHx.c hw ggx;have C1:=hid (fun W (hW:Below w.heap.size w W)=>l6 (fun x=>mB x.tr) (.slice (some ⟨kb,ko+5,none⟩) 2 (m - 1)) ([(NM.mk ky ty ly cy ksy ay my),(NM.mk kz tz lz cz ksz az mz)]:List NM) W (HT0.out.below hW) (by simp) (fun j hj W2 hW2=>by
   match j,hj with
   | 0,_=>exact IHy W2 ((hw.below hW).below hW2) ((ggy.out.below hW).below hW2)
   | 1,_=>exact IHz W2 ((hw.below hW).below hW2) ((ggz.out.below hW).below hW2)))
 generalize mE (NM.mk kx tx lx cx ksx ax mx).tr=b0 at *;generalize ([(NM.mk ky ty ly cy ksy ay my),(NM.mk kz tz lz cz ksz az mz)]:List NM).all (fun x=>mB x.tr)=b1 at *;clear hh hw IHx ggx IHy ggy IHz ggz HT0;obtain ⟨yx0,yx1,yx2,yx3,yx4⟩:=aj Fx.out;obtain ⟨yy0,yy1,yy2,yy3,yy4⟩:=aj Fy.out;obtain ⟨yz0,yz1,yz2,yz3,yz4⟩:=aj Fz.out;have HB0:=hid (ag w (.cells #[.int .i64 5,.string (bs []),.int .i64 l,.int .i64 c,.slice (some ⟨kb,ko,none⟩) 3 m] 27));go_enter Tryz.func23,Tryz.ntmps23
 go_wp2_with fail;refine (C0.out _ HB0.out).mono ?_;rintro e w1 ⟨rfl,hb1⟩;have HB1:=bc HB0 hb1;have HR1:=rk0 hb1;have hs1:=hb1.size
 try simp only [wSz] at hs1
 clear hb1 C0;obtain ⟨z0,z1,z2,z3,z4⟩:=r5 HR1.out;obtain ⟨yx0,yx1,yx2,yx3,yx4⟩:=aj (Fx.out.keep (HB1.out.block kb bk));obtain ⟨yy0,yy1,yy2,yy3,yy4⟩:=aj (Fy.out.keep (HB1.out.block kb bk));obtain ⟨yz0,yz1,yz2,yz3,yz4⟩:=aj (Fz.out.keep (HB1.out.block kb bk));have hkl1:kb<w1.heap.size:=by omega
 cases b0 with
 | false =>
   go_wp2_with fail;clear z0 z1 z2 z3 z4 yx0 yx1 yx2 yx3 yx4 yy0 yy1 yy2 yy3 yy4 yz0 yz1 yz2 yz3 yz4;go_ret;exact ⟨rfl,HB1.out⟩
 | true =>
   go_wp2_with fail;clear z0 z1 z2 z3 z4 yx0 yx1 yx2 yx3 yx4 yy0 yy1 yy2 yy3 yy4 yz0 yz1 yz2 yz3 yz4;refine (C1.out _ HB1.out).mono ?_;rintro e w2 ⟨rfl,hb2⟩;have HB2:=bc HB1 hb2;have HR2:=rk HR1 hb2;have hs2:=hb2.size
   try simp only [wSz] at hs2
   clear hb2 C1;obtain ⟨z0,z1,z2,z3,z4⟩:=r5 HR2.out;obtain ⟨yx0,yx1,yx2,yx3,yx4⟩:=aj (Fx.out.keep (HB2.out.block kb bk));obtain ⟨yy0,yy1,yy2,yy3,yy4⟩:=aj (Fy.out.keep (HB2.out.block kb bk));obtain ⟨yz0,yz1,yz2,yz3,yz4⟩:=aj (Fz.out.keep (HB2.out.block kb bk));have hkl2:kb<w2.heap.size:=by omega
   go_wp2_with fail;clear z0 z1 z2 z3 z4 yx0 yx1 yx2 yx3 yx4 yy0 yy1 yy2 yy3 yy4 yz0 yz1 yz2 yz3 yz4;go_ret;exact ⟨rfl,HB2.out⟩
theorem zbk  (l c:Int) (ks:List NM) (a:Option Addr) (m:Nat) (w:World) (_hw:bB w) (hh:am aR w (.mk 5 [] l c ks a m)) (_ht:([]:List UInt8).length≤1000000) (hn:ks.length≠2) (hn3:ks.length≠3) :
  Calls Tryz.prog 23 #[aB 5 [] l c (.slice a ks.length m)] w fun e w'=>e=.returned (.bool (mS (NM.mk 5 [] l c ks a m).tr))∧Below w.heap.size w w':=by
 have bC:=nb;have HO:=hid (show mS (NM.mk 5 [] l c ks a m).tr=false by
  rw [aq,pk]
  match ks,hn,hn3 with
  | [],_,_=>simp [ar,ifM]
  | [_],_,_=>simp [ai,ar,ifM]
  | [_,_],h,_=>simp at h
  | [_,_,_],_,h=>simp at h
  | _::_::_::_::_,_,_=>simp [ai,ifM]
 )
 rw [HO.out];clear HO;clear hh _hw;have hn1:((ks.length:Int) == 2)=false:=eqF (by omega);have hn2:((ks.length:Int) == 3)=false:=eqF (by omega);have HB0:=hid (ag w (.cells #[.int .i64 5,.string (bs []),.int .i64 l,.int .i64 c,.slice a ks.length m] 27));go_enter Tryz.func23,Tryz.ntmps23
 go_wp2_with fail;go_ret;exact ⟨rfl,HB0.out⟩
theorem zag (tc:UInt8) (tr:List UInt8) (l c:Int) (ks:List NM) (a:Option Addr) (m:Nat) (w:World) (_hw:bB w) (_hh:am aR w (.mk 5 (tc::tr) l c ks a m)) (_ht:((tc::tr):List UInt8).length≤1000000) :
  Calls Tryz.prog 23 #[aB 5 (tc::tr) l c (.slice a ks.length m)] w fun e w'=>e=.returned (.bool (mS (NM.mk 5 (tc::tr) l c ks a m).tr))∧Below w.heap.size w w':=by
 have bC:=nb;have HO:=hid (show mS (NM.mk 5 (tc::tr) l c ks a m).tr=false by
  rw [aq,pk];rfl
 )
 rw [HO.out];clear HO;clear _hh _hw;have q:((tc::tr) == ([]:List UInt8))=false:=rfl;have HB0:=hid (ag w (.cells #[.int .i64 5,.string (bs (tc::tr)),.int .i64 l,.int .i64 c,.slice a ks.length m] 27));go_enter Tryz.func23,Tryz.ntmps23
 go_wp2_with fail;go_ret;exact ⟨rfl,HB0.out⟩
theorem zaQ (t:List UInt8) (l c:Int) (ks:List NM) (a:Option Addr) (m:Nat) (w:World) (hw:bB w) (_hh:am aR w (.mk 6 t l c ks a m)) (ht:(t:List UInt8).length≤1000000) (hn:ks=[]) :
  Calls Tryz.prog 23 #[aB 6 t l c (.slice a ks.length m)] w fun e w'=>e=.returned (.bool (mS (NM.mk 6 t l c ks a m).tr))∧Below w.heap.size w w':=by
 have bC:=nb;have HO:=hid (show mS (NM.mk 6 t l c ks a m).tr=(aM t && false) by
  rw [aq,wl,hn,ar];rfl
 )
 rw [HO.out];clear HO;have C0:=hid (fun W (hW:Below w.heap.size w W)=>cq t (by omega) W (hw.range.below hW));generalize aM t=b0 at *;clear _hh hw;have hn1:¬ ((1:Int)≤(ks.length:Int)):=by rw [hn];simp
 clear hn;have HB0:=hid (ag w (.cells #[.int .i64 6,.string (bs t),.int .i64 l,.int .i64 c,.slice a ks.length m] 27));go_enter Tryz.func23,Tryz.ntmps23
 go_wp2_with fail;refine (C0.out _ HB0.out).mono ?_;rintro e w1 ⟨rfl,hb1⟩;have HB1:=bc HB0 hb1;have HR1:=rk0 hb1;have hs1:=hb1.size
 try simp only [wSz] at hs1
 clear hb1 C0;obtain ⟨z0,z1,z2,z3,z4⟩:=r5 HR1.out;cases b0 with
 | false =>
   go_wp2_with fail;clear z0 z1 z2 z3 z4;go_ret;exact ⟨rfl,HB1.out⟩
 | true =>
   go_wp2_with fail;clear z0 z1 z2 z3 z4;go_ret;exact ⟨rfl,HB1.out⟩
theorem zR (k:Int) (t:List UInt8) (l c:Int) (ks:List NM) (a:Option Addr) (m:Nat) (w:World) (_hw:bB w) (_hh:am aR w (.mk k t l c ks a m)) (_ht:(t:List UInt8).length≤1000000) (h:isS k=false) :
  Calls Tryz.prog 23 #[aB k t l c (.slice a ks.length m)] w fun e w'=>e=.returned (.bool (mS (NM.mk k t l c ks a m).tr))∧Below w.heap.size w w':=by
 have bC:=nb;have HO:=hid (show mS (NM.mk k t l c ks a m).tr=false by
  rw [aq,zby _ _ h]
 )
 rw [HO.out];clear HO;clear _hh _hw;unfold isS at h;simp only [Bool.or_eq_false_iff] at h;obtain ⟨⟨⟨⟨h2,h3⟩,h4⟩,h5⟩,h6⟩:=h;have HB0:=hid (ag w (.cells #[.int .i64 k,.string (bs t),.int .i64 l,.int .i64 c,.slice a ks.length m] 27));go_enter Tryz.func23,Tryz.ntmps23
 go_wp2_with fail;go_ret;exact ⟨rfl,HB0.out⟩
theorem zbT (t:List UInt8) (l c:Int) (ks:List NM) (a:Option Addr) (m:Nat) (w:World) (hw:bB w) (hh:am aR w (.mk 6 t l c ks a m)) (ht:(t:List UInt8).length≤1000000) (n:Nat) (kz:Int) (tz:List UInt8) (lz cz:Int) (ksz:List NM) (az:Option Addr) (mz:Nat) (hks:ks.length=n+1) (hkl:ks.length≤1000000) (hz:ks[n]=(NM.mk kz tz lz cz ksz az mz)) (IH:∀ j (hj:j<n),dO 40 mP ks[j]) (IHz:dO 39 mB (NM.mk kz tz lz cz ksz az mz)) :
  Calls Tryz.prog 23 #[aB 6 t l c (.slice a (n+1) m)] w fun e w'=>e=.returned (.bool (mS (NM.mk 6 t l c ks a m).tr))∧Below w.heap.size w w':=by
 have bC:=nb;obtain ⟨la,lc,hv,iI,hlm,hx⟩:=hh.kidsAt.nodes;obtain ⟨kb,ko,ve,bk,cw⟩:=hx 0 (by omega);obtain ⟨rfl,rfl⟩:a=la∧m=lc:=by simpa using hv
 subst ve;rw [hks] at iI;unfold maxLen at hlm;have Fz:=hid (show dn w kb (ko+n * 5) (NM.mk kz tz lz cz ksz az mz) from by have:=cw n (by omega);rwa [hz] at this);have ggz:=hid (show am aR w (NM.mk kz tz lz cz ksz az mz) from by have:=hh.kidsAt.get n (by omega);rwa [hz] at this);have HT0:=hid (show cn w (.slice (some ⟨kb,ko,none⟩) n m) (ks.take n) from (hh.kidsAt).take n (by omega));clear hx cw hv;have HO:=hid (show mS (NM.mk 6 t l c ks (some ⟨kb,ko,none⟩) m).tr=(aM t && ((ks.take n).all (fun x=>mP x.tr) && mB (NM.mk kz tz lz cz ksz az mz).tr)) by
  rw [aq,wl];have hsp:ks=ks.take n++[(NM.mk kz tz lz cz ksz az mz)]:=by
   have h1:ks.take (n+1)=ks:=List.take_of_length_le (by omega);rw [List.take_succ_eq_append_getElem (by omega),hz] at h1;exact h1.symm
  have e:NM.trs ks=(ks.take n).map NM.tr++[(NM.mk kz tz lz cz ksz az mz).tr]:=by
   rw [bR];exact (congrArg (List.map NM.tr) hsp).trans (by rw [List.map_append];rfl)
  unfold oh;rw [e,List.getLast?_concat,List.dropLast_concat,List.all_map];rfl
 )
 rw [HO.out];clear HO;have C0:=hid (fun W (hW:Below w.heap.size w W)=>cq t (by omega) W (hw.range.below hW));have C1:=hid (fun W (hW:Below w.heap.size w W)=>rj (fun x=>mP x.tr) (.slice (some ⟨kb,ko,none⟩) n m) (ks.take n) W (HT0.out.below hW) (by rw [List.length_take];omega) (fun j hj W2 hW2=>(by
    have hj1:j<n:=by rw [List.length_take] at hj;omega
    rw [List.getElem_take];exact IH j hj1 W2 ((hw.below hW).below hW2) ((hh.kidsAt.get j (by omega)).below hW |>.below hW2))))
 have C2:=IHz.c hw ggz;generalize aM t=b0 at *;generalize (ks.take n).all (fun x=>mP x.tr)=b1 at *;generalize mB (NM.mk kz tz lz cz ksz az mz).tr=b2 at *;clear hh hw IH IHz HT0 ggz hz hks hkl;obtain ⟨yz0,yz1,yz2,yz3,yz4⟩:=aj Fz.out;have HB0:=hid (ag w (.cells #[.int .i64 6,.string (bs t),.int .i64 l,.int .i64 c,.slice (some ⟨kb,ko,none⟩) (n+1) m] 27));go_enter Tryz.func23,Tryz.ntmps23
 go_wp2_with fail;refine (C0.out _ HB0.out).mono ?_;rintro e w1 ⟨rfl,hb1⟩;have HB1:=bc HB0 hb1;have HR1:=rk0 hb1;have hs1:=hb1.size
 try simp only [wSz] at hs1
 clear hb1 C0;obtain ⟨z0,z1,z2,z3,z4⟩:=r5 HR1.out;obtain ⟨yz0,yz1,yz2,yz3,yz4⟩:=aj (Fz.out.keep (HB1.out.block kb bk));have hkl1:kb<w1.heap.size:=by omega
 cases b0 with
 | false =>
   go_wp2_with fail;clear z0 z1 z2 z3 z4 yz0 yz1 yz2 yz3 yz4;go_ret;exact ⟨rfl,HB1.out⟩
 | true =>
   go_wp2_with fail;clear z0 z1 z2 z3 z4 yz0 yz1 yz2 yz3 yz4;refine (C1.out _ HB1.out).mono ?_;rintro e w2 ⟨rfl,hb2⟩;have HB2:=bc HB1 hb2;have HR2:=rk HR1 hb2;have hs2:=hb2.size
   try simp only [wSz] at hs2
   clear hb2 C1;obtain ⟨z0,z1,z2,z3,z4⟩:=r5 HR2.out;obtain ⟨yz0,yz1,yz2,yz3,yz4⟩:=aj (Fz.out.keep (HB2.out.block kb bk));have hkl2:kb<w2.heap.size:=by omega
   cases b1 with
   | false =>
     go_wp2_with fail;clear z0 z1 z2 z3 z4 yz0 yz1 yz2 yz3 yz4;go_ret;exact ⟨rfl,HB2.out⟩
   | true =>
     go_wp2_with fail;clear z0 z1 z2 z3 z4 yz0 yz1 yz2 yz3 yz4;refine (C2.out _ HB2.out).mono ?_;rintro e w3 ⟨rfl,hb3⟩;have HB3:=bc HB2 hb3;have HR3:=rk HR2 hb3;have hs3:=hb3.size
     try simp only [wSz] at hs3
     clear hb3 C2;obtain ⟨z0,z1,z2,z3,z4⟩:=r5 HR3.out;obtain ⟨yz0,yz1,yz2,yz3,yz4⟩:=aj (Fz.out.keep (HB3.out.block kb bk));have hkl3:kb<w3.heap.size:=by omega
     go_wp2_with fail;clear z0 z1 z2 z3 z4 yz0 yz1 yz2 yz3 yz4;go_ret;exact ⟨rfl,HB3.out⟩
structure qv (x:NM):Prop where
 e:dO 38 mE x
 a:dO 74 mA x
 p:dO 40 mP x
 b:dO 39 mB x
 s:dO 23 mS x
theorem sh:∀ (N:Nat) (x:NM),x.hi≤N→x.fit→qv x
 | 0,.mk k t l c ks a m,h,_=>by rw [ij] at h;omega
 | N+1,.mk k t l c ks a m,h,hf=>by
   rw [ij] at h;obtain ⟨ht,hk,hfs⟩:=kY hf;have ih:∀ j (hj:j<ks.length),qv ks[j]:=fun j hj=>sh N ks[j] (iq (by omega) j hj) (gw hfs j hj)
   refine ⟨?_,?_,?_,?_,?_⟩
   ·intro w hw hh;by_cases h9:k=9
    ·subst h9;exact zbO t l c ks a m w hw hh ht hk
    by_cases h10:k=10
    ·subst h10;exact zW t l c ks a m w hw hh ht hk
    by_cases h11:k=11
    ·subst h11;exact zab t l c ks a m w hw hh ht hk
    by_cases h12:k=12
    ·subst h12;exact zT t l c ks a m w hw hh ht hk (fun j hj=>(ih j hj).e)
    by_cases h13:k=13
    ·subst h13;exact zaf t l c ks a m w hw hh ht hk (fun j hj=>(ih j hj).e)
    by_cases h14:k=14
    ·subst h14;exact zaj t l c ks a m w hw hh ht hk (fun j hj=>(ih j hj).a)
    by_cases h16:k=16
    ·subst h16;by_cases hn:t=cj
     ·by_cases h1:ks.length=1
      ·exact zh t l c ks a m w hw hh ht hk hn h1 (fun j hj=>(ih j hj).e)
      ·exact vW t l c ks a m w hw hh ht hk hn h1 (fun j hj=>(ih j hj).e)
     ·by_cases h2:ks.length=2
      ·exact yK t l c ks a m w hw hh ht hk hn h2 (fun j hj=>(ih j hj).e)
      ·exact xp t l c ks a m w hw hh ht hk hn h2 (fun j hj=>(ih j hj).e)
    exact zS k t l c ks a m w (by unfold isE;simp [h9,h10,h11,h12,h13,h14,h16])
   ·intro w hw hh;by_cases h15:k=15
    ·subst h15;by_cases h1:ks.length=1
     ·match ks,h1,ih,hh with
      | [.mk kx tx lx cx ksx ax mx],_,ih,hh =>
        have hx:=(ih 0 (by simp)).e;cases t with
        | nil=>exact zbQ l c kx tx lx cx ksx ax mx a m w hw hh ht hx
        | cons tc tr=>exact zb0 tc tr l c kx tx lx cx ksx ax mx a m w hw hh ht hx
     ·cases t with
      | nil=>exact zax l c ks a m w hw hh ht h1
      | cons tc tr=>exact za1 tc tr l c ks a m w hw hh ht h1
    ·exact zaP k t l c ks a m w hw hh ht (by simpa using h15)
   ·intro w hw hh;by_cases h7:k=7
    ·subst h7
     match ks,ih,hh with
     | [],_,hh=>exact zbE t l c [] a m w hw hh ht rfl
     | [.mk kx tx lx cx ksx ax mx],ih,hh =>
       by_cases h9:kx=9
       ·have h9':(kx == 9)=true:=by simpa using h9
        by_cases hk0:ksx=[]
        ·have hm:1≤m:=by
          obtain ⟨la,lc,hv,hc,-⟩:=hh.kidsAt.nodes;obtain ⟨-,rfl⟩:a=la∧m=lc:=by simpa using hv
          simpa using hc
         by_cases h1:m=1
         ·exact zaR t l c kx tx lx cx ksx ax mx a m w hw hh ht h9' hk0 h1
         ·exact zaZ t l c kx tx lx cx ksx ax mx a m w hw hh ht h9' hk0 (by omega)
        ·exact zbn t l c kx tx lx cx ksx ax mx a m w hw hh ht h9' hk0
       ·exact zaM t l c kx tx lx cx ksx ax mx a m w hw hh ht (by simpa using h9)
     | [.mk kx tx lx cx ksx ax mx,.mk ky ty ly cy ksy ay my],ih,hh =>
       by_cases h9:kx=9
       ·have h9':(kx == 9)=true:=by simpa using h9
        by_cases hk0:ksx=[]
        ·exact za4 t l c kx tx lx cx ksx ax mx ky ty ly cy ksy ay my a m w hw hh ht h9' hk0 (ih 1 (by simp)).e
        ·exact zac t l c kx tx lx cx ksx ax mx ky ty ly cy ksy ay my a m w hw hh ht h9' hk0
       ·exact za2 t l c kx tx lx cx ksx ax mx ky ty ly cy ksy ay my a m w hw hh ht (by simpa using h9)
     | x::y::z::r,_,hh=>exact zcj t l c (x::y::z::r) a m w hw hh ht (by simp)
    ·exact zP k t l c ks a m w hw hh ht (by simpa using h7)
   ·intro w hw hh;by_cases h8:k=8
    ·subst h8;exact zb4 t l c ks a m w hw hh ht hk (fun j hj=>(ih j hj).s)
    ·exact zas k t l c ks a m w (by simpa using h8)
   ·intro w hw hh;by_cases h2:k=2
    ·subst h2;by_cases h1:ks.length=1
     ·match ks,h1,ih,hh with
      | [.mk kx tx lx cx ksx ax mx],_,ih,hh=>exact zbP t l c kx tx lx cx ksx ax mx a m w hw hh ht (ih 0 (by simp)).e
     ·exact za3 t l c ks a m w hw hh ht h1
    by_cases h3:k=3
    ·subst h3;cases t with
     | cons tc tr=>exact zad tc tr l c ks a m w hw hh ht
     | nil =>
       by_cases h1:ks.length=1
       ·match ks,h1,ih,hh with
        | [.mk kx tx lx cx ksx ax mx],_,ih,hh =>
          by_cases h14:kx=14
          ·exact zbL l c kx tx lx cx ksx ax mx a m w hw hh ht (by simpa using h14) (ih 0 (by simp)).e
          ·exact za5 l c kx tx lx cx ksx ax mx a m w hw hh ht (by simpa using h14)
       ·exact zO l c ks a m w hw hh ht h1
    by_cases h4:k=4
    ·subst h4;by_cases h1:ks.length=2
     ·match ks,h1,ih,hh with
      | [.mk kx tx lx cx ksx ax mx,.mk ky ty ly cy ksy ay my],_,ih,hh=>exact zbS t l c kx tx lx cx ksx ax mx ky ty ly cy ksy ay my a m w hw hh ht (ih 0 (by simp)).e (ih 1 (by simp)).b
     ·exact zX t l c ks a m w hw hh ht h1
    by_cases h5:k=5
    ·subst h5;cases t with
     | cons tc tr=>exact zag tc tr l c ks a m w hw hh ht
     | nil =>
       by_cases h1:ks.length=2
       ·match ks,h1,ih,hh with
        | [.mk kx tx lx cx ksx ax mx,.mk ky ty ly cy ksy ay my],_,ih,hh=>exact zU l c kx tx lx cx ksx ax mx ky ty ly cy ksy ay my a m w hw hh ht (ih 0 (by simp)).e (ih 1 (by simp)).b
       ·by_cases h31:ks.length=3
        ·match ks,h31,ih,hh with
         | [.mk kx tx lx cx ksx ax mx,.mk ky ty ly cy ksy ay my,.mk kz tz lz cz ksz az mz],_,ih,hh=>exact zbh l c kx tx lx cx ksx ax mx ky ty ly cy ksy ay my kz tz lz cz ksz az mz a m w hw hh ht (ih 0 (by simp)).e (ih 1 (by simp)).b (ih 2 (by simp)).b
        ·exact zbk l c ks a m w hw hh ht h1 h31
    by_cases h6:k=6
    ·subst h6;by_cases h0:ks=[]
     ·exact zaQ t l c ks a m w hw hh ht h0
     ·obtain ⟨n,hn⟩:∃ n,ks.length=n+1:=⟨ks.length - 1,by have:=List.length_pos_iff.2 h0;omega⟩;have hzb:=(ih n (by omega)).b;obtain ⟨kz,tz,lz,cz,ksz,az,mz,hz⟩:∃ kz tz lz cz ksz az mz,ks[n]=NM.mk kz tz lz cz ksz az mz:=by cases ks[n];exact ⟨_,_,_,_,_,_,_,rfl⟩
      rw [hz] at hzb;have H:=zbT t l c ks a m w hw hh ht n kz tz lz cz ksz az mz hn hk hz (fun j hj=>(ih j (by omega)).p) hzb;rw [← hn] at H;exact H
    exact zR k t l c ks a m w hw hh ht (by unfold isS;simp [h2,h3,h4,h5,h6])
def iK (B pb:Nat) (p:Value) (l:List UInt8) (t:Nat) (w:World):Prop :=
 B≤pb∧∃ v,w.heap[pb]? = some (.cells #[p,v,.int .i64 (t:Int)] 66 (0,0))∧w.ownsRowF B 5 1 v l.length (Lib.byteCells l)
def aO (B pb:Nat) (l:List UInt8) (t:Nat) (w:World):Prop:=iK B pb (.pointer none) l t w∨iK B pb (.pointer (some ⟨pb,0,none⟩)) l t w
theorem xF:liesAt Tryz.prog Tryz.prog.depth 66 (3 / Tryz.prog.cellsOf 66) 0 64 1=true:=by kernel_rfl
theorem ku:(66:TypeId)≠5:=by decide
theorem iK.below {B pb:Nat} {p:Value} {l:List UInt8} {t:Nat} {w w':World} (h:iK B pb p l t w) (hb:Below w.heap.size w w'):iK B pb p l t w':=by
 obtain ⟨hB,v,hbk,hl,hown⟩:=h;refine ⟨hB,v,(hb.block pb (aGe.1 hbk).1).trans hbk,hl,?_⟩;rcases hown with h0 | ⟨g,cap,cur,fz,hv,hg,hh,r⟩
 ·exact .inl h0
 ·exact .inr ⟨g,cap,cur,fz,hv,hg,(hb.block g (aGe.1 hh).1).trans hh,r⟩
theorem aO.below {B pb:Nat} {l:List UInt8} {t:Nat} {w w':World} (h:aO B pb l t w) (hb:Below w.heap.size w w'):aO B pb l t w' :=
 h.elim (fun x=>.inl (x.below hb)) (fun x=>.inr (x.below hb))
theorem aO.lt {B pb:Nat} {l:List UInt8} {t:Nat} {w:World} (h:aO B pb l t w):B≤pb∧pb<w.heap.size:=by
 rcases h with ⟨hB,v,hbk,_⟩ | ⟨hB,v,hbk,_⟩ <;> exact ⟨hB,(aGe.1 hbk).1⟩
theorem aO.row {B pb:Nat} {l:List UInt8} {t:Nat} {w:World} (h:aO B pb l t w):∃ p v,w.heap[pb]? = some (.cells #[p,v,.int .i64 (t:Int)] 66 (0,0)):=by
 rcases h with ⟨hB,v,hbk,_⟩ | ⟨hB,v,hbk,_⟩ <;> exact ⟨_,v,hbk⟩
theorem iK.tabs {B pb:Nat} {p:Value} {l:List UInt8} {t:Nat} {w:World} (h:iK B pb p l t w) (t':Nat):iK B pb p l t' (w.setCell ⟨pb,2,none⟩ (.int .i64 (t':Int))):=by
 obtain ⟨hB,v,hbk,hown⟩:=h;have hne:=Lib.ownBlock_neF hown hbk ku;refine ⟨hB,v,hSs _ pb 2 _ _ _ hbk,hown.kept (row:=some pb) ⟨rfl,rfl,rfl,by simp [World.setCell],fun k _ hk=>Below.heap_setCell _ _ _ _ (fun e=>hk (by simp [e]))⟩ (Or.inr hne)⟩
theorem aO.tabs {B pb:Nat} {l:List UInt8} {t:Nat} {w:World} (h:aO B pb l t w) (t':Nat):aO B pb l t' (w.setCell ⟨pb,2,none⟩ (.int .i64 (t':Int))) :=
 h.elim (fun x=>.inl (x.tabs t')) (fun x=>.inr (x.tabs t'))
theorem iK.put {B pb:Nat} {p v v':Value} {l:List UInt8} {t:Nat} {w:World} (hB:B≤pb) (hb:w.heap[pb]? = some (.cells #[p,v,.int .i64 (t:Int)] 66 (0,0))) (hown:w.ownsRowF B 5 1 v' l.length (Lib.byteCells l)) :
  iK B pb p l t (w.setCell ⟨pb,1,none⟩ v'):=by
 have hne:=Lib.ownBlock_neF hown hb ku;exact ⟨hB,v',hSs _ pb 1 _ _ _ hb,hown.kept (row:=some pb) ⟨rfl,rfl,rfl,by simp [World.setCell],fun k _ hk=>Below.heap_setCell _ _ _ _ (fun e=>hk (by simp [e]))⟩ (Or.inr hne)⟩
theorem yE (w:World) (B:Nat) (hB:B≤w.heap.size):aO B w.heap.size [] 0 (w.alloc (.cells #[.pointer none,.slice none 0 0,.int .i64 0] 66)) :=
 .inl ⟨hB,.slice none 0 0,hAn w _,by simp [Lib.byteCells],.inl ⟨rfl,by simp⟩⟩
theorem rl (b:Nat) (w:World) (h0:w.cell? ⟨b,0,none⟩=some (.pointer none)) (hsh:w.shape? b=some (66,3)) (hfz:w.frozen? ⟨b,0,none⟩=false) :
  Calls Tryz.prog 84 #[.pointer (some ⟨b,0,none⟩)] w fun e w'=>e=.returned (.tuple #[])∧w'=w.setCell ⟨b,0,none⟩ (.pointer (some ⟨b,0,none⟩)):=by
 obtain ⟨j,hj,hjs⟩:=Option.map_eq_some_iff.1 lS;go_enter Tryz.func84,Tryz.ntmps84
 go_wp2
 rw [Lib.run_to_unsafe w ⟨b,0,none⟩ Tryz.underlying62 Tryz.underlying142 hj (by rw [hjs];decide) hsh (Nat.zero_lt_succ 2)];simp only [Result.andThen];rw [Oper.upon_value]
 go_wp2
 rw [run_callFunc_extern Tryz.func118 (by kernel_rfl) (by kernel_rfl) (by kernel_rfl) (e:=Extern.AbiNoEscape.same) (by kernel_rfl)];rw [Lib.run_noEscape];simp only [Result.andThen];rw [Oper.upon_value]
 go_wp2
 rw [Lib.run_from_unsafe w ⟨b,0,none⟩ Tryz.underlying142 Tryz.underlying62 hj hsh xF];simp only [Result.andThen];rw [Oper.upon_value]
 go_wp2
 go_end0
 exact ⟨rfl,rfl⟩
structure PK (pb:Nat) (w w':World):Prop where
 below:Below pb w w'
 kept:Lib.OthersKept 5 (some pb) w w'
theorem PK.trans {pb:Nat} {a b c:World} (h:PK pb a b) (k:PK pb b c):PK pb a c:=⟨h.below.trans k.below,h.kept.trans k.kept⟩
theorem PK.refl (pb:Nat) (w:World):PK pb w w:=⟨Below.refl _ _,Lib.OthersKept.refl _ _ _⟩
theorem PK.of {pb:Nat} {w w':World} (h:Below w.heap.size w w') (hp:pb≤w.heap.size):PK pb w w' :=
 ⟨h.mono hp,fun k _o ho _ _=>(h.block k (aGe.1 ho).1).trans ho⟩
theorem PK.row {pb:Nat} {w w':World} (h:PK pb w w') {k:Nat} {cs:Array Value} {T:TypeId} {fr:Nat × Nat} (hr:w.heap[k]? = some (.cells cs T fr)) (hk:k≠pb) (hT:T≠5):w'.heap[k]? = some (.cells cs T fr) :=
 h.kept k _ hr (by simpa using hk) (fun c fz e=>hT (by cases e;rfl))
theorem oE (B b:Nat) (l:List UInt8) (t:Nat) (w:World) (h:aO B b l t w) :
  Calls Tryz.prog 84 #[.pointer (some ⟨b,0,none⟩)] w fun e w'=>e=.returned (.tuple #[])∧iK B b (.pointer (some ⟨b,0,none⟩)) l t w'∧Below B w w'∧Lib.OthersKept 5 (some b) w w':=by
 rcases h with ⟨hB,v,hbk,hown⟩ | h
 ·have hne:=Lib.ownBlock_neF hown hbk ku;refine (rl b w (cRo w b 0 _ _ _ hbk) (by simp [World.shape?,hbk]) (Lib.frozen_of_heap hbk 0)).mono ?_;rintro e w' ⟨rfl,rfl⟩;exact ⟨rfl,⟨hB,v,hSs _ b 0 _ _ _ hbk,hown.kept (row:=some b) ⟨rfl,rfl,rfl,by simp [World.setCell],fun k _ hk=>Below.heap_setCell _ _ _ _ (fun e=>hk (by simp [e]))⟩ (Or.inr hne)⟩,(Below.refl B w).setCell (p:=⟨b,0,none⟩) hB _,(Lib.OthersKept.refl _ _ w).setCell ⟨b,0,none⟩ rfl _⟩
 ·obtain ⟨hB,v,hbk,hown⟩:=h;refine (oW b w (cRo w b 0 _ _ _ hbk)).mono ?_;rintro e w' ⟨rfl,rfl⟩;exact ⟨rfl,⟨hB,v,hbk,hown⟩,Below.refl B _,Lib.OthersKept.refl _ _ _⟩
theorem vZ (B b:Nat) (l:List UInt8) (t:Nat) (c:UInt8) (w:World) (h:aO B b l t w) (aF:l.length+1≤140737488355328) :
  Calls Tryz.prog 43 #[.pointer (some ⟨b,0,none⟩),.int .u8 c.toNat] w fun e w'=>e=.returned .nilIface∧aO B b (l++[c]) t w'∧Below B w w'∧Lib.OthersKept 5 (some b) w w':=by
 have hlt0:=h.lt;obtain ⟨i0,hi,hz0,hz1,hz2⟩:=info_parts pD;go_enter Tryz.func43,Tryz.ntmps43
 go_wp2_with (go_at_call 84;refine (oE B b l t _ h).mono ?_)
 rintro e w1 ⟨rfl,h1,hb1,hk1⟩;obtain ⟨hB,v,hbk,hown⟩:=h1;have hne:=Lib.ownBlock_neF hown hbk ku;have c0:w1.cell? ⟨b,0,none⟩=some (.pointer (some ⟨b,0,none⟩)):=cRo w1 b 0 _ _ _ hbk;have c1:w1.cell? ⟨b,1,none⟩=some v:=cRo w1 b 1 _ _ _ hbk;go_wp2_with (at_builtin;refine wpList_append_ownF _ rfl _ _ 41 rfl B 5 i0 (.int .u8 0) 1 1 Tryz.underlying41 hi hz0 hz1 hz2 rfl (by decide) _ _ _ rfl (hown.alloc _) ⟨w1.heap.size,0,none⟩ 1 1 [.int .u8 c.toNat] rfl rfl ?c1 ?c2 ?c3 ?c4 ?c5 ?_)
 case c1 =>
  intro j u hj
  match j,hj with
  | 0,hj=>simp at hj;subst hj;simp [Addr.add]
 case c2=>intro u hu;simp at hu;subst hu;rfl
 case c3=>unfold maxLen;omega
 case c4=>omega
 case c5=>have:=hb1.size;simp;omega
 intro v' w2 hown' hgrow _;have aL:b<w1.heap.size:=(aGe.1 hbk).1;have hb2:w2.heap[b]? = some (.cells #[.pointer (some ⟨b,0,none⟩),v,.int .i64 (t:Int)] 66 (0,0)):=by
  rw [hgrow.block b (by simp;omega) (fun e=>hne e.symm),Lib.alloc_old w1 _ b aL];exact hbk
 have d0:w2.cell? ⟨b,0,none⟩=some (.pointer (some ⟨b,0,none⟩)):=cRo w2 b 0 _ _ _ hb2;have d1:w2.cell? ⟨b,1,none⟩=some v:=cRo w2 b 1 _ _ _ hb2;have f1:w2.frozen? ⟨b,1,none⟩=false:=Lib.frozen_of_heap hb2 1;obtain ⟨g,cap,rfl⟩:∃ g cap,v'=.slice (some ⟨g,0,none⟩) (l.length+1) cap:=by
  rcases hown'.2 with ⟨_,h0⟩ | ⟨g,cap,cur,fz,hv,_⟩
  ·omega
  ·exact ⟨g,cap,hv⟩
 go_wp2
 go_ret;refine ⟨rfl,.inr ?_,?_,((hk1.alloc _).grown hgrow (Lib.ownsRowF_kind (hown.alloc _))).setCell ⟨b,1,none⟩ rfl _⟩
 ·exact iK.put hB hb2 (by rw [i9,lAp];exact hown')
 ·exact ((hb1.alloc (by have:=hb1.size;omega) _).grown hgrow (by have:=hb1.size;simp;omega) (fun k hk=>(hown.lt k hk).1)).setCell (p:=⟨b,1,none⟩) hB _
theorem rA (B b:Nat) (l:List UInt8) (t:Nat) (s:List UInt8) (w:World) (h:aO B b l t w) (aF:l.length+s.length≤140737488355328) :
  Calls Tryz.prog 77 #[.pointer (some ⟨b,0,none⟩),.string (bs s)] w fun e w'=>e=.returned (.tuple #[.int .i64 s.length,.nilIface])∧aO B b (l++s) t w'∧Below B w w'∧Lib.OthersKept 5 (some b) w w':=by
 have hlt0:=h.lt;obtain ⟨i0,hi,hz0,hz1,hz2⟩:=info_parts pD;go_enter Tryz.func77,Tryz.ntmps77
 go_wp2_with (go_at_call 84;refine (oE B b l t _ h).mono ?_)
 rintro e w1 ⟨rfl,h1,hb1,hk1⟩;obtain ⟨hB,v,hbk,hown⟩:=h1;have hne:=Lib.ownBlock_neF hown hbk ku;have c0:w1.cell? ⟨b,0,none⟩=some (.pointer (some ⟨b,0,none⟩)):=cRo w1 b 0 _ _ _ hbk;have c1:w1.cell? ⟨b,1,none⟩=some v:=cRo w1 b 1 _ _ _ hbk;go_wp2_with (at_builtin;refine Lib.wpList_append_own_stringF _ rfl _ _ 41 9 rfl B 5 i0 Tryz.underlying41 Tryz.underlying9 hi hz0 hz1 hz2 _ _ _ rfl hown (bs s) rfl ?c3 ?c4 ?c5 ?_)
 case c3=>show l.length+s.length≤maxLen;unfold maxLen;omega
 case c4=>show l.length+s.length≤140737488355328;omega
 case c5=>have:=hb1.size;omega
 intro v' w2 hown' hgrow _;have hown':w2.ownsRowF B 5 1 v' (l.length+s.length) (Lib.byteCells l++Lib.strCells (bs s)):=hown';have aL:b<w1.heap.size:=(aGe.1 hbk).1;have hb2:w2.heap[b]? = some (.cells #[.pointer (some ⟨b,0,none⟩),v,.int .i64 (t:Int)] 66 (0,0)):=by
  rw [hgrow.block b aL (fun e=>hne e.symm)];exact hbk
 have d0:w2.cell? ⟨b,0,none⟩=some (.pointer (some ⟨b,0,none⟩)):=cRo w2 b 0 _ _ _ hb2;have d1:w2.cell? ⟨b,1,none⟩=some v:=cRo w2 b 1 _ _ _ hb2;have f1:w2.frozen? ⟨b,1,none⟩=false:=Lib.frozen_of_heap hb2 1;obtain ⟨ao,n',cap,rfl⟩:∃ ao n' cap,v'=.slice ao n' cap:=by
  rcases hown'.2 with ⟨hv,_⟩ | ⟨g,cap,cur,fz,hv,_⟩
  ·exact ⟨_,_,_,hv⟩
  ·exact ⟨_,_,_,hv⟩
 go_wp2
 go_ret2
 refine ⟨rfl,.inr ?_,?_,(hk1.grown hgrow (Lib.ownsRowF_kind hown)).setCell ⟨b,1,none⟩ rfl _⟩
 ·exact iK.put hB hb2 (by rw [i9,lAp,← pw s];exact hown')
 ·exact (hb1.grown hgrow (by have:=hb1.size;omega) (fun k hk=>(hown.lt k hk).1)).setCell (p:=⟨b,1,none⟩) hB _
theorem iJ (pb:Nat) (l:List UInt8) (t:Nat) (c:UInt8) (w:World) (h:aO pb pb l t w) (aF:l.length+1≤140737488355328) :
  Calls Tryz.prog 43 #[.pointer (some ⟨pb,0,none⟩),.int .u8 c.toNat] w fun e w'=>e=.returned .nilIface∧aO pb pb (l++[c]) t w'∧PK pb w w' :=
 (vZ pb pb l t c w h aF).mono fun _ _ ⟨h1,h2,h3,h4⟩=>⟨h1,h2,h3,h4⟩
theorem iz (pb:Nat) (l:List UInt8) (t:Nat) (s:List UInt8) (w:World) (h:aO pb pb l t w) (aF:l.length+s.length≤140737488355328) :
  Calls Tryz.prog 77 #[.pointer (some ⟨pb,0,none⟩),.string (bs s)] w fun e w'=>e=.returned (.tuple #[.int .i64 s.length,.nilIface])∧aO pb pb (l++s) t w'∧PK pb w w' :=
 (rA pb pb l t s w h aF).mono fun _ _ ⟨h1,h2,h3,h4⟩=>⟨h1,h2,h3,h4⟩
def iD {α:Type} (p:Nat→Prop):PR α→Prop
 | .oof=>False
 | .bad _ _=>True
 | .ok _ r=>p r.length
theorem iD.then {α β:Type} {p q:Nat→Prop} {x:PR α} {k:α→List Tok→PR β} (h:iD p x) (hk:∀ a r,p r.length→iD q (k a r)):iD q (x.then k):=by
 cases x with
 | oof=>exact h.elim
 | ok a r=>exact hk a r h
 | bad e p=>trivial
theorem iD.then' {α:Type} {p q:Nat→Prop} {x:PR α} (h:iD p x) (hk:∀ n,p n→q n):iD q x:=by
 cases x with
 | oof=>exact h.elim
 | ok a r=>exact hk _ h
 | bad e p=>trivial
theorem im {l:List Tok} {s:List UInt8} (h:aT l 0 s=true):l≠[]:=by rintro rfl;simp [aT,atT,kD] at h
theorem iL {l:List Tok} {s:List UInt8} (h:bL l s=true):l≠[]:=by rintro rfl;simp [bL,atT,kD] at h
theorem jx {l:List Tok} (h:cd l=true):l≠[]:=by rintro rfl;simp [cd,atT,kD] at h
theorem nB {l:List Tok} {k:Nat} (hk:k≠0) (h:dV l k=true):l≠[]:=by rintro rfl;simp [dV,atT,kD] at h;exact hk h.symm
theorem zah {l:List Tok} (h:gi l=true):l≠[]:=by unfold gi at h;simp only [bAe] at h;exact nB (by decide) h.1
theorem cG (en:Pl) {is:Bool} {l:List Tok} (h:is=true→l≠[]):iD (fun n=>n<l.length) (bl en is l):=by
 unfold bl;cases is with
 | false=>trivial
 | true=>cases l with
   | nil=>exact absurd rfl (h rfl)
   | cons t r=>show r.length<(t::r).length;simp
theorem ei (en:Pl) (s:List UInt8) (l:List Tok):iD (fun n=>n<l.length) (cB en s l):=cG en im
theorem iu (en:Pl) {is:Bool} (d:Nat) {l:List Tok} (h:is=true→l≠[]):iD (fun n=>n<l.length) (dW en is d l):=by
 unfold dW;split
 ·trivial
 ·exact cG en h
structure zc5 (en:Pl) (f:Nat):Prop where
 prim:∀ l d,10 * l.length+3≤f→iD (fun n=>n<l.length) (bN en f l d)
 sumGo:∀ x l d,10 * l.length+1≤f→iD (fun n=>n≤l.length) (fk en f x l d)
 sum:∀ l d,10 * l.length+4≤f→iD (fun n=>n<l.length) (gN en f l d)
 expr:∀ l d,10 * l.length+5≤f→iD (fun n=>n<l.length) (bA en f l d)
 call:∀ l d,10 * l.length+2≤f→iD (fun n=>n<l.length) (fq en f l d)
 one:∀ k l d,10 * l.length+6≤f→iD (fun n=>n<l.length) (ce en f k l d)
 list:∀ k up first l d,10 * l.length+7≤f→iD (fun n=>n≤l.length) (bw en f k up first l d)
theorem kp (en:Pl):∀ f,zc5 en f
 | 0=>⟨fun _ _ h=>by omega,fun _ _ _ h=>by omega,fun _ _ h=>by omega,fun _ _ h=>by omega,fun _ _ h=>by omega,fun _ _ _ h=>by omega,fun _ _ _ _ _ h=>by omega⟩
 | f+1=>by
   have ih:=kp en f;refine ⟨?_,?_,?_,?_,?_,?_,?_⟩
   ·intro l d hf;rw [bN];split
    ·rename_i h;exact (cG en fun _=>nB (by decide) h).then fun _ r hr=>hr
    split
    ·rename_i h;exact (cG en fun _=>nB (by decide) h).then fun _ r hr=>hr
    split
    ·exact ih.call l d (by omega)
    split
    ·rename_i h;exact (cG en fun _=>jx h).then fun _ r hr=>hr
    split
    ·rename_i h;exact (iu en d fun _=>iL h).then fun _ r hr=>(ih.prim r _ (by omega)).then fun _ r' hr'=>(by show r'.length<l.length;omega)
    split
    ·rename_i h;exact (iu en d fun _=>im h).then fun _ r hr=>(ih.list _ _ _ r _ (by omega)).then fun _ r' hr'=>(ei en _ r').then fun _ r2 hr2=>(by show r2.length<l.length;omega)
    split
    ·rename_i h;exact (iu en d fun _=>im h).then fun _ r hr=>(ih.list _ _ _ r _ (by omega)).then fun _ r' hr'=>(ei en _ r').then fun _ r2 hr2=>(by show r2.length<l.length;omega)
    exact (iu en d im).then fun _ r hr=>(ih.expr r _ (by omega)).then fun _ r' hr'=>(ei en _ r').then fun _ r2 hr2=>(by show r2.length<l.length;omega)
   ·intro x l d hf;rw [fk];split
    ·rename_i h;exact (cG en fun _=>im h).then fun _ r hr=>(ih.prim r d (by omega)).then fun _ r' hr'=>(ih.sumGo _ r' d (by omega)).then' fun n hn=>by omega
    ·show l.length≤l.length;omega
   ·intro l d hf;rw [gN];exact (ih.prim l d (by omega)).then fun _ r hr=>(ih.sumGo _ r d (by omega)).then' fun n hn=>by omega
   ·intro l d hf;rw [bA];refine (ih.sum l d (by omega)).then fun _ r hr=>?_
    split
    ·rename_i h;have hne:r≠[]:=by
      simp only [Bool.or_eq_true] at h;rcases h with (h | h) | h
      ·exact im h
      ·exact im h
      ·exact iL h
     exact (cG en fun _=>hne).then fun _ r' hr'=>(ih.sum r' d (by omega)).then fun _ r2 hr2=>(by show r2.length<l.length;omega)
    ·exact hr
   ·intro l d hf;rw [fq];exact (cG en jx).then fun _ r hr=>(iu en d im).then fun _ r1 hr1=>(ih.list _ _ _ r1 _ (by omega)).then fun _ r2 hr2=>(ei en _ r2).then fun _ r3 hr3=>(by show r3.length<l.length;omega)
   ·intro k l d hf;rw [ce];split
    ·refine (cG en jx).then fun _ r hr=>(ei en _ r).then fun _ r1 hr1=>(cG en zah).then fun _ r2 hr2=>?_
     split
     ·exact (ei en _ r2).then fun _ r3 hr3=>(ih.expr r3 d (by omega)).then fun _ r4 hr4=>(by show r4.length<l.length;omega)
     ·show r2.length<l.length;omega
    split
    ·split
     ·rename_i h;simp only [bAe] at h;exact (cG en fun _=>jx h.1).then fun _ r hr=>(ei en _ r).then fun _ r1 hr1=>(ih.expr r1 d (by omega)).then fun _ r2 hr2=>(by show r2.length<l.length;omega)
     ·exact (ih.expr l d (by omega)).then fun _ r hr=>hr
    split
    ·exact (ih.expr l d (by omega)).then fun _ r hr=>hr
    ·exact (cG en (nB (by decide))).then fun _ r hr=>(ei en _ r).then fun _ r1 hr1=>(ih.expr r1 d (by omega)).then fun _ r2 hr2=>(by show r2.length<l.length;omega)
   ·intro k up first l d hf
    rw [bw];split
    ·show l.length≤l.length;omega
    ·have hc:iD (fun n=>n≤l.length) (if first=true then PR.ok (kD en) l else cB en [44] l):=by
      split
      ·show l.length≤l.length;omega
      ·exact (ei en [44] l).then' fun n hn=>by omega
     exact hc.then fun _ r hr=>(ih.one k r d (by omega)).then fun _ r1 hr1=>(ih.list _ _ _ r1 d (by omega)).then fun _ r2 hr2=>(by show r2.length≤l.length;omega)
structure zcW (en:Pl) (f:Nat):Prop where
 block:∀ l d,10 * l.length+2≤f→iD (fun n=>n<l.length) (cM en f l d)
 stmt:∀ l d,10 * l.length+8≤f→iD (fun n=>n<l.length) (dc en f l d)
 stmts:∀ up l d,10 * l.length+9≤f→iD (fun n=>n≤l.length) (bY en f up l d)
theorem iZ (en:Pl):∀ f,zcW en f
 | 0=>⟨fun _ _ h=>by omega,fun _ _ h=>by omega,fun _ _ _ h=>by omega⟩
 | f+1=>by
   have ih:=iZ en f;have ie:=kp en f;refine ⟨?_,?_,?_⟩
   ·intro l d hf;rw [cM];exact (iu en d im).then fun _ r hr=>(ih.stmts _ r _ (by omega)).then fun _ r1 hr1=>(ei en _ r1).then fun _ r2 hr2=>(by show r2.length<l.length;omega)
   ·intro l d hf;rw [dc];split
    ·rename_i h;exact (cG en fun _=>iL h).then fun _ r hr=>(cG en jx).then fun _ r1 hr1=>(cG en iL).then fun _ r2 hr2=>(ie.expr r2 d (by omega)).then fun _ r3 hr3=>(ih.block r3 d (by omega)).then fun _ r4 hr4=>(by show r4.length<l.length;omega)
    split
    ·rename_i h;refine (cG en fun _=>iL h).then fun _ r hr=>(ie.expr r d (by omega)).then fun _ r1 hr1=>(ih.block r1 d (by omega)).then fun _ r2 hr2=>?_
     split
     ·rename_i h2;exact (cG en fun _=>iL h2).then fun _ r3 hr3=>(ih.block r3 d (by omega)).then fun _ r4 hr4=>(by show r4.length<l.length;omega)
     ·show r2.length<l.length;omega
    split
    ·rename_i h;exact (cG en fun _=>iL h).then fun _ r hr=>(cG en jx).then fun _ r1 hr1=>(ei en _ r1).then fun _ r2 hr2=>(ie.list _ _ _ r2 d (by omega)).then fun _ r3 hr3=>(ei en _ r3).then fun _ r4 hr4 =>
      (ih.block r4 d (by omega)).then fun _ r5 hr5=>(by show r5.length<l.length;omega)
    split
    ·exact (ie.call l d (by omega)).then fun _ r hr=>(ei en _ r).then fun _ r1 hr1=>(by show r1.length<l.length;omega)
    ·exact (cG en jx).then fun _ r hr=>(ei en _ r).then fun _ r1 hr1=>(ie.expr r1 d (by omega)).then fun _ r2 hr2=>(ei en _ r2).then fun _ r3 hr3=>(by show r3.length<l.length;omega)
   ·intro up l d hf;rw [bY];split
    ·show l.length≤l.length;omega
    ·exact (ih.stmt l d (by omega)).then fun _ r hr=>(ih.stmts _ r d (by omega)).then fun _ r1 hr1=>(by show r1.length≤l.length;omega)
section
inductive ea (R:Pl→Pl→Prop):List Tok→List Tok→Prop where
 | nil:ea R [] []
 | cons {k:Nat} {s:List UInt8} {p p':Pl} {l l':List Tok} (h:R p p') (t:ea R l l'):ea R ((k,s,p)::l) ((k,s,p')::l')
mutual
inductive iT (R:Pl→Pl→Prop):Nd→Nd→Prop where
 | mk {k:Nat} {s:List UInt8} {p p':Pl} {a a':List Nd} (h:R p p') (t:gO R a a'):iT R (.mk k s p a) (.mk k s p' a')
inductive gO (R:Pl→Pl→Prop):List Nd→List Nd→Prop where
 | nil:gO R [] []
 | cons {x x':Nd} {a a':List Nd} (h:iT R x x') (t:gO R a a'):gO R (x::a) (x'::a')
end
theorem gO.append {R:Pl→Pl→Prop} {a a' b b':List Nd} (h:gO R a a') (t:gO R b b'):gO R (a++b) (a'++b'):=by
 induction a generalizing a' with
 | nil=>cases h;exact t
 | cons x a ih=>cases h with | cons h1 h2=>exact .cons h1 (ih h2)
def iG {α β:Type} (R:Pl→Pl→Prop) (S:α→β→Prop):PR α→PR β→Prop
 | .oof,_=>True
 | .ok a r,.ok b r'=>S a b∧ea R r r'
 | .bad e p,.bad e' p'=>e=e'∧R p p'
 | _,_=>False
section
variable {R:Pl→Pl→Prop}
theorem iG.then {α β γ δ:Type} {S:α→β→Prop} {T:γ→δ→Prop} {x:PR α} {y:PR β} {k:α→List Tok→PR γ} {k':β→List Tok→PR δ} (h:iG R S x y)
  (hk:∀ a b r r',S a b→ea R r r'→iG R T (k a r) (k' b r')):iG R T (x.then k) (y.then k'):=by
 cases x with
 | oof=>trivial
 | ok a r=>cases y with
   | ok b r'=>exact hk a b r r' h.1 h.2
   | bad e p=>exact h.elim
   | oof=>exact h.elim
 | bad e p=>cases y with
   | ok b r'=>exact h.elim
   | bad e' p'=>exact h
   | oof=>exact h.elim
def zap (R:Pl→Pl→Prop) (t t':Tok):Prop:=t.1=t'.1∧t.2.1=t'.2.1∧R t.2.2 t'.2.2
theorem ea.at {l l':List Tok} (h:ea R l l') {en en':Pl} (he:R en en'):∀ n,zap R (atT en l n) (atT en' l' n):=by
 induction h with
 | nil=>intro n;exact ⟨rfl,rfl,he⟩
 | cons h t ih =>
   intro n;cases n with
   | zero=>exact ⟨rfl,rfl,h⟩
   | succ n=>exact ih n
theorem ea.same {l l':List Tok} (h:ea R l l'):∀ n,(atT (0,0) l n).1=(atT (0,0) l' n).1∧(atT (0,0) l n).2.1=(atT (0,0) l' n).2.1:=by
 induction h with
 | nil=>intro n;exact ⟨rfl,rfl⟩
 | cons h t ih =>
   intro n;cases n with
   | zero=>exact ⟨rfl,rfl⟩
   | succ n=>exact ih n
theorem ea.sign {l l':List Tok} (h:ea R l l') (n:Nat) (s:List UInt8):aT l' n s=aT l n s:=by
 unfold aT;rw [(h.same n).1,(h.same n).2]
theorem ea.word {l l':List Tok} (h:ea R l l') (s:List UInt8):bL l' s=bL l s:=by
 unfold bL;rw [(h.same 0).1,(h.same 0).2]
theorem ea.name {l l':List Tok} (h:ea R l l'):cd l'=cd l:=by
 unfold cd;rw [(h.same 0).1,(h.same 0).2]
theorem ea.kind {l l':List Tok} (h:ea R l l') (k:Nat):dV l' k=dV l k:=by
 unfold dV;rw [(h.same 0).1]
theorem ea.type {l l':List Tok} (h:ea R l l'):gi l'=gi l:=by
 unfold gi dV;rw [(h.same 0).1,(h.same 0).2]
theorem ea.isNil {l l':List Tok} (h:ea R l l'):l'=[] ↔ l=[]:=by
 cases h with
 | nil=>exact Iff.rfl
 | cons h t=>simp
variable {en en':Pl} (he:R en en')
include he
theorem dm {l l':List Tok} (h:ea R l l') (is:Bool):iG R (zap R) (bl en is l) (bl en' is l'):=by
 unfold bl;cases is with
 | false=>exact ⟨rfl,(h.at he 0).2.2⟩
 | true =>
   cases h with
   | nil=>trivial
   | cons h t=>exact ⟨⟨rfl,rfl,h⟩,t⟩
theorem eY {l l':List Tok} (h:ea R l l') (s:List UInt8):iG R (zap R) (cB en s l) (cB en' s l'):=by
 unfold cB;rw [h.sign];exact dm he h _
theorem jd {l l':List Tok} (h:ea R l l') (is:Bool) (d:Nat):iG R (zap R) (dW en is d l) (dW en' is d l'):=by
 unfold dW;split
 ·exact ⟨rfl,(h.at he 0).2.2⟩
 ·exact dm he h is
structure zcM (R:Pl→Pl→Prop) (en en':Pl) (f f':Nat):Prop where
 prim:∀ l l' d,ea R l l'→iG R (iT R) (bN en f l d) (bN en' f' l' d)
 sumGo:∀ x x' l l' d,iT R x x'→ea R l l'→iG R (iT R) (fk en f x l d) (fk en' f' x' l' d)
 sum:∀ l l' d,ea R l l'→iG R (iT R) (gN en f l d) (gN en' f' l' d)
 expr:∀ l l' d,ea R l l'→iG R (iT R) (bA en f l d) (bA en' f' l' d)
 call:∀ l l' d,ea R l l'→iG R (iT R) (fq en f l d) (fq en' f' l' d)
 one:∀ k l l' d,ea R l l'→iG R (gO R) (ce en f k l d) (ce en' f' k l' d)
 list:∀ k up first l l' d,ea R l l'→iG R (gO R) (bw en f k up first l d) (bw en' f' k up first l' d)
theorem lW:∀ f f':Nat,f≤f'→zcM R en en' f f'
 | 0,_,_=>⟨fun _ _ _ _=>by rw [bN];trivial,fun _ _ _ _ _ _ _=>by rw [fk];trivial,fun _ _ _ _=>by rw [gN];trivial,fun _ _ _ _=>by rw [bA];trivial,fun _ _ _ _=>by rw [fq];trivial,fun _ _ _ _ _=>by rw [ce];trivial,fun _ _ _ _ _ _ _=>by rw [bw];trivial⟩
 | f+1,0,h=>absurd h (by omega)
 | f+1,f'+1,hf=>by
   have ih:=lW f f' (by omega);have one1:∀ {k:Nat} {s:List UInt8} {p p':Pl} {x x':Nd},R p p'→iT R x x'→iT R (.mk k s p [x]) (.mk k s p' [x']):=fun h1 h2=>.mk h1 (.cons h2 .nil)
   have two2:∀ {k:Nat} {s:List UInt8} {p p':Pl} {x x' y y':Nd},R p p'→iT R x x'→iT R y y'→iT R (.mk k s p [x,y]) (.mk k s p' [x',y']):=fun h1 h2 h3=>.mk h1 (.cons h2 (.cons h3 .nil))
   refine ⟨?_,?_,?_,?_,?_,?_,?_⟩
   ·intro l l' d hl;have ht:=hl.at he 0;obtain ⟨ht1,ht2,ht3⟩:=ht;rw [bN,bN];simp only [hl.kind,hl.name,hl.sign,hl.word];split
    ·exact (dm he hl true).then fun _ _ _ _ _ hr=>⟨by rw [ht2];exact .mk ht3 .nil,hr⟩
    split
    ·exact (dm he hl true).then fun _ _ _ _ _ hr=>⟨by rw [ht2];exact .mk ht3 .nil,hr⟩
    split
    ·exact ih.call _ _ _ hl
    split
    ·exact (dm he hl true).then fun _ _ _ _ _ hr=>⟨by rw [ht2];exact .mk ht3 .nil,hr⟩
    split
    ·exact (jd he hl true d).then fun _ _ _ _ _ hr=>(ih.prim _ _ _ hr).then fun _ _ _ _ hx hr=>⟨one1 ht3 hx,hr⟩
    split
    ·exact (jd he hl true d).then fun _ _ _ _ _ hr=>(ih.list _ _ _ _ _ _ hr).then fun _ _ _ _ hx hr=>(eY he hr _).then fun _ _ _ _ _ hr=>⟨.mk ht3 hx,hr⟩
    split
    ·exact (jd he hl true d).then fun _ _ _ _ _ hr=>(ih.list _ _ _ _ _ _ hr).then fun _ _ _ _ hx hr=>(eY he hr _).then fun _ _ _ _ _ hr=>⟨.mk ht3 hx,hr⟩
    exact (jd he hl _ d).then fun _ _ _ _ _ hr=>(ih.expr _ _ _ hr).then fun _ _ _ _ hx hr=>(eY he hr _).then fun _ _ _ _ _ hr=>⟨hx,hr⟩
   ·intro x x' l l' d hx hl;rw [fk,fk];simp only [hl.sign];split
    ·exact (dm he hl true).then fun _ _ _ _ ht hr=>(ih.prim _ _ _ hr).then fun _ _ _ _ hy hr=>ih.sumGo _ _ _ _ _ (two2 ht.2.2 hx hy) hr
    ·exact ⟨hx,hl⟩
   ·intro l l' d hl;rw [gN,gN];exact (ih.prim _ _ _ hl).then fun _ _ _ _ hx hr=>ih.sumGo _ _ _ _ _ hx hr
   ·intro l l' d hl;rw [bA,bA];refine (ih.sum _ _ _ hl).then fun _ _ r r' hx hr=>?_
    simp only [hr.sign,hr.word];split
    ·exact (dm he hr true).then fun _ _ _ _ ht hr=>(ih.sum _ _ _ hr).then fun _ _ _ _ hy hr=>⟨by rw [ht.2.1];exact two2 ht.2.2 hx hy,hr⟩
    ·exact ⟨hx,hr⟩
   ·intro l l' d hl;rw [fq,fq];simp only [hl.name];refine (dm he hl _).then fun _ _ _ _ ht hr=>?_
    simp only [hr.sign];exact (jd he hr _ d).then fun _ _ _ _ _ hr=>(ih.list _ _ _ _ _ _ hr).then fun _ _ _ _ hx hr=>(eY he hr _).then fun _ _ _ _ _ hr=>⟨by rw [ht.2.1];exact .mk ht.2.2 hx,hr⟩
   ·intro k l l' d hl;rw [ce,ce];simp only [hl.name,hl.sign,hl.kind];split
    ·refine (dm he hl _).then fun _ _ _ _ hn hr=>(eY he hr _).then fun _ _ _ _ _ hr=>?_
     simp only [hr.type];refine (dm he hr _).then fun _ _ _ _ ht hr=>?_
     simp only [hr.sign];split
     ·exact (eY he hr _).then fun _ _ _ _ _ hr=>(ih.expr _ _ _ hr).then fun _ _ _ _ hx hr=>⟨by rw [hn.2.1,ht.2.1];exact .cons (two2 hn.2.2 (.mk ht.2.2 .nil) hx) .nil,hr⟩
     ·exact ⟨by rw [hn.2.1,ht.2.1];exact .cons (one1 hn.2.2 (.mk ht.2.2 .nil)) .nil,hr⟩
    split
    ·obtain ⟨ht1,ht2,ht3⟩:=hl.at he 0;split
     ·exact (dm he hl true).then fun _ _ _ _ _ hr=>(eY he hr _).then fun _ _ _ _ _ hr=>(ih.expr _ _ _ hr).then fun _ _ _ _ hx hr=>⟨by rw [ht2];exact .cons (one1 ht3 hx) .nil,hr⟩
     ·exact (ih.expr _ _ _ hl).then fun _ _ _ _ hx hr=>⟨.cons (one1 ht3 hx) .nil,hr⟩
    split
    ·exact (ih.expr _ _ _ hl).then fun _ _ _ _ hx hr=>⟨.cons hx .nil,hr⟩
    ·exact (dm he hl _).then fun _ _ _ _ ht hr=>(eY he hr _).then fun _ _ _ _ _ hr=>(ih.expr _ _ _ hr).then fun _ _ _ _ hx hr=>⟨by rw [ht.2.1];exact .cons (.mk ht.2.2 .nil) (.cons hx .nil),hr⟩
   ·intro k up first l l' d hl
    rw [bw,bw];simp only [hl.sign];split
    ·exact ⟨.nil,hl⟩
    ·have hc:iG R (fun (_:Tok) (_:Tok)=>True) (if first=true then PR.ok (kD en) l else cB en [44] l) (if first=true then PR.ok (kD en') l' else cB en' [44] l'):=by
      split
      ·exact ⟨trivial,hl⟩
      ·have:=eY he hl [44];revert this;cases cB en [44] l <;> cases cB en' [44] l' <;> intro h
       all_goals first | exact ⟨trivial,h.2⟩ | exact h
     exact hc.then fun _ _ _ _ _ hr=>(ih.one _ _ _ _ hr).then fun _ _ _ _ ha hr=>(ih.list _ _ _ _ _ _ hr).then fun _ _ _ _ hb hr=>⟨ha.append hb,hr⟩
structure zc6 (R:Pl→Pl→Prop) (en en':Pl) (f f':Nat):Prop where
 block:∀ l l' d,ea R l l'→iG R (iT R) (cM en f l d) (cM en' f' l' d)
 stmt:∀ l l' d,ea R l l'→iG R (iT R) (dc en f l d) (dc en' f' l' d)
 stmts:∀ up l l' d,ea R l l'→iG R (gO R) (bY en f up l d) (bY en' f' up l' d)
theorem lN:∀ f f':Nat,f≤f'→zc6 R en en' f f'
 | 0,_,_=>⟨fun _ _ _ _=>by rw [cM];trivial,fun _ _ _ _=>by rw [dc];trivial,fun _ _ _ _ _=>by rw [bY];trivial⟩
 | f+1,0,h=>absurd h (by omega)
 | f+1,f'+1,hf=>by
   have ih:=lN f f' (by omega);have ie:=lW he f f' (by omega);refine ⟨?_,?_,?_⟩
   ·intro l l' d hl;rw [cM,cM];simp only [hl.sign];exact (jd he hl _ d).then fun _ _ _ _ ht hr=>(ih.stmts _ _ _ _ hr).then fun _ _ _ _ hx hr=>(eY he hr _).then fun _ _ _ _ _ hr=>⟨.mk ht.2.2 hx,hr⟩
   ·intro l l' d hl;obtain ⟨ht1,ht2,ht3⟩:=hl.at he 0;rw [dc,dc];simp only [hl.word,hl.name,hl.sign];split
    ·refine (dm he hl true).then fun _ _ _ _ _ hr=>?_
     simp only [hr.name];refine (dm he hr _).then fun _ _ _ _ hn hr=>?_
     simp only [hr.word];exact (dm he hr _).then fun _ _ _ _ _ hr=>(ie.expr _ _ _ hr).then fun _ _ _ _ hx hr=>(ih.block _ _ _ hr).then fun _ _ _ _ hy hr=>⟨by rw [hn.2.1];exact .mk ht3 (.cons hx (.cons hy .nil)),hr⟩
    split
    ·refine (dm he hl true).then fun _ _ _ _ _ hr=>(ie.expr _ _ _ hr).then fun _ _ _ _ hx hr=>(ih.block _ _ _ hr).then fun _ _ _ _ hy hr=>?_
     simp only [hr.word];split
     ·exact (dm he hr true).then fun _ _ _ _ _ hr=>(ih.block _ _ _ hr).then fun _ _ _ _ hz hr=>⟨.mk ht3 (.cons hx (.cons hy (.cons hz .nil))),hr⟩
     ·exact ⟨.mk ht3 (.cons hx (.cons hy .nil)),hr⟩
    split
    ·refine (dm he hl true).then fun _ _ _ _ _ hr=>?_
     simp only [hr.name];exact (dm he hr _).then fun _ _ _ _ hn hr=>(eY he hr _).then fun _ _ _ _ _ hr=>(ie.list _ _ _ _ _ _ hr).then fun _ _ _ _ hk hr=>(eY he hr _).then fun _ _ _ _ _ hr =>
      (ih.block _ _ _ hr).then fun _ _ _ _ hy hr=>⟨by rw [hn.2.1];exact .mk ht3 (hk.append (.cons hy .nil)),hr⟩
    split
    ·exact (ie.call _ _ _ hl).then fun _ _ _ _ hx hr=>(eY he hr _).then fun _ _ _ _ _ hr=>⟨.mk ht3 (.cons hx .nil),hr⟩
    ·exact (dm he hl _).then fun _ _ _ _ hn hr=>(eY he hr _).then fun _ _ _ _ _ hr=>(ie.expr _ _ _ hr).then fun _ _ _ _ hx hr=>(eY he hr _).then fun _ _ _ _ _ hr =>
      ⟨by rw [hn.2.1];exact .mk ht3 (.cons hx .nil),hr⟩
   ·intro up l l' d hl;rw [bY,bY];simp only [hl.sign,hl.isNil];split
    ·exact ⟨.nil,hl⟩
    ·exact (ih.stmt _ _ _ hl).then fun _ _ _ _ hx hr=>(ih.stmts _ _ _ _ hr).then fun _ _ _ _ hb hr=>⟨.cons hx hb,hr⟩
end
end
end Go.Proofs.YtfgiihpopngbkaaGreatDoor
