/- Lemmas and walks that the statement needs: RpStmt, RpRule, RefQuote, RpExpr, RpDict, MayD. -/
import Derived.Test.YtfgiihpopngbkaaGreatDoorP07
namespace Go.Proofs.YtfgiihpopngbkaaGreatDoor
set_option maxRecDepth 100000
set_option maxHeartbeats 8000000
open Go.RowKit
open List renaming length_cons→lCo
open Go.World renaming size_alloc→wSz
open _root_.Array renaming getElem?_eq_some_iff→aGe
open Go renaming heap_alloc_new→hAn
theorem zdh (t:List UInt8) (l c:Int) (ks:List NM) (a:Option Addr) (m:Nat) (w:World) (hw:bB w) (hh:am aR w (.mk 8 t l c ks a m)) (ht:t.length≤1000000) (hk:ks.length≤1000000) (IH:∀ j (hj:j<ks.length),dO 85 mS ks[j]):
  Calls Tryz.prog 120 #[aB 8 t l c (.slice a ks.length m)] w fun e w'=>e=.returned (.bool (mB (NM.mk 8 t l c ks a m).tr))∧Below w.heap.size w w':=by
 rw [aq,zbe,eO];have H0:=ag w (.cells #[.int .i64 8,.string (bs t),.int .i64 l,.int .i64 c,.slice a ks.length m] 27);have HC:=hid (y5 (fun x=>mS x.tr) _ ks _ (hh.kidsAt.below H0) (by omega) (fun j hj W hW=>IH j hj W ((hw.below H0).below hW) ((hh.kidsAt.below H0).get j hj |>.below hW)));clear hw hh IH H0;cases t with
 | cons tc tr =>
   have q:((tc::tr) == ([]:List UInt8))=false:=rfl;clear HC;go_enter Tryz.func120,Tryz.ntmps120
   go_wp2_with fail;go_ret;exact ⟨rfl,ag w _⟩
 | nil =>
   have HO:Hid ((([]:List UInt8).isEmpty && ks.all (fun x=>mS x.tr))=ks.all (fun x=>mS x.tr)):=hid rfl;rw [HO.out];clear HO;generalize ks.all (fun x=>mS x.tr)=b at *;go_enter Tryz.func120,Tryz.ntmps120
   go_wp2_with fail;refine HC.out.mono ?_;rintro e w1 ⟨rfl,hb1⟩;go_wp2_with fail;go_ret;exact ⟨rfl,zdy (ag w _) hb1⟩
theorem zcw (k:Int) (t:List UInt8) (l c:Int) (ks:List NM) (a:Option Addr) (m:Nat) (w:World) (h:(k == 8)=false) :
  Calls Tryz.prog 120 #[aB k t l c (.slice a ks.length m)] w fun e w'=>e=.returned (.bool (mB (NM.mk k t l c ks a m).tr))∧Below w.heap.size w w':=by
 rw [aq,zbv _ _ h];go_enter Tryz.func120,Tryz.ntmps120
 go_wp2_with fail;go_ret;exact ⟨rfl,ag w _⟩
theorem zde (t:List UInt8) (l c:Int) (kx:Int) (tx:List UInt8) (lx cx:Int) (ksx:List NM) (ax:Option Addr) (mx:Nat) (a:Option Addr) (m:Nat) (w:World) (hw:bB w) (hh:am aR w (.mk 2 t l c [(NM.mk kx tx lx cx ksx ax mx)] a m)) (ht:(t:List UInt8).length≤1000000) (IHx:dO 86 mE (NM.mk kx tx lx cx ksx ax mx)) :
  Calls Tryz.prog 85 #[aB 2 t l c (.slice a 1 m)] w fun e w'=>e=.returned (.bool (mS (NM.mk 2 t l c [(NM.mk kx tx lx cx ksx ax mx)] a m).tr))∧Below w.heap.size w w':=by
 have bC:=nb;obtain ⟨kb,ko,rfl,bk,hm1,hlm,Fx,ggx⟩:=fp hh;have HO:=hid (show mS (NM.mk 2 t l c [(NM.mk kx tx lx cx ksx ax mx)] (some ⟨kb,ko,none⟩) m).tr=(aM t && mE (NM.mk kx tx lx cx ksx ax mx).tr) by
  rw [aq,xE,ai,ar];rfl
 )
 rw [HO.out];clear HO;have C0:=hid (fun W (hW:Below w.heap.size w W)=>cV t (by omega) W);have C1:=IHx.c hw ggx;generalize aM t=b0 at *;generalize mE (NM.mk kx tx lx cx ksx ax mx).tr=b1 at *;clear hh hw IHx ggx;obtain ⟨yx0,yx1,yx2,yx3,yx4⟩:=aj Fx.out;have HB0:=hid (ag w (.cells #[.int .i64 2,.string (bs t),.int .i64 l,.int .i64 c,.slice (some ⟨kb,ko,none⟩) 1 m] 27));go_enter Tryz.func85,Tryz.ntmps85
 go_wp2_with fail;refine (C0.out _ HB0.out).mono ?_;rintro e w1 ⟨rfl,hb1⟩;have HB1:=bc HB0 hb1;have HR1:=rk0 hb1;have hs1:=hb1.size
 try simp only [wSz] at hs1
 clear hb1 C0;obtain ⟨z0,z1,z2,z3,z4⟩:=r5 HR1.out;obtain ⟨yx0,yx1,yx2,yx3,yx4⟩:=aj (Fx.out.keep (HB1.out.block kb bk));have hkl1:kb<w1.heap.size:=by omega
 cases b0 with
 | false =>
   go_wp2_with fail;clear z0 z1 z2 z3 z4 yx0 yx1 yx2 yx3 yx4;go_ret;exact ⟨rfl,HB1.out⟩
 | true =>
   go_wp2_with fail;clear z0 z1 z2 z3 z4 yx0 yx1 yx2 yx3 yx4;refine (C1.out _ HB1.out).mono ?_;rintro e w2 ⟨rfl,hb2⟩;have HB2:=bc HB1 hb2;have HR2:=rk HR1 hb2;have hs2:=hb2.size
   try simp only [wSz] at hs2
   clear hb2 C1;obtain ⟨z0,z1,z2,z3,z4⟩:=r5 HR2.out;obtain ⟨yx0,yx1,yx2,yx3,yx4⟩:=aj (Fx.out.keep (HB2.out.block kb bk));have hkl2:kb<w2.heap.size:=by omega
   go_wp2_with fail;clear z0 z1 z2 z3 z4 yx0 yx1 yx2 yx3 yx4;go_ret;exact ⟨rfl,HB2.out⟩
theorem zcs (t:List UInt8) (l c:Int) (ks:List NM) (a:Option Addr) (m:Nat) (w:World) (_hw:bB w) (hh:am aR w (.mk 2 t l c ks a m)) (ht:(t:List UInt8).length≤1000000) (hn:ks.length≠1) :
  Calls Tryz.prog 85 #[aB 2 t l c (.slice a ks.length m)] w fun e w'=>e=.returned (.bool (mS (NM.mk 2 t l c ks a m).tr))∧Below w.heap.size w w':=by
 have bC:=nb;have HO:=hid (show mS (NM.mk 2 t l c ks a m).tr=(aM t && false) by
  rw [aq,xE]
  match ks,hn with
  | [],_=>simp [ar,iA]
  | [_],h=>simp at h
  | _::_::_,_=>simp [ai,iA]
 )
 rw [HO.out];clear HO;have C0:=hid (fun W (hW:Below w.heap.size w W)=>cV t (by omega) W);generalize aM t=b0 at *;clear hh _hw;have hn1:((ks.length:Int) == 1)=false:=eqF (by omega);have HB0:=hid (ag w (.cells #[.int .i64 2,.string (bs t),.int .i64 l,.int .i64 c,.slice a ks.length m] 27));go_enter Tryz.func85,Tryz.ntmps85
 go_wp2_with fail;refine (C0.out _ HB0.out).mono ?_;rintro e w1 ⟨rfl,hb1⟩;have HB1:=bc HB0 hb1;have HR1:=rk0 hb1;have hs1:=hb1.size
 try simp only [wSz] at hs1
 clear hb1 C0;obtain ⟨z0,z1,z2,z3,z4⟩:=r5 HR1.out;cases b0 with
 | false =>
   go_wp2_with fail;clear z0 z1 z2 z3 z4;go_ret;exact ⟨rfl,HB1.out⟩
 | true =>
   go_wp2_with fail;clear z0 z1 z2 z3 z4;go_ret;exact ⟨rfl,HB1.out⟩
theorem zdu  (l c:Int) (kx:Int) (tx:List UInt8) (lx cx:Int) (ksx:List NM) (ax:Option Addr) (mx:Nat) (a:Option Addr) (m:Nat) (w:World) (hw:bB w) (hh:am aR w (.mk 3 [] l c [(NM.mk kx tx lx cx ksx ax mx)] a m)) (_ht:([]:List UInt8).length≤1000000) (h14:(kx == 14)=true) (IHx:dO 86 mE (NM.mk kx tx lx cx ksx ax mx)) :
  Calls Tryz.prog 85 #[aB 3 [] l c (.slice a 1 m)] w fun e w'=>e=.returned (.bool (mS (NM.mk 3 [] l c [(NM.mk kx tx lx cx ksx ax mx)] a m).tr))∧Below w.heap.size w w':=by
 have bC:=nb;obtain ⟨kb,ko,rfl,bk,hm1,hlm,Fx,ggx⟩:=fp hh;have HO:=hid (show mS (NM.mk 3 [] l c [(NM.mk kx tx lx cx ksx ax mx)] (some ⟨kb,ko,none⟩) m).tr=mE (NM.mk kx tx lx cx ksx ax mx).tr by
  rw [aq,pA,ai,ar];show (true && (Tr.kd (NM.mk kx tx lx cx ksx ax mx).tr == 14 && mE (NM.mk kx tx lx cx ksx ax mx).tr))=_;rw [aq,bX,h14,Bool.true_and,Bool.true_and]
 )
 rw [HO.out];clear HO;have C0:=IHx.c hw ggx;generalize mE (NM.mk kx tx lx cx ksx ax mx).tr=b0 at *;clear hh hw IHx ggx;obtain ⟨yx0,yx1,yx2,yx3,yx4⟩:=aj Fx.out;have HB0:=hid (ag w (.cells #[.int .i64 3,.string (bs []),.int .i64 l,.int .i64 c,.slice (some ⟨kb,ko,none⟩) 1 m] 27));go_enter Tryz.func85,Tryz.ntmps85
 go_wp2_with fail;refine (C0.out _ HB0.out).mono ?_;rintro e w1 ⟨rfl,hb1⟩;have HB1:=bc HB0 hb1;have HR1:=rk0 hb1;have hs1:=hb1.size
 try simp only [wSz] at hs1
 clear hb1 C0;obtain ⟨z0,z1,z2,z3,z4⟩:=r5 HR1.out;obtain ⟨yx0,yx1,yx2,yx3,yx4⟩:=aj (Fx.out.keep (HB1.out.block kb bk));have hkl1:kb<w1.heap.size:=by omega
 go_wp2_with fail;clear z0 z1 z2 z3 z4 yx0 yx1 yx2 yx3 yx4;go_ret;exact ⟨rfl,HB1.out⟩
theorem zcT  (l c:Int) (kx:Int) (tx:List UInt8) (lx cx:Int) (ksx:List NM) (ax:Option Addr) (mx:Nat) (a:Option Addr) (m:Nat) (w:World) (_hw:bB w) (hh:am aR w (.mk 3 [] l c [(NM.mk kx tx lx cx ksx ax mx)] a m)) (_ht:([]:List UInt8).length≤1000000) (h14:(kx == 14)=false) :
  Calls Tryz.prog 85 #[aB 3 [] l c (.slice a 1 m)] w fun e w'=>e=.returned (.bool (mS (NM.mk 3 [] l c [(NM.mk kx tx lx cx ksx ax mx)] a m).tr))∧Below w.heap.size w w':=by
 have bC:=nb;obtain ⟨kb,ko,rfl,bk,hm1,hlm,Fx,ggx⟩:=fp hh;have HO:=hid (show mS (NM.mk 3 [] l c [(NM.mk kx tx lx cx ksx ax mx)] (some ⟨kb,ko,none⟩) m).tr=false by
  rw [aq,pA,ai,ar];show (true && (Tr.kd (NM.mk kx tx lx cx ksx ax mx).tr == 14 && mE (NM.mk kx tx lx cx ksx ax mx).tr))=_;rw [aq,bX,h14];rfl
 )
 rw [HO.out];clear HO;clear hh _hw ggx;obtain ⟨yx0,yx1,yx2,yx3,yx4⟩:=aj Fx.out;have HB0:=hid (ag w (.cells #[.int .i64 3,.string (bs []),.int .i64 l,.int .i64 c,.slice (some ⟨kb,ko,none⟩) 1 m] 27));go_enter Tryz.func85,Tryz.ntmps85
 go_wp2_with fail;go_ret;exact ⟨rfl,HB0.out⟩
theorem zc3  (l c:Int) (ks:List NM) (a:Option Addr) (m:Nat) (w:World) (_hw:bB w) (hh:am aR w (.mk 3 [] l c ks a m)) (_ht:([]:List UInt8).length≤1000000) (hn:ks.length≠1) :
  Calls Tryz.prog 85 #[aB 3 [] l c (.slice a ks.length m)] w fun e w'=>e=.returned (.bool (mS (NM.mk 3 [] l c ks a m).tr))∧Below w.heap.size w w':=by
 have bC:=nb;have HO:=hid (show mS (NM.mk 3 [] l c ks a m).tr=false by
  rw [aq,pA]
  match ks,hn with
  | [],_=>simp [ar,doM]
  | [_],h=>simp at h
  | _::_::_,_=>simp [ai,doM]
 )
 rw [HO.out];clear HO;clear hh _hw;have hn1:((ks.length:Int) == 1)=false:=eqF (by omega);have HB0:=hid (ag w (.cells #[.int .i64 3,.string (bs []),.int .i64 l,.int .i64 c,.slice a ks.length m] 27));go_enter Tryz.func85,Tryz.ntmps85
 go_wp2_with fail;go_ret;exact ⟨rfl,HB0.out⟩
theorem zcQ (tc:UInt8) (tr:List UInt8) (l c:Int) (ks:List NM) (a:Option Addr) (m:Nat) (w:World) (_hw:bB w) (_hh:am aR w (.mk 3 (tc::tr) l c ks a m)) (_ht:((tc::tr):List UInt8).length≤1000000) :
  Calls Tryz.prog 85 #[aB 3 (tc::tr) l c (.slice a ks.length m)] w fun e w'=>e=.returned (.bool (mS (NM.mk 3 (tc::tr) l c ks a m).tr))∧Below w.heap.size w w':=by
 have bC:=nb;have HO:=hid (show mS (NM.mk 3 (tc::tr) l c ks a m).tr=false by
  rw [aq,pA];rfl
 )
 rw [HO.out];clear HO;clear _hh _hw;have q:((tc::tr) == ([]:List UInt8))=false:=rfl;have HB0:=hid (ag w (.cells #[.int .i64 3,.string (bs (tc::tr)),.int .i64 l,.int .i64 c,.slice a ks.length m] 27));go_enter Tryz.func85,Tryz.ntmps85
 go_wp2_with fail;go_ret;exact ⟨rfl,HB0.out⟩
theorem zdc (t:List UInt8) (l c:Int) (kx:Int) (tx:List UInt8) (lx cx:Int) (ksx:List NM) (ax:Option Addr) (mx:Nat) (ky:Int) (ty:List UInt8) (ly cy:Int) (ksy:List NM) (ay:Option Addr) (my:Nat) (a:Option Addr) (m:Nat) (w:World) (hw:bB w) (hh:am aR w (.mk 4 t l c [(NM.mk kx tx lx cx ksx ax mx),(NM.mk ky ty ly cy ksy ay my)] a m)) (ht:(t:List UInt8).length≤1000000) (IHx:dO 86 mE (NM.mk kx tx lx cx ksx ax mx)) (IHy:dO 120 mB (NM.mk ky ty ly cy ksy ay my)) :
  Calls Tryz.prog 85 #[aB 4 t l c (.slice a 2 m)] w fun e w'=>e=.returned (.bool (mS (NM.mk 4 t l c [(NM.mk kx tx lx cx ksx ax mx),(NM.mk ky ty ly cy ksy ay my)] a m).tr))∧Below w.heap.size w w':=by
 have bC:=nb;obtain ⟨kb,ko,rfl,bk,hm1,hlm,Fx,ggx,Fy,ggy⟩:=iM hh;have HO:=hid (show mS (NM.mk 4 t l c [(NM.mk kx tx lx cx ksx ax mx),(NM.mk ky ty ly cy ksy ay my)] (some ⟨kb,ko,none⟩) m).tr=(aM t && (mE (NM.mk kx tx lx cx ksx ax mx).tr && mB (NM.mk ky ty ly cy ksy ay my).tr)) by
  rw [aq,vT,ai,ai,ar];rfl
 )
 rw [HO.out];clear HO;have C0:=hid (fun W (hW:Below w.heap.size w W)=>cV t (by omega) W);have C1:=IHx.c hw ggx;have C2:=IHy.c hw ggy;generalize aM t=b0 at *;generalize mE (NM.mk kx tx lx cx ksx ax mx).tr=b1 at *;generalize mB (NM.mk ky ty ly cy ksy ay my).tr=b2 at *;clear hh hw IHx ggx IHy ggy;obtain ⟨yx0,yx1,yx2,yx3,yx4⟩:=aj Fx.out;obtain ⟨yy0,yy1,yy2,yy3,yy4⟩:=aj Fy.out;have HB0:=hid (ag w (.cells #[.int .i64 4,.string (bs t),.int .i64 l,.int .i64 c,.slice (some ⟨kb,ko,none⟩) 2 m] 27));go_enter Tryz.func85,Tryz.ntmps85
 go_wp2_with fail;refine (C0.out _ HB0.out).mono ?_;rintro e w1 ⟨rfl,hb1⟩;have HB1:=bc HB0 hb1;have HR1:=rk0 hb1;have hs1:=hb1.size
 try simp only [wSz] at hs1
 clear hb1 C0;obtain ⟨z0,z1,z2,z3,z4⟩:=r5 HR1.out;obtain ⟨yx0,yx1,yx2,yx3,yx4⟩:=aj (Fx.out.keep (HB1.out.block kb bk));obtain ⟨yy0,yy1,yy2,yy3,yy4⟩:=aj (Fy.out.keep (HB1.out.block kb bk));have hkl1:kb<w1.heap.size:=by omega
 cases b0 with
 | false =>
   go_wp2_with fail;clear z0 z1 z2 z3 z4 yx0 yx1 yx2 yx3 yx4 yy0 yy1 yy2 yy3 yy4;go_ret;exact ⟨rfl,HB1.out⟩
 | true =>
   go_wp2_with fail;clear z0 z1 z2 z3 z4 yx0 yx1 yx2 yx3 yx4 yy0 yy1 yy2 yy3 yy4;refine (C1.out _ HB1.out).mono ?_;rintro e w2 ⟨rfl,hb2⟩;have HB2:=bc HB1 hb2;have HR2:=rk HR1 hb2;have hs2:=hb2.size
   try simp only [wSz] at hs2
   clear hb2 C1;obtain ⟨z0,z1,z2,z3,z4⟩:=r5 HR2.out;obtain ⟨yx0,yx1,yx2,yx3,yx4⟩:=aj (Fx.out.keep (HB2.out.block kb bk));obtain ⟨yy0,yy1,yy2,yy3,yy4⟩:=aj (Fy.out.keep (HB2.out.block kb bk));have hkl2:kb<w2.heap.size:=by omega
   cases b1 with
   | false =>
     go_wp2_with fail;clear z0 z1 z2 z3 z4 yx0 yx1 yx2 yx3 yx4 yy0 yy1 yy2 yy3 yy4;go_ret;exact ⟨rfl,HB2.out⟩
   | true =>
     go_wp2_with fail;clear z0 z1 z2 z3 z4 yx0 yx1 yx2 yx3 yx4 yy0 yy1 yy2 yy3 yy4;refine (C2.out _ HB2.out).mono ?_;rintro e w3 ⟨rfl,hb3⟩;have HB3:=bc HB2 hb3;have HR3:=rk HR2 hb3;have hs3:=hb3.size
     try simp only [wSz] at hs3
     clear hb3 C2;obtain ⟨z0,z1,z2,z3,z4⟩:=r5 HR3.out;obtain ⟨yx0,yx1,yx2,yx3,yx4⟩:=aj (Fx.out.keep (HB3.out.block kb bk));obtain ⟨yy0,yy1,yy2,yy3,yy4⟩:=aj (Fy.out.keep (HB3.out.block kb bk));have hkl3:kb<w3.heap.size:=by omega
     go_wp2_with fail;clear z0 z1 z2 z3 z4 yx0 yx1 yx2 yx3 yx4 yy0 yy1 yy2 yy3 yy4;go_ret;exact ⟨rfl,HB3.out⟩
theorem zc7 (t:List UInt8) (l c:Int) (ks:List NM) (a:Option Addr) (m:Nat) (w:World) (_hw:bB w) (hh:am aR w (.mk 4 t l c ks a m)) (ht:(t:List UInt8).length≤1000000) (hn:ks.length≠2) :
  Calls Tryz.prog 85 #[aB 4 t l c (.slice a ks.length m)] w fun e w'=>e=.returned (.bool (mS (NM.mk 4 t l c ks a m).tr))∧Below w.heap.size w w':=by
 have bC:=nb;have HO:=hid (show mS (NM.mk 4 t l c ks a m).tr=(aM t && false) by
  rw [aq,vT]
  match ks,hn with
  | [],_=>simp [ar,ln]
  | [_],_=>simp [ai,ar,ln]
  | [_,_],h=>simp at h
  | _::_::_::_,_=>simp [ai,ln]
 )
 rw [HO.out];clear HO;have C0:=hid (fun W (hW:Below w.heap.size w W)=>cV t (by omega) W);generalize aM t=b0 at *;clear hh _hw;have hn1:((ks.length:Int) == 2)=false:=eqF (by omega);have HB0:=hid (ag w (.cells #[.int .i64 4,.string (bs t),.int .i64 l,.int .i64 c,.slice a ks.length m] 27));go_enter Tryz.func85,Tryz.ntmps85
 go_wp2_with fail;refine (C0.out _ HB0.out).mono ?_;rintro e w1 ⟨rfl,hb1⟩;have HB1:=bc HB0 hb1;have HR1:=rk0 hb1;have hs1:=hb1.size
 try simp only [wSz] at hs1
 clear hb1 C0;obtain ⟨z0,z1,z2,z3,z4⟩:=r5 HR1.out;cases b0 with
 | false =>
   go_wp2_with fail;clear z0 z1 z2 z3 z4;go_ret;exact ⟨rfl,HB1.out⟩
 | true =>
   go_wp2_with fail;clear z0 z1 z2 z3 z4;go_ret;exact ⟨rfl,HB1.out⟩
theorem zcU  (l c:Int) (kx:Int) (tx:List UInt8) (lx cx:Int) (ksx:List NM) (ax:Option Addr) (mx:Nat) (ky:Int) (ty:List UInt8) (ly cy:Int) (ksy:List NM) (ay:Option Addr) (my:Nat) (a:Option Addr) (m:Nat) (w:World) (hw:bB w) (hh:am aR w (.mk 5 [] l c [(NM.mk kx tx lx cx ksx ax mx),(NM.mk ky ty ly cy ksy ay my)] a m)) (_ht:([]:List UInt8).length≤1000000) (IHx:dO 86 mE (NM.mk kx tx lx cx ksx ax mx)) (IHy:dO 120 mB (NM.mk ky ty ly cy ksy ay my)) :
  Calls Tryz.prog 85 #[aB 5 [] l c (.slice a 2 m)] w fun e w'=>e=.returned (.bool (mS (NM.mk 5 [] l c [(NM.mk kx tx lx cx ksx ax mx),(NM.mk ky ty ly cy ksy ay my)] a m).tr))∧Below w.heap.size w w':=by
 have bC:=nb;obtain ⟨kb,ko,rfl,bk,hm1,hlm,Fx,ggx,Fy,ggy⟩:=iM hh;have HO:=hid (show mS (NM.mk 5 [] l c [(NM.mk kx tx lx cx ksx ax mx),(NM.mk ky ty ly cy ksy ay my)] (some ⟨kb,ko,none⟩) m).tr=(mE (NM.mk kx tx lx cx ksx ax mx).tr && mB (NM.mk ky ty ly cy ksy ay my).tr) by
  rw [aq,pk,ai,ai,ar];unfold ifM;simp only [List.isEmpty_nil,Bool.true_and]
 )
 rw [HO.out];clear HO;have C0:=IHx.c hw ggx;have C1:=IHy.c hw ggy;generalize mE (NM.mk kx tx lx cx ksx ax mx).tr=b0 at *;generalize mB (NM.mk ky ty ly cy ksy ay my).tr=b1 at *;clear hh hw IHx ggx IHy ggy;obtain ⟨yx0,yx1,yx2,yx3,yx4⟩:=aj Fx.out;obtain ⟨yy0,yy1,yy2,yy3,yy4⟩:=aj Fy.out;have HB0:=hid (ag w (.cells #[.int .i64 5,.string (bs []),.int .i64 l,.int .i64 c,.slice (some ⟨kb,ko,none⟩) 2 m] 27));go_enter Tryz.func85,Tryz.ntmps85
 go_wp2_with fail;refine (C0.out _ HB0.out).mono ?_;rintro e w1 ⟨rfl,hb1⟩;have HB1:=bc HB0 hb1;have HR1:=rk0 hb1;have hs1:=hb1.size
 try simp only [wSz] at hs1
 clear hb1 C0;obtain ⟨z0,z1,z2,z3,z4⟩:=r5 HR1.out;obtain ⟨yx0,yx1,yx2,yx3,yx4⟩:=aj (Fx.out.keep (HB1.out.block kb bk));obtain ⟨yy0,yy1,yy2,yy3,yy4⟩:=aj (Fy.out.keep (HB1.out.block kb bk));have hkl1:kb<w1.heap.size:=by omega
 cases b0 with
 | false =>
   go_wp2_with fail;clear z0 z1 z2 z3 z4 yx0 yx1 yx2 yx3 yx4 yy0 yy1 yy2 yy3 yy4;go_ret;exact ⟨rfl,HB1.out⟩
 | true =>
   go_wp2_with fail;clear z0 z1 z2 z3 z4 yx0 yx1 yx2 yx3 yx4 yy0 yy1 yy2 yy3 yy4;refine (C1.out _ HB1.out).mono ?_;rintro e w2 ⟨rfl,hb2⟩;have HB2:=bc HB1 hb2;have HR2:=rk HR1 hb2;have hs2:=hb2.size
   try simp only [wSz] at hs2
   clear hb2 C1;obtain ⟨z0,z1,z2,z3,z4⟩:=r5 HR2.out;obtain ⟨yx0,yx1,yx2,yx3,yx4⟩:=aj (Fx.out.keep (HB2.out.block kb bk));obtain ⟨yy0,yy1,yy2,yy3,yy4⟩:=aj (Fy.out.keep (HB2.out.block kb bk));have hkl2:kb<w2.heap.size:=by omega
   go_wp2_with fail;clear z0 z1 z2 z3 z4 yx0 yx1 yx2 yx3 yx4 yy0 yy1 yy2 yy3 yy4;go_ret;exact ⟨rfl,HB2.out⟩
theorem zcv  (l c:Int) (kx:Int) (tx:List UInt8) (lx cx:Int) (ksx:List NM) (ax:Option Addr) (mx:Nat) (ky:Int) (ty:List UInt8) (ly cy:Int) (ksy:List NM) (ay:Option Addr) (my:Nat) (kz:Int) (tz:List UInt8) (lz cz:Int) (ksz:List NM) (az:Option Addr) (mz:Nat) (a:Option Addr) (m:Nat) (w:World) (hw:bB w) (hh:am aR w (.mk 5 [] l c [(NM.mk kx tx lx cx ksx ax mx),(NM.mk ky ty ly cy ksy ay my),(NM.mk kz tz lz cz ksz az mz)] a m)) (_ht:([]:List UInt8).length≤1000000) (IHx:dO 86 mE (NM.mk kx tx lx cx ksx ax mx)) (IHy:dO 120 mB (NM.mk ky ty ly cy ksy ay my)) (IHz:dO 120 mB (NM.mk kz tz lz cz ksz az mz)) :
  Calls Tryz.prog 85 #[aB 5 [] l c (.slice a 3 m)] w fun e w'=>e=.returned (.bool (mS (NM.mk 5 [] l c [(NM.mk kx tx lx cx ksx ax mx),(NM.mk ky ty ly cy ksy ay my),(NM.mk kz tz lz cz ksz az mz)] a m).tr))∧Below w.heap.size w w':=by
 have bC:=nb;obtain ⟨kb,ko,rfl,bk,hm1,hlm,Fx,ggx,Fy,ggy,Fz,ggz⟩:=xU hh;have HO:=hid (show mS (NM.mk 5 [] l c [(NM.mk kx tx lx cx ksx ax mx),(NM.mk ky ty ly cy ksy ay my),(NM.mk kz tz lz cz ksz az mz)] (some ⟨kb,ko,none⟩) m).tr=(mB (NM.mk kz tz lz cz ksz az mz).tr && (mE (NM.mk kx tx lx cx ksx ax mx).tr && mB (NM.mk ky ty ly cy ksy ay my).tr)) by
  rw [aq,pk,ai,ai,ai,ar];unfold ifM;simp only [List.isEmpty_nil,Bool.true_and];rw [Bool.and_comm]
 )
 rw [HO.out];clear HO;have C0:=IHz.c hw ggz;have C1:=IHx.c hw ggx;have C2:=IHy.c hw ggy;generalize mB (NM.mk kz tz lz cz ksz az mz).tr=b0 at *;generalize mE (NM.mk kx tx lx cx ksx ax mx).tr=b1 at *;generalize mB (NM.mk ky ty ly cy ksy ay my).tr=b2 at *;clear hh hw IHx ggx IHy ggy IHz ggz;obtain ⟨yx0,yx1,yx2,yx3,yx4⟩:=aj Fx.out;obtain ⟨yy0,yy1,yy2,yy3,yy4⟩:=aj Fy.out;obtain ⟨yz0,yz1,yz2,yz3,yz4⟩:=aj Fz.out;have HB0:=hid (ag w (.cells #[.int .i64 5,.string (bs []),.int .i64 l,.int .i64 c,.slice (some ⟨kb,ko,none⟩) 3 m] 27));go_enter Tryz.func85,Tryz.ntmps85
 go_wp2_with fail;refine (C0.out _ HB0.out).mono ?_;rintro e w1 ⟨rfl,hb1⟩;have HB1:=bc HB0 hb1;have HR1:=rk0 hb1;have hs1:=hb1.size
 try simp only [wSz] at hs1
 clear hb1 C0;obtain ⟨z0,z1,z2,z3,z4⟩:=r5 HR1.out;obtain ⟨yx0,yx1,yx2,yx3,yx4⟩:=aj (Fx.out.keep (HB1.out.block kb bk));obtain ⟨yy0,yy1,yy2,yy3,yy4⟩:=aj (Fy.out.keep (HB1.out.block kb bk));obtain ⟨yz0,yz1,yz2,yz3,yz4⟩:=aj (Fz.out.keep (HB1.out.block kb bk));have hkl1:kb<w1.heap.size:=by omega
 cases b0 with
 | false =>
   go_wp2_with fail;clear z0 z1 z2 z3 z4 yx0 yx1 yx2 yx3 yx4 yy0 yy1 yy2 yy3 yy4 yz0 yz1 yz2 yz3 yz4;go_ret;exact ⟨rfl,HB1.out⟩
 | true =>
   go_wp2_with fail;clear z0 z1 z2 z3 z4 yx0 yx1 yx2 yx3 yx4 yy0 yy1 yy2 yy3 yy4 yz0 yz1 yz2 yz3 yz4;refine (C1.out _ HB1.out).mono ?_;rintro e w2 ⟨rfl,hb2⟩;have HB2:=bc HB1 hb2;have HR2:=rk HR1 hb2;have hs2:=hb2.size
   try simp only [wSz] at hs2
   clear hb2 C1;obtain ⟨z0,z1,z2,z3,z4⟩:=r5 HR2.out;obtain ⟨yx0,yx1,yx2,yx3,yx4⟩:=aj (Fx.out.keep (HB2.out.block kb bk));obtain ⟨yy0,yy1,yy2,yy3,yy4⟩:=aj (Fy.out.keep (HB2.out.block kb bk));obtain ⟨yz0,yz1,yz2,yz3,yz4⟩:=aj (Fz.out.keep (HB2.out.block kb bk));have hkl2:kb<w2.heap.size:=by omega
   cases b1 with
   | false =>
     go_wp2_with fail;clear z0 z1 z2 z3 z4 yx0 yx1 yx2 yx3 yx4 yy0 yy1 yy2 yy3 yy4 yz0 yz1 yz2 yz3 yz4;go_ret;exact ⟨rfl,HB2.out⟩
   | true =>
     go_wp2_with fail;clear z0 z1 z2 z3 z4 yx0 yx1 yx2 yx3 yx4 yy0 yy1 yy2 yy3 yy4 yz0 yz1 yz2 yz3 yz4;refine (C2.out _ HB2.out).mono ?_;rintro e w3 ⟨rfl,hb3⟩;have HB3:=bc HB2 hb3;have HR3:=rk HR2 hb3;have hs3:=hb3.size
     try simp only [wSz] at hs3
     clear hb3 C2;obtain ⟨z0,z1,z2,z3,z4⟩:=r5 HR3.out;obtain ⟨yx0,yx1,yx2,yx3,yx4⟩:=aj (Fx.out.keep (HB3.out.block kb bk));obtain ⟨yy0,yy1,yy2,yy3,yy4⟩:=aj (Fy.out.keep (HB3.out.block kb bk));obtain ⟨yz0,yz1,yz2,yz3,yz4⟩:=aj (Fz.out.keep (HB3.out.block kb bk));have hkl3:kb<w3.heap.size:=by omega
     go_wp2_with fail;clear z0 z1 z2 z3 z4 yx0 yx1 yx2 yx3 yx4 yy0 yy1 yy2 yy3 yy4 yz0 yz1 yz2 yz3 yz4;go_ret;exact ⟨rfl,HB3.out⟩
theorem zcN  (l c:Int) (ks:List NM) (a:Option Addr) (m:Nat) (w:World) (_hw:bB w) (hh:am aR w (.mk 5 [] l c ks a m)) (_ht:([]:List UInt8).length≤1000000) (hn:ks.length≠2) (hn3:ks.length≠3) :
  Calls Tryz.prog 85 #[aB 5 [] l c (.slice a ks.length m)] w fun e w'=>e=.returned (.bool (mS (NM.mk 5 [] l c ks a m).tr))∧Below w.heap.size w w':=by
 have bC:=nb;have HO:=hid (show mS (NM.mk 5 [] l c ks a m).tr=false by
  rw [aq,pk]
  match ks,hn,hn3 with
  | [],_,_=>simp [ar,ifM]
  | [_],_,_=>simp [ai,ar,ifM]
  | [_,_],h,_=>simp at h
  | [_,_,_],_,h=>simp at h
  | _::_::_::_::_,_,_=>simp [ai,ifM]
 )
 rw [HO.out];clear HO;clear hh _hw;have hn1:((ks.length:Int) == 2)=false:=eqF (by omega);have hn2:((ks.length:Int) == 3)=false:=eqF (by omega);have HB0:=hid (ag w (.cells #[.int .i64 5,.string (bs []),.int .i64 l,.int .i64 c,.slice a ks.length m] 27));go_enter Tryz.func85,Tryz.ntmps85
 go_wp2_with fail;go_ret;exact ⟨rfl,HB0.out⟩
theorem zcK (tc:UInt8) (tr:List UInt8) (l c:Int) (ks:List NM) (a:Option Addr) (m:Nat) (w:World) (_hw:bB w) (_hh:am aR w (.mk 5 (tc::tr) l c ks a m)) (_ht:((tc::tr):List UInt8).length≤1000000) :
  Calls Tryz.prog 85 #[aB 5 (tc::tr) l c (.slice a ks.length m)] w fun e w'=>e=.returned (.bool (mS (NM.mk 5 (tc::tr) l c ks a m).tr))∧Below w.heap.size w w':=by
 have bC:=nb;have HO:=hid (show mS (NM.mk 5 (tc::tr) l c ks a m).tr=false by
  rw [aq,pk];rfl
 )
 rw [HO.out];clear HO;clear _hh _hw;have q:((tc::tr) == ([]:List UInt8))=false:=rfl;have HB0:=hid (ag w (.cells #[.int .i64 5,.string (bs (tc::tr)),.int .i64 l,.int .i64 c,.slice a ks.length m] 27));go_enter Tryz.func85,Tryz.ntmps85
 go_wp2_with fail;go_ret;exact ⟨rfl,HB0.out⟩
theorem zcJ (t:List UInt8) (l c:Int) (ks:List NM) (a:Option Addr) (m:Nat) (w:World) (_hw:bB w) (_hh:am aR w (.mk 6 t l c ks a m)) (ht:(t:List UInt8).length≤1000000) (hn:ks=[]) :
  Calls Tryz.prog 85 #[aB 6 t l c (.slice a ks.length m)] w fun e w'=>e=.returned (.bool (mS (NM.mk 6 t l c ks a m).tr))∧Below w.heap.size w w':=by
 have bC:=nb;have HO:=hid (show mS (NM.mk 6 t l c ks a m).tr=(aM t && false) by
  rw [aq,wl,hn,ar];rfl
 )
 rw [HO.out];clear HO;have C0:=hid (fun W (hW:Below w.heap.size w W)=>cV t (by omega) W);generalize aM t=b0 at *;clear _hh _hw;have hn1:((ks.length:Int) == 0)=true:=eqT (by rw [hn];rfl);clear hn;have HB0:=hid (ag w (.cells #[.int .i64 6,.string (bs t),.int .i64 l,.int .i64 c,.slice a ks.length m] 27));go_enter Tryz.func85,Tryz.ntmps85
 go_wp2_with fail;refine (C0.out _ HB0.out).mono ?_;rintro e w1 ⟨rfl,hb1⟩;have HB1:=bc HB0 hb1;have HR1:=rk0 hb1;have hs1:=hb1.size
 try simp only [wSz] at hs1
 clear hb1 C0;obtain ⟨z0,z1,z2,z3,z4⟩:=r5 HR1.out;cases b0 with
 | false =>
   go_wp2_with fail;clear z0 z1 z2 z3 z4;go_ret;exact ⟨rfl,HB1.out⟩
 | true =>
   go_wp2_with fail;clear z0 z1 z2 z3 z4;go_ret;exact ⟨rfl,HB1.out⟩
theorem zc8 (k:Int) (t:List UInt8) (l c:Int) (ks:List NM) (a:Option Addr) (m:Nat) (w:World) (_hw:bB w) (_hh:am aR w (.mk k t l c ks a m)) (_ht:(t:List UInt8).length≤1000000) (h:isS k=false) :
  Calls Tryz.prog 85 #[aB k t l c (.slice a ks.length m)] w fun e w'=>e=.returned (.bool (mS (NM.mk k t l c ks a m).tr))∧Below w.heap.size w w':=by
 have bC:=nb;have HO:=hid (show mS (NM.mk k t l c ks a m).tr=false by
  rw [aq,zby _ _ h]
 )
 rw [HO.out];clear HO;clear _hh _hw;unfold isS at h;simp only [Bool.or_eq_false_iff] at h;obtain ⟨⟨⟨⟨h2,h3⟩,h4⟩,h5⟩,h6⟩:=h;have HB0:=hid (ag w (.cells #[.int .i64 k,.string (bs t),.int .i64 l,.int .i64 c,.slice a ks.length m] 27));go_enter Tryz.func85,Tryz.ntmps85
 go_wp2_with fail;go_ret;exact ⟨rfl,HB0.out⟩
theorem zdv (t:List UInt8) (l c:Int) (ks:List NM) (a:Option Addr) (m:Nat) (w:World) (hw:bB w) (hh:am aR w (.mk 6 t l c ks a m)) (ht:t.length≤1000000) (n:Nat) (kz:Int) (tz:List UInt8) (lz cz:Int) (ksz:List NM) (az:Option Addr) (mz:Nat) (hks:ks.length=n+1) (hkl:ks.length≤1000000) (hz:ks[n]=(NM.mk kz tz lz cz ksz az mz)) (IH:∀ j (hj:j<n),dO 121 mP ks[j]) (IHz:dO 120 mB (NM.mk kz tz lz cz ksz az mz)) :
  Calls Tryz.prog 85 #[aB 6 t l c (.slice a (n+1) m)] w fun e w'=>e=.returned (.bool (mS (NM.mk 6 t l c ks a m).tr))∧Below w.heap.size w w':=by
 have bC:=nb;have HO:=hid (show mS (NM.mk 6 t l c ks a m).tr=(aM t && ((ks.take n).all (fun x=>mP x.tr) && mB (NM.mk kz tz lz cz ksz az mz).tr)) by
  rw [aq,wl];have hsp:ks=ks.take n++[(NM.mk kz tz lz cz ksz az mz)]:=by
   have h1:ks.take (n+1)=ks:=List.take_of_length_le (by omega);rw [List.take_succ_eq_append_getElem (by omega),hz] at h1;exact h1.symm
  have e:NM.trs ks=(ks.take n).map NM.tr++[(NM.mk kz tz lz cz ksz az mz).tr]:=by
   rw [bR];exact (congrArg (List.map NM.tr) hsp).trans (by rw [List.map_append];rfl)
  unfold oh;rw [e,List.getLast?_concat,List.dropLast_concat,List.all_map];rfl)
 have HS:=hid (fun W (hW:Below w.heap.size w W)=>hh.kidsAt.below hW);have HC:=hid (fun j (hj:j<n) W (hW:Below w.heap.size w W)=>IH j hj W (hw.below hW) (hh.kidsAt.get j (by omega) |>.below hW));obtain ⟨la,lc,hv,iI,hlm,hx⟩:=hh.kidsAt.nodes;obtain ⟨kb,ko,ve,bk,cw⟩:=hx 0 (by omega);obtain ⟨rfl,rfl⟩:a=la∧m=lc:=by simpa using hv
 subst ve;have hlcn:n+1≤m:=by omega
 unfold maxLen at hlm;have Fz:=hid (show dn w kb (ko+n * 5) (NM.mk kz tz lz cz ksz az mz) from by have:=cw n (by omega);rwa [hz] at this);have C0:=hid (fun W (hW:Below w.heap.size w W)=>cV t (by omega) W);have C1:=hid (fun W (hW:Below w.heap.size w W)=>(show Calls Tryz.prog 120 #[aB kz tz lz cz (.slice az ksz.length mz)] W _ from IHz W (hw.below hW) (by have:=hh.kidsAt.get n (by omega);rw [hz] at this;exact this.below hW)));have hq0:((n:Int)+1 == 0)=false:=eqF (by omega);have hwr:(n:Int)+1 - 1=(n:Int):=by omega
 have HKS:=hid hks;have hn1:n<ks.length:=by omega
 generalize aM t=b0 at *;generalize mB (NM.mk kz tz lz cz ksz az mz).tr=b1 at *;generalize hpa:(ks.take n).all (fun x=>mP x.tr)=b2 at *;have HPA:=hid hpa;have HB0:=hid (ag w (.cells #[.int .i64 6,.string (bs t),.int .i64 l,.int .i64 c,.slice (some ⟨kb,ko,none⟩) (n+1) m] 27));have HR0:=hid (hAn w (.cells #[.int .i64 6,.string (bs t),.int .i64 l,.int .i64 c,.slice (some ⟨kb,ko,none⟩) (n+1) m] 27));rw [HO.out];have HC':=hid (fun j (hj:j<n) (hjl:j<ks.length) W (hW:Below w.heap.size w W)=>show Calls Tryz.prog 121 #[(ks[j]'hjl).val] W (fun e w'=>e=.returned (.bool (mP (ks[j]'hjl).tr))∧Below W.heap.size W w') from HC.out j hj W hW);clear HO hh hw IH IHz hx cw hv iI hz hpa HC hks;obtain ⟨yz0,yz1,yz2,yz3,yz4⟩:=aj Fz.out;go_enter Tryz.func85,Tryz.ntmps85
 go_wp2_with fail;refine (C0.out _ HB0.out).mono ?_;rintro e w1 ⟨rfl,hb1⟩;have HB1:=bc HB0 hb1;have HR1:=hid ((hb1.block _ (by rw [wSz];omega)).trans HR0.out);have hs1:=hb1.size;simp only [wSz] at hs1;clear hb1 C0 HB0 HR0;obtain ⟨z0,z1,z2,z3,z4⟩:=r5 HR1.out;obtain ⟨yz0,yz1,yz2,yz3,yz4⟩:=aj (Fz.out.keep (HB1.out.block kb bk));have hkl1:kb<w1.heap.size:=by omega
 cases b0 with
 | false =>
   go_wp2_with fail;go_ret;exact ⟨rfl,HB1.out⟩
 | true =>
 go_wp2_with fail;clear z0 z1 z2 z3 z4 yz0 yz1 yz2 yz3 yz4;refine (C1.out _ HB1.out).mono ?_;rintro e w2 ⟨rfl,hb2⟩;have HB2:=bc HB1 hb2;have HR2:=hid ((hb2.block _ (by omega)).trans HR1.out);have hs2:=hb2.size;clear hb2 C1 HB1 HR1;obtain ⟨z0,z1,z2,z3,z4⟩:=r5 HR2.out;cases b1 with
 | false =>
   go_wp2_with fail;go_ret;exact ⟨by simp,HB2.out⟩
 | true =>
 go_wp2_with fail;clear z0 z1 z2 z3 z4;go_loopw [131] (fun i wr=>∃ j:Nat,j≤n∧i=.int .i64 j∧Below w.heap.size w wr∧Hid ((ks.take j).all (fun x=>mP x.tr)=true)) (fun i _=>n - (intOf i).toNat)
 case atStart=>exact ⟨0,by omega,rfl,HB2.out,hid rfl⟩
 case round =>
  obtain ⟨j,hj,rfl,hbw,HA⟩:=hrel;have hsz:=hbw.size;by_cases aL:j<n
  ·have hd:decide (j<n)=true:=decide_eq_true aL;obtain ⟨la',lc',hv,-,-,hx⟩:=(HS.out _ hbw).nodes;obtain ⟨lb,lo,ve,hlb,cw⟩:=hx j (by omega);obtain ⟨⟨rfl,rfl⟩,rfl⟩:(kb=lb∧ko=lo)∧m=lc':=by rw [ve] at hv;simpa [HKS.out] using hv
   have hfc:=cw j (by omega);have HCj:=hid (fun o=>HC'.out j aL (by omega) _ (zdy hbw (ag wr o)));have HN:=hid (show (ks.take (j+1)).all (fun x=>mP x.tr)=((ks.take j).all (fun x=>mP x.tr) && mP ks[j].tr) by rw [List.take_succ_eq_append_getElem (by omega),List.all_append];simp);have HF:=hid (fun hp:mP ks[j].tr=false=>(show b2=false by
    rw [← HPA.out];cases e:(ks.take n).all (fun x=>mP x.tr) with
    | false=>rfl
    | true =>
      have hm:ks[j] ∈ ks.take n:=List.mem_take_iff_getElem.2 ⟨j,by omega,rfl⟩;rw [List.all_eq_true.1 e ks[j] hm] at hp;cases hp))
   generalize ks[j]=x at *;cases x with
   | mk k tk lk ck kk ak mk =>
   change Hid (∀ o,Calls _ _ #[aB k tk lk ck (.slice ak kk.length mk)] _ _) at HCj;generalize mP (NM.mk k tk lk ck kk ak mk).tr=pb at *;obtain ⟨c0,c1,c2,c3,c4⟩:=aj hfc;clear cw hx hv ve;go_wp2_with fail;refine (HCj.out _).mono ?_;rintro e w3 ⟨rfl,hb3⟩;have HB3:=hid (zdy hbw (zdy (ag wr _) hb3));clear hb3;cases pb with
   | false =>
     go_wp2_with fail;go_ret;exact ⟨by rw [HF.out (by simp)];rfl,HB3.out⟩
   | true =>
     go_wp2_with fail
     go_round
     case rel=>exact ⟨j+1,by omega,by go_num,HB3.out,hid (by rw [HN.out,HA.out];rfl)⟩
     case measure=>simp [intOf];omega
  ·obtain rfl:j=n:=by omega
   have hd:decide (j<j)=false:=decide_eq_false (by omega);have HT:=hid (HPA.out.symm.trans HA.out);go_wp2_with fail;go_ret;exact ⟨by rw [HT.out];rfl,hbw⟩
theorem nK (s:List UInt8) (hs:s.length≤1000000000000) (q:List UInt8) (hq:dR s=q) (w:World) :
  Calls Tryz.prog 123 #[.string (bs s)] w fun e w'=>e=.returned (.string (bs q))∧w=w':=by
 have HQ:=hid hq;clear hq;go_enter Tryz.func123,Tryz.ntmps123
 go_wp2_with fail
 go_loop [3,4] (fun o i=>∃ (k:Nat) (out:List UInt8),k≤s.length∧out.length≤2 * k+1∧i=.int .i64 k∧o=.string (bs out)∧Hid (QAt s k out)) (fun _ i=>s.length - (intOf i).toNat)
 case atStart=>exact ⟨0,[34],by omega,by simp,rfl,rfl,hid ⟨rfl,rfl⟩⟩
 case round =>
  obtain ⟨k,out,hk,hol,rfl,rfl,HA⟩:=hrel;by_cases aL:k<s.length
  ·have HS:Hid ((s.drop k).take 1=[s[k]]):=hid (by rw [eo s k aL];rfl);by_cases c1:s[k].toNat=10
   ·have q1:((s[k].toNat:Int) == 10)=true:=eqT (by omega);have HN:Hid (QAt s (k+1) (out++[92,110])):=hid (HA.out.step aL (vz c1) (vC c1));clear c1;go_wp2_with fail
    go_round
    case rel=>exact ⟨k+1,out++[92,110],by omega,by simp;omega,by go_num,rfl,HN⟩
    case measure=>simp [intOf];omega
   ·have q1:((s[k].toNat:Int) == 10)=false:=eqF (by omega);by_cases c2:s[k].toNat<32∨s[k].toNat=127
    ·have HE:Hid (q=[]):=hid (by rw [← HQ.out,ms aL (qV c1 c2)]);by_cases c3:s[k].toNat<32
     ·have c3':(s[k].toNat:Int)<32:=by omega
      clear c1 c2 c3;go_wp2_with fail;go_ret;exact ⟨by rw [HE.out];rfl,rfl⟩
     ·have c3':¬ (s[k].toNat:Int)<32:=by omega
      have q2:((s[k].toNat:Int) == 127)=true:=eqT (by omega);clear c1 c2 c3;go_wp2_with fail;go_ret;exact ⟨by rw [HE.out];rfl,rfl⟩
    ·have c3':¬ (s[k].toNat:Int)<32:=by omega
     have q2:((s[k].toNat:Int) == 127)=false:=eqF (by omega);by_cases c4:s[k].toNat=34∨s[k].toNat=92
     ·have HN:Hid (QAt s (k+1) (out++[92,s[k]])):=hid (HA.out.step aL (ro c2) (qS c1 c4));by_cases c5:s[k].toNat=34
      ·have q3:((s[k].toNat:Int) == 34)=true:=eqT (by omega);clear c1 c2 c4 c5;go_wp2_with fail
       go_round
       case rel=>exact ⟨k+1,out++[92,s[k]],by omega,by simp;omega,by go_num,by rw [HS.out],HN⟩
       case measure=>simp [intOf];omega
      ·have q3:((s[k].toNat:Int) == 34)=false:=eqF (by omega);have q4:((s[k].toNat:Int) == 92)=true:=eqT (by omega);clear c1 c2 c4 c5;go_wp2_with fail
       go_round
       case rel=>exact ⟨k+1,out++[92,s[k]],by omega,by simp;omega,by go_num,by rw [HS.out],HN⟩
       case measure=>simp [intOf];omega
     ·have HN:Hid (QAt s (k+1) (out++[s[k]])):=hid (HA.out.step aL (ro c2) (vE c1 c4));have q3:((s[k].toNat:Int) == 34)=false:=eqF (by omega);have q4:((s[k].toNat:Int) == 92)=false:=eqF (by omega);clear c1 c2 c4;go_wp2_with fail
      go_round
      case rel=>exact ⟨k+1,out++[s[k]],by omega,by simp;omega,by go_num,by rw [HS.out],HN⟩
      case measure=>simp [intOf];omega
  ·obtain rfl:k=s.length:=by omega
   have HE:Hid (out++[34]=q):=hid (by rw [← HQ.out,HA.out.end]);go_wp2_with fail;go_ret;exact ⟨by rw [← HE.out];rfl,rfl⟩
theorem zdk (t:List UInt8) (l c:Int) (ks:List NM) (a:Option Addr) (m:Nat) (w:World) (_hw:bB w) (_hh:am aR w (.mk 9 t l c ks a m)) (ht:(t:List UInt8).length≤1000000) (hn:ks=[]) :
  Calls Tryz.prog 86 #[aB 9 t l c (.slice a ks.length m)] w fun e w'=>e=.returned (.bool (mE (NM.mk 9 t l c ks a m).tr))∧Below w.heap.size w w':=by
 have bC:=nb;have HO:=hid (show mE (NM.mk 9 t l c ks a m).tr=aM t by
  rw [aq,zq,hn,ar];simp
 )
 rw [HO.out];clear HO;have C0:=hid (fun W (hW:Below w.heap.size w W)=>cV t (by omega) W);generalize aM t=b0 at *;clear _hh _hw;have hn1:((ks.length:Int) == 0)=true:=eqT (by rw [hn];rfl);clear hn;have HB0:=hid (ag w (.cells #[.int .i64 9,.string (bs t),.int .i64 l,.int .i64 c,.slice a ks.length m] 27));go_enter Tryz.func86,Tryz.ntmps86
 go_wp2_with fail;refine (C0.out _ HB0.out).mono ?_;rintro e w1 ⟨rfl,hb1⟩;have HB1:=bc HB0 hb1;have HR1:=rk0 hb1;have hs1:=hb1.size
 try simp only [wSz] at hs1
 clear hb1 C0;obtain ⟨z0,z1,z2,z3,z4⟩:=r5 HR1.out;cases b0 with
 | false =>
   go_wp2_with fail;clear z0 z1 z2 z3 z4;go_ret;exact ⟨rfl,HB1.out⟩
 | true =>
   go_wp2_with fail;clear z0 z1 z2 z3 z4;go_ret;exact ⟨rfl,HB1.out⟩
theorem zcP (t:List UInt8) (l c:Int) (ks:List NM) (a:Option Addr) (m:Nat) (w:World) (_hw:bB w) (hh:am aR w (.mk 9 t l c ks a m)) (ht:(t:List UInt8).length≤1000000) (hn:ks≠[]) :
  Calls Tryz.prog 86 #[aB 9 t l c (.slice a ks.length m)] w fun e w'=>e=.returned (.bool (mE (NM.mk 9 t l c ks a m).tr))∧Below w.heap.size w w':=by
 have bC:=nb;have HO:=hid (show mE (NM.mk 9 t l c ks a m).tr=(aM t && false) by
  rw [aq,zq]
  match ks,hn with
  | [],h=>exact absurd rfl h
  | _::_,_=>rw [ai];simp
 )
 rw [HO.out];clear HO;have C0:=hid (fun W (hW:Below w.heap.size w W)=>cV t (by omega) W);generalize aM t=b0 at *;clear hh _hw;have hn1:((ks.length:Int) == 0)=false:=eqF (by have:=List.length_pos_iff.2 hn;omega);clear hn;have HB0:=hid (ag w (.cells #[.int .i64 9,.string (bs t),.int .i64 l,.int .i64 c,.slice a ks.length m] 27));go_enter Tryz.func86,Tryz.ntmps86
 go_wp2_with fail;refine (C0.out _ HB0.out).mono ?_;rintro e w1 ⟨rfl,hb1⟩;have HB1:=bc HB0 hb1;have HR1:=rk0 hb1;have hs1:=hb1.size
 try simp only [wSz] at hs1
 clear hb1 C0;obtain ⟨z0,z1,z2,z3,z4⟩:=r5 HR1.out;cases b0 with
 | false =>
   go_wp2_with fail;clear z0 z1 z2 z3 z4;go_ret;exact ⟨rfl,HB1.out⟩
 | true =>
   go_wp2_with fail;clear z0 z1 z2 z3 z4;go_ret;exact ⟨rfl,HB1.out⟩
theorem zcy (t:List UInt8) (l c:Int) (ks:List NM) (a:Option Addr) (m:Nat) (w:World) (_hw:bB w) (_hh:am aR w (.mk 10 t l c ks a m)) (ht:(t:List UInt8).length≤1000000) (hn:ks=[]) :
  Calls Tryz.prog 86 #[aB 10 t l c (.slice a ks.length m)] w fun e w'=>e=.returned (.bool (mE (NM.mk 10 t l c ks a m).tr))∧Below w.heap.size w w':=by
 have bC:=nb;have HO:=hid (show mE (NM.mk 10 t l c ks a m).tr=fg 2 t by
  rw [aq,vq,hn,ar];simp
 )
 rw [HO.out];clear HO;have C0:=hid (fun W (hW:Below w.heap.size w W)=>m5 t (by omega) W);generalize fg 2 t=b0 at *;clear _hh _hw;have hn1:((ks.length:Int) == 0)=true:=eqT (by rw [hn];rfl);clear hn;have HB0:=hid (ag w (.cells #[.int .i64 10,.string (bs t),.int .i64 l,.int .i64 c,.slice a ks.length m] 27));go_enter Tryz.func86,Tryz.ntmps86
 go_wp2_with fail;refine (C0.out _ HB0.out).mono ?_;rintro e w1 ⟨rfl,hb1⟩;have HB1:=bc HB0 hb1;have HR1:=rk0 hb1;have hs1:=hb1.size
 try simp only [wSz] at hs1
 clear hb1 C0;obtain ⟨z0,z1,z2,z3,z4⟩:=r5 HR1.out;cases b0 with
 | false =>
   go_wp2_with fail;clear z0 z1 z2 z3 z4;go_ret;exact ⟨rfl,HB1.out⟩
 | true =>
   go_wp2_with fail;clear z0 z1 z2 z3 z4;go_ret;exact ⟨rfl,HB1.out⟩
theorem zca (t:List UInt8) (l c:Int) (ks:List NM) (a:Option Addr) (m:Nat) (w:World) (_hw:bB w) (hh:am aR w (.mk 10 t l c ks a m)) (ht:(t:List UInt8).length≤1000000) (hn:ks≠[]) :
  Calls Tryz.prog 86 #[aB 10 t l c (.slice a ks.length m)] w fun e w'=>e=.returned (.bool (mE (NM.mk 10 t l c ks a m).tr))∧Below w.heap.size w w':=by
 have bC:=nb;have HO:=hid (show mE (NM.mk 10 t l c ks a m).tr=(fg 2 t && false) by
  rw [aq,vq]
  match ks,hn with
  | [],h=>exact absurd rfl h
  | _::_,_=>rw [ai];simp
 )
 rw [HO.out];clear HO;have C0:=hid (fun W (hW:Below w.heap.size w W)=>m5 t (by omega) W);generalize fg 2 t=b0 at *;clear hh _hw;have hn1:((ks.length:Int) == 0)=false:=eqF (by have:=List.length_pos_iff.2 hn;omega);clear hn;have HB0:=hid (ag w (.cells #[.int .i64 10,.string (bs t),.int .i64 l,.int .i64 c,.slice a ks.length m] 27));go_enter Tryz.func86,Tryz.ntmps86
 go_wp2_with fail;refine (C0.out _ HB0.out).mono ?_;rintro e w1 ⟨rfl,hb1⟩;have HB1:=bc HB0 hb1;have HR1:=rk0 hb1;have hs1:=hb1.size
 try simp only [wSz] at hs1
 clear hb1 C0;obtain ⟨z0,z1,z2,z3,z4⟩:=r5 HR1.out;cases b0 with
 | false =>
   go_wp2_with fail;clear z0 z1 z2 z3 z4;go_ret;exact ⟨rfl,HB1.out⟩
 | true =>
   go_wp2_with fail;clear z0 z1 z2 z3 z4;go_ret;exact ⟨rfl,HB1.out⟩
theorem zcX (t:List UInt8) (l c:Int) (ks:List NM) (a:Option Addr) (m:Nat) (w:World) (_hw:bB w) (_hh:am aR w (.mk 11 t l c ks a m)) (ht:t.length≤1000000) (hk:ks.length≤1000000) :
  Calls Tryz.prog 86 #[aB 11 t l c (.slice a ks.length m)] w fun e w'=>e=.returned (.bool (mE (NM.mk 11 t l c ks a m).tr))∧Below w.heap.size w w':=by
 rw [aq,zk];obtain ⟨qt,hqt⟩:∃ qt,dR t=qt:=⟨_,rfl⟩;have HC:=hid (fun W=>nK t (by omega) qt hqt W);have HR0:=hid (hAn w (.cells #[.int .i64 11,.string (bs t),.int .i64 l,.int .i64 c,.slice a ks.length m] 27));clear _hw _hh;have HO:Hid (((NM.trs ks).isEmpty && !(t.any ft))=(!qt.isEmpty && decide (ks.length=0))):=hid (by
  rw [← hqt];unfold dR;cases ks with
  | nil=>rw [ar];cases t.any ft <;> rfl
  | cons x r=>rw [ai];cases t.any ft <;> rfl)
 rw [HO.out];clear HO hqt;obtain ⟨b1,hb1⟩:∃ b1,decide (ks.length=0)=b1:=⟨_,rfl⟩;have q:((ks.length:Int) == 0)=b1:=by rw [← hb1,Bool.eq_iff_iff];simp
 rw [hb1];clear hb1;cases qt with
 | nil =>
   go_enter Tryz.func86,Tryz.ntmps86
   go_wp2_with fail;refine (HC.out _).mono ?_;rintro e w1 ⟨rfl,rfl⟩;go_wp2_with fail;go_ret;exact ⟨rfl,ag w _⟩
 | cons qc qr =>
   have q2:((qc::qr) == ([]:List UInt8))=false:=rfl;go_enter Tryz.func86,Tryz.ntmps86
   go_wp2_with fail;refine (HC.out _).mono ?_;rintro e w1 ⟨rfl,rfl⟩;go_wp2_with fail;go_ret;exact ⟨rfl,ag w _⟩
theorem zda (t:List UInt8) (l c:Int) (ks:List NM) (a:Option Addr) (m:Nat) (w:World) (hw:bB w) (hh:am aR w (.mk 12 t l c ks a m)) (ht:t.length≤1000000) (hk:ks.length≤1000000) (IH:∀ j (hj:j<ks.length),dO 86 mE ks[j]):
  Calls Tryz.prog 86 #[aB 12 t l c (.slice a ks.length m)] w fun e w'=>e=.returned (.bool (mE (NM.mk 12 t l c ks a m).tr))∧Below w.heap.size w w':=by
 rw [aq,uK,eO];have H0:=ag w (.cells #[.int .i64 12,.string (bs t),.int .i64 l,.int .i64 c,.slice a ks.length m] 27);have HC:=hid (ui (fun x=>mE x.tr) _ ks _ (hh.kidsAt.below H0) (by omega) (fun j hj W hW=>IH j hj W ((hw.below H0).below hW) ((hh.kidsAt.below H0).get j hj |>.below hW)));clear hw hh IH H0;cases t with
 | cons tc tr =>
   have q:((tc::tr) == ([]:List UInt8))=false:=rfl;clear HC;go_enter Tryz.func86,Tryz.ntmps86
   go_wp2_with fail;go_ret;exact ⟨rfl,ag w _⟩
 | nil =>
   have HO:Hid ((([]:List UInt8).isEmpty && ks.all (fun x=>mE x.tr))=ks.all (fun x=>mE x.tr)):=hid rfl;rw [HO.out];clear HO;generalize ks.all (fun x=>mE x.tr)=b at *;go_enter Tryz.func86,Tryz.ntmps86
   go_wp2_with fail;refine HC.out.mono ?_;rintro e w1 ⟨rfl,hb1⟩;go_wp2_with fail;go_ret;exact ⟨rfl,zdy (ag w _) hb1⟩
theorem zcL (t:List UInt8) (l c:Int) (ks:List NM) (a:Option Addr) (m:Nat) (w:World) (hw:bB w) (hh:am aR w (.mk 14 t l c ks a m)) (ht:(t:List UInt8).length≤1000000) (hk:ks.length≤1000000) (IH:∀ j (hj:j<ks.length),dO 87 mA ks[j]) :
  Calls Tryz.prog 86 #[aB 14 t l c (.slice a ks.length m)] w fun e w'=>e=.returned (.bool (mE (NM.mk 14 t l c ks a m).tr))∧Below w.heap.size w w':=by
 have bC:=nb;have HO:=hid (show mE (NM.mk 14 t l c ks a m).tr=(aM t && ks.all (fun x=>mA x.tr)) by
  rw [aq,vh,eO]
 )
 rw [HO.out];clear HO;have C0:=hid (fun W (hW:Below w.heap.size w W)=>cV t (by omega) W);have C1:=hid (fun W (hW:Below w.heap.size w W)=>zbF (fun x=>mA x.tr) _ ks W (hh.kidsAt.below hW) (by omega) (fun j hj W2 hW2=>IH j hj W2 ((hw.below hW).below hW2) ((hh.kidsAt.below hW).get j hj |>.below hW2)));generalize aM t=b0 at *;generalize ks.all (fun x=>mA x.tr)=b1 at *;clear hh hw IH;have HB0:=hid (ag w (.cells #[.int .i64 14,.string (bs t),.int .i64 l,.int .i64 c,.slice a ks.length m] 27));go_enter Tryz.func86,Tryz.ntmps86
 go_wp2_with fail;refine (C0.out _ HB0.out).mono ?_;rintro e w1 ⟨rfl,hb1⟩;have HB1:=bc HB0 hb1;have HR1:=rk0 hb1;have hs1:=hb1.size
 try simp only [wSz] at hs1
 clear hb1 C0;obtain ⟨z0,z1,z2,z3,z4⟩:=r5 HR1.out;cases b0 with
 | false =>
   go_wp2_with fail;clear z0 z1 z2 z3 z4;go_ret;exact ⟨rfl,HB1.out⟩
 | true =>
   go_wp2_with fail;clear z0 z1 z2 z3 z4;refine (C1.out _ HB1.out).mono ?_;rintro e w2 ⟨rfl,hb2⟩;have HB2:=bc HB1 hb2;have HR2:=rk HR1 hb2;have hs2:=hb2.size
   try simp only [wSz] at hs2
   clear hb2 C1;obtain ⟨z0,z1,z2,z3,z4⟩:=r5 HR2.out;go_wp2_with fail;clear z0 z1 z2 z3 z4;go_ret;exact ⟨rfl,HB2.out⟩
theorem zcO (k:Int) (t:List UInt8) (l c:Int) (ks:List NM) (a:Option Addr) (m:Nat) (w:World) (_hw:bB w) (_hh:am aR w (.mk k t l c ks a m)) (_ht:(t:List UInt8).length≤1000000) (h:isE k=false) :
  Calls Tryz.prog 86 #[aB k t l c (.slice a ks.length m)] w fun e w'=>e=.returned (.bool (mE (NM.mk k t l c ks a m).tr))∧Below w.heap.size w w':=by
 have bC:=nb;have HO:=hid (show mE (NM.mk k t l c ks a m).tr=false by
  rw [aq,zbA _ _ h]
 )
 rw [HO.out];clear HO;clear _hh _hw;unfold isE at h;simp only [Bool.or_eq_false_iff] at h;obtain ⟨⟨⟨⟨⟨⟨h9,h10⟩,h11⟩,h12⟩,h13⟩,h14⟩,h16⟩:=h;have HB0:=hid (ag w (.cells #[.int .i64 k,.string (bs t),.int .i64 l,.int .i64 c,.slice a ks.length m] 27));go_enter Tryz.func86,Tryz.ntmps86
 go_wp2_with fail;go_ret;exact ⟨rfl,HB0.out⟩
theorem zbY (t:List UInt8) (l c:Int) (kx:Int) (tx:List UInt8) (lx cx:Int) (ksx:List NM) (ax:Option Addr) (mx:Nat) (a:Option Addr) (m:Nat) (w:World) (hw:bB w) (hh:am aR w (.mk 16 t l c [(NM.mk kx tx lx cx ksx ax mx)] a m)) (_ht:(t:List UInt8).length≤1000000) (htn:t=cj) (IHx:dO 86 mE (NM.mk kx tx lx cx ksx ax mx)) :
  Calls Tryz.prog 86 #[aB 16 t l c (.slice a 1 m)] w fun e w'=>e=.returned (.bool (mE (NM.mk 16 t l c [(NM.mk kx tx lx cx ksx ax mx)] a m).tr))∧Below w.heap.size w w':=by
 have bC:=nb;obtain ⟨kb,ko,rfl,bk,hm1,hlm,Fx,ggx⟩:=fp hh;have HO:=hid (show mE (NM.mk 16 t l c [(NM.mk kx tx lx cx ksx ax mx)] (some ⟨kb,ko,none⟩) m).tr=mE (NM.mk kx tx lx cx ksx ax mx).tr by
  rw [aq,kE,ai,ar,if_pos htn,htn];simp
 )
 rw [HO.out];clear HO;have C0:=IHx.c hw ggx;generalize mE (NM.mk kx tx lx cx ksx ax mx).tr=b0 at *;clear hh hw IHx ggx;have qn:(t == [110,111,116])=true:=by rw [htn];rfl
 clear htn;obtain ⟨yx0,yx1,yx2,yx3,yx4⟩:=aj Fx.out;have HB0:=hid (ag w (.cells #[.int .i64 16,.string (bs t),.int .i64 l,.int .i64 c,.slice (some ⟨kb,ko,none⟩) 1 m] 27));go_enter Tryz.func86,Tryz.ntmps86
 go_wp2_with fail;refine (C0.out _ HB0.out).mono ?_;rintro e w1 ⟨rfl,hb1⟩;have HB1:=bc HB0 hb1;have HR1:=rk0 hb1;have hs1:=hb1.size
 try simp only [wSz] at hs1
 clear hb1 C0;obtain ⟨z0,z1,z2,z3,z4⟩:=r5 HR1.out;obtain ⟨yx0,yx1,yx2,yx3,yx4⟩:=aj (Fx.out.keep (HB1.out.block kb bk));have hkl1:kb<w1.heap.size:=by omega
 go_wp2_with fail;clear z0 z1 z2 z3 z4 yx0 yx1 yx2 yx3 yx4;go_ret;exact ⟨rfl,HB1.out⟩
theorem zZ (t:List UInt8) (l c:Int) (ks:List NM) (a:Option Addr) (m:Nat) (w:World) (_hw:bB w) (_hh:am aR w (.mk 16 t l c ks a m)) (_ht:(t:List UInt8).length≤1000000) (htn:t=cj) (hn:ks.length≠1) :
  Calls Tryz.prog 86 #[aB 16 t l c (.slice a ks.length m)] w fun e w'=>e=.returned (.bool (mE (NM.mk 16 t l c ks a m).tr))∧Below w.heap.size w w':=by
 have bC:=nb;have HO:=hid (show mE (NM.mk 16 t l c ks a m).tr=false by
  rw [aq,kE,cK,if_pos htn,decide_eq_false hn];rfl
 )
 rw [HO.out];clear HO;clear _hh _hw;have qn:(t == [110,111,116])=true:=by rw [htn];rfl
 have hn1:((ks.length:Int) == 1)=false:=eqF (by omega);clear htn;have HB0:=hid (ag w (.cells #[.int .i64 16,.string (bs t),.int .i64 l,.int .i64 c,.slice a ks.length m] 27));go_enter Tryz.func86,Tryz.ntmps86
 go_wp2_with fail;go_ret;exact ⟨rfl,HB0.out⟩
theorem zbB (t:List UInt8) (l c:Int) (ks:List NM) (a:Option Addr) (m:Nat) (w:World) (hw:bB w) (hh:am aR w (.mk 16 t l c ks a m)) (_ht:t.length≤1000000) (_hk:ks.length≤1000000) (htn:t≠cj) (hn:ks.length=2) (IH:∀ j (hj:j<ks.length),dO 86 mE ks[j]) :
  Calls Tryz.prog 86 #[aB 16 t l c (.slice a ks.length m)] w fun e w'=>e=.returned (.bool (mE (NM.mk 16 t l c ks a m).tr))∧Below w.heap.size w w':=by
 have HO:=hid (show mE (NM.mk 16 t l c ks a m).tr=((t == [61,61] || t == [33,61] || t == [105,110] || t == [43]) && ks.all (fun x=>mE x.tr)) by
  have hb:(t == cj)=false:=by simpa using htn
  rw [aq,kE,cK,if_neg htn,eO,hb];unfold opB;simp [hn,wIn])
 have qn:(t == [110,111,116])=false:=by simpa [cj] using htn
 have qk:((ks.length:Int) == 2)=true:=eqT (by omega);have HB0:=hid (ag w (.cells #[.int .i64 16,.string (bs t),.int .i64 l,.int .i64 c,.slice a ks.length m] 27));have HA:=hid (fun W (hW:Below w.heap.size w W)=>ui (fun x=>mE x.tr) _ ks W (hh.kidsAt.below hW) (by omega) (fun j hj W2 hW2=>IH j hj W2 ((hw.below hW).below hW2) ((hh.kidsAt.below hW).get j hj |>.below hW2)));rw [HO.out];clear HO hh hw htn hn IH;generalize ks.all (fun x=>mE x.tr)=b at *;cases q1:(t == [61,61]) <;> cases q2:(t == [33,61]) <;> cases q3:(t == [105,110]) <;> cases q4:(t == [43]) <;> (
  go_enter Tryz.func86,Tryz.ntmps86
  go_wp2_with fail
  first
  | (refine (HA.out _ HB0.out).mono ?_
     rintro e w1 ⟨rfl,hb1⟩;go_wp2_with fail;go_ret;exact ⟨rfl,zdy HB0.out hb1⟩)
  | (go_ret
     exact ⟨rfl,HB0.out⟩))
theorem zaV (t:List UInt8) (l c:Int) (ks:List NM) (a:Option Addr) (m:Nat) (w:World) (_hw:bB w) (_hh:am aR w (.mk 16 t l c ks a m)) (_ht:t.length≤1000000) (_hk:ks.length≤1000000) (htn:t≠cj) (hn:ks.length≠2) :
  Calls Tryz.prog 86 #[aB 16 t l c (.slice a ks.length m)] w fun e w'=>e=.returned (.bool (mE (NM.mk 16 t l c ks a m).tr))∧Below w.heap.size w w':=by
 have HO:=hid (show mE (NM.mk 16 t l c ks a m).tr=(false) by
  have hb:(t == cj)=false:=by simpa using htn
  rw [aq,kE,cK,if_neg htn,eO,hb];unfold opB;simp [hn,wIn])
 have qn:(t == [110,111,116])=false:=by simpa [cj] using htn
 have qk:((ks.length:Int) == 2)=false:=eqF (by omega);have HB0:=hid (ag w (.cells #[.int .i64 16,.string (bs t),.int .i64 l,.int .i64 c,.slice a ks.length m] 27));rw [HO.out];clear HO _hh _hw htn hn;cases q1:(t == [61,61]) <;> cases q2:(t == [33,61]) <;> cases q3:(t == [105,110]) <;> cases q4:(t == [43]) <;> (
  go_enter Tryz.func86,Tryz.ntmps86
  go_wp2_with fail;go_ret;exact ⟨rfl,HB0.out⟩)
def eh (i:Nat):List Tr→Bool
 | []=>true
 | x::r=>(i % 2 != 0 || x.kd == 11) && eh (i+1) r
theorem l9:∀ (l:List Tr) (i:Nat),i % 2=0→kG l=(eh i l && (decide (l.length % 2=0) && l.all mE))
 | [],_,_=>rfl
 | [x],i,h=>by
   show false=(_ && (decide (1 % 2=0) && _));simp
 | a::b::r,i,h=>by
   have ih:=l9 r (i+1+1) (by omega);have h0:(i % 2 != 0)=false:=by rw [h];rfl
   have h1:((i+1) % 2 != 0)=true:=by have:(i+1) % 2=1:=by omega
                                     rw [this];rfl
   have h2:decide ((a::b::r).length % 2=0)=decide (r.length % 2=0):=by
    rw [decide_eq_decide];simp only [lCo];omega
   show (a.kd == 11 && mE a && mE b && kG r)=_;rw [ih,h2];show _=(((i % 2 != 0 || a.kd == 11) && (((i+1) % 2 != 0 || b.kd == 11) && eh (i+1+1) r)) && (_ && (mE a && (mE b && r.all mE))));rw [h0,h1];cases a.kd == 11 <;> cases mE a <;> cases mE b <;> cases decide (r.length % 2=0) <;> cases eh (i+1+1) r <;> simp
theorem zc0 (t:List UInt8) (l c:Int) (ks:List NM) (a:Option Addr) (m:Nat) (w:World) (hw:bB w) (hh:am aR w (.mk 13 t l c ks a m)) (ht:t.length≤1000000) (hk:ks.length≤1000000) (IH:∀ j (hj:j<ks.length),dO 86 mE ks[j]) :
  Calls Tryz.prog 86 #[aB 13 t l c (.slice a ks.length m)] w fun e w'=>e=.returned (.bool (mE (NM.mk 13 t l c ks a m).tr))∧Below w.heap.size w w':=by
 have bC:=nb;have HD:=hid (show mE (NM.mk 13 t l c ks a m).tr=(t.isEmpty && (eh 0 (NM.trs ks) && (decide (ks.length % 2=0) && ks.all (fun x=>mE x.tr)))) by rw [aq,uP,l9 _ 0 rfl,cK,eO]);have HS:=hid (fun W (hW:Below w.heap.size w W)=>hh.kidsAt.below hW);have HA:=hid (fun W (hW:Below w.heap.size w W)=>ui (fun x=>mE x.tr) _ ks W (hh.kidsAt.below hW) (by omega) (fun j hj W2 hW2=>IH j hj W2 ((hw.below hW).below hW2) ((hh.kidsAt.below hW).get j hj |>.below hW2)));generalize ks.all (fun x=>mE x.tr)=ab at *;obtain ⟨la,lc,hv,iI,hlm,-⟩:=hh.kidsAt.nodes;obtain ⟨rfl,rfl⟩:a=la∧m=lc:=by simpa using hv
 unfold maxLen at hlm;have HR0:=hid (hAn w (.cells #[.int .i64 13,.string (bs t),.int .i64 l,.int .i64 c,.slice a ks.length m] 27));clear hh hw IH hv;go_enter Tryz.func86,Tryz.ntmps86
 go_wp2_with fail;go_loopw [54] (fun i wr=>∃ j:Nat,j≤ks.length∧i=.int .i64 j∧Below w.heap.size w wr∧wr.heap[w.heap.size]? = some (.cells #[.int .i64 13,.string (bs t),.int .i64 l,.int .i64 c,.slice a ks.length m] 27 (0,0))∧Hid (eh 0 (NM.trs ks)=eh j ((NM.trs ks).drop j))) (fun i _=>ks.length - (intOf i).toNat)
 case atStart=>exact ⟨0,by omega,rfl,ag w _,HR0.out,hid rfl⟩
 case round =>
  clear HR0;obtain ⟨j,hj,rfl,hbw,hr,HG⟩:=hrel;have HR:=hid hr;have hlt1:w.heap.size<wr.heap.size:=(aGe.1 hr).1;have HB:=hid hbw;by_cases aL:j<ks.length
  ·have hd:decide (j<ks.length)=true:=decide_eq_true aL;obtain ⟨la',lc',hv,-,-,hx⟩:=(HS.out _ hbw).nodes;obtain ⟨lb,lo,rfl,hlb,cw⟩:=hx j aL;obtain ⟨rfl,rfl⟩:a=some ⟨lb,lo,none⟩∧m=lc':=by simpa using hv
   have hfc:=cw j aL;have HN:=hid (show eh 0 (NM.trs ks)=((j % 2 != 0 || ks[j].tr.kd == 11) && eh (j+1) ((NM.trs ks).drop (j+1))) by
    rw [HG.out,List.drop_eq_getElem_cons (by rw [cK];exact aL)];have e:(NM.trs ks)[j]'(by rw [cK];exact aL)=ks[j].tr:=by simp only [bR,List.getElem_map]
    rw [e];rfl)
   clear HG;generalize ks[j]=x at *;cases x with
   | mk kx tx lx cx kk ax mx =>
   rw [aq,bX] at HN;obtain ⟨c0,c1,c2,c3,c4⟩:=aj hfc;clear cw hx hv hr hbw;have HB1:=hid (fun o=>zdy HB.out (ag wr o));have HR1:=hid (fun o=>bz HR.out o);by_cases hpar:j % 2=0
   ·have qp:((j:Int) % 2 == 0)=true:=eqT (by omega);cases q11:(kx == 11) with
    | true =>
      have q11':(kx != 11)=false:=by simpa using q11
      have HT:=hid (show eh 0 (NM.trs ks)=eh (j+1) ((NM.trs ks).drop (j+1)) by rw [HN.out,q11];simp);clear HN;go_wp2_with fail
      go_round
      case rel=>exact ⟨j+1,by omega,by go_num,HB1.out _,HR1.out _,HT⟩
      case measure=>simp [intOf];omega
    | false =>
      have q11':(kx != 11)=true:=by simpa using q11
      have HF:=hid (show eh 0 (NM.trs ks)=false by rw [HN.out,q11,hpar];simp);clear HN;go_wp2_with fail;go_ret;exact ⟨by rw [HD.out,HF.out];simp,HB1.out _⟩
   ·have qp:((j:Int) % 2 == 0)=false:=eqF (by omega);have HT:=hid (show eh 0 (NM.trs ks)=eh (j+1) ((NM.trs ks).drop (j+1)) by
     have h1:(j % 2 != 0)=true:=by simpa using hpar
     rw [HN.out,h1];simp)
    clear HN;go_wp2_with fail
    go_round
    case rel=>exact ⟨j+1,by omega,by go_num,HB1.out _,HR1.out _,HT⟩
    case measure=>simp [intOf];omega
  ·obtain rfl:j=ks.length:=by omega
   have hd:decide (ks.length<ks.length)=false:=decide_eq_false (by omega);have HK:=hid (show eh 0 (NM.trs ks)=true by rw [HG.out,List.drop_eq_nil_of_le (by rw [cK];omega)];rfl);have HE:=hid (show mE (NM.mk 13 t l c ks _ m).tr=(t.isEmpty && (true && (decide (ks.length % 2=0) && ab))) by rw [HD.out,HK.out]);clear HD HK HG;obtain ⟨z0,z1,z2,z3,z4⟩:=r5 hr;have HAo:=hid (HA.out _ HB.out);clear HA hr hbw;cases t with
   | cons tc tr =>
     have q:((tc::tr) == ([]:List UInt8))=false:=rfl;go_wp2_with fail;go_ret;exact ⟨by rw [HE.out];rfl,HB.out⟩
   | nil =>
     by_cases he:ks.length % 2=0
     ·have qp:((ks.length:Int) % 2 == 0)=true:=eqT (by omega);have hdd:decide (ks.length % 2=0)=true:=decide_eq_true he;have HE2:=hid (HE.out.trans (congrArg (fun z=>(([]:List UInt8).isEmpty && (true && (z && ab)))) hdd));clear he hdd HE;go_wp2_with fail;refine HAo.out.mono ?_;rintro e w2 ⟨rfl,hb2⟩;go_wp2_with fail;go_ret;exact ⟨by rw [HE2.out];rfl,zdy HB.out hb2⟩
     ·have qp:((ks.length:Int) % 2 == 0)=false:=eqF (by omega);have hdd:decide (ks.length % 2=0)=false:=decide_eq_false he;have HE2:=hid (HE.out.trans (congrArg (fun z=>(([]:List UInt8).isEmpty && (true && (z && ab)))) hdd));clear he hdd HE;go_wp2_with fail;go_ret;exact ⟨by rw [HE2.out];rfl,HB.out⟩
def dT (i:Nat):List Tr→Bool
 | []=>true
 | x::r=>(mE x && (i % 2 != 0 || x.kd == 11)) && dT (i+1) r
theorem p8:∀ (l:List Tr) (i:Nat),i % 2=0→kG l=(decide (l.length % 2=0) && dT i l)
 | [],_,_=>rfl
 | [x],i,h=>rfl
 | a::b::r,i,h=>by
   have ih:=p8 r (i+1+1) (by omega);have h0:(i % 2 != 0)=false:=by rw [h];rfl
   have h1:((i+1) % 2 != 0)=true:=by have:(i+1) % 2=1:=by omega
                                     rw [this];rfl
   have h2:decide ((a::b::r).length % 2=0)=decide (r.length % 2=0):=by
    rw [decide_eq_decide];simp only [lCo];omega
   show (a.kd == 11 && mE a && mE b && kG r)=_;rw [ih,h2];show _=(_ && ((mE a && (i % 2 != 0 || a.kd == 11)) && ((mE b && ((i+1) % 2 != 0 || b.kd == 11)) && dT (i+1+1) r)));rw [h0,h1];cases a.kd == 11 <;> cases mE a <;> cases mE b <;> cases decide (r.length % 2=0) <;> simp
theorem zaf (t:List UInt8) (l c:Int) (ks:List NM) (a:Option Addr) (m:Nat) (w:World) (hw:bB w) (hh:am aR w (.mk 13 t l c ks a m)) (ht:t.length≤1000000) (hk:ks.length≤1000000) (IH:∀ j (hj:j<ks.length),dO 38 mE ks[j]) :
  Calls Tryz.prog 38 #[aB 13 t l c (.slice a ks.length m)] w fun e w'=>e=.returned (.bool (mE (NM.mk 13 t l c ks a m).tr))∧Below w.heap.size w w':=by
 have bC:=nb;have HD:=hid (show mE (NM.mk 13 t l c ks a m).tr=(t.isEmpty && (decide (ks.length % 2=0) && dT 0 (NM.trs ks))) by rw [aq,uP,p8 _ 0 rfl,cK]);have HS:=hid (fun W (hW:Below w.heap.size w W)=>hh.kidsAt.below hW);have HC:=hid (fun j (hj:j<ks.length) W (hW:Below w.heap.size w W)=>IH j hj W (hw.below hW) (hh.kidsAt.get j hj |>.below hW));obtain ⟨la,lc,hv,iI,hlm,-⟩:=hh.kidsAt.nodes;obtain ⟨rfl,rfl⟩:a=la∧m=lc:=by simpa using hv
 unfold maxLen at hlm;have HR0:=hid (hAn w (.cells #[.int .i64 13,.string (bs t),.int .i64 l,.int .i64 c,.slice a ks.length m] 27));clear hh hw IH hv;go_enter Tryz.func38,Tryz.ntmps38
 go_wp2_with fail;go_loopw [55] (fun i wr=>∃ j:Nat,j≤ks.length∧i=.int .i64 j∧Below w.heap.size w wr∧wr.heap[w.heap.size]? = some (.cells #[.int .i64 13,.string (bs t),.int .i64 l,.int .i64 c,.slice a ks.length m] 27 (0,0))∧Hid (dT 0 (NM.trs ks)=dT j ((NM.trs ks).drop j))) (fun i _=>ks.length - (intOf i).toNat)
 case atStart=>exact ⟨0,by omega,rfl,ag w _,HR0.out,hid rfl⟩
 case round =>
  clear HR0;obtain ⟨j,hj,rfl,hbw,hr,HG⟩:=hrel;have HR:=hid hr;have hlt1:w.heap.size<wr.heap.size:=(aGe.1 hr).1;have HB:=hid hbw;by_cases aL:j<ks.length
  ·have hd:decide (j<ks.length)=true:=decide_eq_true aL;obtain ⟨la',lc',hv,-,-,hx⟩:=(HS.out _ hbw).nodes;obtain ⟨lb,lo,rfl,hlb,cw⟩:=hx j aL;obtain ⟨rfl,rfl⟩:a=some ⟨lb,lo,none⟩∧m=lc':=by simpa using hv
   have hfc:=cw j aL;have HCj:=hid (fun o=>HC.out j aL _ (zdy hbw (ag wr o)));have HN:=hid (show dT 0 (NM.trs ks)=((mE ks[j].tr && (j % 2 != 0 || ks[j].tr.kd == 11)) && dT (j+1) ((NM.trs ks).drop (j+1))) by
    rw [HG.out,List.drop_eq_getElem_cons (by rw [cK];exact aL)];have e:(NM.trs ks)[j]'(by rw [cK];exact aL)=ks[j].tr:=by simp only [bR,List.getElem_map]
    rw [e];rfl)
   clear HG;generalize ks[j]=x at *;cases x with
   | mk kx tx lx cx kk ax mx =>
   rw [aq,bX,← aq kx tx lx cx kk ax mx] at HN;generalize (NM.mk kx tx lx cx kk ax mx).tr=xt at *;generalize mE xt=pb at *;change Hid (∀ o,Calls _ _ #[aB kx tx lx cx (.slice ax kk.length mx)] _ _) at HCj;obtain ⟨c0,c1,c2,c3,c4⟩:=aj hfc;clear cw hx hv hr hbw;go_wp2_with fail;refine (HCj.out _).mono ?_;rintro e w1 ⟨rfl,hb1⟩;have HB1:=hid (zdy HB.out (zdy (ag wr _) hb1));have HR1:=hid ((hb1.block _ (by rw [wSz];omega)).trans (bz HR.out _));obtain ⟨u0,u1,u2,u3,u4⟩:=r5 ((hb1.block _ (by rw [wSz];omega)).trans (hAn wr _));clear hb1 c0 c1 c2 c3 c4;cases pb with
   | false =>
     have HF:=hid (show (t.isEmpty && (decide (ks.length % 2=0) && dT 0 (NM.trs ks)))=false by rw [HN.out];simp);clear HN;go_wp2_with fail;go_ret;exact ⟨by rw [HD.out,HF.out];rfl,HB1.out⟩
   | true =>
     by_cases hpar:j % 2=0
     ·have qp:((j:Int) % 2 == 0)=true:=eqT (by omega);cases q11:(kx == 11) with
      | true =>
        have q11':(kx != 11)=false:=by simpa using q11
        have HT:=hid (show dT 0 (NM.trs ks)=dT (j+1) ((NM.trs ks).drop (j+1)) by rw [HN.out,q11];simp);clear HN;go_wp2_with fail
        go_round
        case rel=>exact ⟨j+1,by omega,by go_num,HB1.out,HR1.out,HT⟩
        case measure=>simp [intOf];omega
      | false =>
        have q11':(kx != 11)=true:=by simpa using q11
        have HF:=hid (show (t.isEmpty && (decide (ks.length % 2=0) && dT 0 (NM.trs ks)))=false by rw [HN.out,q11,hpar];simp);clear HN;go_wp2_with fail;go_ret;exact ⟨by rw [HD.out,HF.out];rfl,HB1.out⟩
     ·have qp:((j:Int) % 2 == 0)=false:=eqF (by omega);have HT:=hid (show dT 0 (NM.trs ks)=dT (j+1) ((NM.trs ks).drop (j+1)) by
       have h1:(j % 2 != 0)=true:=by simpa using hpar
       rw [HN.out,h1];simp)
      clear HN;go_wp2_with fail
      go_round
      case rel=>exact ⟨j+1,by omega,by go_num,HB1.out,HR1.out,HT⟩
      case measure=>simp [intOf];omega
  ·have hd:decide (j<ks.length)=false:=decide_eq_false aL;have HT:=hid (show dT 0 (NM.trs ks)=true by rw [HG.out,List.drop_eq_nil_of_le (by rw [cK];omega)];rfl);obtain ⟨z0,z1,z2,z3,z4⟩:=r5 hr;clear HG hr hbw;cases t with
   | cons tc tr =>
     have q:((tc::tr) == ([]:List UInt8))=false:=rfl;go_wp2_with fail;go_ret;exact ⟨by rw [HD.out];rfl,HB.out⟩
   | nil =>
     by_cases hpar:ks.length % 2=0
     ·have qp:((ks.length:Int) % 2 == 0)=true:=eqT (by omega);have hdd:decide (ks.length % 2=0)=true:=decide_eq_true hpar;have HF:=hid (show (([]:List UInt8).isEmpty && (decide (ks.length % 2=0) && dT 0 (NM.trs ks)))=true by rw [HT.out,hdd];rfl);clear HT hdd hpar;go_wp2_with fail;go_ret;exact ⟨by rw [HD.out,HF.out];rfl,HB.out⟩
     ·have qp:((ks.length:Int) % 2 == 0)=false:=eqF (by omega);have HF:=hid (show (([]:List UInt8).isEmpty && (decide (ks.length % 2=0) && dT 0 (NM.trs ks)))=false by rw [decide_eq_false hpar];rfl);clear HT hpar;go_wp2_with fail;go_ret;exact ⟨by rw [HD.out,HF.out];rfl,HB.out⟩
end Go.Proofs.YtfgiihpopngbkaaGreatDoor
