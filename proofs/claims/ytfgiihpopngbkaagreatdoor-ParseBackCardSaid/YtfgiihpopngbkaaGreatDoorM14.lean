/- Lemmas and walks that the statement needs: MayA, MayO, MayP. -/
import Derived.Test.YtfgiihpopngbkaaGreatDoorM13
namespace Go.Proofs.YtfgiihpopngbkaaGreatDoor
set_option maxRecDepth 100000
open Go.RowKit
open Nat renaming lt_of_lt_of_le→nL,le_trans→nT
set_option maxHeartbeats 2000000 in
theorem mayA_e  (l c:Int) (kx:Int) (tx:List UInt8) (lx cx:Int) (ksx:List NM) (ax:Option Addr) (mx:Nat) (a:Option Addr) (m:Nat) (w:World) (hw:Laid w) (hh:HeldN AnyB w (.mk 15 [] l c [(NM.mk kx tx lx cx ksx ax mx)] a m)) (_ht:([]:List UInt8).length≤1000000) (IHx:Says 38 mE (NM.mk kx tx lx cx ksx ax mx)) :
  Calls Tryz.prog 74 #[nodeV 15 [] l c (.slice a 1 m)] w fun e w'=>e=.returned (.bool (mA (NM.mk 15 [] l c [(NM.mk kx tx lx cx ksx ax mx)] a m).tr))∧Below w.heap.size w w':=by
 have hnot:∀ (x:Bool) (w:World),(Op.unary .not (.bool x)).run Tryz.prog w=.ok (.bool (!x)) w:=fun _ _=>rfl
 obtain ⟨la,lc,hv,hlc,hlm,hx⟩:=hh.kidsAt.nodes;obtain ⟨kb,ko,hla,hkb,hcl⟩:=hx 0 (by simp);obtain ⟨rfl,rfl⟩:a=la∧m=lc:=by simpa using hv
 subst hla;have hm1:1≤m:=by simpa using hlc
 unfold maxLen at hlm;have Fx:=hid (show FiveN w kb ko (NM.mk kx tx lx cx ksx ax mx) from hcl 0 (by simp));have ggx:=hid (show HeldN AnyB w (NM.mk kx tx lx cx ksx ax mx) from hh.kidsAt.get 0 (by simp));clear hx hcl hv hlc;have HO:=hid (show mA (NM.mk 15 [] l c [(NM.mk kx tx lx cx ksx ax mx)] (some ⟨kb,ko,none⟩) m).tr=mE (NM.mk kx tx lx cx ksx ax mx).tr by
  rw [ntr_mk,mA_15,ntrs_cons,ntrs_nil];simp [oneM]
 )
 rw [HO.out];clear HO;have C0:=hid (fun W (hW:Below w.heap.size w W)=>(show Calls Tryz.prog 38 #[nodeV kx tx lx cx (.slice ax ksx.length mx)] W _ from IHx W (hw.below hW) (ggx.out.below hW)));generalize mE (NM.mk kx tx lx cx ksx ax mx).tr=b0 at *;clear hh hw IHx ggx;obtain ⟨yx0,yx1,yx2,yx3,yx4⟩:=five_of Fx.out;have HB0:=hid (below_new w (.cells #[.int .i64 15,.string (bs []),.int .i64 l,.int .i64 c,.slice (some ⟨kb,ko,none⟩) 1 m] 27));go_enter Tryz.func74,Tryz.ntmps74
 go_wp2_with fail;refine (C0.out _ HB0.out).mono ?_;rintro e w1 ⟨rfl,hb1⟩;have HB1:=hid (Below.chain HB0.out hb1);have HR1:=hid ((hb1.block _ (by (try simp only [World.size_alloc]) <;> omega)).trans (heap_alloc_new w _));have hs1:=hb1.size
 try simp only [World.size_alloc] at hs1
 clear hb1 C0;obtain ⟨z0,z1,z2,z3,z4,-,-,-,-,-⟩:=row5 HR1.out;obtain ⟨yx0,yx1,yx2,yx3,yx4⟩:=five_of (Fx.out.keep (HB1.out.block kb hkb));have hkl1:kb<w1.heap.size:=by omega
 go_wp2_with fail;clear z0 z1 z2 z3 z4 yx0 yx1 yx2 yx3 yx4;go_ret
 first
 | exact ⟨rfl,HB1.out⟩
 | exact ⟨rfl,Below.chain HB1.out (below_new _ _)⟩
set_option maxHeartbeats 2000000 in
theorem mayA_n (tc:UInt8) (tr:List UInt8) (l c:Int) (kx:Int) (tx:List UInt8) (lx cx:Int) (ksx:List NM) (ax:Option Addr) (mx:Nat) (a:Option Addr) (m:Nat) (w:World) (hw:Laid w) (hh:HeldN AnyB w (.mk 15 (tc::tr) l c [(NM.mk kx tx lx cx ksx ax mx)] a m)) (ht:((tc::tr):List UInt8).length≤1000000) (IHx:Says 38 mE (NM.mk kx tx lx cx ksx ax mx)) :
  Calls Tryz.prog 74 #[nodeV 15 (tc::tr) l c (.slice a 1 m)] w fun e w'=>e=.returned (.bool (mA (NM.mk 15 (tc::tr) l c [(NM.mk kx tx lx cx ksx ax mx)] a m).tr))∧Below w.heap.size w w':=by
 have hnot:∀ (x:Bool) (w:World),(Op.unary .not (.bool x)).run Tryz.prog w=.ok (.bool (!x)) w:=fun _ _=>rfl
 obtain ⟨la,lc,hv,hlc,hlm,hx⟩:=hh.kidsAt.nodes;obtain ⟨kb,ko,hla,hkb,hcl⟩:=hx 0 (by simp);obtain ⟨rfl,rfl⟩:a=la∧m=lc:=by simpa using hv
 subst hla;have hm1:1≤m:=by simpa using hlc
 unfold maxLen at hlm;have Fx:=hid (show FiveN w kb ko (NM.mk kx tx lx cx ksx ax mx) from hcl 0 (by simp));have ggx:=hid (show HeldN AnyB w (NM.mk kx tx lx cx ksx ax mx) from hh.kidsAt.get 0 (by simp));clear hx hcl hv hlc;have HO:=hid (show mA (NM.mk 15 (tc::tr) l c [(NM.mk kx tx lx cx ksx ax mx)] (some ⟨kb,ko,none⟩) m).tr=(nameS (tc::tr) && mE (NM.mk kx tx lx cx ksx ax mx).tr) by
  rw [ntr_mk,mA_15,ntrs_cons,ntrs_nil];simp [oneM]
 )
 rw [HO.out];clear HO;have C0:=hid (fun W (hW:Below w.heap.size w W)=>isName_any (tc::tr) (by omega) W (hw.range.below hW));have C1:=hid (fun W (hW:Below w.heap.size w W)=>(show Calls Tryz.prog 38 #[nodeV kx tx lx cx (.slice ax ksx.length mx)] W _ from IHx W (hw.below hW) (ggx.out.below hW)));generalize nameS (tc::tr)=b0 at *;generalize mE (NM.mk kx tx lx cx ksx ax mx).tr=b1 at *;clear hh hw IHx ggx;have q:((tc::tr) == ([]:List UInt8))=false:=rfl;obtain ⟨yx0,yx1,yx2,yx3,yx4⟩:=five_of Fx.out;have HB0:=hid (below_new w (.cells #[.int .i64 15,.string (bs (tc::tr)),.int .i64 l,.int .i64 c,.slice (some ⟨kb,ko,none⟩) 1 m] 27));go_enter Tryz.func74,Tryz.ntmps74
 go_wp2_with fail;refine (C0.out _ HB0.out).mono ?_;rintro e w1 ⟨rfl,hb1⟩;have HB1:=hid (Below.chain HB0.out hb1);have HR1:=hid ((hb1.block _ (by (try simp only [World.size_alloc]) <;> omega)).trans (heap_alloc_new w _));have hs1:=hb1.size
 try simp only [World.size_alloc] at hs1
 clear hb1 C0;obtain ⟨z0,z1,z2,z3,z4,-,-,-,-,-⟩:=row5 HR1.out;obtain ⟨yx0,yx1,yx2,yx3,yx4⟩:=five_of (Fx.out.keep (HB1.out.block kb hkb));have hkl1:kb<w1.heap.size:=by omega
 cases b0 with
 | false =>
   go_wp2_with fail;clear z0 z1 z2 z3 z4 yx0 yx1 yx2 yx3 yx4;go_ret
   first
   | exact ⟨rfl,HB1.out⟩
   | exact ⟨rfl,Below.chain HB1.out (below_new _ _)⟩
 | true =>
   go_wp2_with fail;clear z0 z1 z2 z3 z4 yx0 yx1 yx2 yx3 yx4;refine (C1.out _ HB1.out).mono ?_;rintro e w2 ⟨rfl,hb2⟩;have HB2:=hid (Below.chain HB1.out hb2);have HR2:=hid ((hb2.block _ (by (try simp only [World.size_alloc]) <;> omega)).trans HR1.out);have hs2:=hb2.size
   try simp only [World.size_alloc] at hs2
   clear hb2 C1;obtain ⟨z0,z1,z2,z3,z4,-,-,-,-,-⟩:=row5 HR2.out;obtain ⟨yx0,yx1,yx2,yx3,yx4⟩:=five_of (Fx.out.keep (HB2.out.block kb hkb));have hkl2:kb<w2.heap.size:=by omega
   go_wp2_with fail;clear z0 z1 z2 z3 z4 yx0 yx1 yx2 yx3 yx4;go_ret
   first
   | exact ⟨rfl,HB2.out⟩
   | exact ⟨rfl,Below.chain HB2.out (below_new _ _)⟩
set_option maxHeartbeats 2000000 in
theorem mayA_e0  (l c:Int) (ks:List NM) (a:Option Addr) (m:Nat) (w:World) (_hw:Laid w) (hh:HeldN AnyB w (.mk 15 [] l c ks a m)) (_ht:([]:List UInt8).length≤1000000) (hn:ks.length≠1) :
  Calls Tryz.prog 74 #[nodeV 15 [] l c (.slice a ks.length m)] w fun e w'=>e=.returned (.bool (mA (NM.mk 15 [] l c ks a m).tr))∧Below w.heap.size w w':=by
 have hnot:∀ (x:Bool) (w:World),(Op.unary .not (.bool x)).run Tryz.prog w=.ok (.bool (!x)) w:=fun _ _=>rfl
 have HO:=hid (show mA (NM.mk 15 [] l c ks a m).tr=false by
  rw [ntr_mk,mA_15]
  match ks,hn with
  | [],_=>simp [ntrs_nil,oneM]
  | [_],h=>simp at h
  | _::_::_,_=>simp [ntrs_cons,oneM]
 )
 rw [HO.out];clear HO;clear hh _hw;have hn1:((ks.length:Int) == 1)=false:=eqF (by omega);have HB0:=hid (below_new w (.cells #[.int .i64 15,.string (bs []),.int .i64 l,.int .i64 c,.slice a ks.length m] 27));go_enter Tryz.func74,Tryz.ntmps74
 go_wp2_with fail;go_ret
 first
 | exact ⟨rfl,HB0.out⟩
 | exact ⟨rfl,Below.chain HB0.out (below_new _ _)⟩
set_option maxHeartbeats 2000000 in
theorem mayA_n0 (tc:UInt8) (tr:List UInt8) (l c:Int) (ks:List NM) (a:Option Addr) (m:Nat) (w:World) (hw:Laid w) (hh:HeldN AnyB w (.mk 15 (tc::tr) l c ks a m)) (ht:((tc::tr):List UInt8).length≤1000000) (hn:ks.length≠1) :
  Calls Tryz.prog 74 #[nodeV 15 (tc::tr) l c (.slice a ks.length m)] w fun e w'=>e=.returned (.bool (mA (NM.mk 15 (tc::tr) l c ks a m).tr))∧Below w.heap.size w w':=by
 have hnot:∀ (x:Bool) (w:World),(Op.unary .not (.bool x)).run Tryz.prog w=.ok (.bool (!x)) w:=fun _ _=>rfl
 have HO:=hid (show mA (NM.mk 15 (tc::tr) l c ks a m).tr=(nameS (tc::tr) && false) by
  rw [ntr_mk,mA_15]
  match ks,hn with
  | [],_=>simp [ntrs_nil,oneM]
  | [_],h=>simp at h
  | _::_::_,_=>simp [ntrs_cons,oneM]
 )
 rw [HO.out];clear HO;have C0:=hid (fun W (hW:Below w.heap.size w W)=>isName_any (tc::tr) (by omega) W (hw.range.below hW));generalize nameS (tc::tr)=b0 at *;clear hh hw;have hn1:((ks.length:Int) == 1)=false:=eqF (by omega);have q:((tc::tr) == ([]:List UInt8))=false:=rfl;have HB0:=hid (below_new w (.cells #[.int .i64 15,.string (bs (tc::tr)),.int .i64 l,.int .i64 c,.slice a ks.length m] 27));go_enter Tryz.func74,Tryz.ntmps74
 go_wp2_with fail;refine (C0.out _ HB0.out).mono ?_;rintro e w1 ⟨rfl,hb1⟩;have HB1:=hid (Below.chain HB0.out hb1);have HR1:=hid ((hb1.block _ (by (try simp only [World.size_alloc]) <;> omega)).trans (heap_alloc_new w _));have hs1:=hb1.size
 try simp only [World.size_alloc] at hs1
 clear hb1 C0;obtain ⟨z0,z1,z2,z3,z4,-,-,-,-,-⟩:=row5 HR1.out;cases b0 with
 | false =>
   go_wp2_with fail;clear z0 z1 z2 z3 z4;go_ret
   first
   | exact ⟨rfl,HB1.out⟩
   | exact ⟨rfl,Below.chain HB1.out (below_new _ _)⟩
 | true =>
   go_wp2_with fail;clear z0 z1 z2 z3 z4;go_ret
   first
   | exact ⟨rfl,HB1.out⟩
   | exact ⟨rfl,Below.chain HB1.out (below_new _ _)⟩
set_option maxHeartbeats 2000000 in
theorem mayA_no (k:Int) (t:List UInt8) (l c:Int) (ks:List NM) (a:Option Addr) (m:Nat) (w:World) (_hw:Laid w) (_hh:HeldN AnyB w (.mk k t l c ks a m)) (_ht:(t:List UInt8).length≤1000000) (h:(k == 15)=false) :
  Calls Tryz.prog 74 #[nodeV k t l c (.slice a ks.length m)] w fun e w'=>e=.returned (.bool (mA (NM.mk k t l c ks a m).tr))∧Below w.heap.size w w':=by
 have hnot:∀ (x:Bool) (w:World),(Op.unary .not (.bool x)).run Tryz.prog w=.ok (.bool (!x)) w:=fun _ _=>rfl
 have HO:=hid (show mA (NM.mk k t l c ks a m).tr=false by
  rw [ntr_mk,mA_no _ _ h]
 )
 rw [HO.out];clear HO;clear _hh _hw;have HB0:=hid (below_new w (.cells #[.int .i64 k,.string (bs t),.int .i64 l,.int .i64 c,.slice a ks.length m] 27));go_enter Tryz.func74,Tryz.ntmps74
 go_wp2_with fail;go_ret
 first
 | exact ⟨rfl,HB0.out⟩
 | exact ⟨rfl,Below.chain HB0.out (below_new _ _)⟩
def opsL:List (List UInt8):=[[61,61],[33,61],wIn,[43],wNot]
theorem ops_contains (s:List UInt8):opsL.contains s=(opB s || s == wNot):=by
 unfold opsL opB;rw [Bool.eq_iff_iff];simp [or_assoc]
set_option maxHeartbeats 2000000 in
theorem mayE_16n (t:List UInt8) (l c:Int) (ks:List NM) (a:Option Addr) (m:Nat) (w:World) (hw:Laid w) (hh:HeldN AnyB w (.mk 16 t l c ks a m)) (_ht:t.length≤1000000) (_hk:ks.length≤1000000) (htn:t=wNot) (hn:ks.length=1) (IH:∀ j (hj:j<ks.length),Says 38 mE ks[j]) :
  Calls Tryz.prog 38 #[nodeV 16 t l c (.slice a ks.length m)] w fun e w'=>e=.returned (.bool (mE (NM.mk 16 t l c ks a m).tr))∧Below w.heap.size w w':=by
 have hd:decide (ks.length=if t=wNot then 1 else 2)=true:=by rw [if_pos htn];exact decide_eq_true hn
 rw [ntr_mk,mE_16,ntrs_len,all_tr,← ops_contains,hd];have q1:(t == [110,111,116])=true:=by rw [htn];rfl
 have q2:((ks.length:Int) == 1)=true:=eqT (by omega);obtain ⟨W0,hW0,hb0,hr0,hrs⟩:∃ W,Hid (W=(w.alloc (.cells #[.int .i64 16,.string (bs t),.int .i64 l,.int .i64 c,.slice a ks.length m] 27)).alloc (.cells #[.string ⟨#[61,61]⟩,.string ⟨#[33,61]⟩,.string ⟨#[105,110]⟩,.string ⟨#[43]⟩,.string ⟨#[110,111,116]⟩] 9))∧Below w.heap.size w W∧W.heap[w.heap.size]? = some (.cells #[.int .i64 16,.string (bs t),.int .i64 l,.int .i64 c,.slice a ks.length m] 27 (0,0))∧W.heap[w.heap.size+1]? = some (.cells (strCells opsL).toArray 9 (0,0)) :=
  ⟨_,hid rfl,Below.chain (below_new w _) (below_new _ _),alloc_row (heap_alloc_new w _) _,by have:=heap_alloc_new (w.alloc (.cells #[.int .i64 16,.string (bs t),.int .i64 l,.int .i64 c,.slice a ks.length m] 27)) (.cells #[.string ⟨#[61,61]⟩,.string ⟨#[33,61]⟩,.string ⟨#[105,110]⟩,.string ⟨#[43]⟩,.string ⟨#[110,111,116]⟩] 9);rw [World.size_alloc] at this;exact this⟩
 have hlt0:w.heap.size<W0.heap.size:=(Array.getElem?_eq_some_iff.1 hr0).1;have HC:=hid (contains_any opsL t W0 (w.heap.size+1) 5 9 hrs (by decide));have HA:=hid (all_mayExpr (fun x=>mE x.tr) _ ks _ (hh.kidsAt.below hb0) (by omega) (fun j hj W hW=>IH j hj W ((hw.below hb0).below hW) ((hh.kidsAt.below hb0).get j hj |>.below hW)));have HB:=hid hb0;obtain ⟨z0,z1,z2,z3,z4,-,-,-,-,-⟩:=row5 hr0;generalize opsL.contains t=b1 at *;generalize ks.all (fun x=>mE x.tr)=b2 at *;clear hh hw IH hd htn hn hrs hr0 hb0;cases b1 with
 | false =>
   go_enter Tryz.func38,Tryz.ntmps38
   go_wp2_with fail;rw [← hW0.out];clear hW0;refine HC.out.mono ?_;rintro e w1 ⟨rfl,rfl⟩;go_wp2_with fail;go_ret;exact ⟨rfl,HB.out⟩
 | true =>
   go_enter Tryz.func38,Tryz.ntmps38
   go_wp2_with fail;rw [← hW0.out];clear hW0;refine HC.out.mono ?_;rintro e w1 ⟨rfl,rfl⟩;go_wp2_with fail;refine HA.out.mono ?_;rintro e w2 ⟨rfl,hb2⟩;go_wp2_with fail;go_ret;exact ⟨by simp,Below.chain HB.out hb2⟩
set_option maxHeartbeats 2000000 in
theorem mayE_16o (t:List UInt8) (l c:Int) (ks:List NM) (a:Option Addr) (m:Nat) (w:World) (hw:Laid w) (hh:HeldN AnyB w (.mk 16 t l c ks a m)) (_ht:t.length≤1000000) (_hk:ks.length≤1000000) (htn:t≠wNot) (hn:ks.length=2) (IH:∀ j (hj:j<ks.length),Says 38 mE ks[j]) :
  Calls Tryz.prog 38 #[nodeV 16 t l c (.slice a ks.length m)] w fun e w'=>e=.returned (.bool (mE (NM.mk 16 t l c ks a m).tr))∧Below w.heap.size w w':=by
 have hd:decide (ks.length=if t=wNot then 1 else 2)=true:=by rw [if_neg htn];exact decide_eq_true hn
 rw [ntr_mk,mE_16,ntrs_len,all_tr,← ops_contains,hd];have q1:(t == [110,111,116])=false:=by simpa [wNot] using htn
 have q2:((ks.length:Int) == 2)=true:=eqT (by omega);obtain ⟨W0,hW0,hb0,hr0,hrs⟩:∃ W,Hid (W=(w.alloc (.cells #[.int .i64 16,.string (bs t),.int .i64 l,.int .i64 c,.slice a ks.length m] 27)).alloc (.cells #[.string ⟨#[61,61]⟩,.string ⟨#[33,61]⟩,.string ⟨#[105,110]⟩,.string ⟨#[43]⟩,.string ⟨#[110,111,116]⟩] 9))∧Below w.heap.size w W∧W.heap[w.heap.size]? = some (.cells #[.int .i64 16,.string (bs t),.int .i64 l,.int .i64 c,.slice a ks.length m] 27 (0,0))∧W.heap[w.heap.size+1]? = some (.cells (strCells opsL).toArray 9 (0,0)) :=
  ⟨_,hid rfl,Below.chain (below_new w _) (below_new _ _),alloc_row (heap_alloc_new w _) _,by have:=heap_alloc_new (w.alloc (.cells #[.int .i64 16,.string (bs t),.int .i64 l,.int .i64 c,.slice a ks.length m] 27)) (.cells #[.string ⟨#[61,61]⟩,.string ⟨#[33,61]⟩,.string ⟨#[105,110]⟩,.string ⟨#[43]⟩,.string ⟨#[110,111,116]⟩] 9);rw [World.size_alloc] at this;exact this⟩
 have hlt0:w.heap.size<W0.heap.size:=(Array.getElem?_eq_some_iff.1 hr0).1;have HC:=hid (contains_any opsL t W0 (w.heap.size+1) 5 9 hrs (by decide));have HA:=hid (all_mayExpr (fun x=>mE x.tr) _ ks _ (hh.kidsAt.below hb0) (by omega) (fun j hj W hW=>IH j hj W ((hw.below hb0).below hW) ((hh.kidsAt.below hb0).get j hj |>.below hW)));have HB:=hid hb0;obtain ⟨z0,z1,z2,z3,z4,-,-,-,-,-⟩:=row5 hr0;generalize opsL.contains t=b1 at *;generalize ks.all (fun x=>mE x.tr)=b2 at *;clear hh hw IH hd htn hn hrs hr0 hb0;cases b1 with
 | false =>
   go_enter Tryz.func38,Tryz.ntmps38
   go_wp2_with fail;rw [← hW0.out];clear hW0;refine HC.out.mono ?_;rintro e w1 ⟨rfl,rfl⟩;go_wp2_with fail;go_ret;exact ⟨rfl,HB.out⟩
 | true =>
   go_enter Tryz.func38,Tryz.ntmps38
   go_wp2_with fail;rw [← hW0.out];clear hW0;refine HC.out.mono ?_;rintro e w1 ⟨rfl,rfl⟩;go_wp2_with fail;refine HA.out.mono ?_;rintro e w2 ⟨rfl,hb2⟩;go_wp2_with fail;go_ret;exact ⟨by simp,Below.chain HB.out hb2⟩
set_option maxHeartbeats 2000000 in
theorem mayE_16n0 (t:List UInt8) (l c:Int) (ks:List NM) (a:Option Addr) (m:Nat) (w:World) (_hw:Laid w) (_hh:HeldN AnyB w (.mk 16 t l c ks a m)) (_ht:t.length≤1000000) (_hk:ks.length≤1000000) (htn:t=wNot) (hn:ks.length≠1) (_IH:∀ j (hj:j<ks.length),Says 38 mE ks[j]) :
  Calls Tryz.prog 38 #[nodeV 16 t l c (.slice a ks.length m)] w fun e w'=>e=.returned (.bool (mE (NM.mk 16 t l c ks a m).tr))∧Below w.heap.size w w':=by
 have hd:decide (ks.length=if t=wNot then 1 else 2)=false:=by rw [if_pos htn];exact decide_eq_false hn
 rw [ntr_mk,mE_16,ntrs_len,all_tr,← ops_contains,hd];have q1:(t == [110,111,116])=true:=by rw [htn];rfl
 have q2:((ks.length:Int) == 1)=false:=eqF (by omega);clear _hh _hw _IH hd htn hn;go_enter Tryz.func38,Tryz.ntmps38
 go_wp2_with fail;go_ret
 first
  | exact ⟨rfl,below_new w _⟩
  | exact ⟨rfl,Below.chain (below_new w _) (below_new _ _)⟩
set_option maxHeartbeats 2000000 in
theorem mayE_16o0 (t:List UInt8) (l c:Int) (ks:List NM) (a:Option Addr) (m:Nat) (w:World) (_hw:Laid w) (_hh:HeldN AnyB w (.mk 16 t l c ks a m)) (_ht:t.length≤1000000) (_hk:ks.length≤1000000) (htn:t≠wNot) (hn:ks.length≠2) (_IH:∀ j (hj:j<ks.length),Says 38 mE ks[j]) :
  Calls Tryz.prog 38 #[nodeV 16 t l c (.slice a ks.length m)] w fun e w'=>e=.returned (.bool (mE (NM.mk 16 t l c ks a m).tr))∧Below w.heap.size w w':=by
 have hd:decide (ks.length=if t=wNot then 1 else 2)=false:=by rw [if_neg htn];exact decide_eq_false hn
 rw [ntr_mk,mE_16,ntrs_len,all_tr,← ops_contains,hd];have q1:(t == [110,111,116])=false:=by simpa [wNot] using htn
 have q2:((ks.length:Int) == 2)=false:=eqF (by omega);clear _hh _hw _IH hd htn hn;go_enter Tryz.func38,Tryz.ntmps38
 go_wp2_with fail;go_ret
 first
  | exact ⟨rfl,below_new w _⟩
  | exact ⟨rfl,Below.chain (below_new w _) (below_new _ _)⟩
theorem kids_nil (w:World) (a:Option Addr) (c:Nat) (hc:c≤maxLen) (h:a=none→c=0):KidsAt w (.slice a 0 c) []:=⟨⟨rfl,a,c,rfl,Nat.zero_le _,hc,h,fun h=>absurd rfl h⟩,heldNs_nil⟩
set_option maxHeartbeats 2000000 in
theorem mayP_1a (t:List UInt8) (l c:Int) (kx:Int) (tx:List UInt8) (lx cx:Int) (ksx:List NM) (ax:Option Addr) (mx:Nat) (a:Option Addr) (m:Nat) (w:World) (hw:Laid w) (hh:HeldN AnyB w (.mk 7 t l c [(NM.mk kx tx lx cx ksx ax mx)] a m)) (ht:(t:List UInt8).length≤1000000) (h9:(kx == 9)=false) :
  Calls Tryz.prog 40 #[nodeV 7 t l c (.slice a 1 m)] w fun e w'=>e=.returned (.bool (mP (NM.mk 7 t l c [(NM.mk kx tx lx cx ksx ax mx)] a m).tr))∧Below w.heap.size w w':=by
 have hnot:∀ (x:Bool) (w:World),(Op.unary .not (.bool x)).run Tryz.prog w=.ok (.bool (!x)) w:=fun _ _=>rfl
 obtain ⟨la,lc,hv,hlc,hlm,hx⟩:=hh.kidsAt.nodes;obtain ⟨kb,ko,hla,hkb,hcl⟩:=hx 0 (by simp);obtain ⟨rfl,rfl⟩:a=la∧m=lc:=by simpa using hv
 subst hla;have hm1:1≤m:=by simpa using hlc
 unfold maxLen at hlm;have Fx:=hid (show FiveN w kb ko (NM.mk kx tx lx cx ksx ax mx) from hcl 0 (by simp));have ggx:=hid (show HeldN AnyB w (NM.mk kx tx lx cx ksx ax mx) from hh.kidsAt.get 0 (by simp));clear hx hcl hv hlc;have HO:=hid (show mP (NM.mk 7 t l c [(NM.mk kx tx lx cx ksx ax mx)] (some ⟨kb,ko,none⟩) m).tr=(nameS t && false) by
  rw [ntr_mk,mP_7,ntrs_cons,ntrs_nil];unfold paramM typeM;simp only [ntr_mk,kd_mk,h9,Bool.false_and,Bool.and_false]
 )
 rw [HO.out];clear HO;have C0:=hid (fun W (hW:Below w.heap.size w W)=>isName_any t (by omega) W (hw.range.below hW));generalize nameS t=b0 at *;clear hh hw ggx;obtain ⟨yx0,yx1,yx2,yx3,yx4⟩:=five_of Fx.out;have HB0:=hid (below_new w (.cells #[.int .i64 7,.string (bs t),.int .i64 l,.int .i64 c,.slice (some ⟨kb,ko,none⟩) 1 m] 27));go_enter Tryz.func40,Tryz.ntmps40
 go_wp2_with fail;refine (C0.out _ HB0.out).mono ?_;rintro e w1 ⟨rfl,hb1⟩;have HB1:=hid (Below.chain HB0.out hb1);have HR1:=hid ((hb1.block _ (by (try simp only [World.size_alloc]) <;> omega)).trans (heap_alloc_new w _));have hs1:=hb1.size
 try simp only [World.size_alloc] at hs1
 clear hb1 C0;obtain ⟨z0,z1,z2,z3,z4,-,-,-,-,-⟩:=row5 HR1.out;obtain ⟨yx0,yx1,yx2,yx3,yx4⟩:=five_of (Fx.out.keep (HB1.out.block kb hkb));have hkl1:kb<w1.heap.size:=by omega
 cases b0 with
 | false =>
   go_wp2_with fail;clear z0 z1 z2 z3 z4 yx0 yx1 yx2 yx3 yx4;go_ret
   first
   | exact ⟨rfl,HB1.out⟩
   | exact ⟨rfl,Below.chain HB1.out (below_new _ _)⟩
 | true =>
   go_wp2_with fail;clear z0 z1 z2 z3 z4 yx0 yx1 yx2 yx3 yx4;go_ret
   first
   | exact ⟨rfl,HB1.out⟩
   | exact ⟨rfl,Below.chain HB1.out (below_new _ _)⟩
set_option maxHeartbeats 2000000 in
theorem mayP_1b (t:List UInt8) (l c:Int) (kx:Int) (tx:List UInt8) (lx cx:Int) (ksx:List NM) (ax:Option Addr) (mx:Nat) (a:Option Addr) (m:Nat) (w:World) (hw:Laid w) (hh:HeldN AnyB w (.mk 7 t l c [(NM.mk kx tx lx cx ksx ax mx)] a m)) (ht:(t:List UInt8).length≤1000000) (h9:(kx == 9)=true) (hk:ksx≠[]) :
  Calls Tryz.prog 40 #[nodeV 7 t l c (.slice a 1 m)] w fun e w'=>e=.returned (.bool (mP (NM.mk 7 t l c [(NM.mk kx tx lx cx ksx ax mx)] a m).tr))∧Below w.heap.size w w':=by
 have hnot:∀ (x:Bool) (w:World),(Op.unary .not (.bool x)).run Tryz.prog w=.ok (.bool (!x)) w:=fun _ _=>rfl
 obtain ⟨la,lc,hv,hlc,hlm,hx⟩:=hh.kidsAt.nodes;obtain ⟨kb,ko,hla,hkb,hcl⟩:=hx 0 (by simp);obtain ⟨rfl,rfl⟩:a=la∧m=lc:=by simpa using hv
 subst hla;have hm1:1≤m:=by simpa using hlc
 unfold maxLen at hlm;have Fx:=hid (show FiveN w kb ko (NM.mk kx tx lx cx ksx ax mx) from hcl 0 (by simp));have ggx:=hid (show HeldN AnyB w (NM.mk kx tx lx cx ksx ax mx) from hh.kidsAt.get 0 (by simp));clear hx hcl hv hlc;have HO:=hid (show mP (NM.mk 7 t l c [(NM.mk kx tx lx cx ksx ax mx)] (some ⟨kb,ko,none⟩) m).tr=(nameS t && (typeB tx && false)) by
  have hke:(NM.trs ksx).isEmpty=false:=by cases ksx with | nil=>exact absurd rfl hk | cons z r=>rw [ntrs_cons];rfl
  rw [ntr_mk,mP_7,ntrs_cons,ntrs_nil];unfold paramM typeM;simp only [ntr_mk,kd_mk,tx_mk,Tr.kids,h9,hke,Bool.true_and,Bool.and_false]
 )
 rw [HO.out];clear HO;have C0:=hid (fun W (hW:Below w.heap.size w W)=>isName_any t (by omega) W (hw.range.below hW));have C1:=hid (fun W (hW:Below w.heap.size w W)=>isType_any tx W);generalize nameS t=b0 at *;generalize typeB tx=b1 at *;clear hh hw ggx;have hk0:((ksx.length:Int) == 0)=false:=eqF (by have:=List.length_pos_iff.2 hk;omega);clear hk;obtain ⟨yx0,yx1,yx2,yx3,yx4⟩:=five_of Fx.out;have HB0:=hid (below_new w (.cells #[.int .i64 7,.string (bs t),.int .i64 l,.int .i64 c,.slice (some ⟨kb,ko,none⟩) 1 m] 27));go_enter Tryz.func40,Tryz.ntmps40
 go_wp2_with fail;refine (C0.out _ HB0.out).mono ?_;rintro e w1 ⟨rfl,hb1⟩;have HB1:=hid (Below.chain HB0.out hb1);have HR1:=hid ((hb1.block _ (by (try simp only [World.size_alloc]) <;> omega)).trans (heap_alloc_new w _));have hs1:=hb1.size
 try simp only [World.size_alloc] at hs1
 clear hb1 C0;obtain ⟨z0,z1,z2,z3,z4,-,-,-,-,-⟩:=row5 HR1.out;obtain ⟨yx0,yx1,yx2,yx3,yx4⟩:=five_of (Fx.out.keep (HB1.out.block kb hkb));have hkl1:kb<w1.heap.size:=by omega
 cases b0 with
 | false =>
   go_wp2_with fail;clear z0 z1 z2 z3 z4 yx0 yx1 yx2 yx3 yx4;go_ret
   first
   | exact ⟨rfl,HB1.out⟩
   | exact ⟨rfl,Below.chain HB1.out (below_new _ _)⟩
 | true =>
   go_wp2_with fail;clear z0 z1 z2 z3 z4 yx0 yx1 yx2 yx3 yx4;have HA1:=hid (Below.chain HB1.out (below_new w1 (.cells #[.int .i64 kx,.string (bs tx),.int .i64 lx,.int .i64 cx,.slice ax ksx.length mx] 27)));refine (C1.out _ HA1.out).mono ?_;rintro e w2 ⟨rfl,hb2⟩;have HB2:=hid (Below.chain HA1.out hb2);have HR2:=hid ((hb2.block _ (by (try simp only [World.size_alloc]) <;> omega)).trans (alloc_row HR1.out _));have hs2:=hb2.size;have HT2:=hid ((hb2.block _ (by (try simp only [World.size_alloc]) <;> omega)).trans (heap_alloc_new w1 (.cells #[.int .i64 kx,.string (bs tx),.int .i64 lx,.int .i64 cx,.slice ax ksx.length mx] 27)))
   try simp only [World.size_alloc] at hs2
   clear hb2 C1;obtain ⟨z0,z1,z2,z3,z4,-,-,-,-,-⟩:=row5 HR2.out;obtain ⟨u0,u1,u2,u3,u4,-,-,-,-,-⟩:=row5 HT2.out;obtain ⟨yx0,yx1,yx2,yx3,yx4⟩:=five_of (Fx.out.keep (HB2.out.block kb hkb));have hkl2:kb<w2.heap.size:=by omega
   cases b1 with
   | false =>
     go_wp2_with fail;clear z0 z1 z2 z3 z4 u0 u1 u2 u3 u4 yx0 yx1 yx2 yx3 yx4;go_ret
     first
     | exact ⟨rfl,HB2.out⟩
     | exact ⟨rfl,Below.chain HB2.out (below_new _ _)⟩
   | true =>
     go_wp2_with fail;clear z0 z1 z2 z3 z4 u0 u1 u2 u3 u4 yx0 yx1 yx2 yx3 yx4;go_ret
     first
     | exact ⟨rfl,HB2.out⟩
     | exact ⟨rfl,Below.chain HB2.out (below_new _ _)⟩
set_option maxHeartbeats 2000000 in
theorem mayP_1d (t:List UInt8) (l c:Int) (kx:Int) (tx:List UInt8) (lx cx:Int) (ksx:List NM) (ax:Option Addr) (mx:Nat) (a:Option Addr) (m:Nat) (w:World) (hw:Laid w) (hh:HeldN AnyB w (.mk 7 t l c [(NM.mk kx tx lx cx ksx ax mx)] a m)) (ht:(t:List UInt8).length≤1000000) (h9:(kx == 9)=true) (hk:ksx=[]) (hm:m=1) :
  Calls Tryz.prog 40 #[nodeV 7 t l c (.slice a 1 m)] w fun e w'=>e=.returned (.bool (mP (NM.mk 7 t l c [(NM.mk kx tx lx cx ksx ax mx)] a m).tr))∧Below w.heap.size w w':=by
 have hnot:∀ (x:Bool) (w:World),(Op.unary .not (.bool x)).run Tryz.prog w=.ok (.bool (!x)) w:=fun _ _=>rfl
 obtain ⟨la,lc,hv,hlc,hlm,hx⟩:=hh.kidsAt.nodes;obtain ⟨kb,ko,hla,hkb,hcl⟩:=hx 0 (by simp);obtain ⟨rfl,rfl⟩:a=la∧m=lc:=by simpa using hv
 subst hla;have hm1:1≤m:=by simpa using hlc
 unfold maxLen at hlm;have Fx:=hid (show FiveN w kb ko (NM.mk kx tx lx cx ksx ax mx) from hcl 0 (by simp));have ggx:=hid (show HeldN AnyB w (NM.mk kx tx lx cx ksx ax mx) from hh.kidsAt.get 0 (by simp));clear hx hcl hv hlc;have HT0:=hid (kids_nil w (some ⟨kb,ko,none⟩) 0 (by omega) (fun h=>by cases h));subst hm;have HO:=hid (show mP (NM.mk 7 t l c [(NM.mk kx tx lx cx ksx ax mx)] (some ⟨kb,ko,none⟩) 1).tr=(nameS t && (typeB tx && ([]:List NM).all (fun x=>mE x.tr))) by
  rw [ntr_mk,mP_7,ntrs_cons,ntrs_nil];unfold paramM typeM;subst hk;simp only [ntr_mk,kd_mk,tx_mk,Tr.kids,h9,ntrs_nil,Bool.true_and,List.all_nil,List.isEmpty_nil,Bool.and_true]
 )
 rw [HO.out];clear HO;have C0:=hid (fun W (hW:Below w.heap.size w W)=>isName_any t (by omega) W (hw.range.below hW));have C1:=hid (fun W (hW:Below w.heap.size w W)=>isType_any tx W);have C2:=hid (fun W (hW:Below w.heap.size w W)=>all_mayExpr (fun x=>mE x.tr) (.slice (some ⟨kb,ko,none⟩) 0 0) ([]:List NM) W (HT0.out.below hW) (by simp) (fun j hj W2 hW2=>by simp at hj));generalize nameS t=b0 at *;generalize typeB tx=b1 at *;generalize ([]:List NM).all (fun x=>mE x.tr)=b2 at *;clear hh hw ggx HT0;have hk0:((ksx.length:Int) == 0)=true:=eqT (by rw [hk];rfl);clear hk;obtain ⟨yx0,yx1,yx2,yx3,yx4⟩:=five_of Fx.out;have HB0:=hid (below_new w (.cells #[.int .i64 7,.string (bs t),.int .i64 l,.int .i64 c,.slice (some ⟨kb,ko,none⟩) 1 1] 27));go_enter Tryz.func40,Tryz.ntmps40
 go_wp2_with fail;refine (C0.out _ HB0.out).mono ?_;rintro e w1 ⟨rfl,hb1⟩;have HB1:=hid (Below.chain HB0.out hb1);have HR1:=hid ((hb1.block _ (by (try simp only [World.size_alloc]) <;> omega)).trans (heap_alloc_new w _));have hs1:=hb1.size
 try simp only [World.size_alloc] at hs1
 clear hb1 C0;obtain ⟨z0,z1,z2,z3,z4,-,-,-,-,-⟩:=row5 HR1.out;obtain ⟨yx0,yx1,yx2,yx3,yx4⟩:=five_of (Fx.out.keep (HB1.out.block kb hkb));have hkl1:kb<w1.heap.size:=by omega
 cases b0 with
 | false =>
   go_wp2_with fail;clear z0 z1 z2 z3 z4 yx0 yx1 yx2 yx3 yx4;go_ret
   first
   | exact ⟨rfl,HB1.out⟩
   | exact ⟨rfl,Below.chain HB1.out (below_new _ _)⟩
 | true =>
   go_wp2_with fail;clear z0 z1 z2 z3 z4 yx0 yx1 yx2 yx3 yx4;have HA1:=hid (Below.chain HB1.out (below_new w1 (.cells #[.int .i64 kx,.string (bs tx),.int .i64 lx,.int .i64 cx,.slice ax ksx.length mx] 27)));refine (C1.out _ HA1.out).mono ?_;rintro e w2 ⟨rfl,hb2⟩;have HB2:=hid (Below.chain HA1.out hb2);have HR2:=hid ((hb2.block _ (by (try simp only [World.size_alloc]) <;> omega)).trans (alloc_row HR1.out _));have hs2:=hb2.size;have HT2:=hid ((hb2.block _ (by (try simp only [World.size_alloc]) <;> omega)).trans (heap_alloc_new w1 (.cells #[.int .i64 kx,.string (bs tx),.int .i64 lx,.int .i64 cx,.slice ax ksx.length mx] 27)))
   try simp only [World.size_alloc] at hs2
   clear hb2 C1;obtain ⟨z0,z1,z2,z3,z4,-,-,-,-,-⟩:=row5 HR2.out;obtain ⟨u0,u1,u2,u3,u4,-,-,-,-,-⟩:=row5 HT2.out;obtain ⟨yx0,yx1,yx2,yx3,yx4⟩:=five_of (Fx.out.keep (HB2.out.block kb hkb));have hkl2:kb<w2.heap.size:=by omega
   cases b1 with
   | false =>
     go_wp2_with fail;clear z0 z1 z2 z3 z4 u0 u1 u2 u3 u4 yx0 yx1 yx2 yx3 yx4;go_ret
     first
     | exact ⟨rfl,HB2.out⟩
     | exact ⟨rfl,Below.chain HB2.out (below_new _ _)⟩
   | true =>
     go_wp2_with fail;clear z0 z1 z2 z3 z4 u0 u1 u2 u3 u4 yx0 yx1 yx2 yx3 yx4;refine (C2.out _ HB2.out).mono ?_;rintro e w3 ⟨rfl,hb3⟩;have HB3:=hid (Below.chain HB2.out hb3);have HR3:=hid ((hb3.block _ (by (try simp only [World.size_alloc]) <;> omega)).trans HR2.out);have hs3:=hb3.size;have HT3:=hid ((hb3.block _ (by (try simp only [World.size_alloc]) <;> omega)).trans HT2.out)
     try simp only [World.size_alloc] at hs3
     clear hb3 C2;obtain ⟨z0,z1,z2,z3,z4,-,-,-,-,-⟩:=row5 HR3.out;obtain ⟨u0,u1,u2,u3,u4,-,-,-,-,-⟩:=row5 HT3.out;obtain ⟨yx0,yx1,yx2,yx3,yx4⟩:=five_of (Fx.out.keep (HB3.out.block kb hkb));have hkl3:kb<w3.heap.size:=by omega
     go_wp2_with fail;clear z0 z1 z2 z3 z4 u0 u1 u2 u3 u4 yx0 yx1 yx2 yx3 yx4;go_ret
     first
     | exact ⟨rfl,HB3.out⟩
     | exact ⟨rfl,Below.chain HB3.out (below_new _ _)⟩
set_option maxHeartbeats 2000000 in
theorem mayP_1c (t:List UInt8) (l c:Int) (kx:Int) (tx:List UInt8) (lx cx:Int) (ksx:List NM) (ax:Option Addr) (mx:Nat) (a:Option Addr) (m:Nat) (w:World) (hw:Laid w) (hh:HeldN AnyB w (.mk 7 t l c [(NM.mk kx tx lx cx ksx ax mx)] a m)) (ht:(t:List UInt8).length≤1000000) (h9:(kx == 9)=true) (hk:ksx=[]) (hm:1<m) :
  Calls Tryz.prog 40 #[nodeV 7 t l c (.slice a 1 m)] w fun e w'=>e=.returned (.bool (mP (NM.mk 7 t l c [(NM.mk kx tx lx cx ksx ax mx)] a m).tr))∧Below w.heap.size w w':=by
 have hnot:∀ (x:Bool) (w:World),(Op.unary .not (.bool x)).run Tryz.prog w=.ok (.bool (!x)) w:=fun _ _=>rfl
 obtain ⟨la,lc,hv,hlc,hlm,hx⟩:=hh.kidsAt.nodes;obtain ⟨kb,ko,hla,hkb,hcl⟩:=hx 0 (by simp);obtain ⟨rfl,rfl⟩:a=la∧m=lc:=by simpa using hv
 subst hla;have hm1:1≤m:=by simpa using hlc
 unfold maxLen at hlm;have Fx:=hid (show FiveN w kb ko (NM.mk kx tx lx cx ksx ax mx) from hcl 0 (by simp));have ggx:=hid (show HeldN AnyB w (NM.mk kx tx lx cx ksx ax mx) from hh.kidsAt.get 0 (by simp));clear hx hcl hv hlc;have HT0:=hid (show KidsAt w (.slice (some ⟨kb,ko+5,none⟩) 0 (m - 1)) [] from hh.kidsAt.tail (x:=(NM.mk kx tx lx cx ksx ax mx)) (ks:=[]) _ (fun _=>rfl) (fun h=>by cases h));have HO:=hid (show mP (NM.mk 7 t l c [(NM.mk kx tx lx cx ksx ax mx)] (some ⟨kb,ko,none⟩) m).tr=(nameS t && (typeB tx && ([]:List NM).all (fun x=>mE x.tr))) by
  rw [ntr_mk,mP_7,ntrs_cons,ntrs_nil];unfold paramM typeM;subst hk;simp only [ntr_mk,kd_mk,tx_mk,Tr.kids,h9,ntrs_nil,Bool.true_and,List.all_nil,List.isEmpty_nil,Bool.and_true]
 )
 rw [HO.out];clear HO;have C0:=hid (fun W (hW:Below w.heap.size w W)=>isName_any t (by omega) W (hw.range.below hW));have C1:=hid (fun W (hW:Below w.heap.size w W)=>isType_any tx W);have C2:=hid (fun W (hW:Below w.heap.size w W)=>all_mayExpr (fun x=>mE x.tr) (.slice (some ⟨kb,ko+5,none⟩) 0 (m - 1)) ([]:List NM) W (HT0.out.below hW) (by simp) (fun j hj W2 hW2=>by simp at hj));generalize nameS t=b0 at *;generalize typeB tx=b1 at *;generalize ([]:List NM).all (fun x=>mE x.tr)=b2 at *;clear hh hw ggx HT0;have hk0:((ksx.length:Int) == 0)=true:=eqT (by rw [hk];rfl);clear hk;obtain ⟨yx0,yx1,yx2,yx3,yx4⟩:=five_of Fx.out;have HB0:=hid (below_new w (.cells #[.int .i64 7,.string (bs t),.int .i64 l,.int .i64 c,.slice (some ⟨kb,ko,none⟩) 1 m] 27));go_enter Tryz.func40,Tryz.ntmps40
 go_wp2_with fail;refine (C0.out _ HB0.out).mono ?_;rintro e w1 ⟨rfl,hb1⟩;have HB1:=hid (Below.chain HB0.out hb1);have HR1:=hid ((hb1.block _ (by (try simp only [World.size_alloc]) <;> omega)).trans (heap_alloc_new w _));have hs1:=hb1.size
 try simp only [World.size_alloc] at hs1
 clear hb1 C0;obtain ⟨z0,z1,z2,z3,z4,-,-,-,-,-⟩:=row5 HR1.out;obtain ⟨yx0,yx1,yx2,yx3,yx4⟩:=five_of (Fx.out.keep (HB1.out.block kb hkb));have hkl1:kb<w1.heap.size:=by omega
 cases b0 with
 | false =>
   go_wp2_with fail;clear z0 z1 z2 z3 z4 yx0 yx1 yx2 yx3 yx4;go_ret
   first
   | exact ⟨rfl,HB1.out⟩
   | exact ⟨rfl,Below.chain HB1.out (below_new _ _)⟩
 | true =>
   go_wp2_with fail;clear z0 z1 z2 z3 z4 yx0 yx1 yx2 yx3 yx4;have HA1:=hid (Below.chain HB1.out (below_new w1 (.cells #[.int .i64 kx,.string (bs tx),.int .i64 lx,.int .i64 cx,.slice ax ksx.length mx] 27)));refine (C1.out _ HA1.out).mono ?_;rintro e w2 ⟨rfl,hb2⟩;have HB2:=hid (Below.chain HA1.out hb2);have HR2:=hid ((hb2.block _ (by (try simp only [World.size_alloc]) <;> omega)).trans (alloc_row HR1.out _));have hs2:=hb2.size;have HT2:=hid ((hb2.block _ (by (try simp only [World.size_alloc]) <;> omega)).trans (heap_alloc_new w1 (.cells #[.int .i64 kx,.string (bs tx),.int .i64 lx,.int .i64 cx,.slice ax ksx.length mx] 27)))
   try simp only [World.size_alloc] at hs2
   clear hb2 C1;obtain ⟨z0,z1,z2,z3,z4,-,-,-,-,-⟩:=row5 HR2.out;obtain ⟨u0,u1,u2,u3,u4,-,-,-,-,-⟩:=row5 HT2.out;obtain ⟨yx0,yx1,yx2,yx3,yx4⟩:=five_of (Fx.out.keep (HB2.out.block kb hkb));have hkl2:kb<w2.heap.size:=by omega
   cases b1 with
   | false =>
     go_wp2_with fail;clear z0 z1 z2 z3 z4 u0 u1 u2 u3 u4 yx0 yx1 yx2 yx3 yx4;go_ret
     first
     | exact ⟨rfl,HB2.out⟩
     | exact ⟨rfl,Below.chain HB2.out (below_new _ _)⟩
   | true =>
     go_wp2_with fail;clear z0 z1 z2 z3 z4 u0 u1 u2 u3 u4 yx0 yx1 yx2 yx3 yx4;refine (C2.out _ HB2.out).mono ?_;rintro e w3 ⟨rfl,hb3⟩;have HB3:=hid (Below.chain HB2.out hb3);have HR3:=hid ((hb3.block _ (by (try simp only [World.size_alloc]) <;> omega)).trans HR2.out);have hs3:=hb3.size;have HT3:=hid ((hb3.block _ (by (try simp only [World.size_alloc]) <;> omega)).trans HT2.out)
     try simp only [World.size_alloc] at hs3
     clear hb3 C2;obtain ⟨z0,z1,z2,z3,z4,-,-,-,-,-⟩:=row5 HR3.out;obtain ⟨u0,u1,u2,u3,u4,-,-,-,-,-⟩:=row5 HT3.out;obtain ⟨yx0,yx1,yx2,yx3,yx4⟩:=five_of (Fx.out.keep (HB3.out.block kb hkb));have hkl3:kb<w3.heap.size:=by omega
     go_wp2_with fail;clear z0 z1 z2 z3 z4 u0 u1 u2 u3 u4 yx0 yx1 yx2 yx3 yx4;go_ret
     first
     | exact ⟨rfl,HB3.out⟩
     | exact ⟨rfl,Below.chain HB3.out (below_new _ _)⟩
set_option maxHeartbeats 2000000 in
theorem mayP_2a (t:List UInt8) (l c:Int) (kx:Int) (tx:List UInt8) (lx cx:Int) (ksx:List NM) (ax:Option Addr) (mx:Nat) (ky:Int) (ty:List UInt8) (ly cy:Int) (ksy:List NM) (ay:Option Addr) (my:Nat) (a:Option Addr) (m:Nat) (w:World) (hw:Laid w) (hh:HeldN AnyB w (.mk 7 t l c [(NM.mk kx tx lx cx ksx ax mx),(NM.mk ky ty ly cy ksy ay my)] a m)) (ht:(t:List UInt8).length≤1000000) (h9:(kx == 9)=false) :
  Calls Tryz.prog 40 #[nodeV 7 t l c (.slice a 2 m)] w fun e w'=>e=.returned (.bool (mP (NM.mk 7 t l c [(NM.mk kx tx lx cx ksx ax mx),(NM.mk ky ty ly cy ksy ay my)] a m).tr))∧Below w.heap.size w w':=by
 have hnot:∀ (x:Bool) (w:World),(Op.unary .not (.bool x)).run Tryz.prog w=.ok (.bool (!x)) w:=fun _ _=>rfl
 obtain ⟨la,lc,hv,hlc,hlm,hx⟩:=hh.kidsAt.nodes;obtain ⟨kb,ko,hla,hkb,hcl⟩:=hx 0 (by simp);obtain ⟨rfl,rfl⟩:a=la∧m=lc:=by simpa using hv
 subst hla;have hm1:2≤m:=by simpa using hlc
 unfold maxLen at hlm;have Fx:=hid (show FiveN w kb ko (NM.mk kx tx lx cx ksx ax mx) from hcl 0 (by simp));have ggx:=hid (show HeldN AnyB w (NM.mk kx tx lx cx ksx ax mx) from hh.kidsAt.get 0 (by simp));have Fy:=hid (show FiveN w kb (ko+5) (NM.mk ky ty ly cy ksy ay my) from hcl 1 (by simp));have ggy:=hid (show HeldN AnyB w (NM.mk ky ty ly cy ksy ay my) from hh.kidsAt.get 1 (by simp));clear hx hcl hv hlc;have HO:=hid (show mP (NM.mk 7 t l c [(NM.mk kx tx lx cx ksx ax mx),(NM.mk ky ty ly cy ksy ay my)] (some ⟨kb,ko,none⟩) m).tr=(nameS t && false) by
  rw [ntr_mk,mP_7,ntrs_cons,ntrs_cons,ntrs_nil];unfold paramM typeM;simp only [ntr_mk,kd_mk,h9,Bool.false_and,Bool.and_false]
 )
 rw [HO.out];clear HO;have C0:=hid (fun W (hW:Below w.heap.size w W)=>isName_any t (by omega) W (hw.range.below hW));generalize nameS t=b0 at *;clear hh hw ggx ggy;obtain ⟨yx0,yx1,yx2,yx3,yx4⟩:=five_of Fx.out;obtain ⟨yy0,yy1,yy2,yy3,yy4⟩:=five_of Fy.out;have HB0:=hid (below_new w (.cells #[.int .i64 7,.string (bs t),.int .i64 l,.int .i64 c,.slice (some ⟨kb,ko,none⟩) 2 m] 27));go_enter Tryz.func40,Tryz.ntmps40
 go_wp2_with fail;refine (C0.out _ HB0.out).mono ?_;rintro e w1 ⟨rfl,hb1⟩;have HB1:=hid (Below.chain HB0.out hb1);have HR1:=hid ((hb1.block _ (by (try simp only [World.size_alloc]) <;> omega)).trans (heap_alloc_new w _));have hs1:=hb1.size
 try simp only [World.size_alloc] at hs1
 clear hb1 C0;obtain ⟨z0,z1,z2,z3,z4,-,-,-,-,-⟩:=row5 HR1.out;obtain ⟨yx0,yx1,yx2,yx3,yx4⟩:=five_of (Fx.out.keep (HB1.out.block kb hkb));obtain ⟨yy0,yy1,yy2,yy3,yy4⟩:=five_of (Fy.out.keep (HB1.out.block kb hkb));have hkl1:kb<w1.heap.size:=by omega
 cases b0 with
 | false =>
   go_wp2_with fail;clear z0 z1 z2 z3 z4 yx0 yx1 yx2 yx3 yx4 yy0 yy1 yy2 yy3 yy4;go_ret
   first
   | exact ⟨rfl,HB1.out⟩
   | exact ⟨rfl,Below.chain HB1.out (below_new _ _)⟩
 | true =>
   go_wp2_with fail;clear z0 z1 z2 z3 z4 yx0 yx1 yx2 yx3 yx4 yy0 yy1 yy2 yy3 yy4;go_ret
   first
   | exact ⟨rfl,HB1.out⟩
   | exact ⟨rfl,Below.chain HB1.out (below_new _ _)⟩
set_option maxHeartbeats 2000000 in
theorem mayP_2b (t:List UInt8) (l c:Int) (kx:Int) (tx:List UInt8) (lx cx:Int) (ksx:List NM) (ax:Option Addr) (mx:Nat) (ky:Int) (ty:List UInt8) (ly cy:Int) (ksy:List NM) (ay:Option Addr) (my:Nat) (a:Option Addr) (m:Nat) (w:World) (hw:Laid w) (hh:HeldN AnyB w (.mk 7 t l c [(NM.mk kx tx lx cx ksx ax mx),(NM.mk ky ty ly cy ksy ay my)] a m)) (ht:(t:List UInt8).length≤1000000) (h9:(kx == 9)=true) (hk:ksx≠[]) :
  Calls Tryz.prog 40 #[nodeV 7 t l c (.slice a 2 m)] w fun e w'=>e=.returned (.bool (mP (NM.mk 7 t l c [(NM.mk kx tx lx cx ksx ax mx),(NM.mk ky ty ly cy ksy ay my)] a m).tr))∧Below w.heap.size w w':=by
 have hnot:∀ (x:Bool) (w:World),(Op.unary .not (.bool x)).run Tryz.prog w=.ok (.bool (!x)) w:=fun _ _=>rfl
 obtain ⟨la,lc,hv,hlc,hlm,hx⟩:=hh.kidsAt.nodes;obtain ⟨kb,ko,hla,hkb,hcl⟩:=hx 0 (by simp);obtain ⟨rfl,rfl⟩:a=la∧m=lc:=by simpa using hv
 subst hla;have hm1:2≤m:=by simpa using hlc
 unfold maxLen at hlm;have Fx:=hid (show FiveN w kb ko (NM.mk kx tx lx cx ksx ax mx) from hcl 0 (by simp));have ggx:=hid (show HeldN AnyB w (NM.mk kx tx lx cx ksx ax mx) from hh.kidsAt.get 0 (by simp));have Fy:=hid (show FiveN w kb (ko+5) (NM.mk ky ty ly cy ksy ay my) from hcl 1 (by simp));have ggy:=hid (show HeldN AnyB w (NM.mk ky ty ly cy ksy ay my) from hh.kidsAt.get 1 (by simp));clear hx hcl hv hlc;have HO:=hid (show mP (NM.mk 7 t l c [(NM.mk kx tx lx cx ksx ax mx),(NM.mk ky ty ly cy ksy ay my)] (some ⟨kb,ko,none⟩) m).tr=(nameS t && (typeB tx && false)) by
  have hke:(NM.trs ksx).isEmpty=false:=by cases ksx with | nil=>exact absurd rfl hk | cons z r=>rw [ntrs_cons];rfl
  rw [ntr_mk,mP_7,ntrs_cons,ntrs_cons,ntrs_nil];unfold paramM typeM;simp only [ntr_mk,kd_mk,tx_mk,Tr.kids,h9,hke,Bool.true_and,Bool.and_false,Bool.false_and]
 )
 rw [HO.out];clear HO;have C0:=hid (fun W (hW:Below w.heap.size w W)=>isName_any t (by omega) W (hw.range.below hW));have C1:=hid (fun W (hW:Below w.heap.size w W)=>isType_any tx W);generalize nameS t=b0 at *;generalize typeB tx=b1 at *;clear hh hw ggx ggy;have hk0:((ksx.length:Int) == 0)=false:=eqF (by have:=List.length_pos_iff.2 hk;omega);clear hk;obtain ⟨yx0,yx1,yx2,yx3,yx4⟩:=five_of Fx.out;obtain ⟨yy0,yy1,yy2,yy3,yy4⟩:=five_of Fy.out;have HB0:=hid (below_new w (.cells #[.int .i64 7,.string (bs t),.int .i64 l,.int .i64 c,.slice (some ⟨kb,ko,none⟩) 2 m] 27));go_enter Tryz.func40,Tryz.ntmps40
 go_wp2_with fail;refine (C0.out _ HB0.out).mono ?_;rintro e w1 ⟨rfl,hb1⟩;have HB1:=hid (Below.chain HB0.out hb1);have HR1:=hid ((hb1.block _ (by (try simp only [World.size_alloc]) <;> omega)).trans (heap_alloc_new w _));have hs1:=hb1.size
 try simp only [World.size_alloc] at hs1
 clear hb1 C0;obtain ⟨z0,z1,z2,z3,z4,-,-,-,-,-⟩:=row5 HR1.out;obtain ⟨yx0,yx1,yx2,yx3,yx4⟩:=five_of (Fx.out.keep (HB1.out.block kb hkb));obtain ⟨yy0,yy1,yy2,yy3,yy4⟩:=five_of (Fy.out.keep (HB1.out.block kb hkb));have hkl1:kb<w1.heap.size:=by omega
 cases b0 with
 | false =>
   go_wp2_with fail;clear z0 z1 z2 z3 z4 yx0 yx1 yx2 yx3 yx4 yy0 yy1 yy2 yy3 yy4;go_ret
   first
   | exact ⟨rfl,HB1.out⟩
   | exact ⟨rfl,Below.chain HB1.out (below_new _ _)⟩
 | true =>
   go_wp2_with fail;clear z0 z1 z2 z3 z4 yx0 yx1 yx2 yx3 yx4 yy0 yy1 yy2 yy3 yy4;have HA1:=hid (Below.chain HB1.out (below_new w1 (.cells #[.int .i64 kx,.string (bs tx),.int .i64 lx,.int .i64 cx,.slice ax ksx.length mx] 27)));refine (C1.out _ HA1.out).mono ?_;rintro e w2 ⟨rfl,hb2⟩;have HB2:=hid (Below.chain HA1.out hb2);have HR2:=hid ((hb2.block _ (by (try simp only [World.size_alloc]) <;> omega)).trans (alloc_row HR1.out _));have hs2:=hb2.size;have HT2:=hid ((hb2.block _ (by (try simp only [World.size_alloc]) <;> omega)).trans (heap_alloc_new w1 (.cells #[.int .i64 kx,.string (bs tx),.int .i64 lx,.int .i64 cx,.slice ax ksx.length mx] 27)))
   try simp only [World.size_alloc] at hs2
   clear hb2 C1;obtain ⟨z0,z1,z2,z3,z4,-,-,-,-,-⟩:=row5 HR2.out;obtain ⟨u0,u1,u2,u3,u4,-,-,-,-,-⟩:=row5 HT2.out;obtain ⟨yx0,yx1,yx2,yx3,yx4⟩:=five_of (Fx.out.keep (HB2.out.block kb hkb));obtain ⟨yy0,yy1,yy2,yy3,yy4⟩:=five_of (Fy.out.keep (HB2.out.block kb hkb));have hkl2:kb<w2.heap.size:=by omega
   cases b1 with
   | false =>
     go_wp2_with fail;clear z0 z1 z2 z3 z4 u0 u1 u2 u3 u4 yx0 yx1 yx2 yx3 yx4 yy0 yy1 yy2 yy3 yy4;go_ret
     first
     | exact ⟨rfl,HB2.out⟩
     | exact ⟨rfl,Below.chain HB2.out (below_new _ _)⟩
   | true =>
     go_wp2_with fail;clear z0 z1 z2 z3 z4 u0 u1 u2 u3 u4 yx0 yx1 yx2 yx3 yx4 yy0 yy1 yy2 yy3 yy4;go_ret
     first
     | exact ⟨rfl,HB2.out⟩
     | exact ⟨rfl,Below.chain HB2.out (below_new _ _)⟩
set_option maxHeartbeats 2000000 in
theorem mayP_2c (t:List UInt8) (l c:Int) (kx:Int) (tx:List UInt8) (lx cx:Int) (ksx:List NM) (ax:Option Addr) (mx:Nat) (ky:Int) (ty:List UInt8) (ly cy:Int) (ksy:List NM) (ay:Option Addr) (my:Nat) (a:Option Addr) (m:Nat) (w:World) (hw:Laid w) (hh:HeldN AnyB w (.mk 7 t l c [(NM.mk kx tx lx cx ksx ax mx),(NM.mk ky ty ly cy ksy ay my)] a m)) (ht:(t:List UInt8).length≤1000000) (h9:(kx == 9)=true) (hk:ksx=[]) (IHy:Says 38 mE (NM.mk ky ty ly cy ksy ay my)) :
  Calls Tryz.prog 40 #[nodeV 7 t l c (.slice a 2 m)] w fun e w'=>e=.returned (.bool (mP (NM.mk 7 t l c [(NM.mk kx tx lx cx ksx ax mx),(NM.mk ky ty ly cy ksy ay my)] a m).tr))∧Below w.heap.size w w':=by
 have hnot:∀ (x:Bool) (w:World),(Op.unary .not (.bool x)).run Tryz.prog w=.ok (.bool (!x)) w:=fun _ _=>rfl
 obtain ⟨la,lc,hv,hlc,hlm,hx⟩:=hh.kidsAt.nodes;obtain ⟨kb,ko,hla,hkb,hcl⟩:=hx 0 (by simp);obtain ⟨rfl,rfl⟩:a=la∧m=lc:=by simpa using hv
 subst hla;have hm1:2≤m:=by simpa using hlc
 unfold maxLen at hlm;have Fx:=hid (show FiveN w kb ko (NM.mk kx tx lx cx ksx ax mx) from hcl 0 (by simp));have ggx:=hid (show HeldN AnyB w (NM.mk kx tx lx cx ksx ax mx) from hh.kidsAt.get 0 (by simp));have Fy:=hid (show FiveN w kb (ko+5) (NM.mk ky ty ly cy ksy ay my) from hcl 1 (by simp));have ggy:=hid (show HeldN AnyB w (NM.mk ky ty ly cy ksy ay my) from hh.kidsAt.get 1 (by simp));clear hx hcl hv hlc;have HT0:=hid (show KidsAt w (.slice (some ⟨kb,ko+5,none⟩) 1 (m - 1)) [(NM.mk ky ty ly cy ksy ay my)] from hh.kidsAt.tail (x:=(NM.mk kx tx lx cx ksx ax mx)) (ks:=[(NM.mk ky ty ly cy ksy ay my)]) _ (fun _=>rfl) (fun h=>by cases h));have HO:=hid (show mP (NM.mk 7 t l c [(NM.mk kx tx lx cx ksx ax mx),(NM.mk ky ty ly cy ksy ay my)] (some ⟨kb,ko,none⟩) m).tr=(nameS t && (typeB tx && ([(NM.mk ky ty ly cy ksy ay my)]:List NM).all (fun x=>mE x.tr))) by
  rw [ntr_mk,mP_7,ntrs_cons,ntrs_cons,ntrs_nil];unfold paramM typeM;subst hk;simp only [ntr_mk,kd_mk,tx_mk,Tr.kids,h9,ntrs_nil,Bool.true_and,List.all_cons,List.all_nil,List.isEmpty_nil,Bool.and_true]
 )
 rw [HO.out];clear HO;have C0:=hid (fun W (hW:Below w.heap.size w W)=>isName_any t (by omega) W (hw.range.below hW));have C1:=hid (fun W (hW:Below w.heap.size w W)=>isType_any tx W);have C2:=hid (fun W (hW:Below w.heap.size w W)=>all_mayExpr (fun x=>mE x.tr) (.slice (some ⟨kb,ko+5,none⟩) 1 (m - 1)) ([(NM.mk ky ty ly cy ksy ay my)]:List NM) W (HT0.out.below hW) (by simp) (fun j hj W2 hW2=>by
   match j,hj with
   | 0,_=>exact IHy W2 ((hw.below hW).below hW2) ((ggy.out.below hW).below hW2)))
 generalize nameS t=b0 at *;generalize typeB tx=b1 at *;generalize ([(NM.mk ky ty ly cy ksy ay my)]:List NM).all (fun x=>mE x.tr)=b2 at *;clear hh hw ggx IHy ggy HT0;have hk0:((ksx.length:Int) == 0)=true:=eqT (by rw [hk];rfl);clear hk;obtain ⟨yx0,yx1,yx2,yx3,yx4⟩:=five_of Fx.out;obtain ⟨yy0,yy1,yy2,yy3,yy4⟩:=five_of Fy.out;have HB0:=hid (below_new w (.cells #[.int .i64 7,.string (bs t),.int .i64 l,.int .i64 c,.slice (some ⟨kb,ko,none⟩) 2 m] 27));go_enter Tryz.func40,Tryz.ntmps40
 go_wp2_with fail;refine (C0.out _ HB0.out).mono ?_;rintro e w1 ⟨rfl,hb1⟩;have HB1:=hid (Below.chain HB0.out hb1);have HR1:=hid ((hb1.block _ (by (try simp only [World.size_alloc]) <;> omega)).trans (heap_alloc_new w _));have hs1:=hb1.size
 try simp only [World.size_alloc] at hs1
 clear hb1 C0;obtain ⟨z0,z1,z2,z3,z4,-,-,-,-,-⟩:=row5 HR1.out;obtain ⟨yx0,yx1,yx2,yx3,yx4⟩:=five_of (Fx.out.keep (HB1.out.block kb hkb));obtain ⟨yy0,yy1,yy2,yy3,yy4⟩:=five_of (Fy.out.keep (HB1.out.block kb hkb));have hkl1:kb<w1.heap.size:=by omega
 cases b0 with
 | false =>
   go_wp2_with fail;clear z0 z1 z2 z3 z4 yx0 yx1 yx2 yx3 yx4 yy0 yy1 yy2 yy3 yy4;go_ret
   first
   | exact ⟨rfl,HB1.out⟩
   | exact ⟨rfl,Below.chain HB1.out (below_new _ _)⟩
 | true =>
   go_wp2_with fail;clear z0 z1 z2 z3 z4 yx0 yx1 yx2 yx3 yx4 yy0 yy1 yy2 yy3 yy4;have HA1:=hid (Below.chain HB1.out (below_new w1 (.cells #[.int .i64 kx,.string (bs tx),.int .i64 lx,.int .i64 cx,.slice ax ksx.length mx] 27)));refine (C1.out _ HA1.out).mono ?_;rintro e w2 ⟨rfl,hb2⟩;have HB2:=hid (Below.chain HA1.out hb2);have HR2:=hid ((hb2.block _ (by (try simp only [World.size_alloc]) <;> omega)).trans (alloc_row HR1.out _));have hs2:=hb2.size;have HT2:=hid ((hb2.block _ (by (try simp only [World.size_alloc]) <;> omega)).trans (heap_alloc_new w1 (.cells #[.int .i64 kx,.string (bs tx),.int .i64 lx,.int .i64 cx,.slice ax ksx.length mx] 27)))
   try simp only [World.size_alloc] at hs2
   clear hb2 C1;obtain ⟨z0,z1,z2,z3,z4,-,-,-,-,-⟩:=row5 HR2.out;obtain ⟨u0,u1,u2,u3,u4,-,-,-,-,-⟩:=row5 HT2.out;obtain ⟨yx0,yx1,yx2,yx3,yx4⟩:=five_of (Fx.out.keep (HB2.out.block kb hkb));obtain ⟨yy0,yy1,yy2,yy3,yy4⟩:=five_of (Fy.out.keep (HB2.out.block kb hkb));have hkl2:kb<w2.heap.size:=by omega
   cases b1 with
   | false =>
     go_wp2_with fail;clear z0 z1 z2 z3 z4 u0 u1 u2 u3 u4 yx0 yx1 yx2 yx3 yx4 yy0 yy1 yy2 yy3 yy4;go_ret
     first
     | exact ⟨rfl,HB2.out⟩
     | exact ⟨rfl,Below.chain HB2.out (below_new _ _)⟩
   | true =>
     go_wp2_with fail;clear z0 z1 z2 z3 z4 u0 u1 u2 u3 u4 yx0 yx1 yx2 yx3 yx4 yy0 yy1 yy2 yy3 yy4;refine (C2.out _ HB2.out).mono ?_;rintro e w3 ⟨rfl,hb3⟩;have HB3:=hid (Below.chain HB2.out hb3);have HR3:=hid ((hb3.block _ (by (try simp only [World.size_alloc]) <;> omega)).trans HR2.out);have hs3:=hb3.size;have HT3:=hid ((hb3.block _ (by (try simp only [World.size_alloc]) <;> omega)).trans HT2.out)
     try simp only [World.size_alloc] at hs3
     clear hb3 C2;obtain ⟨z0,z1,z2,z3,z4,-,-,-,-,-⟩:=row5 HR3.out;obtain ⟨u0,u1,u2,u3,u4,-,-,-,-,-⟩:=row5 HT3.out;obtain ⟨yx0,yx1,yx2,yx3,yx4⟩:=five_of (Fx.out.keep (HB3.out.block kb hkb));obtain ⟨yy0,yy1,yy2,yy3,yy4⟩:=five_of (Fy.out.keep (HB3.out.block kb hkb));have hkl3:kb<w3.heap.size:=by omega
     go_wp2_with fail;clear z0 z1 z2 z3 z4 u0 u1 u2 u3 u4 yx0 yx1 yx2 yx3 yx4 yy0 yy1 yy2 yy3 yy4;go_ret
     first
     | exact ⟨rfl,HB3.out⟩
     | exact ⟨rfl,Below.chain HB3.out (below_new _ _)⟩
set_option maxHeartbeats 2000000 in
theorem mayP_0 (t:List UInt8) (l c:Int) (ks:List NM) (a:Option Addr) (m:Nat) (w:World) (hw:Laid w) (_hh:HeldN AnyB w (.mk 7 t l c ks a m)) (ht:(t:List UInt8).length≤1000000) (hn:ks=[]) :
  Calls Tryz.prog 40 #[nodeV 7 t l c (.slice a ks.length m)] w fun e w'=>e=.returned (.bool (mP (NM.mk 7 t l c ks a m).tr))∧Below w.heap.size w w':=by
 have hnot:∀ (x:Bool) (w:World),(Op.unary .not (.bool x)).run Tryz.prog w=.ok (.bool (!x)) w:=fun _ _=>rfl
 have HO:=hid (show mP (NM.mk 7 t l c ks a m).tr=(nameS t && false) by
  rw [ntr_mk,mP_7,hn,ntrs_nil];rfl
 )
 rw [HO.out];clear HO;have C0:=hid (fun W (hW:Below w.heap.size w W)=>isName_any t (by omega) W (hw.range.below hW));generalize nameS t=b0 at *;clear _hh hw;have hn1:((ks.length:Int)<1):=by rw [hn];simp
 clear hn;have HB0:=hid (below_new w (.cells #[.int .i64 7,.string (bs t),.int .i64 l,.int .i64 c,.slice a ks.length m] 27));go_enter Tryz.func40,Tryz.ntmps40
 go_wp2_with fail;refine (C0.out _ HB0.out).mono ?_;rintro e w1 ⟨rfl,hb1⟩;have HB1:=hid (Below.chain HB0.out hb1);have HR1:=hid ((hb1.block _ (by (try simp only [World.size_alloc]) <;> omega)).trans (heap_alloc_new w _));have hs1:=hb1.size
 try simp only [World.size_alloc] at hs1
 clear hb1 C0;obtain ⟨z0,z1,z2,z3,z4,-,-,-,-,-⟩:=row5 HR1.out;cases b0 with
 | false =>
   go_wp2_with fail;clear z0 z1 z2 z3 z4;go_ret
   first
   | exact ⟨rfl,HB1.out⟩
   | exact ⟨rfl,Below.chain HB1.out (below_new _ _)⟩
 | true =>
   go_wp2_with fail;clear z0 z1 z2 z3 z4;go_ret
   first
   | exact ⟨rfl,HB1.out⟩
   | exact ⟨rfl,Below.chain HB1.out (below_new _ _)⟩
set_option maxHeartbeats 2000000 in
theorem mayP_3 (t:List UInt8) (l c:Int) (ks:List NM) (a:Option Addr) (m:Nat) (w:World) (hw:Laid w) (hh:HeldN AnyB w (.mk 7 t l c ks a m)) (ht:(t:List UInt8).length≤1000000) (hn:2<ks.length) :
  Calls Tryz.prog 40 #[nodeV 7 t l c (.slice a ks.length m)] w fun e w'=>e=.returned (.bool (mP (NM.mk 7 t l c ks a m).tr))∧Below w.heap.size w w':=by
 have hnot:∀ (x:Bool) (w:World),(Op.unary .not (.bool x)).run Tryz.prog w=.ok (.bool (!x)) w:=fun _ _=>rfl
 have HO:=hid (show mP (NM.mk 7 t l c ks a m).tr=(nameS t && false) by
  rw [ntr_mk,mP_7]
  match ks,hn with
  | _::_::_::_,_=>simp [ntrs_cons,paramM]
 )
 rw [HO.out];clear HO;have C0:=hid (fun W (hW:Below w.heap.size w W)=>isName_any t (by omega) W (hw.range.below hW));generalize nameS t=b0 at *;clear hh hw;have hn1:¬ ((ks.length:Int)<1):=by omega
 have hn2:((2:Int)<(ks.length:Int)):=by omega
 have HB0:=hid (below_new w (.cells #[.int .i64 7,.string (bs t),.int .i64 l,.int .i64 c,.slice a ks.length m] 27));go_enter Tryz.func40,Tryz.ntmps40
 go_wp2_with fail;refine (C0.out _ HB0.out).mono ?_;rintro e w1 ⟨rfl,hb1⟩;have HB1:=hid (Below.chain HB0.out hb1);have HR1:=hid ((hb1.block _ (by (try simp only [World.size_alloc]) <;> omega)).trans (heap_alloc_new w _));have hs1:=hb1.size
 try simp only [World.size_alloc] at hs1
 clear hb1 C0;obtain ⟨z0,z1,z2,z3,z4,-,-,-,-,-⟩:=row5 HR1.out;cases b0 with
 | false =>
   go_wp2_with fail;clear z0 z1 z2 z3 z4;go_ret
   first
   | exact ⟨rfl,HB1.out⟩
   | exact ⟨rfl,Below.chain HB1.out (below_new _ _)⟩
 | true =>
   go_wp2_with fail;clear z0 z1 z2 z3 z4;go_ret
   first
   | exact ⟨rfl,HB1.out⟩
   | exact ⟨rfl,Below.chain HB1.out (below_new _ _)⟩
set_option maxHeartbeats 2000000 in
theorem mayP_no (k:Int) (t:List UInt8) (l c:Int) (ks:List NM) (a:Option Addr) (m:Nat) (w:World) (_hw:Laid w) (_hh:HeldN AnyB w (.mk k t l c ks a m)) (_ht:(t:List UInt8).length≤1000000) (h:(k == 7)=false) :
  Calls Tryz.prog 40 #[nodeV k t l c (.slice a ks.length m)] w fun e w'=>e=.returned (.bool (mP (NM.mk k t l c ks a m).tr))∧Below w.heap.size w w':=by
 have hnot:∀ (x:Bool) (w:World),(Op.unary .not (.bool x)).run Tryz.prog w=.ok (.bool (!x)) w:=fun _ _=>rfl
 have HO:=hid (show mP (NM.mk k t l c ks a m).tr=false by
  rw [ntr_mk,mP_no _ _ h]
 )
 rw [HO.out];clear HO;clear _hh _hw;have hne:(k != 7)=true:=by simpa using h
 have HB0:=hid (below_new w (.cells #[.int .i64 k,.string (bs t),.int .i64 l,.int .i64 c,.slice a ks.length m] 27));go_enter Tryz.func40,Tryz.ntmps40
 go_wp2_with fail;go_ret
 first
 | exact ⟨rfl,HB0.out⟩
 | exact ⟨rfl,Below.chain HB0.out (below_new _ _)⟩
end Go.Proofs.YtfgiihpopngbkaaGreatDoor
