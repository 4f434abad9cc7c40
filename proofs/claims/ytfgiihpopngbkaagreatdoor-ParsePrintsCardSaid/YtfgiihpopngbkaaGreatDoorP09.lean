/- Lemmas and walks that the statement needs: MayO, MayP, AllBlock, AllParam. -/
import Derived.Test.YtfgiihpopngbkaaGreatDoorP07
namespace Go.Proofs.YtfgiihpopngbkaaGreatDoor
set_option maxRecDepth 100000
set_option maxHeartbeats 8000000
open Go.RowKit
open Go.World renaming size_alloc→wSz
open _root_.Array renaming getElem?_eq_some_iff→aGe
open Go renaming cell_of_row→cRo,heap_alloc_new→hAn
def sN:List (List UInt8):=[[61,61],[33,61],wIn,[43],cj]
theorem ir (s:List UInt8):sN.contains s=(opB s || s == cj):=by
 unfold sN opB;rw [Bool.eq_iff_iff];simp [or_assoc]
theorem zh (t:List UInt8) (l c:Int) (ks:List NM) (a:Option Addr) (m:Nat) (w:World) (hw:bB w) (hh:am aR w (.mk 16 t l c ks a m)) (_ht:t.length≤1000000) (_hk:ks.length≤1000000) (htn:t=cj) (hn:ks.length=1) (IH:∀ j (hj:j<ks.length),dO 38 mE ks[j]) :
  Calls Tryz.prog 38 #[aB 16 t l c (.slice a ks.length m)] w fun e w'=>e=.returned (.bool (mE (NM.mk 16 t l c ks a m).tr))∧Below w.heap.size w w':=by
 have hd:decide (ks.length=if t=cj then 1 else 2)=true:=by rw [if_pos htn];exact decide_eq_true hn
 rw [aq,kE,cK,eO,← ir,hd];have q1:(t == [110,111,116])=true:=by rw [htn];rfl
 have q2:((ks.length:Int) == 1)=true:=eqT (by omega);obtain ⟨W0,hW0,hb0,hr0,hrs⟩:∃ W,Hid (W=(w.alloc (.cells #[.int .i64 16,.string (bs t),.int .i64 l,.int .i64 c,.slice a ks.length m] 27)).alloc (.cells #[.string ⟨#[61,61]⟩,.string ⟨#[33,61]⟩,.string ⟨#[105,110]⟩,.string ⟨#[43]⟩,.string ⟨#[110,111,116]⟩] 9))∧Below w.heap.size w W∧W.heap[w.heap.size]? = some (.cells #[.int .i64 16,.string (bs t),.int .i64 l,.int .i64 c,.slice a ks.length m] 27 (0,0))∧W.heap[w.heap.size+1]? = some (.cells (cb sN).toArray 9 (0,0)) :=
  ⟨_,hid rfl,zdy (ag w _) (ag _ _),bz (hAn w _) _,by have:=hAn (w.alloc (.cells #[.int .i64 16,.string (bs t),.int .i64 l,.int .i64 c,.slice a ks.length m] 27)) (.cells #[.string ⟨#[61,61]⟩,.string ⟨#[33,61]⟩,.string ⟨#[105,110]⟩,.string ⟨#[43]⟩,.string ⟨#[110,111,116]⟩] 9);rw [wSz] at this;exact this⟩
 have hlt0:w.heap.size<W0.heap.size:=(aGe.1 hr0).1;have HC:=hid (io sN t W0 (w.heap.size+1) 5 9 hrs (by decide));have HA:=hid (gu (fun x=>mE x.tr) _ ks _ (hh.kidsAt.below hb0) (by omega) (fun j hj W hW=>IH j hj W ((hw.below hb0).below hW) ((hh.kidsAt.below hb0).get j hj |>.below hW)));have HB:=hid hb0;obtain ⟨z0,z1,z2,z3,z4⟩:=r5 hr0;generalize sN.contains t=b1 at *;generalize ks.all (fun x=>mE x.tr)=b2 at *;clear hh hw IH hd htn hn hrs hr0 hb0;cases b1 with
 | false =>
   go_enter Tryz.func38,Tryz.ntmps38
   go_wp2_with fail;rw [← hW0.out];clear hW0;refine HC.out.mono ?_;rintro e w1 ⟨rfl,rfl⟩;go_wp2_with fail;go_ret;exact ⟨rfl,HB.out⟩
 | true =>
   go_enter Tryz.func38,Tryz.ntmps38
   go_wp2_with fail;rw [← hW0.out];clear hW0;refine HC.out.mono ?_;rintro e w1 ⟨rfl,rfl⟩;go_wp2_with fail;refine HA.out.mono ?_;rintro e w2 ⟨rfl,hb2⟩;go_wp2_with fail;go_ret;exact ⟨by simp,zdy HB.out hb2⟩
theorem yK (t:List UInt8) (l c:Int) (ks:List NM) (a:Option Addr) (m:Nat) (w:World) (hw:bB w) (hh:am aR w (.mk 16 t l c ks a m)) (_ht:t.length≤1000000) (_hk:ks.length≤1000000) (htn:t≠cj) (hn:ks.length=2) (IH:∀ j (hj:j<ks.length),dO 38 mE ks[j]) :
  Calls Tryz.prog 38 #[aB 16 t l c (.slice a ks.length m)] w fun e w'=>e=.returned (.bool (mE (NM.mk 16 t l c ks a m).tr))∧Below w.heap.size w w':=by
 have hd:decide (ks.length=if t=cj then 1 else 2)=true:=by rw [if_neg htn];exact decide_eq_true hn
 rw [aq,kE,cK,eO,← ir,hd];have q1:(t == [110,111,116])=false:=by simpa [cj] using htn
 have q2:((ks.length:Int) == 2)=true:=eqT (by omega);obtain ⟨W0,hW0,hb0,hr0,hrs⟩:∃ W,Hid (W=(w.alloc (.cells #[.int .i64 16,.string (bs t),.int .i64 l,.int .i64 c,.slice a ks.length m] 27)).alloc (.cells #[.string ⟨#[61,61]⟩,.string ⟨#[33,61]⟩,.string ⟨#[105,110]⟩,.string ⟨#[43]⟩,.string ⟨#[110,111,116]⟩] 9))∧Below w.heap.size w W∧W.heap[w.heap.size]? = some (.cells #[.int .i64 16,.string (bs t),.int .i64 l,.int .i64 c,.slice a ks.length m] 27 (0,0))∧W.heap[w.heap.size+1]? = some (.cells (cb sN).toArray 9 (0,0)) :=
  ⟨_,hid rfl,zdy (ag w _) (ag _ _),bz (hAn w _) _,by have:=hAn (w.alloc (.cells #[.int .i64 16,.string (bs t),.int .i64 l,.int .i64 c,.slice a ks.length m] 27)) (.cells #[.string ⟨#[61,61]⟩,.string ⟨#[33,61]⟩,.string ⟨#[105,110]⟩,.string ⟨#[43]⟩,.string ⟨#[110,111,116]⟩] 9);rw [wSz] at this;exact this⟩
 have hlt0:w.heap.size<W0.heap.size:=(aGe.1 hr0).1;have HC:=hid (io sN t W0 (w.heap.size+1) 5 9 hrs (by decide));have HA:=hid (gu (fun x=>mE x.tr) _ ks _ (hh.kidsAt.below hb0) (by omega) (fun j hj W hW=>IH j hj W ((hw.below hb0).below hW) ((hh.kidsAt.below hb0).get j hj |>.below hW)));have HB:=hid hb0;obtain ⟨z0,z1,z2,z3,z4⟩:=r5 hr0;generalize sN.contains t=b1 at *;generalize ks.all (fun x=>mE x.tr)=b2 at *;clear hh hw IH hd htn hn hrs hr0 hb0;cases b1 with
 | false =>
   go_enter Tryz.func38,Tryz.ntmps38
   go_wp2_with fail;rw [← hW0.out];clear hW0;refine HC.out.mono ?_;rintro e w1 ⟨rfl,rfl⟩;go_wp2_with fail;go_ret;exact ⟨rfl,HB.out⟩
 | true =>
   go_enter Tryz.func38,Tryz.ntmps38
   go_wp2_with fail;rw [← hW0.out];clear hW0;refine HC.out.mono ?_;rintro e w1 ⟨rfl,rfl⟩;go_wp2_with fail;refine HA.out.mono ?_;rintro e w2 ⟨rfl,hb2⟩;go_wp2_with fail;go_ret;exact ⟨by simp,zdy HB.out hb2⟩
theorem vW (t:List UInt8) (l c:Int) (ks:List NM) (a:Option Addr) (m:Nat) (w:World) (_hw:bB w) (_hh:am aR w (.mk 16 t l c ks a m)) (_ht:t.length≤1000000) (_hk:ks.length≤1000000) (htn:t=cj) (hn:ks.length≠1) (_IH:∀ j (hj:j<ks.length),dO 38 mE ks[j]) :
  Calls Tryz.prog 38 #[aB 16 t l c (.slice a ks.length m)] w fun e w'=>e=.returned (.bool (mE (NM.mk 16 t l c ks a m).tr))∧Below w.heap.size w w':=by
 have hd:decide (ks.length=if t=cj then 1 else 2)=false:=by rw [if_pos htn];exact decide_eq_false hn
 rw [aq,kE,cK,eO,← ir,hd];have q1:(t == [110,111,116])=true:=by rw [htn];rfl
 have q2:((ks.length:Int) == 1)=false:=eqF (by omega);clear _hh _hw _IH hd htn hn;go_enter Tryz.func38,Tryz.ntmps38
 go_wp2_with fail;go_ret
 first
  | exact ⟨rfl,ag w _⟩
  | exact ⟨rfl,zdy (ag w _) (ag _ _)⟩
theorem xp (t:List UInt8) (l c:Int) (ks:List NM) (a:Option Addr) (m:Nat) (w:World) (_hw:bB w) (_hh:am aR w (.mk 16 t l c ks a m)) (_ht:t.length≤1000000) (_hk:ks.length≤1000000) (htn:t≠cj) (hn:ks.length≠2) (_IH:∀ j (hj:j<ks.length),dO 38 mE ks[j]) :
  Calls Tryz.prog 38 #[aB 16 t l c (.slice a ks.length m)] w fun e w'=>e=.returned (.bool (mE (NM.mk 16 t l c ks a m).tr))∧Below w.heap.size w w':=by
 have hd:decide (ks.length=if t=cj then 1 else 2)=false:=by rw [if_neg htn];exact decide_eq_false hn
 rw [aq,kE,cK,eO,← ir,hd];have q1:(t == [110,111,116])=false:=by simpa [cj] using htn
 have q2:((ks.length:Int) == 2)=false:=eqF (by omega);clear _hh _hw _IH hd htn hn;go_enter Tryz.func38,Tryz.ntmps38
 go_wp2_with fail;go_ret
 first
  | exact ⟨rfl,ag w _⟩
  | exact ⟨rfl,zdy (ag w _) (ag _ _)⟩
theorem ym (w:World) (a:Option Addr) (c:Nat) (hc:c≤maxLen) (h:a=none→c=0):cn w (.slice a 0 c) []:=⟨⟨rfl,a,c,rfl,Nat.zero_le _,hc,h,fun h=>absurd rfl h⟩,fF⟩
theorem zaM (t:List UInt8) (l c:Int) (kx:Int) (tx:List UInt8) (lx cx:Int) (ksx:List NM) (ax:Option Addr) (mx:Nat) (a:Option Addr) (m:Nat) (w:World) (hw:bB w) (hh:am aR w (.mk 7 t l c [(NM.mk kx tx lx cx ksx ax mx)] a m)) (ht:(t:List UInt8).length≤1000000) (h9:(kx == 9)=false) :
  Calls Tryz.prog 40 #[aB 7 t l c (.slice a 1 m)] w fun e w'=>e=.returned (.bool (mP (NM.mk 7 t l c [(NM.mk kx tx lx cx ksx ax mx)] a m).tr))∧Below w.heap.size w w':=by
 have bC:=nb;obtain ⟨kb,ko,rfl,bk,hm1,hlm,Fx,ggx⟩:=fp hh;have HO:=hid (show mP (NM.mk 7 t l c [(NM.mk kx tx lx cx ksx ax mx)] (some ⟨kb,ko,none⟩) m).tr=(aM t && false) by
  rw [aq,jl,ai,ar];unfold eT f5;simp only [aq,bX,h9,Bool.false_and,Bool.and_false]
 )
 rw [HO.out];clear HO;have C0:=hid (fun W (hW:Below w.heap.size w W)=>cq t (by omega) W (hw.range.below hW));generalize aM t=b0 at *;clear hh hw ggx;obtain ⟨yx0,yx1,yx2,yx3,yx4⟩:=aj Fx.out;have HB0:=hid (ag w (.cells #[.int .i64 7,.string (bs t),.int .i64 l,.int .i64 c,.slice (some ⟨kb,ko,none⟩) 1 m] 27));go_enter Tryz.func40,Tryz.ntmps40
 go_wp2_with fail;refine (C0.out _ HB0.out).mono ?_;rintro e w1 ⟨rfl,hb1⟩;have HB1:=bc HB0 hb1;have HR1:=rk0 hb1;have hs1:=hb1.size
 try simp only [wSz] at hs1
 clear hb1 C0;obtain ⟨z0,z1,z2,z3,z4⟩:=r5 HR1.out;obtain ⟨yx0,yx1,yx2,yx3,yx4⟩:=aj (Fx.out.keep (HB1.out.block kb bk));have hkl1:kb<w1.heap.size:=by omega
 cases b0 with
 | false =>
   go_wp2_with fail;clear z0 z1 z2 z3 z4 yx0 yx1 yx2 yx3 yx4;go_ret
   first
   | exact ⟨rfl,HB1.out⟩
   | exact ⟨rfl,zdy HB1.out (ag _ _)⟩
 | true =>
   go_wp2_with fail;clear z0 z1 z2 z3 z4 yx0 yx1 yx2 yx3 yx4;go_ret
   first
   | exact ⟨rfl,HB1.out⟩
   | exact ⟨rfl,zdy HB1.out (ag _ _)⟩
theorem zbn (t:List UInt8) (l c:Int) (kx:Int) (tx:List UInt8) (lx cx:Int) (ksx:List NM) (ax:Option Addr) (mx:Nat) (a:Option Addr) (m:Nat) (w:World) (hw:bB w) (hh:am aR w (.mk 7 t l c [(NM.mk kx tx lx cx ksx ax mx)] a m)) (ht:(t:List UInt8).length≤1000000) (h9:(kx == 9)=true) (hk:ksx≠[]) :
  Calls Tryz.prog 40 #[aB 7 t l c (.slice a 1 m)] w fun e w'=>e=.returned (.bool (mP (NM.mk 7 t l c [(NM.mk kx tx lx cx ksx ax mx)] a m).tr))∧Below w.heap.size w w':=by
 have bC:=nb;obtain ⟨kb,ko,rfl,bk,hm1,hlm,Fx,ggx⟩:=fp hh;have HO:=hid (show mP (NM.mk 7 t l c [(NM.mk kx tx lx cx ksx ax mx)] (some ⟨kb,ko,none⟩) m).tr=(aM t && (cY tx && false)) by
  have hke:(NM.trs ksx).isEmpty=false:=by cases ksx with | nil=>exact absurd rfl hk | cons z r=>rw [ai];rfl
  rw [aq,jl,ai,ar];unfold eT f5;simp only [aq,bX,jN,Tr.kids,h9,hke,Bool.true_and,Bool.and_false]
 )
 rw [HO.out];clear HO;have C0:=hid (fun W (hW:Below w.heap.size w W)=>cq t (by omega) W (hw.range.below hW));have C1:=hid (fun W (hW:Below w.heap.size w W)=>gR tx W);generalize aM t=b0 at *;generalize cY tx=b1 at *;clear hh hw ggx;have hk0:((ksx.length:Int) == 0)=false:=eqF (by have:=List.length_pos_iff.2 hk;omega);clear hk;obtain ⟨yx0,yx1,yx2,yx3,yx4⟩:=aj Fx.out;have HB0:=hid (ag w (.cells #[.int .i64 7,.string (bs t),.int .i64 l,.int .i64 c,.slice (some ⟨kb,ko,none⟩) 1 m] 27));go_enter Tryz.func40,Tryz.ntmps40
 go_wp2_with fail;refine (C0.out _ HB0.out).mono ?_;rintro e w1 ⟨rfl,hb1⟩;have HB1:=bc HB0 hb1;have HR1:=rk0 hb1;have hs1:=hb1.size
 try simp only [wSz] at hs1
 clear hb1 C0;obtain ⟨z0,z1,z2,z3,z4⟩:=r5 HR1.out;obtain ⟨yx0,yx1,yx2,yx3,yx4⟩:=aj (Fx.out.keep (HB1.out.block kb bk));have hkl1:kb<w1.heap.size:=by omega
 cases b0 with
 | false =>
   go_wp2_with fail;clear z0 z1 z2 z3 z4 yx0 yx1 yx2 yx3 yx4;go_ret
   first
   | exact ⟨rfl,HB1.out⟩
   | exact ⟨rfl,zdy HB1.out (ag _ _)⟩
 | true =>
   go_wp2_with fail;clear z0 z1 z2 z3 z4 yx0 yx1 yx2 yx3 yx4;have HA1:=hid (zdy HB1.out (ag w1 (.cells #[.int .i64 kx,.string (bs tx),.int .i64 lx,.int .i64 cx,.slice ax ksx.length mx] 27)));refine (C1.out _ HA1.out).mono ?_;rintro e w2 ⟨rfl,hb2⟩;have HB2:=bc HA1 hb2;have HR2:=hid ((hb2.block _ (by (try simp only [wSz]) <;> omega)).trans (bz HR1.out _));have hs2:=hb2.size;have HT2:=hid ((hb2.block _ (by (try simp only [wSz]) <;> omega)).trans (hAn w1 (.cells #[.int .i64 kx,.string (bs tx),.int .i64 lx,.int .i64 cx,.slice ax ksx.length mx] 27)))
   try simp only [wSz] at hs2
   clear hb2 C1;obtain ⟨z0,z1,z2,z3,z4⟩:=r5 HR2.out;obtain ⟨u0,u1,u2,u3,u4⟩:=r5 HT2.out;obtain ⟨yx0,yx1,yx2,yx3,yx4⟩:=aj (Fx.out.keep (HB2.out.block kb bk));have hkl2:kb<w2.heap.size:=by omega
   cases b1 with
   | false =>
     go_wp2_with fail;clear z0 z1 z2 z3 z4 u0 u1 u2 u3 u4 yx0 yx1 yx2 yx3 yx4;go_ret
     first
     | exact ⟨rfl,HB2.out⟩
     | exact ⟨rfl,zdy HB2.out (ag _ _)⟩
   | true =>
     go_wp2_with fail;clear z0 z1 z2 z3 z4 u0 u1 u2 u3 u4 yx0 yx1 yx2 yx3 yx4;go_ret
     first
     | exact ⟨rfl,HB2.out⟩
     | exact ⟨rfl,zdy HB2.out (ag _ _)⟩
theorem zaR (t:List UInt8) (l c:Int) (kx:Int) (tx:List UInt8) (lx cx:Int) (ksx:List NM) (ax:Option Addr) (mx:Nat) (a:Option Addr) (m:Nat) (w:World) (hw:bB w) (hh:am aR w (.mk 7 t l c [(NM.mk kx tx lx cx ksx ax mx)] a m)) (ht:(t:List UInt8).length≤1000000) (h9:(kx == 9)=true) (hk:ksx=[]) (hm:m=1) :
  Calls Tryz.prog 40 #[aB 7 t l c (.slice a 1 m)] w fun e w'=>e=.returned (.bool (mP (NM.mk 7 t l c [(NM.mk kx tx lx cx ksx ax mx)] a m).tr))∧Below w.heap.size w w':=by
 have bC:=nb;obtain ⟨kb,ko,rfl,bk,hm1,hlm,Fx,ggx⟩:=fp hh;have HT0:=hid (ym w (some ⟨kb,ko,none⟩) 0 (by omega) (fun h=>by cases h));subst hm;have HO:=hid (show mP (NM.mk 7 t l c [(NM.mk kx tx lx cx ksx ax mx)] (some ⟨kb,ko,none⟩) 1).tr=(aM t && (cY tx && ([]:List NM).all (fun x=>mE x.tr))) by
  rw [aq,jl,ai,ar];unfold eT f5;subst hk;simp only [aq,bX,jN,Tr.kids,h9,ar,Bool.true_and,List.all_nil,List.isEmpty_nil,Bool.and_true]
 )
 rw [HO.out];clear HO;have C0:=hid (fun W (hW:Below w.heap.size w W)=>cq t (by omega) W (hw.range.below hW));have C1:=hid (fun W (hW:Below w.heap.size w W)=>gR tx W);have C2:=hid (fun W (hW:Below w.heap.size w W)=>gu (fun x=>mE x.tr) (.slice (some ⟨kb,ko,none⟩) 0 0) ([]:List NM) W (HT0.out.below hW) (by simp) (fun j hj W2 hW2=>by simp at hj));generalize aM t=b0 at *;generalize cY tx=b1 at *;generalize ([]:List NM).all (fun x=>mE x.tr)=b2 at *;clear hh hw ggx HT0;have hk0:((ksx.length:Int) == 0)=true:=eqT (by rw [hk];rfl);clear hk;obtain ⟨yx0,yx1,yx2,yx3,yx4⟩:=aj Fx.out;have HB0:=hid (ag w (.cells #[.int .i64 7,.string (bs t),.int .i64 l,.int .i64 c,.slice (some ⟨kb,ko,none⟩) 1 1] 27));go_enter Tryz.func40,Tryz.ntmps40
 go_wp2_with fail;refine (C0.out _ HB0.out).mono ?_;rintro e w1 ⟨rfl,hb1⟩;have HB1:=bc HB0 hb1;have HR1:=rk0 hb1;have hs1:=hb1.size
 try simp only [wSz] at hs1
 clear hb1 C0;obtain ⟨z0,z1,z2,z3,z4⟩:=r5 HR1.out;obtain ⟨yx0,yx1,yx2,yx3,yx4⟩:=aj (Fx.out.keep (HB1.out.block kb bk));have hkl1:kb<w1.heap.size:=by omega
 cases b0 with
 | false =>
   go_wp2_with fail;clear z0 z1 z2 z3 z4 yx0 yx1 yx2 yx3 yx4;go_ret
   first
   | exact ⟨rfl,HB1.out⟩
   | exact ⟨rfl,zdy HB1.out (ag _ _)⟩
 | true =>
   go_wp2_with fail;clear z0 z1 z2 z3 z4 yx0 yx1 yx2 yx3 yx4;have HA1:=hid (zdy HB1.out (ag w1 (.cells #[.int .i64 kx,.string (bs tx),.int .i64 lx,.int .i64 cx,.slice ax ksx.length mx] 27)));refine (C1.out _ HA1.out).mono ?_;rintro e w2 ⟨rfl,hb2⟩;have HB2:=bc HA1 hb2;have HR2:=hid ((hb2.block _ (by (try simp only [wSz]) <;> omega)).trans (bz HR1.out _));have hs2:=hb2.size;have HT2:=hid ((hb2.block _ (by (try simp only [wSz]) <;> omega)).trans (hAn w1 (.cells #[.int .i64 kx,.string (bs tx),.int .i64 lx,.int .i64 cx,.slice ax ksx.length mx] 27)))
   try simp only [wSz] at hs2
   clear hb2 C1;obtain ⟨z0,z1,z2,z3,z4⟩:=r5 HR2.out;obtain ⟨u0,u1,u2,u3,u4⟩:=r5 HT2.out;obtain ⟨yx0,yx1,yx2,yx3,yx4⟩:=aj (Fx.out.keep (HB2.out.block kb bk));have hkl2:kb<w2.heap.size:=by omega
   cases b1 with
   | false =>
     go_wp2_with fail;clear z0 z1 z2 z3 z4 u0 u1 u2 u3 u4 yx0 yx1 yx2 yx3 yx4;go_ret
     first
     | exact ⟨rfl,HB2.out⟩
     | exact ⟨rfl,zdy HB2.out (ag _ _)⟩
   | true =>
     go_wp2_with fail;clear z0 z1 z2 z3 z4 u0 u1 u2 u3 u4 yx0 yx1 yx2 yx3 yx4;refine (C2.out _ HB2.out).mono ?_;rintro e w3 ⟨rfl,hb3⟩;have HB3:=bc HB2 hb3;have HR3:=rk HR2 hb3;have hs3:=hb3.size;have HT3:=rk HT2 hb3
     try simp only [wSz] at hs3
     clear hb3 C2;obtain ⟨z0,z1,z2,z3,z4⟩:=r5 HR3.out;obtain ⟨u0,u1,u2,u3,u4⟩:=r5 HT3.out;obtain ⟨yx0,yx1,yx2,yx3,yx4⟩:=aj (Fx.out.keep (HB3.out.block kb bk));have hkl3:kb<w3.heap.size:=by omega
     go_wp2_with fail;clear z0 z1 z2 z3 z4 u0 u1 u2 u3 u4 yx0 yx1 yx2 yx3 yx4;go_ret
     first
     | exact ⟨rfl,HB3.out⟩
     | exact ⟨rfl,zdy HB3.out (ag _ _)⟩
theorem zaZ (t:List UInt8) (l c:Int) (kx:Int) (tx:List UInt8) (lx cx:Int) (ksx:List NM) (ax:Option Addr) (mx:Nat) (a:Option Addr) (m:Nat) (w:World) (hw:bB w) (hh:am aR w (.mk 7 t l c [(NM.mk kx tx lx cx ksx ax mx)] a m)) (ht:(t:List UInt8).length≤1000000) (h9:(kx == 9)=true) (hk:ksx=[]) (hm:1<m) :
  Calls Tryz.prog 40 #[aB 7 t l c (.slice a 1 m)] w fun e w'=>e=.returned (.bool (mP (NM.mk 7 t l c [(NM.mk kx tx lx cx ksx ax mx)] a m).tr))∧Below w.heap.size w w':=by
 have bC:=nb;obtain ⟨kb,ko,rfl,bk,hm1,hlm,Fx,ggx⟩:=fp hh;have HT0:=hid (show cn w (.slice (some ⟨kb,ko+5,none⟩) 0 (m - 1)) [] from hh.kidsAt.tail (x:=(NM.mk kx tx lx cx ksx ax mx)) (ks:=[]) _ (fun _=>rfl) (fun h=>by cases h));have HO:=hid (show mP (NM.mk 7 t l c [(NM.mk kx tx lx cx ksx ax mx)] (some ⟨kb,ko,none⟩) m).tr=(aM t && (cY tx && ([]:List NM).all (fun x=>mE x.tr))) by
  rw [aq,jl,ai,ar];unfold eT f5;subst hk;simp only [aq,bX,jN,Tr.kids,h9,ar,Bool.true_and,List.all_nil,List.isEmpty_nil,Bool.and_true]
 )
 rw [HO.out];clear HO;have C0:=hid (fun W (hW:Below w.heap.size w W)=>cq t (by omega) W (hw.range.below hW));have C1:=hid (fun W (hW:Below w.heap.size w W)=>gR tx W);have C2:=hid (fun W (hW:Below w.heap.size w W)=>gu (fun x=>mE x.tr) (.slice (some ⟨kb,ko+5,none⟩) 0 (m - 1)) ([]:List NM) W (HT0.out.below hW) (by simp) (fun j hj W2 hW2=>by simp at hj));generalize aM t=b0 at *;generalize cY tx=b1 at *;generalize ([]:List NM).all (fun x=>mE x.tr)=b2 at *;clear hh hw ggx HT0;have hk0:((ksx.length:Int) == 0)=true:=eqT (by rw [hk];rfl);clear hk;obtain ⟨yx0,yx1,yx2,yx3,yx4⟩:=aj Fx.out;have HB0:=hid (ag w (.cells #[.int .i64 7,.string (bs t),.int .i64 l,.int .i64 c,.slice (some ⟨kb,ko,none⟩) 1 m] 27));go_enter Tryz.func40,Tryz.ntmps40
 go_wp2_with fail;refine (C0.out _ HB0.out).mono ?_;rintro e w1 ⟨rfl,hb1⟩;have HB1:=bc HB0 hb1;have HR1:=rk0 hb1;have hs1:=hb1.size
 try simp only [wSz] at hs1
 clear hb1 C0;obtain ⟨z0,z1,z2,z3,z4⟩:=r5 HR1.out;obtain ⟨yx0,yx1,yx2,yx3,yx4⟩:=aj (Fx.out.keep (HB1.out.block kb bk));have hkl1:kb<w1.heap.size:=by omega
 cases b0 with
 | false =>
   go_wp2_with fail;clear z0 z1 z2 z3 z4 yx0 yx1 yx2 yx3 yx4;go_ret
   first
   | exact ⟨rfl,HB1.out⟩
   | exact ⟨rfl,zdy HB1.out (ag _ _)⟩
 | true =>
   go_wp2_with fail;clear z0 z1 z2 z3 z4 yx0 yx1 yx2 yx3 yx4;have HA1:=hid (zdy HB1.out (ag w1 (.cells #[.int .i64 kx,.string (bs tx),.int .i64 lx,.int .i64 cx,.slice ax ksx.length mx] 27)));refine (C1.out _ HA1.out).mono ?_;rintro e w2 ⟨rfl,hb2⟩;have HB2:=bc HA1 hb2;have HR2:=hid ((hb2.block _ (by (try simp only [wSz]) <;> omega)).trans (bz HR1.out _));have hs2:=hb2.size;have HT2:=hid ((hb2.block _ (by (try simp only [wSz]) <;> omega)).trans (hAn w1 (.cells #[.int .i64 kx,.string (bs tx),.int .i64 lx,.int .i64 cx,.slice ax ksx.length mx] 27)))
   try simp only [wSz] at hs2
   clear hb2 C1;obtain ⟨z0,z1,z2,z3,z4⟩:=r5 HR2.out;obtain ⟨u0,u1,u2,u3,u4⟩:=r5 HT2.out;obtain ⟨yx0,yx1,yx2,yx3,yx4⟩:=aj (Fx.out.keep (HB2.out.block kb bk));have hkl2:kb<w2.heap.size:=by omega
   cases b1 with
   | false =>
     go_wp2_with fail;clear z0 z1 z2 z3 z4 u0 u1 u2 u3 u4 yx0 yx1 yx2 yx3 yx4;go_ret
     first
     | exact ⟨rfl,HB2.out⟩
     | exact ⟨rfl,zdy HB2.out (ag _ _)⟩
   | true =>
     go_wp2_with fail;clear z0 z1 z2 z3 z4 u0 u1 u2 u3 u4 yx0 yx1 yx2 yx3 yx4;refine (C2.out _ HB2.out).mono ?_;rintro e w3 ⟨rfl,hb3⟩;have HB3:=bc HB2 hb3;have HR3:=rk HR2 hb3;have hs3:=hb3.size;have HT3:=rk HT2 hb3
     try simp only [wSz] at hs3
     clear hb3 C2;obtain ⟨z0,z1,z2,z3,z4⟩:=r5 HR3.out;obtain ⟨u0,u1,u2,u3,u4⟩:=r5 HT3.out;obtain ⟨yx0,yx1,yx2,yx3,yx4⟩:=aj (Fx.out.keep (HB3.out.block kb bk));have hkl3:kb<w3.heap.size:=by omega
     go_wp2_with fail;clear z0 z1 z2 z3 z4 u0 u1 u2 u3 u4 yx0 yx1 yx2 yx3 yx4;go_ret
     first
     | exact ⟨rfl,HB3.out⟩
     | exact ⟨rfl,zdy HB3.out (ag _ _)⟩
theorem za2 (t:List UInt8) (l c:Int) (kx:Int) (tx:List UInt8) (lx cx:Int) (ksx:List NM) (ax:Option Addr) (mx:Nat) (ky:Int) (ty:List UInt8) (ly cy:Int) (ksy:List NM) (ay:Option Addr) (my:Nat) (a:Option Addr) (m:Nat) (w:World) (hw:bB w) (hh:am aR w (.mk 7 t l c [(NM.mk kx tx lx cx ksx ax mx),(NM.mk ky ty ly cy ksy ay my)] a m)) (ht:(t:List UInt8).length≤1000000) (h9:(kx == 9)=false) :
  Calls Tryz.prog 40 #[aB 7 t l c (.slice a 2 m)] w fun e w'=>e=.returned (.bool (mP (NM.mk 7 t l c [(NM.mk kx tx lx cx ksx ax mx),(NM.mk ky ty ly cy ksy ay my)] a m).tr))∧Below w.heap.size w w':=by
 have bC:=nb;obtain ⟨kb,ko,rfl,bk,hm1,hlm,Fx,ggx,Fy,ggy⟩:=iM hh;have HO:=hid (show mP (NM.mk 7 t l c [(NM.mk kx tx lx cx ksx ax mx),(NM.mk ky ty ly cy ksy ay my)] (some ⟨kb,ko,none⟩) m).tr=(aM t && false) by
  rw [aq,jl,ai,ai,ar];unfold eT f5;simp only [aq,bX,h9,Bool.false_and,Bool.and_false]
 )
 rw [HO.out];clear HO;have C0:=hid (fun W (hW:Below w.heap.size w W)=>cq t (by omega) W (hw.range.below hW));generalize aM t=b0 at *;clear hh hw ggx ggy;obtain ⟨yx0,yx1,yx2,yx3,yx4⟩:=aj Fx.out;obtain ⟨yy0,yy1,yy2,yy3,yy4⟩:=aj Fy.out;have HB0:=hid (ag w (.cells #[.int .i64 7,.string (bs t),.int .i64 l,.int .i64 c,.slice (some ⟨kb,ko,none⟩) 2 m] 27));go_enter Tryz.func40,Tryz.ntmps40
 go_wp2_with fail;refine (C0.out _ HB0.out).mono ?_;rintro e w1 ⟨rfl,hb1⟩;have HB1:=bc HB0 hb1;have HR1:=rk0 hb1;have hs1:=hb1.size
 try simp only [wSz] at hs1
 clear hb1 C0;obtain ⟨z0,z1,z2,z3,z4⟩:=r5 HR1.out;obtain ⟨yx0,yx1,yx2,yx3,yx4⟩:=aj (Fx.out.keep (HB1.out.block kb bk));obtain ⟨yy0,yy1,yy2,yy3,yy4⟩:=aj (Fy.out.keep (HB1.out.block kb bk));have hkl1:kb<w1.heap.size:=by omega
 cases b0 with
 | false =>
   go_wp2_with fail;clear z0 z1 z2 z3 z4 yx0 yx1 yx2 yx3 yx4 yy0 yy1 yy2 yy3 yy4;go_ret
   first
   | exact ⟨rfl,HB1.out⟩
   | exact ⟨rfl,zdy HB1.out (ag _ _)⟩
 | true =>
   go_wp2_with fail;clear z0 z1 z2 z3 z4 yx0 yx1 yx2 yx3 yx4 yy0 yy1 yy2 yy3 yy4;go_ret
   first
   | exact ⟨rfl,HB1.out⟩
   | exact ⟨rfl,zdy HB1.out (ag _ _)⟩
theorem zac (t:List UInt8) (l c:Int) (kx:Int) (tx:List UInt8) (lx cx:Int) (ksx:List NM) (ax:Option Addr) (mx:Nat) (ky:Int) (ty:List UInt8) (ly cy:Int) (ksy:List NM) (ay:Option Addr) (my:Nat) (a:Option Addr) (m:Nat) (w:World) (hw:bB w) (hh:am aR w (.mk 7 t l c [(NM.mk kx tx lx cx ksx ax mx),(NM.mk ky ty ly cy ksy ay my)] a m)) (ht:(t:List UInt8).length≤1000000) (h9:(kx == 9)=true) (hk:ksx≠[]) :
  Calls Tryz.prog 40 #[aB 7 t l c (.slice a 2 m)] w fun e w'=>e=.returned (.bool (mP (NM.mk 7 t l c [(NM.mk kx tx lx cx ksx ax mx),(NM.mk ky ty ly cy ksy ay my)] a m).tr))∧Below w.heap.size w w':=by
 have bC:=nb;obtain ⟨kb,ko,rfl,bk,hm1,hlm,Fx,ggx,Fy,ggy⟩:=iM hh;have HO:=hid (show mP (NM.mk 7 t l c [(NM.mk kx tx lx cx ksx ax mx),(NM.mk ky ty ly cy ksy ay my)] (some ⟨kb,ko,none⟩) m).tr=(aM t && (cY tx && false)) by
  have hke:(NM.trs ksx).isEmpty=false:=by cases ksx with | nil=>exact absurd rfl hk | cons z r=>rw [ai];rfl
  rw [aq,jl,ai,ai,ar];unfold eT f5;simp only [aq,bX,jN,Tr.kids,h9,hke,Bool.true_and,Bool.and_false,Bool.false_and]
 )
 rw [HO.out];clear HO;have C0:=hid (fun W (hW:Below w.heap.size w W)=>cq t (by omega) W (hw.range.below hW));have C1:=hid (fun W (hW:Below w.heap.size w W)=>gR tx W);generalize aM t=b0 at *;generalize cY tx=b1 at *;clear hh hw ggx ggy;have hk0:((ksx.length:Int) == 0)=false:=eqF (by have:=List.length_pos_iff.2 hk;omega);clear hk;obtain ⟨yx0,yx1,yx2,yx3,yx4⟩:=aj Fx.out;obtain ⟨yy0,yy1,yy2,yy3,yy4⟩:=aj Fy.out;have HB0:=hid (ag w (.cells #[.int .i64 7,.string (bs t),.int .i64 l,.int .i64 c,.slice (some ⟨kb,ko,none⟩) 2 m] 27));go_enter Tryz.func40,Tryz.ntmps40
 go_wp2_with fail;refine (C0.out _ HB0.out).mono ?_;rintro e w1 ⟨rfl,hb1⟩;have HB1:=bc HB0 hb1;have HR1:=rk0 hb1;have hs1:=hb1.size
 try simp only [wSz] at hs1
 clear hb1 C0;obtain ⟨z0,z1,z2,z3,z4⟩:=r5 HR1.out;obtain ⟨yx0,yx1,yx2,yx3,yx4⟩:=aj (Fx.out.keep (HB1.out.block kb bk));obtain ⟨yy0,yy1,yy2,yy3,yy4⟩:=aj (Fy.out.keep (HB1.out.block kb bk));have hkl1:kb<w1.heap.size:=by omega
 cases b0 with
 | false =>
   go_wp2_with fail;clear z0 z1 z2 z3 z4 yx0 yx1 yx2 yx3 yx4 yy0 yy1 yy2 yy3 yy4;go_ret
   first
   | exact ⟨rfl,HB1.out⟩
   | exact ⟨rfl,zdy HB1.out (ag _ _)⟩
 | true =>
   go_wp2_with fail;clear z0 z1 z2 z3 z4 yx0 yx1 yx2 yx3 yx4 yy0 yy1 yy2 yy3 yy4;have HA1:=hid (zdy HB1.out (ag w1 (.cells #[.int .i64 kx,.string (bs tx),.int .i64 lx,.int .i64 cx,.slice ax ksx.length mx] 27)));refine (C1.out _ HA1.out).mono ?_;rintro e w2 ⟨rfl,hb2⟩;have HB2:=bc HA1 hb2;have HR2:=hid ((hb2.block _ (by (try simp only [wSz]) <;> omega)).trans (bz HR1.out _));have hs2:=hb2.size;have HT2:=hid ((hb2.block _ (by (try simp only [wSz]) <;> omega)).trans (hAn w1 (.cells #[.int .i64 kx,.string (bs tx),.int .i64 lx,.int .i64 cx,.slice ax ksx.length mx] 27)))
   try simp only [wSz] at hs2
   clear hb2 C1;obtain ⟨z0,z1,z2,z3,z4⟩:=r5 HR2.out;obtain ⟨u0,u1,u2,u3,u4⟩:=r5 HT2.out;obtain ⟨yx0,yx1,yx2,yx3,yx4⟩:=aj (Fx.out.keep (HB2.out.block kb bk));obtain ⟨yy0,yy1,yy2,yy3,yy4⟩:=aj (Fy.out.keep (HB2.out.block kb bk));have hkl2:kb<w2.heap.size:=by omega
   cases b1 with
   | false =>
     go_wp2_with fail;clear z0 z1 z2 z3 z4 u0 u1 u2 u3 u4 yx0 yx1 yx2 yx3 yx4 yy0 yy1 yy2 yy3 yy4;go_ret
     first
     | exact ⟨rfl,HB2.out⟩
     | exact ⟨rfl,zdy HB2.out (ag _ _)⟩
   | true =>
     go_wp2_with fail;clear z0 z1 z2 z3 z4 u0 u1 u2 u3 u4 yx0 yx1 yx2 yx3 yx4 yy0 yy1 yy2 yy3 yy4;go_ret
     first
     | exact ⟨rfl,HB2.out⟩
     | exact ⟨rfl,zdy HB2.out (ag _ _)⟩
theorem za4 (t:List UInt8) (l c:Int) (kx:Int) (tx:List UInt8) (lx cx:Int) (ksx:List NM) (ax:Option Addr) (mx:Nat) (ky:Int) (ty:List UInt8) (ly cy:Int) (ksy:List NM) (ay:Option Addr) (my:Nat) (a:Option Addr) (m:Nat) (w:World) (hw:bB w) (hh:am aR w (.mk 7 t l c [(NM.mk kx tx lx cx ksx ax mx),(NM.mk ky ty ly cy ksy ay my)] a m)) (ht:(t:List UInt8).length≤1000000) (h9:(kx == 9)=true) (hk:ksx=[]) (IHy:dO 38 mE (NM.mk ky ty ly cy ksy ay my)) :
  Calls Tryz.prog 40 #[aB 7 t l c (.slice a 2 m)] w fun e w'=>e=.returned (.bool (mP (NM.mk 7 t l c [(NM.mk kx tx lx cx ksx ax mx),(NM.mk ky ty ly cy ksy ay my)] a m).tr))∧Below w.heap.size w w':=by
 have bC:=nb;obtain ⟨kb,ko,rfl,bk,hm1,hlm,Fx,ggx,Fy,ggy⟩:=iM hh;have HT0:=hid (show cn w (.slice (some ⟨kb,ko+5,none⟩) 1 (m - 1)) [(NM.mk ky ty ly cy ksy ay my)] from hh.kidsAt.tail (x:=(NM.mk kx tx lx cx ksx ax mx)) (ks:=[(NM.mk ky ty ly cy ksy ay my)]) _ (fun _=>rfl) (fun h=>by cases h));have HO:=hid (show mP (NM.mk 7 t l c [(NM.mk kx tx lx cx ksx ax mx),(NM.mk ky ty ly cy ksy ay my)] (some ⟨kb,ko,none⟩) m).tr=(aM t && (cY tx && ([(NM.mk ky ty ly cy ksy ay my)]:List NM).all (fun x=>mE x.tr))) by
  rw [aq,jl,ai,ai,ar];unfold eT f5;subst hk;simp only [aq,bX,jN,Tr.kids,h9,ar,Bool.true_and,List.all_cons,List.all_nil,List.isEmpty_nil,Bool.and_true]
 )
 rw [HO.out];clear HO;have C0:=hid (fun W (hW:Below w.heap.size w W)=>cq t (by omega) W (hw.range.below hW));have C1:=hid (fun W (hW:Below w.heap.size w W)=>gR tx W);have C2:=hid (fun W (hW:Below w.heap.size w W)=>gu (fun x=>mE x.tr) (.slice (some ⟨kb,ko+5,none⟩) 1 (m - 1)) ([(NM.mk ky ty ly cy ksy ay my)]:List NM) W (HT0.out.below hW) (by simp) (fun j hj W2 hW2=>by
   match j,hj with
   | 0,_=>exact IHy W2 ((hw.below hW).below hW2) ((ggy.out.below hW).below hW2)))
 generalize aM t=b0 at *;generalize cY tx=b1 at *;generalize ([(NM.mk ky ty ly cy ksy ay my)]:List NM).all (fun x=>mE x.tr)=b2 at *;clear hh hw ggx IHy ggy HT0;have hk0:((ksx.length:Int) == 0)=true:=eqT (by rw [hk];rfl);clear hk;obtain ⟨yx0,yx1,yx2,yx3,yx4⟩:=aj Fx.out;obtain ⟨yy0,yy1,yy2,yy3,yy4⟩:=aj Fy.out;have HB0:=hid (ag w (.cells #[.int .i64 7,.string (bs t),.int .i64 l,.int .i64 c,.slice (some ⟨kb,ko,none⟩) 2 m] 27));go_enter Tryz.func40,Tryz.ntmps40
 go_wp2_with fail;refine (C0.out _ HB0.out).mono ?_;rintro e w1 ⟨rfl,hb1⟩;have HB1:=bc HB0 hb1;have HR1:=rk0 hb1;have hs1:=hb1.size
 try simp only [wSz] at hs1
 clear hb1 C0;obtain ⟨z0,z1,z2,z3,z4⟩:=r5 HR1.out;obtain ⟨yx0,yx1,yx2,yx3,yx4⟩:=aj (Fx.out.keep (HB1.out.block kb bk));obtain ⟨yy0,yy1,yy2,yy3,yy4⟩:=aj (Fy.out.keep (HB1.out.block kb bk));have hkl1:kb<w1.heap.size:=by omega
 cases b0 with
 | false =>
   go_wp2_with fail;clear z0 z1 z2 z3 z4 yx0 yx1 yx2 yx3 yx4 yy0 yy1 yy2 yy3 yy4;go_ret
   first
   | exact ⟨rfl,HB1.out⟩
   | exact ⟨rfl,zdy HB1.out (ag _ _)⟩
 | true =>
   go_wp2_with fail;clear z0 z1 z2 z3 z4 yx0 yx1 yx2 yx3 yx4 yy0 yy1 yy2 yy3 yy4;have HA1:=hid (zdy HB1.out (ag w1 (.cells #[.int .i64 kx,.string (bs tx),.int .i64 lx,.int .i64 cx,.slice ax ksx.length mx] 27)));refine (C1.out _ HA1.out).mono ?_;rintro e w2 ⟨rfl,hb2⟩;have HB2:=bc HA1 hb2;have HR2:=hid ((hb2.block _ (by (try simp only [wSz]) <;> omega)).trans (bz HR1.out _));have hs2:=hb2.size;have HT2:=hid ((hb2.block _ (by (try simp only [wSz]) <;> omega)).trans (hAn w1 (.cells #[.int .i64 kx,.string (bs tx),.int .i64 lx,.int .i64 cx,.slice ax ksx.length mx] 27)))
   try simp only [wSz] at hs2
   clear hb2 C1;obtain ⟨z0,z1,z2,z3,z4⟩:=r5 HR2.out;obtain ⟨u0,u1,u2,u3,u4⟩:=r5 HT2.out;obtain ⟨yx0,yx1,yx2,yx3,yx4⟩:=aj (Fx.out.keep (HB2.out.block kb bk));obtain ⟨yy0,yy1,yy2,yy3,yy4⟩:=aj (Fy.out.keep (HB2.out.block kb bk));have hkl2:kb<w2.heap.size:=by omega
   cases b1 with
   | false =>
     go_wp2_with fail;clear z0 z1 z2 z3 z4 u0 u1 u2 u3 u4 yx0 yx1 yx2 yx3 yx4 yy0 yy1 yy2 yy3 yy4;go_ret
     first
     | exact ⟨rfl,HB2.out⟩
     | exact ⟨rfl,zdy HB2.out (ag _ _)⟩
   | true =>
     go_wp2_with fail;clear z0 z1 z2 z3 z4 u0 u1 u2 u3 u4 yx0 yx1 yx2 yx3 yx4 yy0 yy1 yy2 yy3 yy4;refine (C2.out _ HB2.out).mono ?_;rintro e w3 ⟨rfl,hb3⟩;have HB3:=bc HB2 hb3;have HR3:=rk HR2 hb3;have hs3:=hb3.size;have HT3:=rk HT2 hb3
     try simp only [wSz] at hs3
     clear hb3 C2;obtain ⟨z0,z1,z2,z3,z4⟩:=r5 HR3.out;obtain ⟨u0,u1,u2,u3,u4⟩:=r5 HT3.out;obtain ⟨yx0,yx1,yx2,yx3,yx4⟩:=aj (Fx.out.keep (HB3.out.block kb bk));obtain ⟨yy0,yy1,yy2,yy3,yy4⟩:=aj (Fy.out.keep (HB3.out.block kb bk));have hkl3:kb<w3.heap.size:=by omega
     go_wp2_with fail;clear z0 z1 z2 z3 z4 u0 u1 u2 u3 u4 yx0 yx1 yx2 yx3 yx4 yy0 yy1 yy2 yy3 yy4;go_ret
     first
     | exact ⟨rfl,HB3.out⟩
     | exact ⟨rfl,zdy HB3.out (ag _ _)⟩
theorem zbE (t:List UInt8) (l c:Int) (ks:List NM) (a:Option Addr) (m:Nat) (w:World) (hw:bB w) (_hh:am aR w (.mk 7 t l c ks a m)) (ht:(t:List UInt8).length≤1000000) (hn:ks=[]) :
  Calls Tryz.prog 40 #[aB 7 t l c (.slice a ks.length m)] w fun e w'=>e=.returned (.bool (mP (NM.mk 7 t l c ks a m).tr))∧Below w.heap.size w w':=by
 have bC:=nb;have HO:=hid (show mP (NM.mk 7 t l c ks a m).tr=(aM t && false) by
  rw [aq,jl,hn,ar];rfl
 )
 rw [HO.out];clear HO;have C0:=hid (fun W (hW:Below w.heap.size w W)=>cq t (by omega) W (hw.range.below hW));generalize aM t=b0 at *;clear _hh hw;have hn1:((ks.length:Int)<1):=by rw [hn];simp
 clear hn;have HB0:=hid (ag w (.cells #[.int .i64 7,.string (bs t),.int .i64 l,.int .i64 c,.slice a ks.length m] 27));go_enter Tryz.func40,Tryz.ntmps40
 go_wp2_with fail;refine (C0.out _ HB0.out).mono ?_;rintro e w1 ⟨rfl,hb1⟩;have HB1:=bc HB0 hb1;have HR1:=rk0 hb1;have hs1:=hb1.size
 try simp only [wSz] at hs1
 clear hb1 C0;obtain ⟨z0,z1,z2,z3,z4⟩:=r5 HR1.out;cases b0 with
 | false =>
   go_wp2_with fail;clear z0 z1 z2 z3 z4;go_ret
   first
   | exact ⟨rfl,HB1.out⟩
   | exact ⟨rfl,zdy HB1.out (ag _ _)⟩
 | true =>
   go_wp2_with fail;clear z0 z1 z2 z3 z4;go_ret
   first
   | exact ⟨rfl,HB1.out⟩
   | exact ⟨rfl,zdy HB1.out (ag _ _)⟩
theorem zcj (t:List UInt8) (l c:Int) (ks:List NM) (a:Option Addr) (m:Nat) (w:World) (hw:bB w) (hh:am aR w (.mk 7 t l c ks a m)) (ht:(t:List UInt8).length≤1000000) (hn:2<ks.length) :
  Calls Tryz.prog 40 #[aB 7 t l c (.slice a ks.length m)] w fun e w'=>e=.returned (.bool (mP (NM.mk 7 t l c ks a m).tr))∧Below w.heap.size w w':=by
 have bC:=nb;have HO:=hid (show mP (NM.mk 7 t l c ks a m).tr=(aM t && false) by
  rw [aq,jl]
  match ks,hn with
  | _::_::_::_,_=>simp [ai,eT]
 )
 rw [HO.out];clear HO;have C0:=hid (fun W (hW:Below w.heap.size w W)=>cq t (by omega) W (hw.range.below hW));generalize aM t=b0 at *;clear hh hw;have hn1:¬ ((ks.length:Int)<1):=by omega
 have hn2:((2:Int)<(ks.length:Int)):=by omega
 have HB0:=hid (ag w (.cells #[.int .i64 7,.string (bs t),.int .i64 l,.int .i64 c,.slice a ks.length m] 27));go_enter Tryz.func40,Tryz.ntmps40
 go_wp2_with fail;refine (C0.out _ HB0.out).mono ?_;rintro e w1 ⟨rfl,hb1⟩;have HB1:=bc HB0 hb1;have HR1:=rk0 hb1;have hs1:=hb1.size
 try simp only [wSz] at hs1
 clear hb1 C0;obtain ⟨z0,z1,z2,z3,z4⟩:=r5 HR1.out;cases b0 with
 | false =>
   go_wp2_with fail;clear z0 z1 z2 z3 z4;go_ret
   first
   | exact ⟨rfl,HB1.out⟩
   | exact ⟨rfl,zdy HB1.out (ag _ _)⟩
 | true =>
   go_wp2_with fail;clear z0 z1 z2 z3 z4;go_ret
   first
   | exact ⟨rfl,HB1.out⟩
   | exact ⟨rfl,zdy HB1.out (ag _ _)⟩
theorem zP (k:Int) (t:List UInt8) (l c:Int) (ks:List NM) (a:Option Addr) (m:Nat) (w:World) (_hw:bB w) (_hh:am aR w (.mk k t l c ks a m)) (_ht:(t:List UInt8).length≤1000000) (h:(k == 7)=false) :
  Calls Tryz.prog 40 #[aB k t l c (.slice a ks.length m)] w fun e w'=>e=.returned (.bool (mP (NM.mk k t l c ks a m).tr))∧Below w.heap.size w w':=by
 have bC:=nb;have HO:=hid (show mP (NM.mk k t l c ks a m).tr=false by
  rw [aq,zbw _ _ h]
 )
 rw [HO.out];clear HO;clear _hh _hw;have hne:(k != 7)=true:=by simpa using h
 have HB0:=hid (ag w (.cells #[.int .i64 k,.string (bs t),.int .i64 l,.int .i64 c,.slice a ks.length m] 27));go_enter Tryz.func40,Tryz.ntmps40
 go_wp2_with fail;go_ret
 first
 | exact ⟨rfl,HB0.out⟩
 | exact ⟨rfl,zdy HB0.out (ag _ _)⟩
theorem rc (x:NM) (b:Bool) (bx:Nat) (w:World) (hb:w.heap[bx]? = some (.cells #[.func (.func 39) #[] #[]] 60 (0,0))) (h:∀ W,Below w.heap.size w W→Calls Tryz.prog 39 #[x.val] W fun e w'=>e=.returned (.bool b)∧Below W.heap.size W w') :
  Calls Tryz.prog 36 #[x.val,.pointer (some ⟨bx,0,none⟩)] w fun e w'=>e=.returned (.bool (!b))∧Below w.heap.size w w':=by
 cases x with
 | mk k t l c ks a m =>
 have q:w.cell? ⟨bx,0,none⟩=some (.func (.func 39) #[] #[]):=cRo w bx 0 _ _ _ hb;have bC:=nb;have H:=hid (h _ (ag w (.cells #[.int .i64 k,.string (bs t),.int .i64 l,.int .i64 c,.slice a ks.length m] 27)));have aL:bx<w.heap.size:=(aGe.1 hb).1;clear h hb;change Calls _ _ #[aB k t l c (.slice a ks.length m),_] _ _;change Hid (Calls _ _ #[aB k t l c (.slice a ks.length m)] _ _) at H;go_enter Tryz.func36,Tryz.ntmps36
 go_wp2_with fail;refine H.out.mono ?_;rintro e w1 ⟨rfl,hb1⟩;go_wp2_with fail;go_ret;exact ⟨rfl,zdy (ag w _) hb1⟩
theorem oq (p:NM→Bool) (v:Value) (ks:List NM) (bx:Nat) (w:World) (hl:cn w v ks) (aF:ks.length≤10000000) (hb:w.heap[bx]? = some (.cells #[.func (.func 39) #[] #[]] 60 (0,0)))
  (h:∀ j (hj:j<ks.length) W,Below w.heap.size w W→Calls Tryz.prog 39 #[ks[j].val] W fun e w'=>e=.returned (.bool (p ks[j]))∧Below W.heap.size W w') :
  Calls Tryz.prog 70 #[v,.func (.func 36) #[] #[.pointer (some ⟨bx,0,none⟩)]] w fun e w'=>(∃ r:Int,e=.returned (.int .i64 r)∧((ks.all p=true∧r=-1)∨(ks.all p=false∧∃ n:Nat,r=n)))∧Below w.heap.size w w':=by
 have HS:=hid (fun W (hW:Below w.heap.size w W)=>hl.below hW);have HC:=hid (fun j (hj:j<ks.length) W (hW:Below w.heap.size w W)=>rc ks[j] (p ks[j]) bx W ((hW.block bx (aGe.1 hb).1).trans hb) (fun W' hW'=>h j hj W' (zdy hW hW')));obtain ⟨la,lc,rfl,iI,hlm,-⟩:=hl.nodes;unfold maxLen at hlm;clear hl h hb;go_enter Tryz.func70,Tryz.ntmps70
 go_wp2_with fail;go_loopw [8] (fun i wr=>∃ j:Nat,j≤ks.length∧i=.int .i64 j∧Below w.heap.size w wr∧Hid ((ks.take j).all p=true)) (fun i _=>ks.length - (intOf i).toNat)
 case atStart=>exact ⟨0,by omega,rfl,Below.refl _ _,hid rfl⟩
 case round =>
  obtain ⟨j,hj,rfl,hbw,HA⟩:=hrel;have hsz:=hbw.size;by_cases aL:j<ks.length
  ·have hd:decide (j<ks.length)=true:=decide_eq_true aL;obtain ⟨la',lc',hv,-,-,hx⟩:=(HS.out _ hbw).nodes;obtain ⟨lb,lo,rfl,hlb,cw⟩:=hx j aL;obtain ⟨rfl,rfl⟩:la=some ⟨lb,lo,none⟩∧lc=lc':=by simpa using hv
   have hfc:=cw j aL;have HCj:=hid (HC.out j aL _ hbw);have HN:=hid (show (ks.take (j+1)).all p=((ks.take j).all p && p ks[j]) by rw [List.take_succ_eq_append_getElem aL,List.all_append];simp);have HF:=hid (fun hp:p ks[j]=false=>(show ks.all p=false by
    cases e:ks.all p with
    | false=>rfl
    | true=>rw [List.all_eq_true.1 e ks[j] (List.getElem_mem aL)] at hp;cases hp))
   generalize ks[j]=x at *;cases x with
   | mk k t l c kk a m =>
   generalize p (.mk k t l c kk a m)=pb at *;change Hid (Calls _ _ #[aB k t l c (.slice a kk.length m),_] _ _) at HCj;obtain ⟨c0,c1,c2,c3,c4⟩:=hfc;replace c0:wr.cell? ⟨lb,lo+j * 5,none⟩=some (.int .i64 k):=c0;replace c1:wr.cell? ⟨lb,lo+j * 5+1,none⟩=some (.string (bs t)):=c1;replace c2:wr.cell? ⟨lb,lo+j * 5+2,none⟩=some (.int .i64 l):=c2;replace c3:wr.cell? ⟨lb,lo+j * 5+3,none⟩=some (.int .i64 c):=c3;replace c4:wr.cell? ⟨lb,lo+j * 5+4,none⟩=some (.slice a kk.length m):=c4;clear cw hx hv;go_wp2_with fail;refine HCj.out.mono ?_;rintro e w1 ⟨rfl,hb1⟩;cases pb with
   | false =>
     go_wp2_with fail;go_ret;exact ⟨⟨_,rfl,.inr ⟨HF.out (by simp),j,rfl⟩⟩,zdy hbw hb1⟩
   | true =>
     go_wp2_with fail
     go_round
     case rel=>exact ⟨j+1,by omega,by go_num,zdy hbw hb1,hid (by rw [HN.out,HA.out];rfl)⟩
     case measure=>simp [intOf];omega
  ·have hd:decide (j<ks.length)=false:=decide_eq_false aL;have HT:=hid (show ks.all p=true by have:=HA.out;rwa [List.take_of_length_le (by omega)] at this);go_wp2_with fail;go_ret;exact ⟨⟨_,rfl,.inl ⟨HT.out,rfl⟩⟩,hbw⟩
theorem l6 (p:NM→Bool) (v:Value) (ks:List NM) (w:World) (hl:cn w v ks) (aF:ks.length≤10000000)
  (h:∀ j (hj:j<ks.length) W,Below w.heap.size w W→Calls Tryz.prog 39 #[ks[j].val] W fun e w'=>e=.returned (.bool (p ks[j]))∧Below W.heap.size W w') :
  Calls Tryz.prog 22 #[v,.func (.func 39) #[] #[]] w fun e w'=>e=.returned (.bool (ks.all p))∧Below w.heap.size w w':=by
 have bC:=nb;have qo:=mf;have hb0:=ag w (.cells #[.func (.func 39) #[] #[]] 60);have HI:=hid (oq p v ks w.heap.size _ (hl.below hb0) aF (hAn w (.cells #[.func (.func 39) #[] #[]] 60)) (fun j hj W hW=>h j hj W (zdy hb0 hW)));obtain ⟨la,lc,rfl,-,-,-⟩:=hl.nodes;clear hl h hb0;go_enter Tryz.func22,Tryz.ntmps22
 go_wp2_with fail;go_enter Tryz.func35,Tryz.ntmps35
 go_wp2_with fail;refine HI.out.mono ?_;rintro e w1 ⟨⟨r,rfl,hr⟩,hb1⟩;rcases hr with ⟨ha,rfl⟩ | ⟨ha,n,rfl⟩
 ·have HA:=hid ha;clear ha;go_wp2_with fail;go_ret;exact ⟨by rw [HA.out];rfl,zdy (ag w _) hb1⟩
 ·have HA:=hid ha;clear ha;have hn:(0:Int)≤(n:Int):=by omega
  go_wp2_with fail;go_ret;exact ⟨by rw [HA.out];rfl,zdy (ag w _) hb1⟩
theorem rq (x:NM) (b:Bool) (bx:Nat) (w:World) (hb:w.heap[bx]? = some (.cells #[.func (.func 40) #[] #[]] 60 (0,0))) (h:∀ W,Below w.heap.size w W→Calls Tryz.prog 40 #[x.val] W fun e w'=>e=.returned (.bool b)∧Below W.heap.size W w') :
  Calls Tryz.prog 36 #[x.val,.pointer (some ⟨bx,0,none⟩)] w fun e w'=>e=.returned (.bool (!b))∧Below w.heap.size w w':=by
 cases x with
 | mk k t l c ks a m =>
 have q:w.cell? ⟨bx,0,none⟩=some (.func (.func 40) #[] #[]):=cRo w bx 0 _ _ _ hb;have bC:=nb;have H:=hid (h _ (ag w (.cells #[.int .i64 k,.string (bs t),.int .i64 l,.int .i64 c,.slice a ks.length m] 27)));have aL:bx<w.heap.size:=(aGe.1 hb).1;clear h hb;change Calls _ _ #[aB k t l c (.slice a ks.length m),_] _ _;change Hid (Calls _ _ #[aB k t l c (.slice a ks.length m)] _ _) at H;go_enter Tryz.func36,Tryz.ntmps36
 go_wp2_with fail;refine H.out.mono ?_;rintro e w1 ⟨rfl,hb1⟩;go_wp2_with fail;go_ret;exact ⟨rfl,zdy (ag w _) hb1⟩
theorem oI (p:NM→Bool) (v:Value) (ks:List NM) (bx:Nat) (w:World) (hl:cn w v ks) (aF:ks.length≤10000000) (hb:w.heap[bx]? = some (.cells #[.func (.func 40) #[] #[]] 60 (0,0)))
  (h:∀ j (hj:j<ks.length) W,Below w.heap.size w W→Calls Tryz.prog 40 #[ks[j].val] W fun e w'=>e=.returned (.bool (p ks[j]))∧Below W.heap.size W w') :
  Calls Tryz.prog 70 #[v,.func (.func 36) #[] #[.pointer (some ⟨bx,0,none⟩)]] w fun e w'=>(∃ r:Int,e=.returned (.int .i64 r)∧((ks.all p=true∧r=-1)∨(ks.all p=false∧∃ n:Nat,r=n)))∧Below w.heap.size w w':=by
 have HS:=hid (fun W (hW:Below w.heap.size w W)=>hl.below hW);have HC:=hid (fun j (hj:j<ks.length) W (hW:Below w.heap.size w W)=>rq ks[j] (p ks[j]) bx W ((hW.block bx (aGe.1 hb).1).trans hb) (fun W' hW'=>h j hj W' (zdy hW hW')));obtain ⟨la,lc,rfl,iI,hlm,-⟩:=hl.nodes;unfold maxLen at hlm;clear hl h hb;go_enter Tryz.func70,Tryz.ntmps70
 go_wp2_with fail;go_loopw [8] (fun i wr=>∃ j:Nat,j≤ks.length∧i=.int .i64 j∧Below w.heap.size w wr∧Hid ((ks.take j).all p=true)) (fun i _=>ks.length - (intOf i).toNat)
 case atStart=>exact ⟨0,by omega,rfl,Below.refl _ _,hid rfl⟩
 case round =>
  obtain ⟨j,hj,rfl,hbw,HA⟩:=hrel;have hsz:=hbw.size;by_cases aL:j<ks.length
  ·have hd:decide (j<ks.length)=true:=decide_eq_true aL;obtain ⟨la',lc',hv,-,-,hx⟩:=(HS.out _ hbw).nodes;obtain ⟨lb,lo,rfl,hlb,cw⟩:=hx j aL;obtain ⟨rfl,rfl⟩:la=some ⟨lb,lo,none⟩∧lc=lc':=by simpa using hv
   have hfc:=cw j aL;have HCj:=hid (HC.out j aL _ hbw);have HN:=hid (show (ks.take (j+1)).all p=((ks.take j).all p && p ks[j]) by rw [List.take_succ_eq_append_getElem aL,List.all_append];simp);have HF:=hid (fun hp:p ks[j]=false=>(show ks.all p=false by
    cases e:ks.all p with
    | false=>rfl
    | true=>rw [List.all_eq_true.1 e ks[j] (List.getElem_mem aL)] at hp;cases hp))
   generalize ks[j]=x at *;cases x with
   | mk k t l c kk a m =>
   generalize p (.mk k t l c kk a m)=pb at *;change Hid (Calls _ _ #[aB k t l c (.slice a kk.length m),_] _ _) at HCj;obtain ⟨c0,c1,c2,c3,c4⟩:=hfc;replace c0:wr.cell? ⟨lb,lo+j * 5,none⟩=some (.int .i64 k):=c0;replace c1:wr.cell? ⟨lb,lo+j * 5+1,none⟩=some (.string (bs t)):=c1;replace c2:wr.cell? ⟨lb,lo+j * 5+2,none⟩=some (.int .i64 l):=c2;replace c3:wr.cell? ⟨lb,lo+j * 5+3,none⟩=some (.int .i64 c):=c3;replace c4:wr.cell? ⟨lb,lo+j * 5+4,none⟩=some (.slice a kk.length m):=c4;clear cw hx hv;go_wp2_with fail;refine HCj.out.mono ?_;rintro e w1 ⟨rfl,hb1⟩;cases pb with
   | false =>
     go_wp2_with fail;go_ret;exact ⟨⟨_,rfl,.inr ⟨HF.out (by simp),j,rfl⟩⟩,zdy hbw hb1⟩
   | true =>
     go_wp2_with fail
     go_round
     case rel=>exact ⟨j+1,by omega,by go_num,zdy hbw hb1,hid (by rw [HN.out,HA.out];rfl)⟩
     case measure=>simp [intOf];omega
  ·have hd:decide (j<ks.length)=false:=decide_eq_false aL;have HT:=hid (show ks.all p=true by have:=HA.out;rwa [List.take_of_length_le (by omega)] at this);go_wp2_with fail;go_ret;exact ⟨⟨_,rfl,.inl ⟨HT.out,rfl⟩⟩,hbw⟩
theorem rj (p:NM→Bool) (v:Value) (ks:List NM) (w:World) (hl:cn w v ks) (aF:ks.length≤10000000)
  (h:∀ j (hj:j<ks.length) W,Below w.heap.size w W→Calls Tryz.prog 40 #[ks[j].val] W fun e w'=>e=.returned (.bool (p ks[j]))∧Below W.heap.size W w') :
  Calls Tryz.prog 22 #[v,.func (.func 40) #[] #[]] w fun e w'=>e=.returned (.bool (ks.all p))∧Below w.heap.size w w':=by
 have bC:=nb;have qo:=mf;have hb0:=ag w (.cells #[.func (.func 40) #[] #[]] 60);have HI:=hid (oI p v ks w.heap.size _ (hl.below hb0) aF (hAn w (.cells #[.func (.func 40) #[] #[]] 60)) (fun j hj W hW=>h j hj W (zdy hb0 hW)));obtain ⟨la,lc,rfl,-,-,-⟩:=hl.nodes;clear hl h hb0;go_enter Tryz.func22,Tryz.ntmps22
 go_wp2_with fail;go_enter Tryz.func35,Tryz.ntmps35
 go_wp2_with fail;refine HI.out.mono ?_;rintro e w1 ⟨⟨r,rfl,hr⟩,hb1⟩;rcases hr with ⟨ha,rfl⟩ | ⟨ha,n,rfl⟩
 ·have HA:=hid ha;clear ha;go_wp2_with fail;go_ret;exact ⟨by rw [HA.out];rfl,zdy (ag w _) hb1⟩
 ·have HA:=hid ha;clear ha;have hn:(0:Int)≤(n:Int):=by omega
  go_wp2_with fail;go_ret;exact ⟨by rw [HA.out];rfl,zdy (ag w _) hb1⟩
end Go.Proofs.YtfgiihpopngbkaaGreatDoor
