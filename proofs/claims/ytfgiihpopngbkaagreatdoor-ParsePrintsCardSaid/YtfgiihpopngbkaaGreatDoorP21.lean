/- Lemmas and walks that the statement needs: ParseRead, Print, RpChecks, RpOut, QuietTail. -/
import Derived.Test.YtfgiihpopngbkaaGreatDoorP20
import Derived.StillTail
namespace Go.Proofs.YtfgiihpopngbkaaGreatDoor
set_option maxRecDepth 100000
set_option maxHeartbeats 8000000
open Go.RowKit
open List renaming setIfInBounds_toArray→sA,set_cons_zero→sB,set_cons_succ→sC
open Nat renaming lt_of_lt_of_le→nL,le_trans→nT
open Go.Act renaming put→aPu
open List renaming length_append→lAp,length_cons→lCo
open Nat renaming le_refl→nRe
open Go.World renaming size_alloc→wSz
open _root_.Bool renaming and_eq_true→bAe
open _root_.Array renaming getElem?_eq_some_iff→aGe
open Go renaming cell_of_row→cRo,heap_alloc_new→hAn,heap_setCell_same→hSs,heap_setCell_other→hSo
def eE (s:List UInt8):PR (List Nd):=if (eg s).2.1=0 then bY (cA (1,1) s) (10 * (eg s).1.length+20) false (eg s).1 0 else .bad (eg s).2.1 (eg s).2.2
def rh (x:PR (List Nd)) (w:World) (E:Ending) (w':World):Prop :=
 Below w.heap.size w w'∧match x with
 | .ok a _=>∃ ks ad cap,E=.returned (.tuple #[aB 1 [] 1 1 (.slice ad ks.length cap),.int .i64 0,.agg #[.int .i64 0,.int .i64 0]])∧zdI ks a∧am (w.heap.size≤·) w' (.mk 1 [] 1 1 ks ad cap)
 | .bad er p=>E=.returned (.tuple #[aB 0 [] 0 0 (.slice none 0 0),.int .i64 (er:Int),.agg #[.int .i64 (p.1:Int),.int .i64 (p.2:Int)]])
 | .oof=>False
theorem js {w:World} {tmps:Array Value} {zn ze zp:Nat} {k l c:Int} {t:List UInt8} {sl:Value} {e p q:Int} (h2:tmps[2]?.getD undef=.pointer (some ⟨zn,0,none⟩)) (h3:tmps[3]?.getD undef=.pointer (some ⟨ze,0,none⟩)) (h4:tmps[4]?.getD undef=.pointer (some ⟨zp,0,none⟩))
  (rn:w.heap[zn]? = some (.cells #[.int .i64 k,.string (bs t),.int .i64 l,.int .i64 c,sl] 27 (0,0))) (re:w.heap[ze]? = some (.cells #[.int .i64 e] 28 (0,0))) (rp:w.heap[zp]? = some (.cells #[.int .i64 p,.int .i64 q] 24 (0,0))) :
  (results Tryz.f9 tmps).run Tryz.prog w=.ok (.tuple #[aB k t l c sl,.int .i64 e,.agg #[.int .i64 p,.int .i64 q]]) w:=by
 have a0:=cRo w zn 0 _ _ _ rn;have a1:=cRo w zn 1 _ _ _ rn;have a2:=cRo w zn 2 _ _ _ rn;have a3:=cRo w zn 3 _ _ _ rn;have a4:=cRo w zn 4 _ _ _ rn;have b0:=cRo w ze 0 _ _ _ re;have c0:=cRo w zp 0 _ _ _ rp;have c1:=cRo w zp 1 _ _ _ rp;simp [results,Tryz.f9,go_sem,h2,h3,h4,a0,a1,a2,a3,a4,b0,c0,c1]
theorem z8 (tmps:Array Value) (i:Nat) (v:Value) (h:5≤i):results Tryz.f9 (tmps.setIfInBounds i v)=results Tryz.f9 tmps:=by
 simp [results,Tryz.f9,Array.getElem?_setIfInBounds,show ¬ i=2 by omega,show ¬ i=3 by omega,show ¬ i=4 by omega]
theorem kM {R:Ending→World→Prop} (i:Nat) (v:Value) (h:5≤i):∀ (ds:List Deferred) (u:FrameMode) (w:World) (tmps:Array Value),Leaves Tryz.prog Tryz.f9 (tmps.setIfInBounds i v) R ds u w→Leaves Tryz.prog Tryz.f9 tmps R ds u w
 | [],.returning,w,tmps,hL=>by unfold Leaves at hL ⊢;rwa [z8 tmps i v h] at hL
 | [],.panicking c,w,tmps,hL=>by unfold Leaves at hL ⊢;exact hL
 | [],.run,w,tmps,hL=>by unfold Leaves at hL;exact hL.elim
 | d::ds,u,w,tmps,hL=>by
   unfold Leaves at hL ⊢;obtain ⟨hu,fv,cap,f,args,h1,h2,hc⟩:=hL;refine ⟨hu,fv,cap,f,args,h1,h2,hc.mono (fun e u' w' hr=>?_)⟩;cases e with
   | returned _=>exact kM i v h ds _ _ _ hr
   | panicked _=>exact kM i v h ds _ _ _ hr
   | outgrown=>exact hr
theorem jg {R:Ending→World→Prop} (i:Nat) (h:5≤i) (v:Value) (c:List PanicEntry) (a:Act) (w:World) (hL:bodyPostD Tryz.prog Tryz.f9 R (.panic c) (a.put (some i) v) w):bodyPostD Tryz.prog Tryz.f9 R (.panic c) a w :=
 kM i v h _ _ _ _ hL
theorem qb:∀ (k:Nat) (s:List UInt8) (p:Pl),s.length≤k→(eW p s).1.length≤s.length
 | _,[],p,_=>nRe _
 | 0,c::r,p,hk=>by simp at hk
 | k+1,c::r,p,hk=>by
   obtain ⟨kd,tx,n,e,hp⟩:∃ kd t n,∃ e,c7 (c::r)=(kd,t,n,e):=⟨_,_,_,_,rfl⟩;by_cases he:e=0
   ·subst he;have hs:=gS hp;rw [iv hp];have ih:=qb k ((c::r).drop n) (cA p ((c::r).take n)) (by simp at hk ⊢;omega);unfold fR;split
    ·rw [lAp];have hd:((c::r).drop n).length=(c::r).length - n:=List.length_drop;split
     ·show 0+_≤_;omega
     ·show 1+_≤_;omega
    ·simp
   ·rw [nC hp he];simp
theorem yb {s:List UInt8} (h:(eg s).2.1=0):s.length≤65536∧(eg s).1.length≤65536:=by
 unfold eg at h ⊢;split at h
 ·simp at h
 ·rename_i hl;rw [if_neg hl];have:=qb s.length s (1,1) (nRe _);exact ⟨by omega,by omega⟩
theorem zaq {w w':World} {g b off:Nat} {a:Option Addr} {l:List Tok} (ha:a=some ⟨b,off,none⟩) (hb:b<w.heap.size) (hcell:∀ j u,(bi l)[j]? = some u→w.cell? ⟨b,off+j,none⟩=some u) (hg:b<g) (hs:w.heap.size≤w'.heap.size) (hk:w'.heap[b]? = w.heap[b]?):mv w' g a l:=by
 intro _;have hget:∀ (l:List Tok) (j:Nat) (h:j<l.length),(bi l)[j * 4]? = some (.int .i64 l[j].1)∧(bi l)[j * 4+1]? = some (.string (bs l[j].2.1))∧(bi l)[j * 4+2]? = some (.int .i64 l[j].2.2.1)∧(bi l)[j * 4+3]? = some (.int .i64 l[j].2.2.2):=by
  intro l;induction l with
  | nil=>intro j h;simp at h
  | cons t r ih =>
    intro j h;cases j with
    | zero=>exact ⟨rfl,rfl,rfl,rfl⟩
    | succ j =>
      have hh:=ih j (by simpa using h);have e:∀ n,(bi (t::r))[n+4]? = (bi r)[n]?:=fun n=>rfl
      refine ⟨?_,?_,?_,?_⟩
      ·rw [show (j+1) * 4=j * 4+4 by omega,e];exact hh.1
      ·rw [show (j+1) * 4+1=(j * 4+1)+4 by omega,e];exact hh.2.1
      ·rw [show (j+1) * 4+2=(j * 4+2)+4 by omega,e];exact hh.2.2.1
      ·rw [show (j+1) * 4+3=(j * 4+3)+4 by omega,e];exact hh.2.2.2
 refine ⟨b,off,ha,hg,nL hb hs,fun j hj=>?_⟩;have h4:=hget l j hj;refine sO.same (w:=w) ⟨?_,?_,?_,?_⟩ hk
 ·exact hcell _ _ h4.1
 ·have:=hcell _ _ h4.2.1;rwa [← Nat.add_assoc] at this
 ·have:=hcell _ _ h4.2.2.1;rwa [← Nat.add_assoc] at this
 ·have:=hcell _ _ h4.2.2.2;rwa [← Nat.add_assoc] at this
theorem lI {w w1 w2:World} {B g:Nat} (h:Below B w w1) (hb:aV g w1 w2) (_hs:w.heap.size≤w1.heap.size) (hB:B≤g) (hB2:B≤w1.heap.size):Below B w w2 :=
 ⟨hb.os.trans h.os,hb.tape.trans h.tape,hb.output.trans h.output,nT h.size hb.size,fun k hk=>(hb.block k (by omega) (by omega)).trans (h.block k hk)⟩
theorem rC {w w1 w2:World} {B a b c:Nat} (h:Below B w w1) (hb:yr a b c w1 w2) (ha:B≤a) (hb':B≤b) (hc:B≤c) (hB2:B≤w1.heap.size):Below B w w2 :=
 ⟨hb.os.trans h.os,hb.tape.trans h.tape,hb.output.trans h.output,nT h.size hb.size,fun k hk=>(hb.block k (by omega) (by omega) (by omega) (by omega)).trans (h.block k hk)⟩
theorem yv (s:List UInt8) (hs:s.length≤140737488351232) (w:World) (hr:dZ w) {l:List Tok} {e p q:Nat} (hx:eg s=(l,e,(p,q))) (he:e≠0) :
  Calls Tryz.prog 9 #[.string (bs s)] w (rh (eE s) w):=by
 have qo:=mf;obtain ⟨w1,hw,rn,re,rp,hB,hsz⟩:∃ W,Hid (W=((w.alloc (.cells #[.int .i64 0,.string ⟨#[]⟩,.int .i64 0,.int .i64 0,.slice none 0 0] 27)).alloc (.cells #[.int .i64 0] 28)).alloc (.cells #[.int .i64 0,.int .i64 0] 24))∧W.heap[w.heap.size]? = some (.cells #[.int .i64 0,.string ⟨#[]⟩,.int .i64 0,.int .i64 0,.slice none 0 0] 27 (0,0))∧W.heap[w.heap.size+1]? = some (.cells #[.int .i64 0] 28 (0,0))∧W.heap[w.heap.size+1+1]? = some (.cells #[.int .i64 0,.int .i64 0] 24 (0,0))∧Below w.heap.size w W∧W.heap.size=w.heap.size+3 :=
  ⟨_,hid rfl,bz (bz (hAn w _) _) _,bz (by have:=hAn (w.alloc (.cells #[.int .i64 0,.string ⟨#[]⟩,.int .i64 0,.int .i64 0,.slice none 0 0] 27)) (.cells #[.int .i64 0] 28);rwa [wSz] at this) _,
   by have:=hAn ((w.alloc (.cells #[.int .i64 0,.string ⟨#[]⟩,.int .i64 0,.int .i64 0,.slice none 0 0] 27)).alloc (.cells #[.int .i64 0] 28)) (.cells #[.int .i64 0,.int .i64 0] 24);rwa [wSz,wSz] at this,zdy (zdy (ag w _) (ag _ _)) (ag _ _),by rw [wSz,wSz,wSz]⟩
 have HA:=hid (td s hs hx w1 (hr.below hB));have Rn:=hid rn;have Re:=hid re;have Rp:=hid rp;have HB:=hid hB;have Hsz:=hid hsz;clear rn re rp hB hr
 go_enter_defers Tryz.func9,Tryz.ntmps9
 go_wp2_with fail;rw [← hw.out];clear hw;refine HA.out.mono ?_;rintro E w2 ⟨v,rfl,hv,hb2⟩;clear HA;obtain ⟨hvl,a,c,rfl,hc,hm,hn,hxx⟩:=hv;have hz:=Hsz.out;have rn2:=(hb2.block _ (by omega)).trans Rn.out;have re2:=(hb2.block _ (by omega)).trans Re.out;have rp2:=(hb2.block _ (by omega)).trans Rp.out;obtain ⟨w3,e3,a3,o3,s3,t3⟩:=yn re2 (.int .i64 e);have rn3:=(o3 w.heap.size (by omega)).trans rn2;have rp3:=(o3 (w.heap.size+1+1) (by omega)).trans rp2;obtain ⟨w4,e4,a4,o4,s4,t4⟩:=yG rp3 (.int .i64 p) (.int .i64 q);have rn4:=(o4 w.heap.size (by omega)).trans rn3;have re4:=(o4 (w.heap.size+1) (by omega)).trans a3;have HB4:=hid (show Below w.heap.size w w4 from ⟨t4.1.trans (t3.1.trans (hb2.os.trans HB.out.os)),t4.2.1.trans (t3.2.1.trans (hb2.tape.trans HB.out.tape)),t4.2.2.trans (t3.2.2.trans (hb2.output.trans HB.out.output)),by have:=hb2.size;have:=HB.out.size;omega,
  fun k hk=>(o4 k (by omega)).trans ((o3 k (by omega)).trans ((hb2.block k (by omega)).trans (HB.out.block k hk)))⟩)
 have E3:=hid e3;have E4:=hid e4;have Rn4:=hid rn4;have Re4:=hid re4;have Rp4:=hid a4;have Hsz4:=hid (show w.heap.size+3≤w4.heap.size by have:=hb2.size;omega);have Hst:=hid (show ∀ k,k<w2.heap.size→k≠w.heap.size+1→k≠w.heap.size+1+1→w4.heap[k]? = w2.heap[k]? from fun k _ h1 h2=>(o4 k h2).trans (o3 k h1));have Hs24:=hid (show w4.heap.size=w2.heap.size by omega);have Hs12:=hid (show w.heap.size+3≤w2.heap.size by have:=hb2.size;omega);have q0:=cRo _ _ 0 _ _ _ re2;have f0:=aw re2 0;have q1:=cRo _ _ 0 _ _ _ rp2;have q2:=cRo _ _ 1 _ _ _ rp2;have f1:=aw rp2 0;have f2:=aw rp2 1;have Hxx:=hid hxx;have Hre2:=hid re2;have Hrp2:=hid rp2;have Hcm:=hid (And.intro hc hm);clear rn2 re2 rp2 e3 a3 o3 s3 t3 rn3 rp3 e4 a4 o4 s4 t4 rn4 re4 hb2 HB hvl hc hm hn hxx Rn Re Rp hz;have hne:((e:Int) != 0)=true:=by simp;omega
 go_wp2_with fail;clear q0 f0 q1 q2 f1 f2;rw [← E3.out,← E4.out];refine aH (S:=fun W=>W.heap[w.heap.size]? = some (.cells #[.int .i64 0,.string ⟨#[]⟩,.int .i64 0,.int .i64 0,.slice none 0 0] 27 (0,0))∧W.heap[w.heap.size+1]? = some (.cells #[.int .i64 e] 28 (0,0))∧W.heap[w.heap.size+1+1]? = some (.cells #[.int .i64 p,.int .i64 q] 24 (0,0))) (by kernel_rfl) ?_;obtain ⟨w5,hw,ac⟩:=dr1 w4;rw [← hw.out];clear hw;have hz:=Hsz4.out;have rn5:=(ac.block _ (by omega)).trans Rn4.out;have re5:=(ac.block _ (by omega)).trans Re4.out;have rp5:=(ac.block _ (by omega)).trans Rp4.out;obtain ⟨w6,e6,a6,o6,s6,t6⟩:=zb1 rn5 (.int .i64 0) (.string ⟨#[]⟩) (.int .i64 0) (.int .i64 0) (.slice none 0 0);have re6:=(o6 (w.heap.size+1) (by omega)).trans re5;have rp6:=(o6 (w.heap.size+1+1) (by omega)).trans rp5;obtain ⟨w7,e7,a7,o7,s7,t7⟩:=yn re6 (.int .i64 e);have rn7:=(o7 (w.heap.size) (by omega)).trans a6;have rp7:=(o7 (w.heap.size+1+1) (by omega)).trans rp6;obtain ⟨w8,e8,a8,o8,s8,t8⟩:=yG rp7 (.int .i64 p) (.int .i64 q);have rn8:=(o8 (w.heap.size) (by omega)).trans rn7;have re8:=(o8 (w.heap.size+1) (by omega)).trans a7;have HF:=hid (show Below w.heap.size w w8 from ⟨t8.1.trans (t7.1.trans (t6.1.trans (ac.os.trans HB4.out.os))),t8.2.1.trans (t7.2.1.trans (t6.2.1.trans (ac.tape.trans HB4.out.tape))),t8.2.2.trans (t7.2.2.trans (t6.2.2.trans (ac.output.trans HB4.out.output))),by have:=ac.size;have:=HB4.out.size;omega,
  fun k hk=>(o8 k (by omega)).trans ((o7 k (by omega)).trans ((o6 k (by omega)).trans ((ac.block k (by omega)).trans (HB4.out.block k hk))))⟩)
 have S5:=hid (And.intro rn5 (And.intro re5 rp5));have S6:=hid (And.intro a6 (And.intro re6 rp6));have S7:=hid (And.intro rn7 (And.intro a7 rp7));have S8:=hid (And.intro rn8 (And.intro re8 a8));have E6:=hid e6;have E7:=hid e7;have E8:=hid e8;have hS:=S5.out;clear rn5 re5 rp5 e6 a6 o6 s6 t6 re6 rp6 e7 a7 o7 s7 t7 rn7 rp7 e8 a8 o8 s8 t8 rn8 re8 ac Hst Hxx HB4 Rn4 Re4 Rp4;refine zdO 0 (some 16) rfl rfl (by kernel_rfl) (by kernel_rfl) (by kernel_rfl) (fun v c a w h=>jg 16 (by decide) v c a w h) hS (by kernel_rfl) 27 _ rfl (w.heap.size) 0 rfl [.int .i64 0,.string ⟨#[]⟩,.int .i64 0,.int .i64 0,.slice none 0 0] _ (fun W hW=>bt hW.1) Tryz.underlying27 rfl (by kernel_rfl) ?_
 try simp only [aPu,sA,sB,sC]
 refine WH.take 1 (some 17) rfl rfl (by kernel_rfl) (by kernel_rfl) (by kernel_rfl) (fun v c a w h=>jg 17 (by decide) v c a w h) hS ⟨.int .i64 e,⟨by kernel_rfl,fun W hW=>by have q:W.cell? ⟨w.heap.size+1,0,none⟩=some (.int .i64 e):=cRo W _ 0 _ _ _ hW.2.1;go_simp⟩,?_⟩
 try simp only [aPu,sA,sB,sC]
 refine zdO 2 (some 18) rfl rfl (by kernel_rfl) (by kernel_rfl) (by kernel_rfl) (fun v c a w h=>jg 18 (by decide) v c a w h) hS (by kernel_rfl) 24 _ rfl (w.heap.size+1+1) 0 rfl [.int .i64 p,.int .i64 q] _ (fun W hW=>bt hW.2.2) Tryz.underlying24 rfl (by kernel_rfl) ?_
 try simp only [aPu,sA,sB,sC]
 have q0:=cRo _ _ 0 _ _ _ S5.out.1;have f0:=aw S5.out.1 0;have q1:=cRo _ _ 1 _ _ _ S5.out.1;have f1:=aw S5.out.1 1;have q2:=cRo _ _ 2 _ _ _ S5.out.1;have f2:=aw S5.out.1 2;have q3:=cRo _ _ 3 _ _ _ S5.out.1;have f3:=aw S5.out.1 3;have q4:=cRo _ _ 4 _ _ _ S5.out.1;have f4:=aw S5.out.1 4;refine zdC 3 ?_;intro K hK;go_simp;clear q0 f0 q1 f1 q2 f2 q3 f3 q4 f4;rw [← E6.out];refine hK.out _ _ S6.out ?_;clear hK K
 try simp only [aPu,sA,sB,sC]
 have q0:=cRo _ _ 0 _ _ _ S6.out.2.1;have f0:=aw S6.out.2.1 0;refine zdC 4 ?_;intro K hK;go_simp;clear q0 f0;rw [← E7.out];refine hK.out _ _ S7.out ?_;clear hK K
 try simp only [aPu,sA,sB,sC]
 have q0:=cRo _ _ 0 _ _ _ S7.out.2.2;have f0:=aw S7.out.2.2 0;have q1:=cRo _ _ 1 _ _ _ S7.out.2.2;have f1:=aw S7.out.2.2 1;refine zdC 5 ?_;intro K hK;go_simp;clear q0 f0 q1 f1;rw [← E8.out];refine hK.out _ _ S8.out ?_;clear hK K
 try simp only [aPu,sA,sB,sC]
 refine zdH ?_;obtain ⟨k1,k2,k3⟩:=S8.out;clear S5 S6 S7 S8;go_wp2_with fail;exact ⟨_,js (t:=[]) rfl rfl rfl k1 k2 k3,HF.out,by unfold eE;rw [hx,if_neg (show ¬ (l,e,(p,q)).2.1=0 from he)]⟩
theorem xn (s:List UInt8) (hs:s.length≤140737488351232) (w:World) (hr:dZ w) {l:List Tok} {p q:Nat} (hx:eg s=(l,0,(p,q))) :
  Calls Tryz.prog 9 #[.string (bs s)] w (rh (eE s) w):=by
 have qo:=mf;obtain ⟨w1,hw,rn,re,rp,hB,hsz⟩:∃ W,Hid (W=((w.alloc (.cells #[.int .i64 0,.string ⟨#[]⟩,.int .i64 0,.int .i64 0,.slice none 0 0] 27)).alloc (.cells #[.int .i64 0] 28)).alloc (.cells #[.int .i64 0,.int .i64 0] 24))∧W.heap[w.heap.size]? = some (.cells #[.int .i64 0,.string ⟨#[]⟩,.int .i64 0,.int .i64 0,.slice none 0 0] 27 (0,0))∧W.heap[w.heap.size+1]? = some (.cells #[.int .i64 0] 28 (0,0))∧W.heap[w.heap.size+1+1]? = some (.cells #[.int .i64 0,.int .i64 0] 24 (0,0))∧Below w.heap.size w W∧W.heap.size=w.heap.size+3 :=
  ⟨_,hid rfl,bz (bz (hAn w _) _) _,bz (by have:=hAn (w.alloc (.cells #[.int .i64 0,.string ⟨#[]⟩,.int .i64 0,.int .i64 0,.slice none 0 0] 27)) (.cells #[.int .i64 0] 28);rwa [wSz] at this) _,
   by have:=hAn ((w.alloc (.cells #[.int .i64 0,.string ⟨#[]⟩,.int .i64 0,.int .i64 0,.slice none 0 0] 27)).alloc (.cells #[.int .i64 0] 28)) (.cells #[.int .i64 0,.int .i64 0] 24);rwa [wSz,wSz] at this,zdy (zdy (ag w _) (ag _ _)) (ag _ _),by rw [wSz,wSz,wSz]⟩
 have HA:=hid (show Calls Tryz.prog 16 #[.string (bs s)] w1 (fun E w'=>∃ v,E=.returned (.tuple #[v,.int .i64 0,.agg #[.int .i64 p,.int .i64 q]])∧a9 w' 4 v l.length (bi l)∧Below w1.heap.size w1 w') from td s hs hx w1 (hr.below hB));have Rn:=hid rn;have Re:=hid re;have Rp:=hid rp;have HB:=hid hB;have Hsz:=hid hsz;clear rn re rp hB hr
 go_enter_defers Tryz.func9,Tryz.ntmps9
 go_wp2_with fail;rw [← hw.out];clear hw;refine HA.out.mono ?_;rintro E w2 ⟨v,rfl,hv,hb2⟩;clear HA;obtain ⟨hvl,a,c,rfl,hc,hm,hn,hxx⟩:=hv;have hz:=Hsz.out;have rn2:=(hb2.block _ (by omega)).trans Rn.out;have re2:=(hb2.block _ (by omega)).trans Re.out;have rp2:=(hb2.block _ (by omega)).trans Rp.out;obtain ⟨w3,e3,a3,o3,s3,t3⟩:=yn re2 (.int .i64 0);have rn3:=(o3 w.heap.size (by omega)).trans rn2;have rp3:=(o3 (w.heap.size+1+1) (by omega)).trans rp2;obtain ⟨w4,e4,a4,o4,s4,t4⟩:=yG rp3 (.int .i64 p) (.int .i64 q);have rn4:=(o4 w.heap.size (by omega)).trans rn3;have re4:=(o4 (w.heap.size+1) (by omega)).trans a3;have HB4:=hid (show Below w.heap.size w w4 from ⟨t4.1.trans (t3.1.trans (hb2.os.trans HB.out.os)),t4.2.1.trans (t3.2.1.trans (hb2.tape.trans HB.out.tape)),t4.2.2.trans (t3.2.2.trans (hb2.output.trans HB.out.output)),by have:=hb2.size;have:=HB.out.size;omega,
  fun k hk=>(o4 k (by omega)).trans ((o3 k (by omega)).trans ((hb2.block k (by omega)).trans (HB.out.block k hk)))⟩)
 have E3:=hid e3;have E4:=hid e4;have Rn4:=hid rn4;have Re4:=hid re4;have Rp4:=hid a4;have Hsz4:=hid (show w.heap.size+3≤w4.heap.size by have:=hb2.size;omega);have Hst:=hid (show ∀ k,k<w2.heap.size→k≠w.heap.size+1→k≠w.heap.size+1+1→w4.heap[k]? = w2.heap[k]? from fun k _ h1 h2=>(o4 k h2).trans (o3 k h1));have Hs24:=hid (show w4.heap.size=w2.heap.size by omega);have Hs12:=hid (show w.heap.size+3≤w2.heap.size by have:=hb2.size;omega);have q0:=cRo _ _ 0 _ _ _ re2;have f0:=aw re2 0;have q1:=cRo _ _ 0 _ _ _ rp2;have q2:=cRo _ _ 1 _ _ _ rp2;have f1:=aw rp2 0;have f2:=aw rp2 1;have Hxx:=hid hxx;have Hre2:=hid re2;have Hrp2:=hid rp2;have Hcm:=hid (And.intro hc hm);clear rn2 re2 rp2 e3 a3 o3 s3 t3 rn3 rp3 e4 a4 o4 s4 t4 rn4 re4 hb2 HB hvl hc hm hn hxx Rn Re Rp hz;obtain ⟨hl1,hl2⟩:=yb (s:=s) (by rw [hx]);have hl3:l.length≤65536:=by rw [hx] at hl2;exact hl2
 clear hl2;obtain ⟨X,hX⟩:∃ X,X=bY (cA (1,1) s) (10 * l.length+20) false l 0:=⟨_,rfl⟩;have hXr:eE s=X:=by rw [hX];unfold eE;rw [hx,if_pos rfl]
 have hne:X≠.oof:=by
  intro h0;have:=(iZ (cA (1,1) s) (10 * l.length+20)).stmts false l 0 (by omega);rw [← hX,h0] at this;exact this
 have HR:=hid hXr;have HXr:=hid hX;clear hXr hX;go_wp2_with fail;clear q0 f0 q1 q2 f1 f2;rw [← E3.out,← E4.out];refine (zaT s (by omega) _).mono ?_;rintro E w5 ⟨rfl,hb5⟩;generalize hen:cA (1,1) s=en at *;go_wp2_with fail;obtain ⟨w7,hw,rg,rt,hb7,hs7⟩:∃ W,Hid (W=(w5.alloc (.cells #[.slice a l.length c,.int .i64 (en.1:Int),.int .i64 (en.2:Int),.int .i64 0] 56)).alloc (.cells #[.int .i64 0,.string ⟨#[]⟩,.int .i64 1,.int .i64 1] 46))∧W.heap[w5.heap.size]? = some (.cells #[.slice a l.length c,.int .i64 (en.1:Int),.int .i64 (en.2:Int),.int .i64 0] 56 (0,0))∧W.heap[w5.heap.size+1]? = some (.cells #[.int .i64 0,.string ⟨#[]⟩,.int .i64 1,.int .i64 1] 46 (0,0))∧Below w5.heap.size w5 W∧W.heap.size=w5.heap.size+2 :=
  ⟨_,hid rfl,bz (hAn w5 _) _,by have:=hAn (w5.alloc (.cells #[.slice a l.length c,.int .i64 (en.1:Int),.int .i64 (en.2:Int),.int .i64 0] 56)) (.cells #[.int .i64 0,.string ⟨#[]⟩,.int .i64 1,.int .i64 1] 46);rwa [wSz] at this,zdy (ag w5 _) (ag _ _),by rw [wSz,wSz]⟩
 rw [← hw.out];clear hw;have hz4:=Hsz4.out;have h24:=Hs24.out;have h12:=Hs12.out;have h45:=hb5.size;have hp:PS w7 w5.heap.size en l 0:=by
  refine ⟨a,c,rg,Hcm.out.1,Hcm.out.2,?_,by omega,by omega⟩;intro hne;have hc:bi l≠[]:=by
   cases l with
   | nil=>exact absurd rfl hne
   | cons t r=>simp [bi]
  obtain ⟨b,off,ha,hb,hcell⟩:=Hxx.out hc;have hstr:(bi l)[1]? = some (.string (bs l.head!.2.1)):=by
   cases l with
   | nil=>exact absurd rfl hne
   | cons t r=>rfl
  have hs1:=hcell _ _ hstr;have n1:b≠w.heap.size+1:=by
   rintro rfl;rw [cRo _ _ (off+1) _ _ _ Hre2.out] at hs1;cases off <;> simp at hs1
  have n2:b≠w.heap.size+1+1:=by
   rintro rfl;rw [cRo _ _ (off+1) _ _ _ Hrp2.out] at hs1;cases off with
   | zero=>simp at hs1
   | succ off=>simp at hs1
  have hk4:=Hst.out b hb n1 n2;have hk:w7.heap[b]? = w2.heap[b]?:=(hb7.block b (by omega)).trans ((hb5.block b (by omega)).trans hk4);exact zaq (w:=w2) (w':=w7) ha hb hcell (by omega) (by have:=hb7.size;omega) hk hne
 have Rn7:=hid ((hb7.block _ (by omega)).trans ((hb5.block _ (by omega)).trans Rn4.out));have Re7:=hid ((hb7.block _ (by omega)).trans ((hb5.block _ (by omega)).trans Re4.out));have Rp7:=hid ((hb7.block _ (by omega)).trans ((hb5.block _ (by omega)).trans Rp4.out));have HB7:=hid (show Below w.heap.size w w7 from (HB4.out.trans (hb5.mono (by omega))).trans (hb7.mono (by omega)));obtain ⟨G0,hG0⟩:∃ G0,G0=w5.heap.size:=⟨_,rfl⟩;rw [← hG0] at hp rg rt hb7 hs7 ⊢;have hg3:w.heap.size+3≤G0:=by omega
 have zcu:=hid rt;clear rt rg hb7 hb5 h45 h24 h12 hz4 Rn4 Re4 Rp4 HB4 Hst Hxx Hre2 Hrp2 Hcm E3 E4 Hs24 Hs12 Hsz4 Hsz hG0 hs;refine aH (S:=fun W=>W.heap[G0+1]? = some (.cells #[.int .i64 0,.string ⟨#[]⟩,.int .i64 1,.int .i64 1] 46 (0,0))) (by kernel_rfl) ?_;obtain ⟨w8,hw,ac⟩:=dr1 w7;rw [← hw.out];clear hw;have hz7:=ac.size;have hp:=hp.keep ac;have HB8:=hid (aV.of_below (g:=G0) ac);have Rn8:=hid ((ac.block _ (by omega)).trans Rn7.out);have Re8:=hid ((ac.block _ (by omega)).trans Re7.out);have Rp8:=hid ((ac.block _ (by omega)).trans Rp7.out);have S8:=hid ((ac.block _ (by omega)).trans zcu.out);have hS:=S8.out;clear Rn7 Re7 Rp7 zcu ac;refine zdO 0 (some 27) rfl rfl (by kernel_rfl) (by kernel_rfl) (by kernel_rfl) (fun v c a w h=>jg 27 (by decide) v c a w h) hS (by kernel_rfl) 46 _ rfl (G0+1) 0 rfl [.int .i64 0,.string ⟨#[]⟩,.int .i64 1,.int .i64 1] _ (fun W hW=>bt hW) Tryz.underlying46 rfl (by kernel_rfl) ?_
 try simp only [aPu,sA,sB,sC]
 refine WH.take 1 (some 28) rfl rfl (by kernel_rfl) (by kernel_rfl) (by kernel_rfl) (fun v c a w h=>jg 28 (by decide) v c a w h) hS ⟨.pointer (some ⟨G0,0,none⟩),⟨by kernel_rfl,fun W _=>rfl⟩,?_⟩
 try simp only [aPu,sA,sB,sC]
 refine WH.take 4 (some 31) rfl rfl (by kernel_rfl) (by kernel_rfl) (by kernel_rfl) (fun v c a w h=>jg 31 (by decide) v c a w h) hS ⟨.agg #[.int .i64 0,.int .i64 0],⟨by kernel_rfl,fun W _=>by kernel_rfl⟩,?_⟩
 try simp only [aPu,sA,sB,sC]
 refine zdC 2 ?_;intro K hK;go_simp;have HD:=hid ((xW G0 en (10 * l.length+20)).stmts0 l 0);cases hx2:X with
 | oof=>exact absurd hx2 hne
 | bad er pl =>
   refine (HD.out.bad (HXr.out.symm.trans hx2) hp).mono ?_;rintro e w9 ⟨rfl,hb9⟩;have rn9:=(hb9.block _ (by omega) (by omega)).trans Rn8.out;have re9:=(hb9.block _ (by omega) (by omega)).trans Re8.out;have rp9:=(hb9.block _ (by omega) (by omega)).trans Rp8.out;have HC:=hid (sT w.heap.size (w.heap.size+1) (w.heap.size+1+1) er pl.1 pl.2 _ _ _ _ _ _ _ _ [] w9 (by omega) (by omega) (by omega) rn9 re9 rp9);have HF:=hid (lI (lI HB7.out HB8.out (by omega) (by omega) (by omega)) hb9 (by omega) (by omega) (by omega));have hz9:=hb9.size;clear rn9 re9 rp9 hb9;go_wp2_with fail;refine leaves_cons (f:=18) (args:=#[.pointer (some ⟨w.heap.size,0,none⟩),.pointer (some ⟨w.heap.size+1,0,none⟩),.pointer (some ⟨w.heap.size+1+1,0,none⟩)]) (by simp) (by simp [go_sem]) ?_;refine HC.out.mono ?_;rintro E u w10 ⟨rfl,rfl,k1,k2,k3,hT⟩;refine ⟨_,js (t:=[]) rfl rfl rfl k1 k2 k3,rC HF.out hT (by omega) (by omega) (by omega) (by omega),by rw [HR.out,hx2]⟩
 | ok a2 r2 =>
   refine (HD.out.ok (HXr.out.symm.trans hx2) hp).mono ?_;rintro e w9 ⟨_,rfl,⟨ns,hG,hA,hnl⟩,hp9,hb9⟩;obtain ⟨oZ,oe,hv,-,-⟩:=hG.shape;subst hv;have Rn9:=hid ((hb9.block _ (by omega) (by omega)).trans Rn8.out);have Re9:=hid ((hb9.block _ (by omega) (by omega)).trans Re8.out);have Rp9:=hid ((hb9.block _ (by omega) (by omega)).trans Rp8.out);have S9:=hid ((hb9.block _ (by omega) (by omega)).trans S8.out);have HB9:=hid (lI (lI HB7.out HB8.out (by omega) (by omega) (by omega)) hb9 (by omega) (by omega) (by omega));have HG:=hid (hG.kids 1 1 1 []);have HA2:=hid hA;have hz9:=hb9.size;clear hp9 hb9 hG hA hp HD;go_wp2_with fail;refine hK.out _ _ S9.out ?_;clear hK K
   try simp only [aPu,sA,sB,sC]
   refine zdC 3 ?_;intro K hK;go_simp;refine (bW 1 (0,[],(1,1)) [] oZ ns.length oe _).mono ?_;rintro e w10 ⟨rfl,hb10⟩;have hz10:=hb10.size;have rn10:=(hb10.block _ (by omega)).trans Rn9.out;have re10:=(hb10.block _ (by omega)).trans Re9.out;have rp10:=(hb10.block _ (by omega)).trans Rp9.out;obtain ⟨w11,e6,a6,o6,s6,t6⟩:=zb1 rn10 (.int .i64 1) (.string (bs [])) (.int .i64 1) (.int .i64 1) (.slice oZ ns.length oe);have re6:=(o6 (w.heap.size+1) (by omega)).trans re10;have rp6:=(o6 (w.heap.size+1+1) (by omega)).trans rp10;obtain ⟨w12,e7,a7,o7,s7,t7⟩:=yn re6 (.int .i64 0);have rn7:=(o7 (w.heap.size) (by omega)).trans a6;have rp7:=(o7 (w.heap.size+1+1) (by omega)).trans rp6;obtain ⟨w13,e8,a8,o8,s8,t8⟩:=yG rp7 (.int .i64 0) (.int .i64 0);have rn8:=(o8 (w.heap.size) (by omega)).trans rn7;have re8:=(o8 (w.heap.size+1) (by omega)).trans a7;have HF:=hid (show Below w.heap.size w w13 from ⟨t8.1.trans (t7.1.trans (t6.1.trans (hb10.os.trans HB9.out.os))),t8.2.1.trans (t7.2.1.trans (t6.2.1.trans (hb10.tape.trans HB9.out.tape))),t8.2.2.trans (t7.2.2.trans (t6.2.2.trans (hb10.output.trans HB9.out.output))),by have:=HB9.out.size;omega,
    fun k hk=>(o8 k (by omega)).trans ((o7 k (by omega)).trans ((o6 k (by omega)).trans ((hb10.block k (by omega)).trans (HB9.out.block k hk))))⟩)
   have HH:=hid (show am (w.heap.size≤·) w13 (.mk 1 [] 1 1 ns oZ oe) from
    am.less (P:=fun b=>G0+1<b) (fun b _ hb=>(show w.heap.size≤b by have:G0+1<b:=hb;omega)) (am.keep (P:=fun b=>G0+1<b) ⟨by omega,fun k hk hP=>(o8 k (by omega)).trans ((o7 k (by omega)).trans ((o6 k (by omega)).trans (hb10.block k hk)))⟩ (am.less (fun b _ (hb:w8.heap.size≤b)=>(show G0+1<b by omega)) HG.out)))
   have T10:=hid ((hb10.block _ (by omega)).trans S9.out);have T11:=hid ((o6 (G0+1) (by omega)).trans T10.out);have T12:=hid ((o7 (G0+1) (by omega)).trans T11.out);have T13:=hid ((o8 (G0+1) (by omega)).trans T12.out);have Q10:=hid rn10;have Q11:=hid re6;have Q12:=hid rp7;have Q13:=hid (And.intro rn8 (And.intro re8 a8));have E6:=hid e6;have E7:=hid e7;have E8:=hid e8;clear rn10 re10 rp10 e6 a6 o6 s6 t6 re6 rp6 e7 a7 o7 s7 t7 rn7 rp7 e8 a8 o8 s8 t8 rn8 re8 hb10 Rn9 Re9 Rp9 HG HB9 HB7 HB8 Rn8 Re8 Rp8 S8 S9;go_wp2_with fail;refine hK.out _ _ T10.out ?_;clear hK K
   try simp only [aPu,sA,sB,sC]
   have q0:=cRo _ _ 0 _ _ _ Q10.out;have f0:=aw Q10.out 0;have q1:=cRo _ _ 1 _ _ _ Q10.out;have f1:=aw Q10.out 1;have q2:=cRo _ _ 2 _ _ _ Q10.out;have f2:=aw Q10.out 2;have q3:=cRo _ _ 3 _ _ _ Q10.out;have f3:=aw Q10.out 3;have q4:=cRo _ _ 4 _ _ _ Q10.out;have f4:=aw Q10.out 4;refine zdC 5 ?_;intro K hK;go_simp;clear q0 f0 q1 f1 q2 f2 q3 f3 q4 f4;rw [← E6.out];refine hK.out _ _ T11.out ?_;clear hK K
   try simp only [aPu,sA,sB,sC]
   have q0:=cRo _ _ 0 _ _ _ Q11.out;have f0:=aw Q11.out 0;refine zdC 6 ?_;intro K hK;go_simp;clear q0 f0;rw [← E7.out];refine hK.out _ _ T12.out ?_;clear hK K
   try simp only [aPu,sA,sB,sC]
   have q0:=cRo _ _ 0 _ _ _ Q12.out;have f0:=aw Q12.out 0;have q1:=cRo _ _ 1 _ _ _ Q12.out;have f1:=aw Q12.out 1;refine zdC 7 ?_;intro K hK;go_simp;clear q0 f0 q1 f1;rw [← E8.out];refine hK.out _ _ T13.out ?_;clear hK K
   try simp only [aPu,sA,sB,sC]
   refine zdH ?_;obtain ⟨k1,k2,k3⟩:=Q13.out;clear Q10 Q11 Q12 Q13 T10 T11 T12 T13;go_wp2_with fail;refine leaves_cons (f:=18) (args:=#[.pointer (some ⟨w.heap.size,0,none⟩),.pointer (some ⟨w.heap.size+1,0,none⟩),.pointer (some ⟨w.heap.size+1+1,0,none⟩)]) (by simp) (by simp [go_sem]) ?_;have hz13:=HF.out.size;refine (ud _ _ _ w13).mono ?_;rintro E u w14 ⟨rfl,rfl,hb14⟩;have l1:=(aGe.1 k1).1;have l2:=(aGe.1 k2).1;have l3:=(aGe.1 k3).1;exact ⟨_,js (t:=[]) rfl rfl rfl ((hb14.block _ l1).trans k1) ((hb14.block _ l2).trans k2) ((hb14.block _ l3).trans k3),HF.out.trans (hb14.mono (by omega)),by rw [HR.out,hx2];exact ⟨ns,oZ,oe,rfl,HA2.out,am.keep (d9.of_below hb14) HH.out⟩⟩
theorem oT (s:List UInt8) (hs:s.length≤140737488351232) (w:World) (hr:dZ w) :
  Calls Tryz.prog 9 #[.string (bs s)] w (rh (eE s) w):=by
 obtain ⟨l,e,⟨p,q⟩,hx⟩:∃ l e pq,eg s=(l,e,pq):=⟨_,_,_,rfl⟩;by_cases he:e=0
 ·subst he;exact xn s hs w hr hx
 ·exact yv s hs w hr hx he
def fD (x:Tr):List UInt8 × Nat :=
 if j9 x=true then (match eE (af (cr x.kids)) with | .bad e _=>if e=0 then (af (cr x.kids),0) else ([],e) | _=>(af (cr x.kids),0)) else ([],3)
def oK (r:List UInt8 × Nat) (w:World) (E:Ending) (w':World):Prop:=E=.returned (.tuple #[.string (bs r.1),.int .i64 (r.2:Int)])∧Below w.heap.size w w'
theorem nE (k:Int) (t:List UInt8) (l:List Tr):j9 (.mk k t l)=(decide (k=1) && (t.isEmpty && l.all mS)):=by
 show ((decide (k=1) && t.isEmpty && (bD l).all (fun x=>isS x.1)) && ee l)=_;rw [show l.all mS=l.all (fun x=>isS x.kd && okT x) from rfl,← mt isS l,Bool.and_assoc,Bool.and_assoc]
theorem wP (pb:Nat) (a:Option Addr) (m:Nat) (w:World) :
  Calls Tryz.prog 24 #[.pointer (some ⟨pb,0,none⟩),.slice a 0 m] w fun e w'=>e=.returned (.tuple #[])∧w=w':=by
 go_enter Tryz.func24,Tryz.ntmps24
 go_wp2_with fail;go_loopw [8] (fun i wr=>i=.int .i64 0∧w=wr) (fun _ _=>0)
 case atStart=>exact ⟨rfl,rfl⟩
 case round =>
  obtain ⟨rfl,rfl⟩:=hrel;go_wp2_with fail
  go_end0
  exact ⟨rfl,rfl⟩
theorem xS (n:Nat):∀ {s:List (List aJ)},s≠[]→af (aX n s)≠[]
 | [],h=>absurd rfl h
 | a::r,_=>by
   show af (fB n++(a++nl::aX n r))≠[];rw [ic,aQ,aA];simp [nl,df]
theorem xO (k:Int) (t:List UInt8) (l c:Int) (ks:List NM) (a:Option Addr) (m:Nat) (w:World) (h:k≠1∨t≠[]) :
  Calls Tryz.prog 12 #[aB k t l c (.slice a ks.length m)] w (oK ([],3) w):=by
 by_cases hk:k=1
 ·have ht:t≠[]:=h.resolve_left (fun e=>e hk);subst hk;have q:(t == ([]:List UInt8))=false:=by simpa using ht
  clear ht h;go_enter Tryz.func12,Tryz.ntmps12
  go_wp2_with fail
  go_ret2
  exact ⟨rfl,ag w _⟩
 ·have q:(k == 1)=false:=by simpa using hk
  have q2:(k != 1)=true:=by simpa using hk
  clear h hk;go_enter Tryz.func12,Tryz.ntmps12
  go_wp2_with fail
  go_ret2
  exact ⟨rfl,ag w _⟩
theorem ua (l c:Int) (ks:List NM) (a:Option Addr) (m:Nat) (w:World) (hw:bB w) (hh:am aR w (.mk 1 [] l c ks a m)) (hf:(NM.mk 1 [] l c ks a m).fit) (hhi:(NM.mk 1 [] l c ks a m).hi≤90000)
  (aF:ee (NM.trs ks)=true→(af (cr (NM.trs ks))).length≤140737488351232) :
  Calls Tryz.prog 12 #[aB 1 [] l c (.slice a ks.length m)] w (oK (fD (NM.mk 1 [] l c ks a m).tr) w):=by
 obtain ⟨-,hk,hfs⟩:=kY hf;rw [ij] at hhi;have hsay:∀ j (hj:j<ks.length),qv ks[j]:=fun j hj=>sh 90000 ks[j] (iq (by omega) j hj) (gw hfs j hj)
 obtain ⟨w1,hwh,hb1,hr1,hlt1⟩:=an1 w (.cells #[.int .i64 1,.string (bs []),.int .i64 l,.int .i64 c,.slice a ks.length m] 27);have HA:=hid (m4 (fun x=>mS x.tr) _ ks _ (hh.kidsAt.below hb1) (by omega) (fun j hj W hW=>(hsay j hj).s W ((hw.below hb1).below hW) ((hh.kidsAt.below hb1).get j hj |>.below hW)));have bC:=nb;have HW1:=hid (hw.below hb1);have HK0:=hid (hh.kidsAt.below hb1);have HB1:=hid hb1;have HR1:=hid hr1;have HOK:Hid (j9 (NM.mk 1 [] l c ks a m).tr=ks.all (fun x=>mS x.tr)):=hid (by rw [aq,nE,eO];simp);have HPR:=hid (show fD (NM.mk 1 [] l c ks a m).tr=if j9 (NM.mk 1 [] l c ks a m).tr=true then (match eE (af (cr (NM.trs ks))) with | .bad e _=>if e=0 then (af (cr (NM.trs ks)),0) else ([],e) | _=>(af (cr (NM.trs ks)),0)) else ([],3) by unfold fD;rw [aq];rfl);cases hall:ks.all (fun x=>mS x.tr) with
 | false =>
   rw [hall] at HA;have HF:=hid (show fD (NM.mk 1 [] l c ks a m).tr=([],3) by rw [HPR.out,HOK.out,hall];rfl);clear HPR HOK hsay hall hh hf hfs hw hb1 hr1;rw [HF.out];go_enter Tryz.func12,Tryz.ntmps12
   go_wp2_with fail;rw [← hwh.out];clear hwh;refine HA.out.mono ?_;rintro e w2 ⟨rfl,hb2⟩;go_wp2_with fail
   go_ret2
   exact ⟨rfl,zdy HB1.out hb2⟩
 | true =>
   rw [hall] at HA;replace aF:=aF (by
    rw [nV,bR,List.all_map,List.all_eq_true];intro x hx;have:=List.all_eq_true.1 hall x hx;unfold mS at this;simp only [bAe] at this;exact this.2)
   have HP:Hid (fD (NM.mk 1 [] l c ks a m).tr=(match eE (af (cr (NM.trs ks))) with | .bad e _=>if e=0 then (af (cr (NM.trs ks)),0) else ([],e) | _=>(af (cr (NM.trs ks)),0))):=hid (by rw [HPR.out,HOK.out,hall];rfl);have HFP:Hid (af (cr (NM.trs ks))=af (aX 0 (ks.map (fun (x:NM)=>oP 0 x.tr)))):=hid (by unfold cr;rw [c8,bR,List.map_map];rfl);obtain ⟨s,hs⟩:∃ s,s=af (cr (NM.trs ks)):=⟨_,rfl⟩;rw [← hs] at aF;obtain ⟨R,hR⟩:∃ R,R=fD (NM.mk 1 [] l c ks a m).tr:=⟨_,rfl⟩;rw [← hR];have HQ:Hid (R=match eE s with | .bad e _=>if e=0 then (s,0) else ([],e) | _=>(s,0)):=hid (by rw [hR,HP.out,hs]);have hs2:s=af (aX 0 (ks.map (fun (x:NM)=>oP 0 x.tr))):=hs.trans HFP.out;have HE:Hid (ks=[]→s=[]):=hid (fun e=>by rw [hs2,e];rfl);have HN:Hid (ks≠[]→s≠[]):=hid (fun e=>by rw [hs2];exact xS 0 (by simpa using e));have HST:=hid (fun pb W (h:aO pb pb [] 0 W) (hl:el pb W (.slice a ks.length m) ks)=>(show Calls Tryz.prog 24 #[.pointer (some ⟨pb,0,none⟩),.slice a ks.length m] W fun e w'=>e=.returned (.tuple #[])∧aO pb pb s 0 w'∧PK pb W w' by
    have H:=pZ pb 0 ks hk (fun j hj acc tb w h hh htb aF=>(sP pb 90000 ks[j] (iq (by omega) j hj) (gw hfs j hj)).s (by
     have:=List.all_eq_true.1 hall ks[j] (List.getElem_mem hj);exact this) 0 (by omega) acc tb w h hh htb aF) [] 0 W (.slice a ks.length m) h hl (nRe _) (by omega) (by rw [← hs2];show 0+_≤_;omega)
    rw [← hs2] at H;exact H))
   have HRD:=hid (fun W (hW:dZ W)=>oT s aF W hW);clear HPR HP HOK hsay hall hh hf hfs hw hb1 hr1 HFP hs hs2 hR;go_enter Tryz.func12,Tryz.ntmps12
   go_wp2_with fail;rw [← hwh.out];clear hwh;refine HA.out.mono ?_;rintro e w2 ⟨rfl,hb2⟩;clear HA;have HB2:=bc HB1 hb2;have HR2:=hid ((hb2.block _ hlt1).trans HR1.out);have HW2:=hid (HW1.out.below hb2);have HK2:=hid (HK0.out.below hb2);clear hb2;obtain ⟨z0,z1,z2,z3,z4⟩:=r5 HR2.out;have hlt2:w.heap.size<w2.heap.size:=(aGe.1 HR2.out).1;go_wp2_with fail;clear z0 z1 z2 z3 z4;obtain ⟨w3,hwh,hb3,hr3,hlt3,hpg⟩:∃ W,Hid (W=w2.alloc (.cells #[.pointer none,.slice none 0 0,.int .i64 0] 66))∧Below w2.heap.size w2 W∧W.heap[w2.heap.size]? = some (.cells #[.pointer none,.slice none 0 0,.int .i64 0] 66 (0,0))∧w2.heap.size<W.heap.size∧aO w2.heap.size w2.heap.size [] 0 W :=
    ⟨_,hid rfl,ag w2 _,hAn w2 _,by rw [wSz];omega,yE w2 _ (nRe _)⟩
   rw [← hwh.out];clear hwh;have HPG:=hid hpg;have HB3:=bc HB2 hb3;have HW3:=hid (HW2.out.below hb3);have HKI:=hid (show el w2.heap.size w3 (.slice a ks.length m) ks from
    el.keep ⟨⟨HK2.out.row,fun b off n' c' e hne=>by
     obtain ⟨_,a',c'',e',_,_,_,hx⟩:=HK2.out.row;obtain ⟨b',o',rfl,aL,_⟩:=hx hne;have:b'=b:=by rw [e] at e';simp at e';exact e'.1.1.symm
     subst this;exact aL⟩,aP.less (fun b hb _=>hb) HK2.out.held⟩ hb3)
   have HR3:=hid hr3;have HB23:=hid hb3;clear hb3 hpg hr3 HK2 HK0;by_cases h0:ks=[]
   ·have hs0:=HE.out h0;subst h0;subst hs0;refine (wP _ a m w3).mono ?_;rintro e w4 ⟨rfl,rfl⟩;go_wp2_with fail;refine (tu _ 0 _ w3 HR3.out).mono ?_;rintro e w5 ⟨rfl,hb5⟩;have HB5:=bc HB3 hb5;have HW5:=hid (HW3.out.below hb5);clear hb5;go_wp2_with fail;refine (HRD.out _ HW5.out.range).mono ?_;rintro e w6 ⟨hb6,jv⟩;have HB6:=bc HB5 hb6;clear hb6;cases hx:eE [] with
    | oof=>rw [hx] at jv;exact jv.elim
    | ok n r =>
      rw [hx] at jv;obtain ⟨ks',ad,cap,rfl,-,-⟩:=jv;go_wp2_with fail
      go_ret2
      exact ⟨by rw [HQ.out,hx];rfl,zdy HB6.out (zdy (ag _ _) (ag _ _))⟩
    | bad er p =>
      rw [hx] at jv;subst jv;by_cases he:er=0
      ·have q:((er:Int) != 0)=false:=by subst he;rfl
       go_wp2_with fail
       go_ret2
       exact ⟨by rw [HQ.out,hx];simp only [if_pos he];rfl,zdy HB6.out (zdy (ag _ _) (ag _ _))⟩
      ·have q:((er:Int) != 0)=true:=by simp;omega
       go_wp2_with fail
       go_ret2
       exact ⟨by rw [HQ.out,hx];simp only [if_neg he];rfl,zdy HB6.out (zdy (ag _ _) (ag _ _))⟩
   ·have hs0:=HN.out h0;refine (HST.out _ w3 HPG.out HKI.out).mono ?_;rintro e w4 ⟨rfl,hp4,hk4⟩;have HB4:=hid (HB3.out.trans (hk4.below.mono (Nat.le_of_lt hlt2)));have HB24:=hid (HB23.out.trans hk4.below);have HW4:=hid (HW2.out.below HB24.out);have HP4:=hid hp4;have HS:=hid hs0;clear HKI HPG HST hk4 hp4 hs0 HN HE HR3;go_wp2_with fail;refine (vO _ _ s 0 w4 HP4.out HS.out).mono ?_;rintro e w5 ⟨rfl,hb5⟩;have HB5:=hid (HB4.out.trans (hb5.mono (Nat.le_of_lt hlt2)));have HW5:=hid (HW2.out.below (HB24.out.trans hb5));clear hb5;go_wp2_with fail;refine (HRD.out _ HW5.out.range).mono ?_;rintro e w6 ⟨hb6,jv⟩;have HB6:=bc HB5 hb6;clear hb6;cases hx:eE s with
    | oof=>rw [hx] at jv;exact jv.elim
    | ok n r =>
      rw [hx] at jv;obtain ⟨ks',ad,cap,rfl,-,-⟩:=jv;go_wp2_with fail
      go_ret2
      exact ⟨by rw [HQ.out,hx];rfl,zdy HB6.out (zdy (ag _ _) (ag _ _))⟩
    | bad er p =>
      rw [hx] at jv;subst jv;by_cases he:er=0
      ·have q:((er:Int) != 0)=false:=by subst he;rfl
       go_wp2_with fail
       go_ret2
       exact ⟨by rw [HQ.out,hx];simp only [if_pos he];rfl,zdy HB6.out (zdy (ag _ _) (ag _ _))⟩
      ·have q:((er:Int) != 0)=true:=by simp;omega
       go_wp2_with fail
       go_ret2
       exact ⟨by rw [HQ.out,hx];simp only [if_neg he];rfl,zdy HB6.out (zdy (ag _ _) (ag _ _))⟩
theorem pP (k:Int) (t:List UInt8) (l c:Int) (ks:List NM) (a:Option Addr) (m:Nat) (w:World) (hw:bB w) (hh:am aR w (.mk k t l c ks a m)) (hf:(NM.mk k t l c ks a m).fit) (hhi:(NM.mk k t l c ks a m).hi≤90000)
  (aF:ee (NM.trs ks)=true→(af (cr (NM.trs ks))).length≤140737488351232) :
  Calls Tryz.prog 12 #[aB k t l c (.slice a ks.length m)] w (oK (fD (NM.mk k t l c ks a m).tr) w):=by
 by_cases h:k≠1∨t≠[]
 ·have e:fD (NM.mk k t l c ks a m).tr=([],3):=by
   unfold fD;rw [aq,nE];rcases h with h | h
   ·rw [decide_eq_false h];rfl
   ·have q:t.isEmpty=false:=by cases t with
     | nil=>exact absurd rfl h
     | cons _ _=>rfl
    rw [q];simp
  rw [e];exact xO k t l c ks a m w h
 ·have hk:k=1:=Classical.byContradiction fun e=>h (.inl e)
  have ht:t=[]:=Classical.byContradiction fun e=>h (.inr e)
  subst hk;subst ht;exact ua l c ks a m w hw hh hf hhi aF
structure zbs (x:NM):Prop where
 e:dO 86 mE x
 a:dO 87 mA x
 p:dO 121 mP x
 b:dO 120 mB x
 s:dO 85 mS x
theorem pF:∀ (N:Nat) (x:NM),x.hi≤N→x.fit→zbs x
 | 0,.mk k t l c ks a m,h,_=>by rw [ij] at h;omega
 | N+1,.mk k t l c ks a m,h,hf=>by
   rw [ij] at h;obtain ⟨ht,hk,hfs⟩:=kY hf;have ih:∀ j (hj:j<ks.length),zbs ks[j]:=fun j hj=>pF N ks[j] (iq (by omega) j hj) (gw hfs j hj)
   refine ⟨?_,?_,?_,?_,?_⟩
   ·intro w hw hh;by_cases h9:k=9
    ·subst h9;by_cases h0:ks=[]
     ·exact zdk t l c ks a m w hw hh ht h0
     ·exact zcP t l c ks a m w hw hh ht h0
    by_cases h10:k=10
    ·subst h10;by_cases h0:ks=[]
     ·exact zcy t l c ks a m w hw hh ht h0
     ·exact zca t l c ks a m w hw hh ht h0
    by_cases h11:k=11
    ·subst h11;exact zcX t l c ks a m w hw hh ht hk
    by_cases h12:k=12
    ·subst h12;exact zda t l c ks a m w hw hh ht hk (fun j hj=>(ih j hj).e)
    by_cases h13:k=13
    ·subst h13;exact zc0 t l c ks a m w hw hh ht hk (fun j hj=>(ih j hj).e)
    by_cases h14:k=14
    ·subst h14;exact zcL t l c ks a m w hw hh ht hk (fun j hj=>(ih j hj).a)
    by_cases h16:k=16
    ·subst h16;by_cases hn:t=cj
     ·by_cases h1:ks.length=1
      ·match ks,h1,ih,hh with
       | [.mk kx tx lx cx ksx ax mx],_,ih,hh=>exact zbY t l c kx tx lx cx ksx ax mx a m w hw hh ht hn (ih 0 (by simp)).e
      ·exact zZ t l c ks a m w hw hh ht hn h1
     ·by_cases h2:ks.length=2
      ·exact zbB t l c ks a m w hw hh ht hk hn h2 (fun j hj=>(ih j hj).e)
      ·exact zaV t l c ks a m w hw hh ht hk hn h2
    exact zcO k t l c ks a m w hw hh ht (by unfold isE;simp [h9,h10,h11,h12,h13,h14,h16])
   ·intro w hw hh;by_cases h15:k=15
    ·subst h15;by_cases h1:ks.length=1
     ·match ks,h1,ih,hh with
      | [.mk kx tx lx cx ksx ax mx],_,ih,hh =>
        have hx:=(ih 0 (by simp)).e;cases t with
        | nil=>exact zdl l c kx tx lx cx ksx ax mx a m w hw hh ht hx
        | cons tc tr=>exact zdd tc tr l c kx tx lx cx ksx ax mx a m w hw hh ht hx
     ·cases t with
      | nil=>exact zcS l c ks a m w hw hh ht h1
      | cons tc tr=>exact zcI tc tr l c ks a m w hw hh ht h1
    ·exact zcm k t l c ks a m w hw hh ht (by simpa using h15)
   ·intro w hw hh;by_cases h7:k=7
    ·subst h7
     match ks,ih,hh with
     | [],_,hh=>exact zdm t l c [] a m w hw hh ht rfl
     | [.mk kx tx lx cx ksx ax mx],ih,hh =>
       by_cases h9:kx=9
       ·have h9':(kx == 9)=true:=by simpa using h9
        by_cases hk0:ksx=[]
        ·exact zcE t l c kx tx lx cx ksx ax mx a m w hw hh ht h9' hk0
        ·exact zc9 t l c kx tx lx cx ksx ax mx a m w hw hh ht h9' hk0
       ·exact zcz t l c kx tx lx cx ksx ax mx a m w hw hh ht (by simpa using h9)
     | [.mk kx tx lx cx ksx ax mx,.mk ky ty ly cy ksy ay my],ih,hh =>
       by_cases h9:kx=9
       ·have h9':(kx == 9)=true:=by simpa using h9
        by_cases hk0:ksx=[]
        ·exact zco t l c kx tx lx cx ksx ax mx ky ty ly cy ksy ay my a m w hw hh ht h9' hk0 (ih 1 (by simp)).e
        ·exact zcH t l c kx tx lx cx ksx ax mx ky ty ly cy ksy ay my a m w hw hh ht h9' hk0
       ·exact zcF t l c kx tx lx cx ksx ax mx ky ty ly cy ksy ay my a m w hw hh ht (by simpa using h9)
     | x::y::z::r,_,hh=>exact zdx t l c (x::y::z::r) a m w hw hh ht (by simp)
    ·exact zcA k t l c ks a m w hw hh ht (by simpa using h7)
   ·intro w hw hh;by_cases h8:k=8
    ·subst h8;exact zdh t l c ks a m w hw hh ht hk (fun j hj=>(ih j hj).s)
    ·exact zcw k t l c ks a m w (by simpa using h8)
   ·intro w hw hh;by_cases h2:k=2
    ·subst h2;by_cases h1:ks.length=1
     ·match ks,h1,ih,hh with
      | [.mk kx tx lx cx ksx ax mx],_,ih,hh=>exact zde t l c kx tx lx cx ksx ax mx a m w hw hh ht (ih 0 (by simp)).e
     ·exact zcs t l c ks a m w hw hh ht h1
    by_cases h3:k=3
    ·subst h3;cases t with
     | cons tc tr=>exact zcQ tc tr l c ks a m w hw hh ht
     | nil =>
       by_cases h1:ks.length=1
       ·match ks,h1,ih,hh with
        | [.mk kx tx lx cx ksx ax mx],_,ih,hh =>
          by_cases h14:kx=14
          ·exact zdu l c kx tx lx cx ksx ax mx a m w hw hh ht (by simpa using h14) (ih 0 (by simp)).e
          ·exact zcT l c kx tx lx cx ksx ax mx a m w hw hh ht (by simpa using h14)
       ·exact zc3 l c ks a m w hw hh ht h1
    by_cases h4:k=4
    ·subst h4;by_cases h1:ks.length=2
     ·match ks,h1,ih,hh with
      | [.mk kx tx lx cx ksx ax mx,.mk ky ty ly cy ksy ay my],_,ih,hh=>exact zdc t l c kx tx lx cx ksx ax mx ky ty ly cy ksy ay my a m w hw hh ht (ih 0 (by simp)).e (ih 1 (by simp)).b
     ·exact zc7 t l c ks a m w hw hh ht h1
    by_cases h5:k=5
    ·subst h5;cases t with
     | cons tc tr=>exact zcK tc tr l c ks a m w hw hh ht
     | nil =>
       by_cases h1:ks.length=2
       ·match ks,h1,ih,hh with
        | [.mk kx tx lx cx ksx ax mx,.mk ky ty ly cy ksy ay my],_,ih,hh=>exact zcU l c kx tx lx cx ksx ax mx ky ty ly cy ksy ay my a m w hw hh ht (ih 0 (by simp)).e (ih 1 (by simp)).b
       ·by_cases h31:ks.length=3
        ·match ks,h31,ih,hh with
         | [.mk kx tx lx cx ksx ax mx,.mk ky ty ly cy ksy ay my,.mk kz tz lz cz ksz az mz],_,ih,hh=>exact zcv l c kx tx lx cx ksx ax mx ky ty ly cy ksy ay my kz tz lz cz ksz az mz a m w hw hh ht (ih 0 (by simp)).e (ih 1 (by simp)).b (ih 2 (by simp)).b
        ·exact zcN l c ks a m w hw hh ht h1 h31
    by_cases h6:k=6
    ·subst h6;by_cases h0:ks=[]
     ·exact zcJ t l c ks a m w hw hh ht h0
     ·obtain ⟨n,hn⟩:∃ n,ks.length=n+1:=⟨ks.length - 1,by have:=List.length_pos_iff.2 h0;omega⟩;have hzb:=(ih n (by omega)).b;obtain ⟨kz,tz,lz,cz,ksz,az,mz,hz⟩:∃ kz tz lz cz ksz az mz,ks[n]=NM.mk kz tz lz cz ksz az mz:=by cases ks[n];exact ⟨_,_,_,_,_,_,_,rfl⟩
      rw [hz] at hzb;have H:=zdv t l c ks a m w hw hh ht n kz tz lz cz ksz az mz hn hk hz (fun j hj=>(ih j (by omega)).p) hzb;rw [← hn] at H;exact H
    exact zc8 k t l c ks a m w hw hh ht (by unfold isS;simp [h2,h3,h4,h5,h6])
theorem wF (k:Int) (t:List UInt8) (l c:Int) (ks:List NM) (a:Option Addr) (m:Nat) (w:World) (hw:bB w) (hh:am aR w (.mk k t l c ks a m)) (hf:(NM.mk k t l c ks a m).fit) :
  Calls Tryz.prog 26 #[aB k t l c (.slice a ks.length m)] w fun e w'=>e=.returned (.bool (j9 (NM.mk k t l c ks a m).tr))∧Below w.heap.size w w':=by
 obtain ⟨ht,hk,hfs⟩:=kY hf;rw [aq,nE,eO];have H0:=ag w (.cells #[.int .i64 k,.string (bs t),.int .i64 l,.int .i64 c,.slice a ks.length m] 27);have HC:=hid (y5 (fun x=>mS x.tr) _ ks _ (hh.kidsAt.below H0) (by omega) (fun j hj W hW=>(pF _ ks[j] (nRe _) (gw hfs j hj)).s W ((hw.below H0).below hW) ((hh.kidsAt.below H0).get j hj |>.below hW)));clear hw hh H0 hf hfs;generalize ks.all (fun x=>mS x.tr)=b at *;by_cases h1:k=1
 ·subst h1;cases t with
  | cons tc tr =>
    have q:((tc::tr) == ([]:List UInt8))=false:=rfl;clear HC;go_enter Tryz.func26,Tryz.ntmps26
    go_wp2_with fail;go_ret;exact ⟨rfl,ag w _⟩
  | nil =>
    go_enter Tryz.func26,Tryz.ntmps26
    go_wp2_with fail;refine HC.out.mono ?_;rintro e w1 ⟨rfl,hb1⟩;go_wp2_with fail;go_ret;exact ⟨rfl,zdy (ag w _) hb1⟩
 ·have q:(k == 1)=false:=by simpa using h1
  have hd:decide (k=1)=false:=decide_eq_false h1;rw [hd];clear HC h1 hd;go_enter Tryz.func26,Tryz.ntmps26
  go_wp2_with fail;go_ret;exact ⟨rfl,ag w _⟩
abbrev xZ (s:List UInt8) (d:Nat):Value:=.agg #[.string (bs s),.int .i64 (d:Int)]
abbrev mr:=List UInt8 × Nat
def fC (l:List mr):List Value:=l.flatMap fun x=>[.string (bs x.1),.int .i64 (x.2:Int)]
def fd (l:List mr):List UInt8:=l.flatMap (·.1)
def ik (l:List mr):Nat:=b9 (l.map (·.2))
theorem il:∀ l:List mr,(fC l).length=l.length * 2
 | []=>rfl
 | x::r=>by
   have:=il r;show (_::_::fC r).length=_;simp only [lCo];omega
theorem lB:∀ (l:List mr) (k:Nat) (h:k<l.length),(fC l)[k * 2]? = some (.string (bs l[k].1))∧(fC l)[k * 2+1]? = some (.int .i64 (l[k].2:Int))
 | [],k,h=>by simp at h
 | x::r,0,h=>⟨rfl,rfl⟩
 | x::r,k+1,h=>by
   have:=lB r k (by simpa using h);rw [show (k+1) * 2=k * 2+1+1 by omega];exact this
theorem nA:∀ a b:List Nat,b9 (a++b)=max (b9 a) (b9 b)
 | [],b=>by show b9 b=max 0 _;omega
 | x::r,b=>by show max x (b9 (r++b))=max (max x (b9 r)) _;rw [nA r b];omega
theorem xo (l:List mr) (k:Nat) (h:k<l.length):fd (l.take (k+1))=fd (l.take k)++l[k].1:=by
 unfold fd;rw [List.take_succ_eq_append_getElem h,List.flatMap_append];simp
theorem wu (l:List mr) (k:Nat) (h:k<l.length):ik (l.take (k+1))=max (ik (l.take k)) l[k].2:=by
 unfold ik;rw [List.take_succ_eq_append_getElem h,List.map_append,nA];have e:b9 (List.map (fun x:mr=>x.2) [l[k]])=l[k].2:=by show max (l[k].2) 0=_;omega
 rw [← e]
theorem sj (l:List mr) (k:Nat):(fd (l.take k)).length≤(fd l).length:=by
 have:fd l=fd (l.take k)++fd (l.drop k):=by unfold fd;rw [← List.flatMap_append,List.take_append_drop]
 rw [this,lAp];omega
theorem u9 {w:World} {v:Value} {n:Nat} {l:List mr} (h:a9 w 2 v n (fC l)):n=l.length∧∃ a c,v=.slice a l.length c∧l.length≤c∧c≤maxLen ∧
  (∀ k,k<l.length→∃ b off,a=some ⟨b,off,none⟩∧b<w.heap.size∧∀ j (hj:j<l.length),w.cell? ⟨b,off+j * 2,none⟩=some (.string (bs l[j].1))∧w.cell? ⟨b,off+j * 2+1,none⟩=some (.int .i64 (l[j].2:Int))):=by
 obtain ⟨hl,a,c,rfl,hc,hm,-,hx⟩:=h;rw [il] at hl;obtain rfl:n=l.length:=by omega
 refine ⟨rfl,a,c,rfl,hc,hm,fun k hk=>?_⟩;obtain ⟨b,off,rfl,aL,hcell⟩:=hx (by intro e;have:=il l;rw [e] at this;simp at this;omega);refine ⟨b,off,rfl,aL,fun j hj=>?_⟩;have hg:=lB l j hj;exact ⟨hcell _ _ hg.1,by rw [Nat.add_assoc];exact hcell _ _ hg.2⟩
theorem de {w:World} {b:Nat} {x0 x1:Value} {T:TypeId} (h:w.heap[b]? = some (.cells #[x0,x1] T (0,0))):w.cell? ⟨b,0,none⟩=some x0∧w.cell? ⟨b,1,none⟩=some x1∧w.frozen? ⟨b,0,none⟩=false∧w.frozen? ⟨b,1,none⟩=false :=
 ⟨cRo w b 0 _ _ _ h,cRo w b 1 _ _ _ h,aw h 0,aw h 1⟩
theorem ff {w:World} {b:Nat} {x0 x1:Value} {T:TypeId} (h:w.heap[b]? = some (.cells #[x0,x1] T (0,0))) (y0 y1:Value):((w.setCell ⟨b,0,none⟩ y0).setCell ⟨b,1,none⟩ y1).heap[b]? = some (.cells #[y0,y1] T (0,0)) :=
 hSs _ b 1 _ _ y1 (hSs _ b 0 _ _ y0 h)
theorem cZ (w:World) (b k:Nat) (y0 y1:Value) (h:k≠b):((w.setCell ⟨b,0,none⟩ y0).setCell ⟨b,1,none⟩ y1).heap[k]? = w.heap[k]?:=by
 rw [hSo _ ⟨b,1,none⟩ k _ h,hSo _ ⟨b,0,none⟩ k _ h]
theorem aK {B b:Nat} {w w':World} (h:Below B w w') (hb:B≤b) (y0 y1:Value):Below B w ((w'.setCell ⟨b,0,none⟩ y0).setCell ⟨b,1,none⟩ y1) :=
 (h.setCell (p:=⟨b,0,none⟩) hb _).setCell (p:=⟨b,1,none⟩) hb _
theorem fx (w:World) (o1 o2:Obj):((w.alloc o1).alloc o2).heap[w.heap.size+1]? = some o2:=by
 have h:=hAn (w.alloc o1) o2;rw [wSz] at h;exact h
theorem m6 (w:World) (xs:Array Value) (e:TypeId) (fr:Nat × Nat) (n size:Nat) (hl:xs.size=n * size) (hn:n≤maxLen) :
  a9 (w.alloc (.cells xs e fr)) size (.slice (some ⟨w.heap.size,0,none⟩) n n) n xs.toList:=by
 refine ⟨by simpa using hl,_,n,rfl,nRe _,hn,fun h=>(by cases h),fun _=>⟨_,0,rfl,by rw [wSz];omega,fun j u hj=>?_⟩⟩;have h:(⟨w.heap.size,0+j,none⟩:Addr)=(⟨w.heap.size,0,none⟩:Addr).add j:=by
  unfold Addr.add;cases j with
  | zero=>rfl
  | succ j=>rfl
 rw [h];exact ml w xs e fr j u hj
theorem qa (v:Value) (l:List mr) (w:World) (h:a9 w 2 v l.length (fC l)) (hl:(fd l).length≤140737488351232) :
  Calls Tryz.prog 45 #[v] w fun e w'=>e=.returned (xZ (fd l) (ik l))∧Below w.heap.size w w':=by
 have HS:=hid (fun W (hW:Below w.heap.size w W)=>u9 (h.below hW (nRe _)));obtain ⟨-,la,lc,rfl,iI,hlm,-⟩:=u9 h;unfold maxLen at hlm;have HR0:=hid (bz (hAn w (.cells #[.string ⟨#[]⟩,.int .i64 0] 70)) (.cells #[.string ⟨#[]⟩,.int .i64 0] 70));have HR1:=hid (hAn (w.alloc (.cells #[.string ⟨#[]⟩,.int .i64 0] 70)) (.cells #[.string ⟨#[]⟩,.int .i64 0] 70));have HB0:=hid (gx w (.cells #[.string ⟨#[]⟩,.int .i64 0] 70) (.cells #[.string ⟨#[]⟩,.int .i64 0] 70));clear h;go_enter Tryz.func45,Tryz.ntmps45
 go_wp2_with fail;go_loopw [9] (fun i wr=>∃ j:Nat,j≤l.length∧i=.int .i64 j∧Below w.heap.size w wr∧wr.heap[w.heap.size]? = some (.cells #[.string ⟨#[]⟩,.int .i64 0] 70 (0,0))∧wr.heap[w.heap.size+1]? = some (.cells #[.string (bs (fd (l.take j))),.int .i64 (ik (l.take j):Nat)] 70 (0,0))) (fun i _=>l.length - (intOf i).toNat)
 case atStart=>exact ⟨0,by omega,rfl,HB0.out,HR0.out,by have:=HR1.out;rw [wSz] at this;exact this⟩
 case round =>
  obtain ⟨j,hj,rfl,hbw,hr0,hr1⟩:=hrel;have hsz:=hbw.size;have hlt0:w.heap.size<wr.heap.size:=(aGe.1 hr0).1;have hlt1:w.heap.size+1<wr.heap.size:=(aGe.1 hr1).1;have HR:=hid hr0;have HO:=hid hr1;have hln:=sj l j;by_cases aL:j<l.length
  ·obtain ⟨-,la',lc',hv,-,-,hx⟩:=HS.out _ hbw;obtain ⟨lb,lo,rfl,hlb,cw⟩:=hx j aL;obtain ⟨rfl,rfl⟩:la=some ⟨lb,lo,none⟩∧lc=lc':=by simpa using hv
   obtain ⟨c0,c1⟩:=cw j aL;have HNS:=hid (xo l j aL);have HND:=hid (wu l j aL);have hln2:=sj l (j+1);rw [HNS.out,lAp] at hln2;generalize fd (l.take j)=S at *;generalize ik (l.take j)=D at *;generalize l[j].1=s at *;generalize l[j].2=d at *;obtain ⟨o0,o1,fo0,fo1⟩:=de hr1;have HB:=hid hbw;clear cw hx hv hr0 hr1 hbw;by_cases au:D<d
   ·have hgt':(D:Int)<(d:Int):=by omega
    have HD:Hid (ik (l.take (j+1))=d):=hid (by rw [HND.out];omega);clear HND au;go_wp2_with fail;refine ⟨⟨j+1,by omega,by go_num,?_,?_,?_⟩,by simp [intOf];omega⟩
    ·exact (aK HB.out (Nat.le_succ _) _ _).alloc (by simpa [World.setCell] using hsz) _
    ·exact bz ((cZ _ _ _ _ _ (by omega)).trans HR.out) _
    ·rw [HNS.out,HD.out];exact bz (ff HO.out _ _) _
   ·have hgt':¬ ((D:Int)<(d:Int)):=by omega
    have HD:Hid (ik (l.take (j+1))=D):=hid (by rw [HND.out];omega);clear HND au;go_wp2_with fail;refine ⟨⟨j+1,by omega,by go_num,?_,?_,?_⟩,by simp [intOf];omega⟩
    ·exact (HB.out.setCell (p:=⟨w.heap.size+1,0,none⟩) (Nat.le_succ _) _).alloc (by simpa [World.setCell] using hsz) _
    ·exact bz ((hSo _ ⟨w.heap.size+1,0,none⟩ _ _ (by show w.heap.size≠w.heap.size+1;omega)).trans HR.out) _
    ·rw [HNS.out,HD.out];exact bz (hSs _ _ 0 _ _ _ HO.out) _
  ·obtain rfl:j=l.length:=by omega
   rw [List.take_length] at hr1 hln HO;obtain ⟨o0,o1,fo0,fo1⟩:=de hr1;obtain ⟨r0,r1,fr0,fr1⟩:=de hr0;have HB:=hid hbw;clear hr0 hr1 hbw;go_wp2_with fail;exact br Tryz.underlying70 w.heap.size (ff HR.out _ _) ⟨rfl,aK HB.out (nRe _) _ _⟩
theorem dK (l:List mr) (xs:Array Value) (hx:xs=(fC l).toArray) (n:Nat) (hn:n=l.length) (hl:(fd l).length≤140737488351232) (hm:l.length≤10) (W:World) :
  Calls Tryz.prog 45 #[.slice (some ⟨W.heap.size,0,none⟩) n n] (W.alloc (.cells xs 70)) fun e w'=>e=.returned (xZ (fd l) (ik l))∧Below W.heap.size W w':=by
 subst hn;have hs:=m6 W xs 70 (0,0) l.length 2 (by rw [hx];simp [il]) (by unfold maxLen;omega);have e:xs.toList=fC l:=by rw [hx]
 rw [e] at hs;refine (qa _ l _ hs hl).mono ?_;rintro e w' ⟨rfl,hb⟩;exact ⟨rfl,zdy (ag W _) hb⟩
theorem kw (a s b:List UInt8) (d:Nat) (hl:a.length+s.length+b.length≤140737488351232) (hd:d≤1000000000) (w:World) :
  Calls Tryz.prog 124 #[.string (bs a),xZ s d,.string (bs b)] w fun e w'=>e=.returned (xZ (a++(s++b)) (d+1))∧Below w.heap.size w w':=by
 have HR1:=hid (fx w (.cells #[.string (bs s),.int .i64 d] 70) (.cells #[.string (bs (a++(s++b))),.int .i64 ((d:Int)+1)] 70));have HB0:=hid (gx w (.cells #[.string (bs s),.int .i64 d] 70) (.cells #[.string (bs (a++(s++b))),.int .i64 ((d:Int)+1)] 70));go_enter Tryz.func124,Tryz.ntmps124
 go_wp2_with fail;exact br Tryz.underlying70 (w.heap.size+1) HR1.out ⟨rfl,HB0.out⟩
theorem oO (k:Int) (t:List UInt8) (l c:Int) (a:Option Addr) (n m:Nat) (w:World) :
  Calls Tryz.prog 126 #[aB k t l c (.slice a n m)] w fun e w'=>e=.returned (.bool (dY (k,t)))∧Below w.heap.size w w':=by
 have HB:=hid (ag w (.cells #[.int .i64 k,.string (bs t),.int .i64 l,.int .i64 c,.slice a n m] 27));have HO:=hid (show dY (k,t)=(k == 16 && t != [110,111,116]) from rfl);rw [HO.out];clear HO;cases q:(k == 16) <;> cases q2:(t == [110,111,116]) <;> (
  have q3:(t != [110,111,116])=!(t == [110,111,116]):=rfl;rw [q2] at q3;go_enter Tryz.func126,Tryz.ntmps126
  go_wp2_with fail;go_ret;exact ⟨by first | rfl | (rw [q3];rfl),HB.out⟩)
theorem rv (k:Int) (t:List UInt8) (l c:Int) (a:Option Addr) (n m:Nat) (w:World) :
  Calls Tryz.prog 127 #[aB k t l c (.slice a n m)] w fun e w'=>e=.returned (.bool (dX (k,t)))∧Below w.heap.size w w':=by
 have HB:=hid (ag w (.cells #[.int .i64 k,.string (bs t),.int .i64 l,.int .i64 c,.slice a n m] 27));have HR0:=hid (hAn w (.cells #[.int .i64 k,.string (bs t),.int .i64 l,.int .i64 c,.slice a n m] 27));have HC:=hid (fun W=>oO k t l c a n m W);have HO:=hid (show dX (k,t)=(dY (k,t) && t != [43]) from rfl);rw [HO.out];clear HO;generalize dY (k,t)=b at *;cases q2:(t == [43]) <;> (
  have q3:(t != [43])=!(t == [43]):=rfl;rw [q2] at q3;go_enter Tryz.func127,Tryz.ntmps127
  go_wp2_with fail;refine (HC.out _).mono ?_;rintro e w1 ⟨rfl,hb1⟩;obtain ⟨z0,z1,z2,z3,z4⟩:=r5 ((hb1.block _ (by rw [wSz];omega)).trans HR0.out);have HB1:=bc HB hb1;clear hb1;cases b <;> (
   go_wp2_with fail;go_ret;exact ⟨by first | rfl | (rw [q3];rfl),HB1.out⟩))
section
section
variable {P:Program} {ops:Array Oper} {md:Region.Mode} {C:World→Prop}
def ls (md:Region.Mode) (ops:Array Oper) (s n:Nat):Bool :=
 (List.range n).all fun i=>decide (i<s) || (List.range (n+1)).any fun j=>decide (i<j) && Region.waitsFor md ops j i
theorem od {s n:Nat} {listed:Array Bool} (hs:ls md ops s n=true) (hc:Region.chainB md ops n=true) (hn:n<ops.size) (inv:HeadInv md ops n listed) :
  ∀ (d i:Nat),n - i=d→s≤i→i<n→listed.getD i true=false→∀ t,n≤t→t ∉ Region.ready md ops listed:=by
 intro d;induction d using Nat.strongRecOn with
 | _ d ih =>
   intro i hd hsi hi hun t ht hr;obtain ⟨_,ot,hot,hall⟩:=mem_ready.1 hr;have htlt:t<ops.size:=(aGe.1 hot).1;by_cases htn:t=n
   ·subst htn;have h1:=List.all_eq_true.1 hs i (List.mem_range.2 hi);simp only [Bool.or_eq_true,decide_eq_true_eq] at h1;rcases h1 with h1 | h1
    ·omega
    obtain ⟨j,hj,hj2⟩:=List.any_eq_true.1 h1;simp only [bAe,decide_eq_true_eq] at hj2;obtain ⟨oj,hoj,e,he,hb,hon⟩:=Region.waitsFor_spec hj2.2;have hjle:j≤t:=by have:=List.mem_range.1 hj;omega
    by_cases hjt:j=t
    ·subst hjt;have:oj=ot:=Option.some.inj (hoj.symm.trans hot);subst this;have h2:=hall e he hb;rw [hon,getD_both hun] at h2;cases h2
    ·cases hl:listed.getD j false with
     | true =>
       have h2:=inv.closed j oj hoj hl e he hb;rw [hon,getD_both hun] at h2;cases h2
     | false =>
       have hjs:j<listed.size:=by rw [inv.size];omega
       exact ih (t - j) (by omega) j rfl (by omega) (by omega) (getD_in hjs hl) t (nRe _) hr
   ·have h1:=List.all_eq_true.1 hc t (List.mem_range.2 htlt);simp only [Bool.or_eq_true,decide_eq_true_eq] at h1;rcases h1 with h1 | h1
    ·omega
    ·obtain ⟨o',ho',e,he,hb,hon⟩:=Region.waitsFor_spec h1;have:o'=ot:=Option.some.inj (ho'.symm.trans hot);subst this;have h2:=hall e he hb;rw [hon,getD_both (inv.tail (t - 1) (by omega) (by omega))] at h2;cases h2
def lO (P:Program) (md:Region.Mode) (ops:Array Oper) (C:World→Prop) (n:Nat) (L:Array Bool→Act→Prop):Nat→Array Bool→Act→Prop
 | 0,listed,a=>L listed a
 | f+1,listed,a=>Region.ready md ops listed≠[]∧∀ i ∈ Region.ready md ops listed,i<n∧qOp P ops C i (lO P md ops C n L f (listed.setIfInBounds i true)) a
theorem jZ {n g:Nat} {L:Array Bool→Act→Prop} {Q':Exit→Act→World→Prop} (hL:∀ listed a w,C w→L listed a→wpAnyH P md ops Q' (fun _=>True) g listed a w) :
  ∀ (f:Nat) (listed:Array Bool) (a:Act) (w:World),C w→lO P md ops C n L f listed a→wpAnyH P md ops Q' (fun _=>True) (f+g) listed a w
 | 0,_,_,w,hw,h=>by rw [Nat.zero_add];exact hL _ _ w hw h
 | f+1,_,_,w,hw,h=>by
   rw [show f+1+g=(f+g)+1 by omega];exact ⟨fun h0=>absurd h0 h.1,fun i hi=>wpOp_of_qOp hw (fun a' w' hw' h'=>⟨trivial,jZ hL f _ a' w' hw' h'⟩) (h.2 i hi).2⟩
theorem pm {s n i:Nat} {oi:Oper} {v:Value} {L:Array Bool→Act→Prop} (hi:ops[i]? = some oi) (hsel:∀ (j:Nat) (o:Oper) cs b,ops[j]? = some o→o.op≠.select cs b)
  (hs:ls md ops s n=true) (hc:Region.chainB md ops n=true) (hn:n<ops.size) (hsi:s≤i) (hin:i<n)
  (hdone:∀ listed a,L listed a→∀ j ∈ Region.ready md ops listed,n≤j) :
  ∀ (f:Nat) (listed:Array Bool) (a:Act),HeadInv md ops n listed →
    (∀ j oj,ops[j]? = some oj→j≠i→listed.getD j true=false→(∀ e ∈ oj.after,Region.binds md e=true→e.on≠i)→oi.apart ops oj=true) →
    i ∈ Region.ready md ops listed→YieldsIn P ops C oi v a →
    lO P md ops C n L f (listed.setIfInBounds i true) (a.put oi.dst v)→lO P md ops C n L (f+1) listed a:=by
 have early:∀ {listed:Array Bool},HeadInv md ops n listed→i ∈ Region.ready md ops listed→∀ j ∈ Region.ready md ops listed,j<n:=fun {listed} inv hr j hj=>by
  rcases Nat.lt_or_ge j n with h | h
  ·exact h
  ·exact absurd hj (od hs hc hn inv _ i rfl hsi hin (mem_ready.1 hr).1 j h)
 intro f;induction f with
 | zero =>
   intro listed a inv _ hr hy H;refine ⟨fun h=>(by rw [h] at hr;cases hr),fun j hj=>?_⟩;have hjn:=early inv hr j hj;refine ⟨hjn,?_⟩;by_cases hji:j=i
   ·subst hji;exact hy.qOp hi H
   ·have:=hdone _ _ H j (ready_mono hj hji);omega
 | succ f ih =>
   intro listed a inv hfree hr hy H;have hun:=(mem_ready.1 hr).1;refine ⟨fun h=>(by rw [h] at hr;cases hr),fun j hj=>?_⟩;have hjn:=early inv hr j hj;refine ⟨hjn,?_⟩;by_cases hji:j=i
   ·subst hji;exact hy.qOp hi H
   ·have h1:=(H.2 j (ready_mono hj hji)).2;obtain ⟨hjun,oj,hoj,hall⟩:=mem_ready.1 hj;have bC:∀ e ∈ oj.after,Region.binds md e=true→e.on≠i:=fun e he hb heq=>by
     have h1:=hall e he hb;rw [heq,getD_both hun] at h1;cases h1
    have h2:=qOp_put hoj (hfree j oj hoj hji hjun bC) (fun cs b=>hsel i oi cs b hi) (fun cs b=>hsel j oj cs b hoj) hy h1;have hfree':∀ k ok,ops[k]? = some ok→k≠i→(listed.setIfInBounds j true).getD k true=false →
      (∀ e ∈ ok.after,Region.binds md e=true→e.on≠i)→oi.apart ops ok=true:=fun k ok hk hki hun hno=>by
     refine hfree k ok hk hki ?_ hno;by_cases hjk:j=k
     ·subst hjk;exact hjun
     ·rw [getD_set_ne true hjk] at hun;exact hun
    refine qOp_mono (fun a' h3=>ih (listed.setIfInBounds j true) a' (inv.set hj hjn) hfree' (ready_mono hr (Ne.symm hji)) h3.1 ?_) h2;rw [Array.setIfInBounds_comm _ _ hji];exact h3.2
theorem nc {s n g:Nat} {Lq:Act→Prop} (hsel:Region.noSelect ops=true) (hs:ls md ops s n=true) (hc:Region.chainB md ops n=true) (hn:n<ops.size) :
  ∀ (l:List Oper) (k:Nat) (listed:Array Bool) (a:Act),s≤k→(∀ j,j<l.length→l[j]? = ops[k+j]?)→k+l.length=n→HeadInv md ops n listed →
  Region.lexHead md ops g l.length k listed=true→wpQuiet P ops C Lq l a →
  lO P md ops C n (fun listed' a'=>Region.seqB md ops g n listed'=true∧Lq a') l.length listed a
 | [],k,listed,a,_,_,hk,_,hB,h=>by
   have:k=n:=by simpa using hk
   subst this;exact ⟨by simpa [Region.lexHead] using hB,h⟩
 | o::l,k,listed,a,hsk,hl,hk,inv,hB,h=>by
   have h0:ops[k]? = some o:=by simpa using (hl 0 (by simp)).symm
   simp only [lCo,Region.lexHead,bAe] at hB;obtain ⟨⟨hr,hf⟩,hB'⟩:=hB;have hkn:k<n:=by simp only [lCo] at hk;omega
   have hr':k ∈ Region.ready md ops listed:=by simpa using hr
   have hst:qOp P ops C k (wpQuiet P ops C Lq l) a:=by unfold qOp;simp only [h0];exact h
   obtain ⟨v,hy,hK⟩:=yieldsIn_of_qOp h0 hst;exact pm h0 (Region.noSelect_spec hsel) hs hc hn hsk hkn (fun listed' a' hL=>seqB_ready hL.1) l.length listed a inv (Region.free_spec h0 hf) hr' hy
    (nc hsel hs hc hn l (k+1) _ _ (by omega) (fun j hj=>by have:=hl (j+1) (by simp;omega);simpa [Nat.add_assoc,Nat.add_comm 1 j] using this) (by simp only [lCo] at hk;omega) (inv.set hr' hkn) hB' hK)
theorem kF {Q':Exit→Act→World→Prop}:∀ (l:List Oper) (k:Nat) (listed:Array Bool) (a:Act) (w:World),(∀ j,l[j]? = ops[k+j]?) →
  Region.seqB md ops l.length k listed=true→wpList P ops Q' l a w→wpAnyH P md ops Q' (fun _=>True) l.length listed a w
 | [],_,_,_,_,_,hB,h=>⟨by simpa [Region.seqB] using hB,h⟩
 | o::l,k,listed,a,w,hl,hB,h=>by
   have h0:ops[k]? = some o:=by simpa using (hl 0).symm
   simp only [lCo,Region.seqB,bAe,decide_eq_true_eq] at hB;refine ⟨fun h1=>(by rw [hB.1] at h1;cases h1),fun i hi=>?_⟩;rw [hB.1] at hi;have hik:i=k:=by simpa using hi
   subst hik;have hw:wpOp P ops Q' i (wpList P ops Q' l) a w:=by unfold wpOp;simp only [h0];exact h
   exact wpOp_mono (fun a' w' h'=>⟨trivial,kF l (i+1) _ a' w' (fun j=>by have:=hl (j+1);simpa [Nat.add_assoc,Nat.add_comm 1 j] using this) hB.2 h'⟩) hw
def te (md:Region.Mode) (ops:Array Oper) (s:Nat) (listed:Array Bool):Bool :=
 decide (listed.size=ops.size) && (List.range ops.size).all fun j=>listed.getD j true == decide (j<s) &&
  (decide (s≤j) || match ops[j]? with | some o=>o.after.all fun e=>!Region.binds md e || decide (e.on<s) | none=>true)
def uV (md:Region.Mode) (ops:Array Oper) (s n:Nat) (listed:Array Bool):Bool :=
 Region.noSelect ops && decide (s≤n) && decide (n<ops.size) && ls md ops s n && Region.chainB md ops n && te md ops s listed && Region.lexHead md ops (ops.size - n) (n - s) s listed
theorem uh {s n:Nat} {listed:Array Bool} (hs:s≤n) (hn:n<ops.size) (h:te md ops s listed=true):HeadInv md ops n listed:=by
 simp only [te,bAe,decide_eq_true_eq,List.all_eq_true,Bool.or_eq_true,beq_iff_eq,List.mem_range] at h;obtain ⟨hz,h⟩:=h;have hget:∀ j,j<ops.size→listed.getD j true=decide (j<s):=fun j hj=>(h j hj).1
 have hget':∀ j,j<ops.size→listed.getD j false=decide (j<s):=fun j hj=>by
  have:=hget j hj;simp [hz,hj] at this ⊢;exact this
 refine ⟨hz,fun j oj hoj hl e he hb=>?_,fun t ht htl=>?_⟩
 ·have hj:j<ops.size:=(aGe.1 hoj).1;rw [hget' j hj] at hl;have hjs:j<s:=by simpa using hl
  have h2:=(h j hj).2;rcases h2 with h2 | h2
  ·omega
  ·rw [hoj] at h2;have h3:=(Array.all_eq_true_iff_forall_mem.1 h2) e he;simp only [hb,Bool.not_true,Bool.false_or,decide_eq_true_eq] at h3;rw [hget' e.on (by omega)];simpa using h3
 ·rw [hget t htl];simp;omega
end
variable {P:Program}
theorem WH.tail {Q:Exit→Act→World→Prop} {a:Act} {w w0:World} {l:List Oper} {listed:Array Bool} {fuel:Nat} (s n:Nat) (hf:fuel=(n - s)+(l.length - n)) (hB:uV .any l.toArray s n listed=true) (hw:Below w0.heap.size w0 w)
  (h:WQ P l.toArray (fun w'=>Below w0.heap.size w0 w') (fun a'=>∀ w',Below w0.heap.size w0 w'→wpList P l.toArray Q (l.drop n) a' w') ((l.take n).drop s) a):WH P l.toArray Q (fun _=>True) fuel listed a w:=by
 subst hf;simp only [uV,bAe,decide_eq_true_eq] at hB;obtain ⟨⟨⟨⟨⟨⟨hsel,hsn⟩,hn⟩,hs⟩,hc⟩,hst⟩,hlex⟩:=hB;have hn':n<l.length:=by simpa using hn
 have htl:((l.take n).drop s).length=n - s:=by simp;omega
 have hdl:(l.drop n).length=l.toArray.size - n:=by simp
 have H:=nc (md:=.any) (g:=l.toArray.size - n) hsel hs hc hn ((l.take n).drop s) s _ a (nRe _) (fun j hj=>by
  have hj':j<n - s:=by rw [htl] at hj;exact hj
  simp [List.getElem?_drop,show s+j<n by omega]) (by rw [htl];omega) (uh hsn hn hst) (by rw [htl];exact hlex) h.out
 have:=jZ (Q':=Q) (g:=l.toArray.size - n) (fun listed a' w' hw' hL=>by
  have:=kF (md:=.any) (Q':=Q) (l.drop n) n listed a' w' (fun j=>by simp [List.getElem?_drop]) (by rw [hdl];exact hL.1) (hL.2 w' hw');rwa [hdl] at this) _ _ _ w hw H
 rw [htl] at this;exact ⟨by simpa using this⟩
theorem ba {id:Nat} {Q:Exit→Act→World→Prop} {a:Act} {w:World} {l:List Oper} (n:Nat) (hm:P.follows .mixedOrders=true) (hB:uV .any l.toArray 0 n (Array.replicate l.length false)=true)
  (h:WQ P l.toArray (fun w'=>Below w.heap.size w w') (fun a'=>∀ w',Below w.heap.size w w'→wpList P l.toArray Q (l.drop n) a' w') (l.take n) a):(Code.region id l.toArray true).wp P Q a w:=by
 have hn:n<l.length:=by
  have hB':=hB;simp only [uV,bAe,decide_eq_true_eq] at hB';simpa using hB'.1.1.1.1.2
 exact aH (S:=fun _=>True) hm (WH.tail 0 n (by omega) hB (dS.below ⟨1,rfl⟩) (by simpa using h))
end
end Go.Proofs.YtfgiihpopngbkaaGreatDoor
