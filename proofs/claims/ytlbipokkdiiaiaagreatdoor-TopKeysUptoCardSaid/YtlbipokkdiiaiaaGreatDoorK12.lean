/- Lemmas for TopKeysUpto: F16, F17, F18, F19, F20. -/
import Derived.Test.YtlbipokkdiiaiaaGreatDoorK11
import Derived.Test.YtlbipokkdiiaiaaGreatDoorK08
open List renaming setIfInBounds_toArray → sA, set_cons_zero → sB, set_cons_succ → sC
namespace Go.Proofs.YtlbipokkdiiaiaaGreatDoor
open Go.RowKit Exec Go.Shelf
set_option maxRecDepth 100000
attribute [local go_sem] Oper.semAt_some
theorem zcy (a:Option Addr) (n c:Nat) (w:World):Calls Tryz.prog 297 #[.slice a n c] w fun e w'=>e=.returned (.func (.func 320) #[] #[.pointer (some ⟨w.heap.size,0,none⟩)])∧w'=w.alloc (.cells #[.slice a n c] 46):=by
 go_enter Tryz.func297,Tryz.ntmps297
 go_wp2
 go_ret
 exact⟨rfl,rfl⟩
def fJ (ls:List Txt) (r:aw) (pre:List Nat):aw:={r with top:=(pre.reverse.map fun x=>gm.line (ls.getD x []))++r.top}
def qo (ls:List Txt) (B g km mb z:Nat) (D E:Nat→Prop) (env:List (Txt×Txt)) (r:aw) (w:World) (ev:Value) (cs:List Value) (pre:List Nat) (W:World):Prop:=
 ∃(D':Nat→Prop) (tv':Value) (vs':List Value),(∀j,D' j→D j∨w.heap.size≤j)∧(∀j,E j→¬D' j)∧z≤W.heap.size∧az D w W∧(W.heap[mb]?=some (dP r.seen.reverse)∧D' mb)∧aN B D' g env (fJ ls r pre) W tv' ev km mb vs' cs
theorem eT {D:Nat→Prop} {w A W:World} {row:Option Nat} (h:az D w A) (hg:A.grownBy W row) (hr:∀x,row=some x→w.heap.size≤x):az D w W:=
 ⟨hg.os.trans h.os,hg.tape.trans h.tape,hg.output.trans h.output,Nat.le_trans h.size hg.size,fun k hk hd=>(hg.block k (Nat.lt_of_lt_of_le hk h.size) (fun e=>by have:=hr k e.symm;omega)).trans (h.block k hk hd)⟩
theorem qo.own {ls:List Txt} {B g km mb z B0:Nat} {D E:Nat→Prop} {env:List (Txt×Txt)} {r:aw} {w:World} {ev:Value} {cs:List Value} (hB:w.heap.size≤B0) (hkm:km<w.heap.size) (hmb:mb<w.heap.size):OwnFrom B0 (qo ls B g km mb z D E env r w ev cs):=by
 intro pre A W row ⟨D',tv',vs',h1,h2,hz,h3,hs,h4⟩ hg hr
 exact⟨D',tv',vs',h1,h2,Nat.le_trans hz hg.size,eT h3 hg (fun x hx=>Nat.le_trans hB (hr x hx).1),⟨(hg.block mb (lx (hid hs.1)) (fun e=>by have:=(hr _ e.symm).1;omega)).trans hs.1,hs.2⟩,h4.grown hg (fun x hx=>(hr x hx).2) (fun e=>by have:=(hr _ e).1;omega) (fun _ e=>by have:=(hr _ e).1;omega)⟩
def sZ (ls:List Txt) (B g km mb z:Nat) (D E:Nat→Prop) (env:List (Txt×Txt)) (r:aw) (w:World) (ev:Value) (cs:List Value) (pre:List Nat) (bx:Nat) (s:Txt) (W:World):Prop:=
 ∃(D':Nat→Prop) (tv':Value) (vs':List Value),(∀j,D' j→D j∨w.heap.size≤j)∧(∀j,E j→¬D' j)∧z≤W.heap.size∧az D w W∧(W.heap[mb]?=some (dP r.seen.reverse)∧D' mb)∧aN B D' g env (fJ ls r pre) W tv' ev km mb vs' cs∧aI D' W bx (.string (bs s))
theorem sZ.own {ls:List Txt} {B g km mb z B0 bx:Nat} {s:Txt} {D E:Nat→Prop} {env:List (Txt×Txt)} {r:aw} {w:World} {ev:Value} {cs:List Value} {pre:List Nat} (hB:w.heap.size≤B0) (hkm:km<w.heap.size) (hmb:mb<w.heap.size) {A W:World} {row:Option Nat} (h:sZ ls B g km mb z D E env r w ev cs pre bx s A) (hg:A.grownBy W row) (hr:∀x,row=some x→B0≤x∧∃o:Obj,A.heap[x]?=some o∧o.isCells=false):sZ ls B g km mb z D E env r w ev cs pre bx s W:=by
 obtain⟨D',tv',vs',h1,h2,hz,h3,hs,h4,h5⟩:=h
 exact⟨D',tv',vs',h1,h2,Nat.le_trans hz hg.size,eT h3 hg (fun x hx=>Nat.le_trans hB (hr x hx).1),⟨(hg.block mb (lx (hid hs.1)) (fun e=>by have:=(hr _ e.symm).1;omega)).trans hs.1,hs.2⟩,h4.grown hg (fun x hx=>(hr x hx).2) (fun e=>by have:=(hr _ e).1;omega) (fun _ e=>by have:=(hr _ e).1;omega),h5.grown hg (fun x hx=>(hr x hx).2)⟩
theorem qo.box {ls:List Txt} {B g km mb z:Nat} {s:Txt} {D E:Nat→Prop} {env:List (Txt×Txt)} {r:aw} {w:World} {ev:Value} {cs:List Value} {pre:List Nat} {W:World} (h:qo ls B g km mb z D E env r w ev cs pre W):sZ ls B g km mb z D E env r w ev cs pre W.heap.size s (W.alloc (.cells #[.string (bs s)] 9)):=by
 obtain⟨D',tv',vs',h1,h2,hz,h3,hs,h4⟩:=h
 have hb:=ab W (.cells #[.string (bs s)] 9)
 exact⟨D',tv',vs',h1,h2,Nat.le_trans hz hb.size,h3.then hb,⟨(hb.block mb (lx (hid hs.1))).trans hs.1,hs.2⟩,h4.below hb,by rw[World.size_alloc];omega,fun e=>by have:=(h4.db _ e).2;omega,(cell_of_row _ _ 0 _ _ _ (heap_alloc_new W _)).trans rfl⟩
theorem zd0 (ls:List Txt):(bk ls.length 0).reverse.map (fun x=>gm.line (ls.getD x []))=ls.map .line:=by
 unfold bk
 rw[List.reverse_reverse,List.drop_zero]
 refine List.ext_getElem (by simp) fun i h1 h2=>?_
 have h3:i<ls.length:=by simpa using h2
 rw[List.getElem_map,List.getElem_map,List.getElem_range,js ls [] i h3]
def xp (d:Txt) (b3 b4 b5 q bx:Nat) (a:Option Addr) (n c:Nat) (x:Nat) (s:Txt):Act:=
 {tmps:=#[.string (bs d),.pointer (some ⟨b3,0,none⟩),.pointer (some ⟨b4,0,none⟩),.pointer (some ⟨b5,0,none⟩),undef,undef,.pointer (some ⟨bx,0,none⟩),.string (bs d),.slice a n c,.func (.func 320) #[] #[.pointer (some ⟨q,0,none⟩)],.int .i64 (x:Int),.string (bs s),undef,undef,undef,undef,undef,undef,undef,undef,undef,undef],defers:=[]}
set_option maxHeartbeats 8000000 in
theorem xR {B g km mb:Nat} {D:Nat→Prop} {env:List (Txt×Txt)} {r:aw} {w:World} {tv ev:Value} {vs cs:List Value} (h:aN B D g env r w tv ev km mb vs cs) (b3 b4 b5:Nat) (p3:aI D w b3 (.pointer (some ⟨g,0,none⟩))) (p4:aI D w b4 (.string (bs r.word))) (p5:aI D w b5 (.map (some mb)))
 (hseen:w.heap[mb]?=some (dP r.seen.reverse)∧D mb∧mb≠km) (d:Txt) (hd:d.length≤65536) (hm:bE w) (hfit:dp {r with top:=(aq d).map .line++r.top}):
 Calls Tryz.prog 296 #[.string (bs d),.pointer (some ⟨b3,0,none⟩),.pointer (some ⟨b4,0,none⟩),.pointer (some ⟨b5,0,none⟩)] w fun e w'=>e=.returned (.tuple #[])∧aD B D g env {r with top:=(aq d).map .line++r.top} w w':=by
 have hkm:=lx (hid h.kn)
 have hmb:=lx (hid hseen.1)
 have HL:=hid (bJ d w (by omega) hm)
 have hll:=bt d
 have H:=hid h
 have HP:=hid (And.intro p3 (And.intro p4 p5))
 have HSE:=hid hseen
 have HFIT:=hid hfit
 clear h p3 p4 p5 hseen hm hfit
 generalize aq d=ls at *
 refine(callsIn_wide (n:=5)).1 ?_
 refine callsIn_of_wp_marks Tryz.func296 rfl trivial ?_ rfl
 simp only[Tryz.ntmps296,List.size_toArray,List.length_cons,List.length_nil,Nat.reduceAdd,Nat.reduceSub,Array.replicate_succ,Array.replicate_zero,List.push_toArray,List.append_toArray,List.nil_append,List.cons_append]
 gi_wp2_with fail
 refine⟨trivial,(callsIn_wide.2 HL.out).mono ?_⟩
 rintro e W1 ⟨v,rfl,ho,hb1⟩
 obtain⟨a,c,rfl,hvc,hvm, -,hown,hxx⟩:=cp ho (by omega)
 have HX:=hid hxx
 have HO:=hid hown
 have HB1:=hid hb1
 clear ho hxx hown hb1
 gi_wp2_with fail
 refine⟨trivial,(callsIn_wide.2 (zcy a ls.length c W1)).mono ?_⟩
 rintro e W2 ⟨rfl,hW2⟩
 have hb2:Below W1.heap.size W1 W2:=hW2▸ab W1 _
 have hz2:W2.heap.size=W1.heap.size+1:=by rw[hW2];exact World.size_alloc _ _
 have hq2:W2.cell? ⟨W1.heap.size,0,none⟩=some (.slice a ls.length c):=by rw[hW2];exact(cell_of_row _ _ 0 _ _ _ (heap_alloc_new W1 _)).trans rfl
 have HB2:=hid (Below.chain HB1.out hb2)
 have HQ:=hid hq2
 have hzw:=HB1.out.size
 have HX2:=hid (fun k (hk:k<ls.length)=>show ∃b o,a=some ⟨b,o,none⟩∧(w.heap.size≤b∧b<W1.heap.size)∧∀j (hj:j<ls.length),W2.cell? ⟨b,o+j,none⟩=some (.string (bs ls[j])) from by
  obtain⟨b,o,rfl,hb,aX⟩:=HX.out k hk
  exact⟨b,o,rfl,⟨(HO.out b rfl).1,hb⟩,fun j hj=>Below.keeps hb2 (aX j hj)⟩)
 clear hW2 hq2 hb2
 gi_wp2_with fail
 refine eM (α:=Nat) rfl (by omega) (gf:=320) (lb:=#[.pointer (some ⟨W1.heap.size,0,none⟩)]) rfl trivial (enters_of Tryz.func320 (by kernel_rfl) rfl) (Kp:=ec (fun j=>w.heap.size≤j∧j≤W1.heap.size)) (S:=fun xs=>xs=bk ls.length 0) (Sp:=fun _=>True) (N:=ls.length)
  (xM _ (by omega) W1.heap.size (fun j=>w.heap.size≤j∧j≤W1.heap.size) ⟨hzw,Nat.le_refl _⟩ ls a c (by omega) W2 HQ.out (fun k hk=>by
   obtain⟨b,o,h1,h2,h3⟩:=HX2.out k hk
   exact⟨b,o,h1,⟨h2.1,by omega⟩,h3⟩))
  (fun h k j hj=>(k j hj).trans (h j hj)) (fun W l o' hl j hj=>World.putObj_heap_other (by omega)) (fun _=>rfl)
  (qo ls B g km mb W2.heap.size D (fun j=>w.heap.size≤j∧j≤W1.heap.size) env r w ev cs) (fun _ _ _=>False)
  (fun pre x a' W=>∃bx:Nat,a'=xp d b3 b4 b5 W1.heap.size bx a ls.length c x (ls.getD x [])∧sZ ls B g km mb W2.heap.size D (fun j=>w.heap.size≤j∧j≤W1.heap.size) env r w ev cs pre bx (ls.getD x []) W)
  (qo.own (by omega) hkm hmb) (fun _ _ _ _ _ h=>h.elim) (fun pre x a' _ A W' row h hg hr=>by
   obtain⟨bx,h1,h2⟩:=h
   exact⟨bx,h1,h2.own (B0:=W2.heap.size) (by omega) hkm hmb hg hr⟩) ?start ?assign ?body ?done (fun _ _ _ _ _ _ h=>h.elim)
 case start=>
  exact⟨D,tv,vs,fun j e=>.inl e,fun j e k=>by have:=(H.out.db j k).2;omega,Nat.le_refl _,az.of_below HB2.out,⟨(HB2.out.block mb hmb).trans HSE.out.1,HSE.out.2.1⟩,H.out.below HB2.out⟩
 case assign=>
  intro l pre x W hI hpl
  unfold bkC
  generalize ls.getD x []=s
  have hA:=hI.box (s:=s)
  have hb:=ab W (.cells #[.string (bs s)] 9)
  have hko:=KeepsOthers.alloc W (.cells #[.string (bs s)] 9)
  have hsz:W2.heap.size≤W.heap.size:=by obtain⟨_,_,_,_,_,hz, -⟩:=hI;exact hz
  have HA:=hid (And.intro hA (And.intro hb hko))
  clear hA hb hko hI
  gi_wp2_with fail
  exact⟨HA.out.2.2,fun j hj=>HA.out.2.1.block j (by omega),W.heap.size,rfl,HA.out.1⟩
 case body=>
  rintro l pre x a' W ⟨bx,rfl,hA⟩ hpl
  unfold xp
  have hsx:(ls.getD x []).length≤65536:=by
   rw[List.getD_eq_getElem?_getD]
   cases hx:ls[x]? with
   |none=>exact Nat.zero_le _
   |some s=>exact HFIT.out.ln s (List.mem_append_left _ (List.mem_map_of_mem (List.mem_of_getElem? hx)))
  have hsc:fJ ls r (pre++[x])={fJ ls r pre with top:=.line (ls.getD x [])::(fJ ls r pre).top}:=by
   unfold fJ
   rw[List.reverse_append,List.reverse_cons,List.reverse_nil,List.nil_append,List.cons_append,List.nil_append,List.map_cons,List.cons_append]
  have HSC:=hid hsc
  clear hsc
  generalize ls.getD x []=s at *
  obtain⟨D',tv',vs',h1,h2,hz,h3,hse,h4,h5⟩:=hA
  have HRD:=hid (fun(W':World) (hb:Below W.heap.size W W')=>And.intro (h4.below hb) (show B≤W'.heap.size by have:=h4.db g h4.dg;have:=hb.size;omega))
  have q3:=HP.out.1.go h3 h1
  have HSS:=hid (And.intro q3.2.2 (aA h4.at_).1)
  gi_wp2_with fail
  refine lm (fun W'=>W'.cell? ⟨b3,0,none⟩=some (.pointer (some ⟨g,0,none⟩))∧W'.cell? ⟨g,0,none⟩=some tv') 10 (by kernel_rfl) (fun⟨_,_,h⟩=>h) (by kernel_rfl) ?_
  intro Wd hbd
  have hS:Wd.cell? ⟨b3,0,none⟩=some (.pointer (some ⟨g,0,none⟩))∧Wd.cell? ⟨g,0,none⟩=some tv':=⟨Below.keeps hbd HSS.out.1,Below.keeps hbd HSS.out.2⟩
  refine zfs 0 (some 12) (hi:=rfl) hS ?_
  apply Exists.intro
  refine⟨fun W hW=>?_,?_⟩
  ·have e1:=hW.1
   go_simp
   try rfl
  try simp only[Act.put,sA,sB,sC]
  refine zfs 1 (some 13) (hi:=rfl) hS ?_
  apply Exists.intro
  refine⟨fun W hW=>?_,?_⟩
  ·have e1:=hW.1
   go_simp
   try rfl
  try simp only[Act.put,sA,sB,sC]
  refine zfq 2 (some 14) (hi:=rfl) (.inr hS) ?_
  apply Exists.intro
  refine⟨fun W=>?_,?_⟩
  ·go_simp
   try rfl
  try simp only[Act.put,sA,sB,sC]
  refine zfq 3 (some 15) (hi:=rfl) (.inr hS) ?_
  apply Exists.intro
  refine⟨fun W=>?_,?_⟩
  ·go_simp
   try rfl
  try simp only[Act.put,sA,sB,sC]
  refine zfs 4 (some 16) (hi:=rfl) hS ?_
  apply Exists.intro
  refine⟨fun W hW=>?_,?_⟩
  ·have e1:=hW.2
   go_simp
   try rfl
  try simp only[Act.put,sA,sB,sC]
  refine zfq 5 (some 17) (hi:=rfl) (.inr hS) ?_
  apply Exists.intro
  refine⟨fun W=>?_,?_⟩
  ·go_simp
   try rfl
  try simp only[Act.put,sA,sB,sC]
  refine WL.o 6 (hi:=rfl) ?_
  intro K hK
  go_simp
  have hb6:=ab Wd (.cells #[Value.func (.func 298) #[] #[.pointer (some ⟨bx,0,none⟩),.pointer (some ⟨b4,0,none⟩),.pointer (some ⟨b3,0,none⟩),.pointer (some ⟨b5,0,none⟩)]] 1)
  have hn6:=heap_alloc_new Wd (.cells #[Value.func (.func 298) #[] #[.pointer (some ⟨bx,0,none⟩),.pointer (some ⟨b4,0,none⟩),.pointer (some ⟨b3,0,none⟩),.pointer (some ⟨b5,0,none⟩)]] 1)
  generalize Wd.alloc (.cells #[Value.func (.func 298) #[] #[.pointer (some ⟨bx,0,none⟩),.pointer (some ⟨b4,0,none⟩),.pointer (some ⟨b3,0,none⟩),.pointer (some ⟨b5,0,none⟩)]] 1)=W6 at *
  obtain⟨hR6,hW6⟩:=HRD.out _ (Below.chain hbd hb6)
  obtain⟨v7,W7,hr7,ho7,hg7,hat7⟩:=uI _ rfl hR6.row hn6 hW6 (by have:=hR6.sm.tl;have:=hR6.top.len;have:=hR6.cmd.len;omega)
  have G7:=hid (And.intro hR6 (And.intro hn6 (And.intro ho7 (And.intro hg7 (And.intro hat7 (Below.chain hbd hb6))))))
  have ne7:=iQ hR6.row hR6.at_
  have hg7b:W7.heap[g]?=some (.cells (iF tv' ev km (fJ ls r pre)).toArray 323 (0,0)):=(hg7.block g (lx (hid hR6.at_)) (fun e=>ne7 g e.symm rfl)).trans hR6.at_
  have c37:=q3.go (az.of_below (Below.chain hbd hb6)) (fun j e=>.inl e)
  have hS7:W7.cell? ⟨b3,0,none⟩=some (.pointer (some ⟨g,0,none⟩))∧W7.cell? ⟨g,0,none⟩=some tv':=⟨(World.cell?_of_block (hg7.block b3 c37.1 (fun e=>c37.2.1 (hR6.dt _ e.symm)))).trans c37.2.2,(aA hg7b).1⟩
  have f7:W7.frozen? ⟨g,0,none⟩=false:=Lib.frozen_of_heap hg7b 0
  obtain⟨a7,q7,rfl⟩:=ax ho7
  clear ne7 hg7b c37 hR6 hn6 ho7 hg7 hat7
  have hS6:=And.intro (Below.keeps hb6 hS.1) (Below.keeps hb6 hS.2)
  refine hK.out _ _ (.inr hS6) ?_
  clear hK K
  try simp only[Act.put,sA,sB,sC]
  refine WL.o 7 (hi:=rfl) ?_
  intro K hK
  refine jg (t:=319) hr7 ?_
  refine hK.out _ _ (.inr hS7) ?_
  clear hK K
  try simp only[Act.put,sA]
  refine WL.o 8 (hi:=rfl) ?_
  intro K hK
  go_simp
  refine hK.out _ _ (.inr hS7) ?_
  clear hK K
  try simp only[Act.put,sA,sB,sC]
  refine WL.o 9 (hi:=rfl) ?_
  intro K hK
  go_simp
  refine hK.out _ _ (.inr hS7) ?_
  clear hK K
  try simp only[Act.put,sA,sB,sC]
  refine WL.o 10 (hi:=rfl) ?_
  intro K hK
  have c7':=hS7.2
  go_simp
  refine hK.out _ _ (.inl (by kernel_rfl)) ?_
  clear hK K
  try simp only[Act.put,sA,sB,sC]
  refine WL.d ?_
  gi_wp2_with fail
  obtain⟨k1,k2,k3,k4,k5,k6⟩:=G7.out
  have hfi:dp (fJ ls r (pre++[x])):=by
   rw[HSC.out]
   refine⟨k1.sm.buf,k1.sm.kn,fun s' hs'=>?_,k1.sm.cm,?_,k1.sm.nd⟩
   ·rcases List.mem_cons.1 hs' with e|e
    ·cases e;exact hsx
    ·exact k1.sm.ln s' e
   ·have e1:(fJ ls r pre).top.length=pre.length+r.top.length:=by unfold fJ;simp
    have e2:=HFIT.out.tl
    simp only[List.length_append,List.length_map] at e2
    show(fJ ls r pre).top.length+1+r.cmds.length≤_
    omega
  have hfW:az D' W W6:=az.of_below k6
  have hsm:W6.heap[mb]?=some (dP r.seen.reverse):=(k6.block mb (lx (hid hse.1))).trans hse.1
  have r3:=(HP.out.1.go h3 h1).go hfW (fun j e=>.inl e)
  have r4:=(HP.out.2.1.go h3 h1).go hfW (fun j e=>.inl e)
  have r5:=(HP.out.2.2.go h3 h1).go hfW (fun j e=>.inl e)
  have rx:=h5.go hfW (fun j e=>.inl e)
  obtain⟨D2,j1,j2,j3⟩:=k1.push (mb':=mb) (r':=fJ ls r (pre++[x])) (vs':=_::vs') (cs':=cs) k3 k4 k5 rfl (by rw[HSC.out];exact⟨rfl,rfl,rfl,rfl,rfl⟩) hfi (fun _=>⟨hsm,hse.2,HSE.out.2.2⟩)
   (fun W3 D3 f3 d3=>by
    rw[HSC.out]
    exact⟨⟨_,_,_,_,rfl,rx.go f3 d3,r4.go f3 d3,r3.go f3 d3,r5.go f3 d3⟩,k1.top.imp fun _ _ k=>k.go f3 d3⟩)
   (fun W3 D3 f3 d3=>by
    rw[HSC.out]
    exact k1.cmd.imp fun _ _ k=>k.go f3 d3)
  have j4:=j3.seen (by rw[HSC.out];rfl)
  have e4:(fJ ls r (pre++[x])).seen=r.seen:=rfl
  rw[e4] at j4
  have ne7:=iQ k1.row k1.at_
  have hko:KeepsOthers W (W7.setCell ⟨g,0,none⟩ (.slice a7 (vs'.length+cs.length+1) q7)):=((dz k6).trans (KeepsOthers.of_grownBy k4 (fun j o hj ho=>by
   obtain⟨-,⟨h1, -⟩|⟨b,cap,cur,h1, -,h2, -⟩⟩:=k1.row
   ·rw[h1] at hj;cases hj
   ·rw[h1] at hj
    have:b=j:=Option.some.inj hj
    subst this
    rw[h2] at ho
    cases ho
    rfl))).trans (KeepsOthers.setCell _ _ _)
  have hd:∀j,D2 j→D' j∨W.heap.size≤j:=fun j hj=>by
   rcases j1 j hj with e|e
   ·exact .inl e
   ·exact .inr (Nat.le_trans k6.size e)
  have hwW:w.heap.size≤W.heap.size:=h3.size
  refine⟨hko,fun j hj=>?_,D2,_,_,fun j hj=>?_,fun j hj hd2=>?_,Nat.le_trans hz (Nat.le_trans k6.size j2.size),h3.trans (hfW.trans j2 fun j _ e=>e) (fun j hj e=>?_),⟨j4.1,j4.2.1⟩,j3⟩
  ·exact(hfW.trans j2 fun j _ e=>e).block j (by omega) (h2 j hj)
  ·rcases hd j hj with e|e
   ·exact h1 j e
   ·exact .inr (by omega)
  ·rcases hd j hd2 with e|e
   ·exact h2 j hj e
   ·omega
  ·rcases h1 j e with e|e
   ·exact e
   ·omega
 case done=>
  rintro D0 xs W hD rfl hI hK
  obtain⟨D',tv',vs',h1,h2,hz,h3,hse,h4⟩:=hI
  gi_wp2_with fail
  refine⟨by simp,.inl ⟨_,_,rfl,run_takeDeferred hK,?_⟩⟩
  have hgr:=grownBy_putObj' W D0 (.deferred none)
  have hrw:∀x,some D0=some x→W2.heap.size≤x∧∃o:Obj,W.heap[x]?=some o∧o.isCells=false:=fun x e=>by cases e;exact⟨hD,_,hK,rfl⟩
  have h5:=h4.grown hgr (fun x hx=>(hrw x hx).2) (fun e=>by have:=(hrw _ e).1;omega) (fun _ e=>by have:=(hrw _ e).1;omega)
  have e1:fJ ls r (bk ls.length 0)={r with top:=ls.map .line++r.top}:=by
   unfold fJ
   rw[zd0]
  rw[e1] at h5
  refine⟨.tuple #[],?_,rfl,D',h1,eT h3 hgr (fun x hx=>by have:=(hrw x hx).1;omega),tv',ev,km,mb,vs',cs,h5⟩
  simp[results,Tryz.f296,go_sem]
end Go.Proofs.YtlbipokkdiiaiaaGreatDoor
namespace Go.Proofs.YtlbipokkdiiaiaaGreatDoor
open Go.RowKit Exec Go.Shelf
set_option maxRecDepth 100000
section
variable {B g km mb:Nat} {D:Nat→Prop} {env:List (Txt×Txt)} {r:aw} {w:World}
theorem uR (w:World) (p:Txt) (is:Bool) (d:Txt):Below w.heap.size w (w.alloc (.cells #[.string (bs p),.bool is,.string (bs d)] 98))∧(w.alloc (.cells #[.string (bs p),.bool is,.string (bs d)] 98)).cell? ⟨w.heap.size,1,none⟩=some (.bool is)∧(w.alloc (.cells #[.string (bs p),.bool is,.string (bs d)] 98)).cell? ⟨w.heap.size,2,none⟩=some (.string (bs d)):=by
 have hn:=heap_alloc_new w (.cells #[.string (bs p),.bool is,.string (bs d)] 98)
 refine⟨ab w _,?_,?_⟩<;>exact(cell_of_row _ _ _ _ _ _ hn).trans rfl
set_option maxHeartbeats 1000000 in
theorem vO (h:bA B D g env r w) (b1 b2:Nat) (p1:aI D w b1 (.pointer (some ⟨g,0,none⟩))) (p2:aI D w b2 (.func (.func 241) #[.pointer (some ⟨g,0,none⟩)] #[])) (k:KnL) (hk:k.data.length≤1000000000000000):
 Calls Tryz.prog 295 #[knV k,.pointer (some ⟨b1,0,none⟩),.pointer (some ⟨b2,0,none⟩)] w fun e w'=>e=.returned (.tuple #[])∧aD B D g env (bn r .read k) w w':=by
 obtain⟨p,is,d⟩:=k
 obtain⟨hb,c1,c2⟩:=uR w p is d
 have H1:=hid (fun e=>eR (h.below hb) e)
 have H2:=hid (eZ (h.below hb) d hk)
 have HB:=hid hb
 have q1:(w.alloc (.cells #[.string (bs p),.bool is,.string (bs d)] 98)).cell? ⟨b1,0,none⟩=some (.pointer (some ⟨g,0,none⟩)):=Below.keeps hb p1.2.2
 have q2:(w.alloc (.cells #[.string (bs p),.bool is,.string (bs d)] 98)).cell? ⟨b2,0,none⟩=some (.func (.func 241) #[.pointer (some ⟨g,0,none⟩)] #[]):=Below.keeps hb p2.2.2
 clear h p1 p2 hb
 cases is with
 |false=>
  have e:bn r .read ⟨p,false,d⟩=cK r 10:=rfl
  rw[e]
  clear e
  go_enter Tryz.func295,Tryz.ntmps295
  unfold knV
  go_wp2_with (go_at_call 246;refine(H1.out 10).mono ?_;rintro e w1 ⟨rfl,hg⟩)
  refine bodyPost_ret (results_none rfl _ _ _) rfl ?_
  exact⟨rfl,hg.ahead HB.out⟩
 |true=>
  have e:bn r .read ⟨p,true,d⟩=cZ r d:=rfl
  rw[e]
  clear e
  go_enter Tryz.func295,Tryz.ntmps295
  unfold knV
  go_wp2_with (go_at_call 241;refine(H2.out).mono ?_;rintro e w1 ⟨rfl,hg⟩)
  go_end0
  exact⟨rfl,hg.ahead HB.out⟩
set_option maxHeartbeats 1000000 in
theorem zcV (h:bA B D g env r w) (b1:Nat) (p1:aI D w b1 (.pointer (some ⟨g,0,none⟩))) (k:KnL) (hk:k.data.length≤1000000000000000):
 Calls Tryz.prog 242 #[knV k,.pointer (some ⟨b1,0,none⟩)] w fun e w'=>e=.returned (.tuple #[])∧aD B D g env (bn r .try_ k) w w':=by
 obtain⟨p,is,d⟩:=k
 obtain⟨hb,c1,c2⟩:=uR w p is d
 have H2:=hid (eZ (h.below hb) d hk)
 have HB:=hid hb
 have H:=hid h
 have q1:(w.alloc (.cells #[.string (bs p),.bool is,.string (bs d)] 98)).cell? ⟨b1,0,none⟩=some (.pointer (some ⟨g,0,none⟩)):=Below.keeps hb p1.2.2
 clear h p1 hb
 cases is with
 |false=>
  have e:bn r .try_ ⟨p,false,d⟩=r:=rfl
  rw[e]
  clear e
  go_enter Tryz.func242,Tryz.ntmps242
  unfold knV
  go_wp2_with fail
  go_end0
  exact⟨rfl,D,fun j e=>.inl e,az.of_below HB.out,H.out.below HB.out⟩
 |true=>
  have e:bn r .try_ ⟨p,true,d⟩=cZ r d:=rfl
  rw[e]
  clear e
  go_enter Tryz.func242,Tryz.ntmps242
  unfold knV
  go_wp2_with (go_at_call 241;refine(H2.out).mono ?_;rintro e w1 ⟨rfl,hg⟩)
  go_end0
  exact⟨rfl,hg.ahead HB.out⟩
set_option maxHeartbeats 1000000 in
theorem vJ (h:bA B D g env r w) (b1 b2 b3 b4 b5:Nat) (p1:aI D w b1 (.pointer (some ⟨g,0,none⟩))) (p2:aI D w b2 (.func (.func 296) #[] #[.pointer (some ⟨b3,0,none⟩),.pointer (some ⟨b4,0,none⟩),.pointer (some ⟨b5,0,none⟩)]))
 (k:KnL) (hs:∀w',Below w.heap.size w w'→k.is=true→Calls Tryz.prog 296 #[.string (bs k.data),.pointer (some ⟨b3,0,none⟩),.pointer (some ⟨b4,0,none⟩),.pointer (some ⟨b5,0,none⟩)] w' fun e w2=>e=.returned (.tuple #[])∧aD B D g env (bn r .scan k) w' w2):
 Calls Tryz.prog 295 #[knV k,.pointer (some ⟨b1,0,none⟩),.pointer (some ⟨b2,0,none⟩)] w fun e w'=>e=.returned (.tuple #[])∧aD B D g env (bn r .scan k) w w':=by
 obtain⟨p,is,d⟩:=k
 obtain⟨hb,c1,c2⟩:=uR w p is d
 have H1:=hid (fun e=>eR (h.below hb) e)
 have H2:=hid (hs _ hb)
 have HB:=hid hb
 have q1:(w.alloc (.cells #[.string (bs p),.bool is,.string (bs d)] 98)).cell? ⟨b1,0,none⟩=some (.pointer (some ⟨g,0,none⟩)):=Below.keeps hb p1.2.2
 have q2:(w.alloc (.cells #[.string (bs p),.bool is,.string (bs d)] 98)).cell? ⟨b2,0,none⟩=some (.func (.func 296) #[] #[.pointer (some ⟨b3,0,none⟩),.pointer (some ⟨b4,0,none⟩),.pointer (some ⟨b5,0,none⟩)]):=Below.keeps hb p2.2.2
 clear h p1 p2 hb hs
 cases is with
 |false=>
  have e:bn r .scan ⟨p,false,d⟩=cK r 10:=rfl
  rw[e] at H2 ⊢
  clear e
  go_enter Tryz.func295,Tryz.ntmps295
  unfold knV
  go_wp2_with (go_at_call 246;refine(H1.out 10).mono ?_;rintro e w1 ⟨rfl,hg⟩)
  refine bodyPost_ret (results_none rfl _ _ _) rfl ?_
  exact⟨rfl,hg.ahead HB.out⟩
 |true=>
  generalize bn r .scan ⟨p,true,d⟩=R at *
  go_enter Tryz.func295,Tryz.ntmps295
  unfold knV
  go_wp2_with (go_at_call 296;refine(H2.out rfl).mono ?_;rintro e w1 ⟨rfl,hg⟩)
  go_end0
  exact⟨rfl,hg.ahead HB.out⟩
end
attribute [local go_sem] Oper.semAt_some
def kn0:KnL:=⟨[],false,[]⟩
def knM (l:List KnL) (p:Txt):Option Value:=(l.find? fun k=>decide (k.path=p)).map knV
theorem np {l:List KnL} {e:MapEntry} (h:e∈knE l):∃k∈l,e.key=cL k.path∧e.val=knV k:=by
 obtain⟨⟨k,i⟩,hx,rfl⟩:=List.mem_map.1 h
 exact⟨k,(List.mem_zipIdx' hx).2▸List.getElem_mem _,rfl,rfl⟩
theorem zcb {l:List KnL} {k:KnL} (h:k∈l):∃e∈knE l,e.key=cL k.path∧e.val=knV k:=by
 obtain⟨i,hi,rfl⟩:=List.getElem_of_mem h
 exact⟨_,List.mem_map.2 ⟨(l[i],i),List.mk_mem_zipIdx_iff_getElem?.2 (by simp[hi]),rfl⟩,rfl,rfl⟩
theorem zeb {l:List KnL} (hn:(l.map (·.path)).Nodup) {a b:KnL} (ha:a∈l) (hb:b∈l) (h:a.path=b.path):a=b:=by
 obtain⟨i,hi,rfl⟩:=List.getElem_of_mem ha
 obtain⟨j,hj,rfl⟩:=List.getElem_of_mem hb
 have hp:=List.pairwise_iff_getElem.1 hn
 rcases Nat.lt_trichotomy i j with hij|rfl|hij
 ·exact absurd (by rw[List.getElem_map,List.getElem_map];exact h) (hp i j (by simpa using hi) (by simpa using hj) hij)
 ·rfl
 ·exact absurd (by rw[List.getElem_map,List.getElem_map];exact h.symm) (hp j i (by simpa using hj) (by simpa using hi) hij)
theorem zd9 {l:List KnL} (hn:(l.map (·.path)).Nodup):fu cL (knM l) (knO l):=by
 refine⟨_,_,rfl,fun e he=>?_,?_,fun d v=>⟨fun h=>?_,fun h=>?_⟩⟩
 ·obtain⟨k, -,h1, -⟩:=np (by simpa using he)
  exact⟨k.path,h1⟩
 ·have:(knE l).map (·.key)=(l.map (·.path)).map cL:=by
   unfold knE
   rw[List.map_map,List.map_map]
   refine List.ext_getElem (by simp) fun i h1 h2=>?_
   simp
  rw[show(knE l).toArray.toList=knE l from rfl,this]
  exact List.pairwise_map.2 (hn.imp fun hab e=>hab (cn.inj _ _ e))
 ·unfold knM at h
  cases hf:l.find? (fun k=>decide (k.path=d)) with
  |none=>rw[hf] at h;cases h
  |some k=>
   rw[hf] at h
   cases h
   have h1:=List.find?_some hf
   obtain⟨e,he,h2,h3⟩:=zcb (List.mem_of_find?_eq_some hf)
   exact⟨e,he,by rw[h2,of_decide_eq_true h1],h3⟩
 ·obtain⟨e,he,h1,h2⟩:=h
  obtain⟨k,hk,h3,h4⟩:=np (by simpa using he)
  have h5:k.path=d:=cn.inj _ _ (h3.symm.trans h1)
  unfold knM
  cases hf:l.find? (fun k=>decide (k.path=d)) with
  |none=>
   have:=List.find?_eq_none.1 hf k hk
   simp[h5] at this
  |some k2=>
   have h6:=List.find?_some hf
   have h7:=zeb hn (List.mem_of_find?_eq_some hf) hk ((of_decide_eq_true h6).trans h5.symm)
   subst h7
   rw[←h2,h4]
   rfl
theorem mW {W:World} {km:Nat} {r:aw} (hm:W.heap[km]?=some (knO r.known)) (hn:(r.known.map (·.path)).Nodup) (p:Txt):
 (Instr.lookup 318 (.map (some km)) (.string (bs p)) false).run Tryz.prog W=.ok (knV ((r.knows p).getD kn0)) W∧(Instr.lookup 318 (.map (some km)) (.string (bs p)) true).run Tryz.prog W=.ok (.tuple #[knV ((r.knows p).getD kn0),.bool (r.knows p).isSome]) W:=by
 have hl:=fun c=>(zd9 hn).look cn hm (t:=318) (e:=98) (by kernel_rfl) (z:=knV kn0) rfl p c
 have e:(knM r.known p).getD (knV kn0)=knV ((r.knows p).getD kn0):=by
  unfold knM aw.knows
  cases r.known.find? (fun k=>decide (k.path=p))<;>rfl
 have e2:(knM r.known p).isSome=(r.knows p).isSome:=by
  unfold knM aw.knows
  cases r.known.find? (fun k=>decide (k.path=p))<;>rfl
 have h1:=hl false
 have h2:=hl true
 rw[e] at h1 h2
 rw[e2] at h2
 exact⟨h1,h2⟩
theorem bE.go {D:Nat→Prop} {w w':World} (h:bE w) (hf:az D w w') (h0:¬D 0):bE w':=by
 obtain⟨m,h⟩:=h
 have hl:0<w.heap.size:=by
  by_cases hl:0<w.heap.size
  ·exact hl
  ·exfalso
   have:w.heap[0]?=none:=Array.getElem?_eq_none (by omega)
   simp[World.cell?,this] at h
 exact⟨m,(World.cell?_of_block (hf.block 0 hl h0)).trans h⟩
section
variable {B g km mb:Nat} {D:Nat→Prop} {env:List (Txt×Txt)} {r:aw} {w:World} {tv ev:Value} {vs cs:List Value}
def sV (B g:Nat) (D:Nat→Prop) (env:List (Txt×Txt)) (R:aw) (k:KnL) (w:World) (v:Value):Prop:=
 (∃b1 b2,v=.func (.func 295) #[] #[.pointer (some ⟨b1,0,none⟩),.pointer (some ⟨b2,0,none⟩)]∧∀w',Below w.heap.size w w'→Calls Tryz.prog 295 #[knV k,.pointer (some ⟨b1,0,none⟩),.pointer (some ⟨b2,0,none⟩)] w' fun e w2=>e=.returned (.tuple #[])∧aD B D g env R w w2)∨
 (∃b1,v=.func (.func 242) #[] #[.pointer (some ⟨b1,0,none⟩)]∧∀w',Below w.heap.size w w'→Calls Tryz.prog 242 #[knV k,.pointer (some ⟨b1,0,none⟩)] w' fun e w2=>e=.returned (.tuple #[])∧aD B D g env R w w2)
theorem uw (h:aN B D g env r w tv ev km mb vs cs) (t:cR) (v:Value) (ht:dm D g mb r.word w t v) (hs:t=.scan→w.heap[mb]?=some (dP r.seen.reverse)∧D mb∧mb≠km) (k:KnL) (hk:k.data.length≤65536) (hm:bE w) (hfit:dp (bn r t k)):
 sV B g D env (bn r t k) k w v:=by
 have hi:bA B D g env r w:=⟨_,_,_,_,_,_,h⟩
 have hP:∀{b v w'},aI D w b v→Below w.heap.size w w'→aI D w' b v:=fun p hb=>p.go (az.of_below hb) (fun j e=>.inl e)
 cases t with
 |read=>
  obtain⟨b1,b2,rfl,p1,p2⟩:=ht
  exact .inl ⟨b1,b2,rfl,fun w' hb=>(vO (hi.below hb) b1 b2 (hP p1 hb) (hP p2 hb) k (by omega)).mono (by
   rintro e w2 ⟨rfl,h2⟩
   exact⟨rfl,h2.ahead hb⟩)⟩
 |try_=>
  obtain⟨b1,rfl,p1⟩:=ht
  exact .inr ⟨b1,rfl,fun w' hb=>(zcV (hi.below hb) b1 (hP p1 hb) k (by omega)).mono (by
   rintro e w2 ⟨rfl,h2⟩
   exact⟨rfl,h2.ahead hb⟩)⟩
 |scan=>
  obtain⟨b1,b2,b3,b4,b5,rfl,p1,p2,p3,p4,p5⟩:=ht
  refine .inl ⟨b1,b2,rfl,fun w' hb=>(vJ (hi.below hb) b1 b2 b3 b4 b5 (hP p1 hb) (hP p2 hb) k (fun w2 hb2 hk'=>?_)).mono (by
   rintro e w2 ⟨rfl,h2⟩
   exact⟨rfl,h2.ahead hb⟩)⟩
  have hb3:=Below.chain hb hb2
  have e:bn r .scan k={r with top:=(aq k.data).map .line++r.top}:=by unfold bn;exact if_pos hk'
  rw[e] at hfit ⊢
  obtain⟨s1,s2,s3⟩:=hs rfl
  exact xR (h.below hb3) b3 b4 b5 (hP p3 hb3) (hP p4 hb3) (hP p5 hb3) ⟨(hb3.block _ (lx (hid s1))).trans s1,s2,s3⟩ k.data hk (hm.below hb3) hfit
set_option maxHeartbeats 4000000 in
theorem zbq (h:aN B D g env r w tv ev km mb vs cs) (t:cR) (b0 b1 b2:Nat) (v:Value) (p0:aI D w b0 v) (p1:aI D w b1 (.pointer (some ⟨g,0,none⟩))) (p:Txt) (p2:aI D w b2 (.string (bs p)))
 (ht:dm D g mb r.word w t v) (hs:t=.scan→w.heap[mb]?=some (dP r.seen.reverse)∧D mb∧mb≠km) (hm:bE w) (hfit:dp (bn r t ((r.knows p).getD kn0))):
 Calls Tryz.prog 294 #[.pointer (some ⟨b0,0,none⟩),.pointer (some ⟨b1,0,none⟩),.pointer (some ⟨b2,0,none⟩)] w fun e w2=>e=.returned (.tuple #[])∧aD B D g env (bn r t ((r.knows p).getD kn0)) w w2:=by
 have hkd:((r.knows p).getD kn0).data.length≤65536:=by
  unfold aw.knows
  cases hf:r.known.find? (fun k=>decide (k.path=p)) with
  |none=>exact Nat.zero_le _
  |some k=>exact h.sm.kn k (List.mem_of_find?_eq_some hf)
 have HD:=hid (uw h t v ht hs _ hkd hm hfit)
 have c3:=(aA h.at_).2.2.2.1
 have HLK:=hid (fun(W:World) (e:W.heap[km]?=some (knO r.known))=>(mW e h.sm.nd p).1)
 generalize bn r t ((r.knows p).getD kn0)=R at *
 generalize (r.knows p).getD kn0=k at *
 have HF:=hid (fun(W:World) (hb:Below w.heap.size w W)=>And.intro (Below.keeps hb p0.2.2) (And.intro (Below.keeps hb p1.2.2) (And.intro (Below.keeps hb c3) (And.intro (Below.keeps hb p2.2.2) (HLK.out W ((hb.block _ (lx (hid h.kn))).trans h.kn))))))
 clear h hs hm hfit p0 p1 p2 ht c3 hkd HLK
 obtain⟨c1,c2,rfl,hC⟩|⟨c1,rfl,hC⟩:=HD.out
 ·have HC:=hid hC
  clear hC HD
  go_enter Tryz.func294,Tryz.ntmps294
  refine ar 7 (by kernel_rfl) (by kernel_rfl) ?_
  simp only[List.take_succ_cons,List.take_zero,List.drop_succ_cons,List.drop_zero]
  repeat(refine WQ.step (fun K hK=>?_);go_simp;first|(refine hK _ ?_;clear hK K)|(apply Exists.intro;refine⟨fun W hW=>?_,hK _ ?_⟩;(first|with_reducible rfl|(obtain⟨z0,z1,z2,z3,z4⟩:=HF.out W hW;go_simp;first|rfl|exact⟨rfl,rfl⟩));clear hK K))
  refine WQ.nil ?_
  intro wq hwq
  go_wp2_with (go_at_call 295;refine(HC.out _ hwq).mono ?_;rintro e W2 ⟨rfl,hg⟩)
  go_end0
  exact⟨rfl,hg⟩
 ·have HC:=hid hC
  clear hC HD
  go_enter Tryz.func294,Tryz.ntmps294
  refine ar 7 (by kernel_rfl) (by kernel_rfl) ?_
  simp only[List.take_succ_cons,List.take_zero,List.drop_succ_cons,List.drop_zero]
  repeat(refine WQ.step (fun K hK=>?_);go_simp;first|(refine hK _ ?_;clear hK K)|(apply Exists.intro;refine⟨fun W hW=>?_,hK _ ?_⟩;(first|with_reducible rfl|(obtain⟨z0,z1,z2,z3,z4⟩:=HF.out W hW;go_simp;first|rfl|exact⟨rfl,rfl⟩));clear hK K))
  refine WQ.nil ?_
  intro wq hwq
  go_wp2_with (go_at_call 242;refine(HC.out _ hwq).mono ?_;rintro e W2 ⟨rfl,hg⟩)
  go_end0
  exact⟨rfl,hg⟩
end
theorem iC:cY 98 3:=⟨_,Tryz.underlying98,rfl,by kernel_rfl⟩
def knC (k:KnL):List Value:=[.string (bs k.path),.bool k.is,.string (bs k.data)]
def iE (w:World) (g:Nat) (p:Txt) (v:Value):World:=((w.alloc (.cells #[.pointer (some ⟨g,0,none⟩)] 275)).alloc (.cells #[.string (bs p)] 9)).alloc (.cells #[v] 365)
theorem lL (w:World) (g:Nat) (p:Txt) (v:Value):Below w.heap.size w (iE w g p v)∧(iE w g p v).heap.size=w.heap.size+3∧(iE w g p v).cell? ⟨w.heap.size,0,none⟩=some (.pointer (some ⟨g,0,none⟩))∧(iE w g p v).cell? ⟨w.heap.size+1,0,none⟩=some (.string (bs p))∧(iE w g p v).cell? ⟨w.heap.size+2,0,none⟩=some v:=by
 unfold iE
 have b1:=ab w (.cells #[.pointer (some ⟨g,0,none⟩)] 275)
 have n1:=heap_alloc_new w (.cells #[.pointer (some ⟨g,0,none⟩)] 275)
 have z1:=World.size_alloc w (.cells #[.pointer (some ⟨g,0,none⟩)] 275)
 generalize w.alloc (.cells #[.pointer (some ⟨g,0,none⟩)] 275)=w1 at *
 have b2:=ab w1 (.cells #[.string (bs p)] 9)
 have n2:=heap_alloc_new w1 (.cells #[.string (bs p)] 9)
 have z2:=World.size_alloc w1 (.cells #[.string (bs p)] 9)
 generalize w1.alloc (.cells #[.string (bs p)] 9)=w2 at *
 have b3:=ab w2 (.cells #[v] 365)
 have n3:=heap_alloc_new w2 (.cells #[v] 365)
 have z3:=World.size_alloc w2 (.cells #[v] 365)
 generalize w2.alloc (.cells #[v] 365)=w3 at *
 have h1:=(b3.block w.heap.size (by omega)).trans ((b2.block w.heap.size (by omega)).trans n1)
 have h2:=(b3.block w1.heap.size (by omega)).trans n2
 rw[z1] at h2
 rw[z2,z1] at n3
 exact⟨Below.chain b1 (Below.chain b2 b3),by omega,(cell_of_row _ _ 0 _ _ _ h1).trans rfl,(cell_of_row _ _ 0 _ _ _ h2).trans rfl,(cell_of_row _ _ 0 _ _ _ n3).trans rfl⟩
section
variable {B g km mb:Nat} {D:Nat→Prop} {env:List (Txt×Txt)} {r:aw} {w:World} {tv ev:Value} {vs cs:List Value}
set_option maxHeartbeats 4000000 in
theorem yl (h:aN B D g env r w tv ev km mb vs cs) (v:Value) (p:Txt) (k:KnL) (hk:r.knows p=some k) (R:aw) (HD:sV B g D env R k w v):
 Calls Tryz.prog 239 #[.pointer (some ⟨g,0,none⟩),.string (bs p),v] w fun e w2=>e=.returned (.tuple #[])∧aD B D g env R w w2:=by
 have c3:=(aA h.at_).2.2.2.1
 obtain⟨hb,hz,q0,q1,q2⟩:=lL w g p v
 have HLK:=hid (fun(W:World) (e:W.heap[km]?=some (knO r.known))=>(mW e h.sm.nd p).2)
 rw[hk] at HLK
 have HB:=hid hb
 have HZ:=hid hz
 have HQ:=hid (And.intro q0 (And.intro (Below.keeps hb c3) (And.intro q1 (And.intro q2 ((hb.block _ (lx (hid h.kn))).trans h.kn)))))
 have HD':=hid HD
 clear hb hz q0 q1 q2 c3 h HD
 obtain⟨c1,c2,rfl,hC⟩|⟨c1,rfl,hC⟩:=HD'.out
 ·have HC:=hid hC
  clear hC HD'
  go_enter Tryz.func239,Tryz.ntmps239
  go_wp2_with fail
  obtain⟨W3,hW3⟩:∃W3,iE w g p (.func (.func 295) #[] #[.pointer (some ⟨c1,0,none⟩),.pointer (some ⟨c2,0,none⟩)])=W3:=⟨_,rfl⟩
  unfold iE at hW3
  rw[hW3]
  have hW3':iE w g p (.func (.func 295) #[] #[.pointer (some ⟨c1,0,none⟩),.pointer (some ⟨c2,0,none⟩)])=W3:=hW3
  rw[hW3'] at HB HZ HQ
  clear hW3 hW3'
  refine aG (fun W'=>W'.cell? ⟨w.heap.size,0,none⟩=some (.pointer (some ⟨g,0,none⟩))∧W'.cell? ⟨g,3,none⟩=some (.map (some km))∧W'.cell? ⟨w.heap.size+1,0,none⟩=some (.string (bs p))∧W'.heap[km]?=some (knO r.known)) 10 (by kernel_rfl) ?_
  intro Wd hbd
  have hS:Wd.cell? ⟨w.heap.size,0,none⟩=some (.pointer (some ⟨g,0,none⟩))∧Wd.cell? ⟨g,3,none⟩=some (.map (some km))∧Wd.cell? ⟨w.heap.size+1,0,none⟩=some (.string (bs p))∧Wd.heap[km]?=some (knO r.known):=⟨Below.keeps hbd HQ.out.1,Below.keeps hbd HQ.out.2.1,Below.keeps hbd HQ.out.2.2.1,(hbd.block _ (lx (hid HQ.out.2.2.2.2))).trans HQ.out.2.2.2.2⟩
  refine zfs 0 (some 9) (hi:=rfl) hS ?_
  apply Exists.intro
  refine⟨fun W hW=>?_,?_⟩
  ·have e1:=hW.1
   go_simp
   try rfl
  try simp only[Act.put,sA,sB,sC]
  refine zfq 1 (some 10) (hi:=rfl) (.inr hS) ?_
  apply Exists.intro
  refine⟨fun W=>?_,?_⟩
  ·go_simp
   try rfl
  try simp only[Act.put,sA,sB,sC]
  refine zfq 2 (some 11) (hi:=rfl) (.inr hS) ?_
  apply Exists.intro
  refine⟨fun W=>?_,?_⟩
  ·go_simp
   try rfl
  try simp only[Act.put,sA,sB,sC]
  refine zfs 3 (some 12) (hi:=rfl) hS ?_
  apply Exists.intro
  refine⟨fun W hW=>?_,?_⟩
  ·have e1:=hW.2.1
   go_simp
   try rfl
  try simp only[Act.put,sA,sB,sC]
  refine zfs 4 (some 13) (hi:=rfl) hS ?_
  apply Exists.intro
  refine⟨fun W hW=>?_,?_⟩
  ·have e1:=hW.2.2.1
   go_simp
   try rfl
  try simp only[Act.put,sA,sB,sC]
  refine zfs 5 (some 14) (hi:=rfl) hS ?_
  apply Exists.intro
  refine⟨fun W hW=>?_,?_⟩
  ·have e1:=HLK.out _ hW.2.2.2
   go_simp
   try rfl
  try simp only[Act.put,sA,sB,sC]
  refine zfq 6 (some 8) (hi:=rfl) (.inr hS) ?_
  apply Exists.intro
  refine⟨fun W=>?_,?_⟩
  ·go_simp
   try rfl
  try simp only[Act.put,sA,sB,sC]
  refine zfq 7 (some 15) (hi:=rfl) (.inr hS) ?_
  apply Exists.intro
  refine⟨fun W=>?_,?_⟩
  ·go_simp
   try rfl
  try simp only[Act.put,sA,sB,sC]
  refine zfq 8 (some 16) (hi:=rfl) (.inr hS) ?_
  apply Exists.intro
  refine⟨fun W=>?_,?_⟩
  ·go_simp
   try rfl
  try simp only[Act.put,sA,sB,sC]
  refine WL.o 9 (hi:=rfl) ?_
  intro K hK
  refine s9 iC ?_
  intro zs W4 hzs hb4 hn4 hs4
  have hS4:=And.intro (Below.keeps hb4 hS.1) (And.intro (Below.keeps hb4 hS.2.1) (And.intro (Below.keeps hb4 hS.2.2.1) ((hb4.block _ (lx (hid hS.2.2.2))).trans hS.2.2.2)))
  refine hK.out _ _ (.inr hS4) ?_
  clear hK K
  try simp only[Act.put,sA]
  refine WL.o 10 (hi:=rfl) ?_
  intro K hK
  refine nG (xs:=(knC k).toArray) iC hn4 hzs rfl (by unfold knC;intro u hu;simp at hu;rcases hu with rfl|rfl|rfl<;>rfl) ?_
  intro W5 ht5 hn5 hs5
  refine hK.out _ _ (.inl (by kernel_rfl)) ?_
  clear hK K
  try simp only[Act.put]
  refine zfq 11 (some 7) (hi:=rfl) (.inl (by kernel_rfl)) ?_
  apply Exists.intro
  refine⟨fun W=>?_,?_⟩
  ·go_simp
   try rfl
  try simp only[Act.put]
  refine WL.d ?_
  have hb5:=hb4.trans (ht5.below (Nat.le_refl _))
  have hb35:Below W3.heap.size W3 W5:=Below.chain hbd hb5
  have q2:W5.cell? ⟨w.heap.size+1+1,0,none⟩=some (.func (.func 295) #[] #[.pointer (some ⟨c1,0,none⟩),.pointer (some ⟨c2,0,none⟩)]):=Below.keeps hb35 HQ.out.2.2.2.1
  have hbw:Below w.heap.size w W5:=Below.chain HB.out hb35
  go_wp2_with first|(refine bC iC (af hn5) rfl ?_)|(go_at_call 295;refine(HC.out _ hbw).mono ?_;rintro e W6 ⟨rfl,hg⟩)
  refine bodyPost_ret (results_none rfl _ _ _) rfl ?_
  exact⟨rfl,hg⟩
 ·have HC:=hid hC
  clear hC HD'
  go_enter Tryz.func239,Tryz.ntmps239
  go_wp2_with fail
  obtain⟨W3,hW3⟩:∃W3,iE w g p (.func (.func 242) #[] #[.pointer (some ⟨c1,0,none⟩)])=W3:=⟨_,rfl⟩
  unfold iE at hW3
  rw[hW3]
  have hW3':iE w g p (.func (.func 242) #[] #[.pointer (some ⟨c1,0,none⟩)])=W3:=hW3
  rw[hW3'] at HB HZ HQ
  clear hW3 hW3'
  refine aG (fun W'=>W'.cell? ⟨w.heap.size,0,none⟩=some (.pointer (some ⟨g,0,none⟩))∧W'.cell? ⟨g,3,none⟩=some (.map (some km))∧W'.cell? ⟨w.heap.size+1,0,none⟩=some (.string (bs p))∧W'.heap[km]?=some (knO r.known)) 10 (by kernel_rfl) ?_
  intro Wd hbd
  have hS:Wd.cell? ⟨w.heap.size,0,none⟩=some (.pointer (some ⟨g,0,none⟩))∧Wd.cell? ⟨g,3,none⟩=some (.map (some km))∧Wd.cell? ⟨w.heap.size+1,0,none⟩=some (.string (bs p))∧Wd.heap[km]?=some (knO r.known):=⟨Below.keeps hbd HQ.out.1,Below.keeps hbd HQ.out.2.1,Below.keeps hbd HQ.out.2.2.1,(hbd.block _ (lx (hid HQ.out.2.2.2.2))).trans HQ.out.2.2.2.2⟩
  refine zfs 0 (some 9) (hi:=rfl) hS ?_
  apply Exists.intro
  refine⟨fun W hW=>?_,?_⟩
  ·have e1:=hW.1
   go_simp
   try rfl
  try simp only[Act.put,sA,sB,sC]
  refine zfq 1 (some 10) (hi:=rfl) (.inr hS) ?_
  apply Exists.intro
  refine⟨fun W=>?_,?_⟩
  ·go_simp
   try rfl
  try simp only[Act.put,sA,sB,sC]
  refine zfq 2 (some 11) (hi:=rfl) (.inr hS) ?_
  apply Exists.intro
  refine⟨fun W=>?_,?_⟩
  ·go_simp
   try rfl
  try simp only[Act.put,sA,sB,sC]
  refine zfs 3 (some 12) (hi:=rfl) hS ?_
  apply Exists.intro
  refine⟨fun W hW=>?_,?_⟩
  ·have e1:=hW.2.1
   go_simp
   try rfl
  try simp only[Act.put,sA,sB,sC]
  refine zfs 4 (some 13) (hi:=rfl) hS ?_
  apply Exists.intro
  refine⟨fun W hW=>?_,?_⟩
  ·have e1:=hW.2.2.1
   go_simp
   try rfl
  try simp only[Act.put,sA,sB,sC]
  refine zfs 5 (some 14) (hi:=rfl) hS ?_
  apply Exists.intro
  refine⟨fun W hW=>?_,?_⟩
  ·have e1:=HLK.out _ hW.2.2.2
   go_simp
   try rfl
  try simp only[Act.put,sA,sB,sC]
  refine zfq 6 (some 8) (hi:=rfl) (.inr hS) ?_
  apply Exists.intro
  refine⟨fun W=>?_,?_⟩
  ·go_simp
   try rfl
  try simp only[Act.put,sA,sB,sC]
  refine zfq 7 (some 15) (hi:=rfl) (.inr hS) ?_
  apply Exists.intro
  refine⟨fun W=>?_,?_⟩
  ·go_simp
   try rfl
  try simp only[Act.put,sA,sB,sC]
  refine zfq 8 (some 16) (hi:=rfl) (.inr hS) ?_
  apply Exists.intro
  refine⟨fun W=>?_,?_⟩
  ·go_simp
   try rfl
  try simp only[Act.put,sA,sB,sC]
  refine WL.o 9 (hi:=rfl) ?_
  intro K hK
  refine s9 iC ?_
  intro zs W4 hzs hb4 hn4 hs4
  have hS4:=And.intro (Below.keeps hb4 hS.1) (And.intro (Below.keeps hb4 hS.2.1) (And.intro (Below.keeps hb4 hS.2.2.1) ((hb4.block _ (lx (hid hS.2.2.2))).trans hS.2.2.2)))
  refine hK.out _ _ (.inr hS4) ?_
  clear hK K
  try simp only[Act.put,sA]
  refine WL.o 10 (hi:=rfl) ?_
  intro K hK
  refine nG (xs:=(knC k).toArray) iC hn4 hzs rfl (by unfold knC;intro u hu;simp at hu;rcases hu with rfl|rfl|rfl<;>rfl) ?_
  intro W5 ht5 hn5 hs5
  refine hK.out _ _ (.inl (by kernel_rfl)) ?_
  clear hK K
  try simp only[Act.put]
  refine zfq 11 (some 7) (hi:=rfl) (.inl (by kernel_rfl)) ?_
  apply Exists.intro
  refine⟨fun W=>?_,?_⟩
  ·go_simp
   try rfl
  try simp only[Act.put]
  refine WL.d ?_
  have hb5:=hb4.trans (ht5.below (Nat.le_refl _))
  have hb35:Below W3.heap.size W3 W5:=Below.chain hbd hb5
  have q2:W5.cell? ⟨w.heap.size+1+1,0,none⟩=some (.func (.func 242) #[] #[.pointer (some ⟨c1,0,none⟩)]):=Below.keeps hb35 HQ.out.2.2.2.1
  have hbw:Below w.heap.size w W5:=Below.chain HB.out hb35
  go_wp2_with first|(refine bC iC (af hn5) rfl ?_)|(go_at_call 242;refine(HC.out _ hbw).mono ?_;rintro e W6 ⟨rfl,hg⟩)
  refine bodyPost_ret (results_none rfl _ _ _) rfl ?_
  exact⟨rfl,hg⟩
end
section
variable {B g km mb:Nat} {D:Nat→Prop} {env:List (Txt×Txt)} {r:aw} {w:World} {tv ev:Value} {vs cs:List Value}
theorem zae {W:World} {km:Nat} {l:List KnL} (hm:W.heap[km]?=some (knO l)):(Builtin.len_ #[318] 3 #[.map (some km)]).run Tryz.prog W=.ok (.int .i64 (l.length:Int)) W:=by
 have ht:Tryz.prog.underlying 318=some (.map 9 98):=by kernel_rfl
 have e:(knE l).toArray.size=l.length:=by simp[knE]
 unfold knO at hm
 simp[Builtin.len_,run_underlying ht,MapKept.run_getObj_map hm,goInt,knE]
set_option maxHeartbeats 4000000 in
theorem za0 (h:aN B D g env r w tv ev km mb vs cs) (f:Nat) (fs:Array Value) (p:Txt) (hk:r.knows p=none) (hl:500≤r.known.length):
 Calls Tryz.prog 239 #[.pointer (some ⟨g,0,none⟩),.string (bs p),.func (.func f) #[] fs] w fun e w2=>e=.returned (.tuple #[])∧aD B D g env (cK r 6) w w2:=by
 have c3:=(aA h.at_).2.2.2.1
 obtain⟨hb,hz,q0,q1,q2⟩:=lL w g p (.func (.func f) #[] fs)
 have HLK:=hid (fun(W:World) (e:W.heap[km]?=some (knO r.known))=>(mW e h.sm.nd p).2)
 rw[hk] at HLK
 have HB:=hid hb
 have HZ:=hid hz
 have HQ:=hid (And.intro q0 (And.intro (Below.keeps hb c3) (And.intro q1 (And.intro q2 ((hb.block _ (lx (hid h.kn))).trans h.kn)))))
 have H:=hid h
 clear hb hz q0 q1 q2 c3 h
 go_enter Tryz.func239,Tryz.ntmps239
 go_wp2_with fail
 obtain⟨W3,hW3⟩:∃W3,iE w g p (.func (.func f) #[] fs)=W3:=⟨_,rfl⟩
 unfold iE at hW3
 rw[hW3]
 have hW3':iE w g p (.func (.func f) #[] fs)=W3:=hW3
 rw[hW3'] at HB HZ HQ
 clear hW3 hW3'
 refine aG (fun W'=>W'.cell? ⟨w.heap.size,0,none⟩=some (.pointer (some ⟨g,0,none⟩))∧W'.cell? ⟨g,3,none⟩=some (.map (some km))∧W'.cell? ⟨w.heap.size+1,0,none⟩=some (.string (bs p))∧W'.heap[km]?=some (knO r.known)) 10 (by kernel_rfl) ?_
 intro Wd hbd
 have hS:Wd.cell? ⟨w.heap.size,0,none⟩=some (.pointer (some ⟨g,0,none⟩))∧Wd.cell? ⟨g,3,none⟩=some (.map (some km))∧Wd.cell? ⟨w.heap.size+1,0,none⟩=some (.string (bs p))∧Wd.heap[km]?=some (knO r.known):=⟨Below.keeps hbd HQ.out.1,Below.keeps hbd HQ.out.2.1,Below.keeps hbd HQ.out.2.2.1,(hbd.block _ (lx (hid HQ.out.2.2.2.2))).trans HQ.out.2.2.2.2⟩
 refine zfs 0 (some 9) (hi:=rfl) hS ?_
 apply Exists.intro
 refine⟨fun W hW=>?_,?_⟩
 ·have e1:=hW.1
  go_simp
  try rfl
 try simp only[Act.put,sA,sB,sC]
 refine zfq 1 (some 10) (hi:=rfl) (.inr hS) ?_
 apply Exists.intro
 refine⟨fun W=>?_,?_⟩
 ·go_simp
  try rfl
 try simp only[Act.put,sA,sB,sC]
 refine zfq 2 (some 11) (hi:=rfl) (.inr hS) ?_
 apply Exists.intro
 refine⟨fun W=>?_,?_⟩
 ·go_simp
  try rfl
 try simp only[Act.put,sA,sB,sC]
 refine zfs 3 (some 12) (hi:=rfl) hS ?_
 apply Exists.intro
 refine⟨fun W hW=>?_,?_⟩
 ·have e1:=hW.2.1
  go_simp
  try rfl
 try simp only[Act.put,sA,sB,sC]
 refine zfs 4 (some 13) (hi:=rfl) hS ?_
 apply Exists.intro
 refine⟨fun W hW=>?_,?_⟩
 ·have e1:=hW.2.2.1
  go_simp
  try rfl
 try simp only[Act.put,sA,sB,sC]
 refine zfs 5 (some 14) (hi:=rfl) hS ?_
 apply Exists.intro
 refine⟨fun W hW=>?_,?_⟩
 ·have e1:=HLK.out _ hW.2.2.2
  go_simp
  try rfl
 try simp only[Act.put,sA,sB,sC]
 refine zfq 6 (some 8) (hi:=rfl) (.inr hS) ?_
 apply Exists.intro
 refine⟨fun W=>?_,?_⟩
 ·go_simp
  try rfl
 try simp only[Act.put,sA,sB,sC]
 refine zfq 7 (some 15) (hi:=rfl) (.inr hS) ?_
 apply Exists.intro
 refine⟨fun W=>?_,?_⟩
 ·go_simp
  try rfl
 try simp only[Act.put,sA,sB,sC]
 refine zfq 8 (some 16) (hi:=rfl) (.inr hS) ?_
 apply Exists.intro
 refine⟨fun W=>?_,?_⟩
 ·go_simp
  try rfl
 try simp only[Act.put,sA,sB,sC]
 refine WL.o 9 (hi:=rfl) ?_
 intro K hK
 refine s9 iC ?_
 intro zs W4 hzs hb4 hn4 hs4
 have hS4:=And.intro (Below.keeps hb4 hS.1) (And.intro (Below.keeps hb4 hS.2.1) (And.intro (Below.keeps hb4 hS.2.2.1) ((hb4.block _ (lx (hid hS.2.2.2))).trans hS.2.2.2)))
 refine hK.out _ _ (.inr hS4) ?_
 clear hK K
 try simp only[Act.put,sA]
 refine WL.o 10 (hi:=rfl) ?_
 intro K hK
 refine nG (xs:=(knC kn0).toArray) iC hn4 hzs rfl (by unfold knC;intro u hu;simp at hu;rcases hu with rfl|rfl|rfl<;>rfl) ?_
 intro W5 ht5 hn5 hs5
 refine hK.out _ _ (.inl (by kernel_rfl)) ?_
 clear hK K
 try simp only[Act.put]
 refine zfq 11 (some 7) (hi:=rfl) (.inl (by kernel_rfl)) ?_
 apply Exists.intro
 refine⟨fun W=>?_,?_⟩
 ·go_simp
  try rfl
 try simp only[Act.put]
 refine WL.d ?_
 have hb5:=hb4.trans (ht5.below (Nat.le_refl _))
 have hb35:Below W3.heap.size W3 W5:=Below.chain hbd hb5
 have hbw:Below w.heap.size w W5:=Below.chain HB.out hb35
 have q0:=Below.keeps hb35 HQ.out.1
 have q1:=Below.keeps hb35 HQ.out.2.1
 have q4:W5.heap[km]?=some (knO r.known):=(hb35.block _ (lx (hid HQ.out.2.2.2.2))).trans HQ.out.2.2.2.2
 have bI:=zae q4
 have E:decide (500≤(r.known.length:Int))=true:=decide_eq_true (by omega)
 have HR:=hid (eR (bA.below ⟨_,_,_,_,_,_,H.out⟩ hbw) 6)
 go_wp2_with (go_at_call 246;refine(HR.out).mono ?_;rintro e W6 ⟨rfl,hg⟩)
 refine bodyPost_ret (results_none rfl _ _ _) rfl ?_
 exact⟨rfl,hg.ahead hbw⟩
end
end Go.Proofs.YtlbipokkdiiaiaaGreatDoor
