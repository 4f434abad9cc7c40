/- Lemmas for TopKeysUpto: F48, F70, K1, F71. -/
import Derived.Test.YtlbipokkdiiaiaaGreatDoorK19
import Derived.Test.YtlbipokkdiiaiaaGreatDoorK14
import Derived.Test.YtlbipokkdiiaiaaGreatDoorK11
import Derived.Deep.DeepAppendRoom
open List renaming setIfInBounds_toArray → sA, set_cons_zero → sB, set_cons_succ → sC
namespace Go.Proofs.YtlbipokkdiiaiaaGreatDoor
open Go.RowKit Exec Go.Shelf
set_option maxRecDepth 100000
attribute [local go_sem] Oper.semAt_some
def sw (B:Nat) (env:List (Txt×Txt)) (w':World):Except Nat (List bS)→Ending→Prop
 |.ok l,e=>∃(g B':Nat) (D:Nat→Prop),e=.returned (.tuple #[.pointer (some ⟨g,0,none⟩),.int .i64 0])∧B≤B'∧bA B' D g env (lO l) w'
 |.error er,e=>e=.returned (.tuple #[.pointer none,.int .i64 (er:Int)])
def vK (ev2:Value) (km:Nat):List Value:=[.slice none 0 0,ev2,.string ⟨#[]⟩,.map (some km),.string ⟨#[]⟩,.bool false,.int .i64 0,.string ⟨#[]⟩,.string ⟨#[]⟩,.int .i64 0]
def uF (sb:ByteArray) (ev ev2:Value) (a:Option Addr) (n c q t9 g km bx:Nat) (x:Nat) (xv:Value):Act:=
 {tmps:=#[.string sb,ev,undef,undef,.pointer none,.int .i64 0,.slice a n c,.int .i64 0,.int .i64 0,.pointer (some ⟨t9,0,none⟩),undef,.pointer (some ⟨bx,0,none⟩),.tuple #[.slice a n c,.int .i64 0,.int .i64 0],.string sb,.tuple #[.slice a n c,.int .i64 0,.int .i64 0],.slice a n c,.int .i64 0,.int .i64 0,.int .i64 0,.bool false,undef,ev,ev2,.map (some km),.agg (vK ev2 km).toArray,.pointer (some ⟨g,0,none⟩),.slice a n c,.func (.func 238) #[] #[.pointer (some ⟨q,0,none⟩)],.int .i64 (x:Int),xv,undef,undef,undef,undef,undef,undef,undef,undef,undef,undef,undef],defers:=[]}
set_option maxHeartbeats 8000000 in
theorem yK (s:Txt) (env:List (Txt×Txt)) (ev:Value) (w:World) (hs:s.length≤1000000) (hm:bE w) (he:aE w 2 fg ev env) (hel:env.length≤2000000):
 Calls Tryz.prog 153 #[.string (bs s),ev] w fun e w'=>sw w.heap.size env w' (cJ s) e∧Below w.heap.size w w':=by
 have HC:=hid (lq s w hs hm)
 have HE:=hid (fun(W:World) (hb:Below w.heap.size w W)=>t7 ev env W (he.below hb (Nat.le_refl _)) hel)
 have hmm:=@run_makeMap Tryz.prog
 have HT:=hid (fun l (h:cJ s=.ok l)=>rI h)
 have HTE:=hid (fun er (h:cJ s=.error er)=>uj h)
 clear hm he
 generalize cJ s=t at *
 refine(callsIn_wide (n:=5)).1 ?_
 refine callsIn_of_wp_marks Tryz.func153 rfl trivial ?_ rfl
 simp only[Tryz.ntmps153,List.size_toArray,List.length_cons,List.length_nil,Nat.reduceAdd,Nat.reduceSub,Array.replicate_succ,Array.replicate_zero,List.push_toArray,List.append_toArray,List.nil_append,List.cons_append]
 gi_wp2_with fail
 refine⟨trivial,(callsIn_wide.2 HC.out).mono ?_⟩
 rintro e W1 ⟨hta,hb1⟩
 cases t with
 |error er=>
  obtain⟨k,rfl⟩:=hta
  have E1:((er:Int) !=0)=true:=neT (by rcases HTE.out er rfl with h|h<;>omega)
  clear HC HE HT HTE hmm
  gi_wp2_with fail
  refine⟨_,?_,rfl,hb1⟩
  simp[results,Tryz.f153,go_sem]
 |ok l=>
  obtain⟨v,ps,rfl,hat,rfl⟩:=hta
  have hpl:ps.length≤400:=by have:=(HT.out _ rfl).1;simpa using this
  have HOK:=hid (HT.out _ rfl).2
  obtain⟨a,c,rfl,hown,hcells⟩:=za hat (by omega)
  have HW:=hid hat.words
  have HOW:=hid hown
  have HCL:=hid hcells
  have HB1:=hid hb1
  clear HC HT HTE hat hown hcells
  gi_wp2_with fail
  refine⟨trivial,(callsIn_wide.2 (HE.out W1 hb1)).mono ?_⟩
  rintro e W2 ⟨ev2,rfl,hev2,hb2⟩
  obtain⟨W3,hW3,hb3,hn3⟩:=an0 W2 (.map #[] 0)
  obtain⟨la,lc,rfl⟩:=ax hev2
  clear hb1
  gi_wp2_with fail
  rw[hW3.out] at hn3 hb3
  have hb4:=ab (W2.alloc (.map #[] 0)) (.cells (vK (.slice la env.length lc) W2.heap.size).toArray 323)
  have hn4:=heap_alloc_new (W2.alloc (.map #[] 0)) (.cells (vK (.slice la env.length lc) W2.heap.size).toArray 323)
  have hb5:=ab ((W2.alloc (.map #[] 0)).alloc (.cells (vK (.slice la env.length lc) W2.heap.size).toArray 323)) (.cells #[.pointer (some ⟨W2.heap.size+1,0,none⟩)] 275)
  have hn5:=heap_alloc_new ((W2.alloc (.map #[] 0)).alloc (.cells (vK (.slice la env.length lc) W2.heap.size).toArray 323)) (.cells #[.pointer (some ⟨W2.heap.size+1,0,none⟩)] 275)
  simp only[World.size_alloc] at hn4 hn5
  have h54:=(hb5.block (W2.heap.size+1) (by simp[World.size_alloc])).trans hn4
  have h53:=(hb5.block W2.heap.size (by simp[World.size_alloc];omega)).trans ((hb4.block W2.heap.size (by simp[World.size_alloc])).trans hn3)
  have HB5:=hid (Below.chain (Below.chain hb3 hb4) hb5)
  have hz5:(((W2.alloc (.map #[] 0)).alloc (.cells (vK (.slice la env.length lc) W2.heap.size).toArray 323)).alloc (.cells #[.pointer (some ⟨W2.heap.size+1,0,none⟩)] 275)).heap.size=W2.heap.size+3:=by simp[World.size_alloc]
  unfold vK at h54 hn5 h53 HB5 hz5
  clear hb4 hn4 hb5 hn3 hW3 hb3
  generalize ((W2.alloc (.map #[] 0)).alloc (.cells [Value.slice none 0 0,.slice la env.length lc,.string ⟨#[]⟩,.map (some W2.heap.size),.string ⟨#[]⟩,.bool false,.int .i64 0,.string ⟨#[]⟩,.string ⟨#[]⟩,.int .i64 0].toArray 323)).alloc (.cells #[.pointer (some ⟨W2.heap.size+1,0,none⟩)] 275)=W5 at *
  refine⟨trivial,(callsIn_wide.2 (zc7 a ps.length c W5)).mono ?_⟩
  rintro e W6 ⟨rfl,hW6⟩
  have hb6:Below W5.heap.size W5 W6:=hW6▸ab W5 _
  have hz6:W6.heap.size=W2.heap.size+4:=by rw[hW6,World.size_alloc,hz5]
  have hq6:W6.cell? ⟨W2.heap.size+3,0,none⟩=some (.slice a ps.length c):=by rw[hW6,←hz5];exact(cell_of_row _ _ 0 _ _ _ (heap_alloc_new W5 _)).trans rfl
  have hb16:=Below.chain hb2 (Below.chain HB5.out hb6)
  have HB16:=hid hb16
  have HB6:=hid (Below.chain HB1.out hb16)
  have hev6:aE W6 2 fg (.slice la env.length lc) env:=cV (aS hev2 (Below.chain HB5.out hb6) (Nat.le_refl _)) (by unfold maxLen;omega)
  have hevo:∀k,(Value.slice la env.length lc).ownBlock=some k→k<W2.heap.size:=fun k hk=>(hev2.lt k hk).2
  have hz1:=HB1.out.size
  have hz2:=hb2.size
  have t96:W6.cell? ⟨W2.heap.size+1+1,0,none⟩=some (.pointer (some ⟨W2.heap.size+1,0,none⟩)):=(cell_of_row _ _ 0 _ _ _ ((hb6.block _ (by omega)).trans hn5)).trans rfl
  have hR6:aN W2.heap.size (fun j=>j=W2.heap.size∨j=W2.heap.size+1) (W2.heap.size+1) env (jd ps []) W6 (.slice none 0 0) (.slice la env.length lc) W2.heap.size 0 [] []:=
   {at_:=(hb6.block _ (by omega)).trans h54
    row:=World.ownsRow_nil _ _ _ _
    top:=trivial
    cmd:=trivial
    env:=hev6
    eno:=fun k hk=>by have:=hevo k hk;omega
    kn:=(hb6.block _ (by omega)).trans h53
    seen:=fun e=>by cases e
    dg:=.inr rfl
    dk:=.inl rfl
    dt:=fun k hk=>by cases hk
    db:=fun k hk=>by omega
    sm:=⟨Nat.zero_le _,fun k hk=>(List.not_mem_nil hk).elim,fun s hs=>(List.not_mem_nil hs).elim,fun c hc=>(List.not_mem_nil hc).elim,Nat.zero_le _,.nil⟩
    eb:=hevo}
  have HR6:=hid hR6
  have HT9:=hid t96
  have HQ:=hid hq6
  clear hW6 hq6 hb6 hb16 hev6 hevo t96 hR6 h54 hn5 h53 hev2 hb2 HB5
  gi_wp2_with fail
  refine eM (α:=Fin ps.length) rfl (by omega) (gf:=238) (lb:=#[.pointer (some ⟨W2.heap.size+3,0,none⟩)]) rfl trivial (enters_of Tryz.func238 (by kernel_rfl) rfl) (Kp:=ec (fun j=>(w.heap.size≤j∧j<W1.heap.size)∨j=W2.heap.size+3)) (S:=fun xs=>xs.map (·.val)=bk ps.length 0) (Sp:=fun _=>True) (N:=ps.length)
   (xX _ (by omega) (W2.heap.size+3) (fun j=>(w.heap.size≤j∧j<W1.heap.size)∨j=W2.heap.size+3) (.inr rfl) ps a c (by omega) W6 HQ.out (fun k hk=>by
    obtain⟨b,o,rfl,h1,h2⟩:=HCL.out k hk
    exact⟨b,o,rfl,.inl (HOW.out b rfl),Below.keeps HB16.out h1,Below.keeps HB16.out h2⟩))
   (fun h k j hj=>(k j hj).trans (h j hj)) (fun W l o' hl j hj=>World.putObj_heap_other (by omega)) (fun _=>rfl)
   (fun pre=>mc ps W2.heap.size (W2.heap.size+1) W2.heap.size (W2.heap.size+4) (fun j=>j=W2.heap.size∨j=W2.heap.size+1) (fun j=>(w.heap.size≤j∧j<W1.heap.size)∨j=W2.heap.size+3) env W6 (.slice la env.length lc) (pre.map (·.val))) (fun _ _ _=>False)
   (fun pre x a' W=>∃bx:Nat,a'=uF (bs s) ev (.slice la env.length lc) a ps.length c (W2.heap.size+3) (W2.heap.size+1+1) (W2.heap.size+1) W2.heap.size bx x.val (.agg (gN (ps.getD x.val kD)).toArray)∧oY ps W2.heap.size (W2.heap.size+1) W2.heap.size (W2.heap.size+4) (fun j=>j=W2.heap.size∨j=W2.heap.size+1) (fun j=>(w.heap.size≤j∧j<W1.heap.size)∨j=W2.heap.size+3) env W6 (.slice la env.length lc) (pre.map (·.val)) bx (ps.getD x.val kD) W)
   (fun pre=>mc.own (by omega) (by omega) (pre.map (·.val))) (fun _ _ _ _ _ h=>h.elim) (fun pre x a' _ A W' row h hg hr=>by
    obtain⟨bx,h1,h2⟩:=h
    exact⟨bx,h1,h2.own (B0:=W6.heap.size) (by omega) (by omega) hg hr⟩) ?start ?assign ?body ?done (fun _ _ _ _ _ _ h=>h.elim)
  case start=>
   exact⟨_,_,_,fun j e=>.inl e,fun j e k=>by omega,Nat.le_of_eq hz6.symm,az.refl _ _,HR6.out⟩
  case assign=>
   intro l pre x W hI hpl2
   obtain⟨x,hxl⟩:=x
   generalize pre.map (·.val)=pre at *
   simp only
   unfold bkP
   obtain⟨ya,yn,yc,hy⟩:∃ya yn yc,(ps.getD x kD).2=.slice ya yn yc:=by
    rw[List.getD_eq_getElem?_getD]
    cases hx:ps[x]? with
    |none=>exact⟨_,_,_,rfl⟩
    |some p=>exact(HW.out p (List.mem_of_getElem? hx)).form
   generalize ps.getD x kD=y at *
   have hA:=hI.box (x:=y)
   have hb:=ab W (.cells (gN y).toArray 328)
   have hko:=KeepsOthers.alloc W (.cells (gN y).toArray 328)
   have hsz:W6.heap.size≤W.heap.size:=by obtain⟨_,_,_,_,_,hz, -⟩:=hI;rw[hz6];exact hz
   have HA:=hid (And.intro hA (And.intro hb hko))
   clear hA hb hko hI
   obtain⟨⟨yw,yr⟩,yv⟩:=y
   simp only at hy
   subst hy
   unfold gN at *
   gi_wp2_with fail
   exact⟨HA.out.2.2,fun j hj=>HA.out.2.1.block j (by omega),W.heap.size,rfl,HA.out.1⟩
  case body=>
   rintro l pre ⟨x,hxl⟩ a' W ⟨bx,rfl,hA⟩ hpl2
   have e2:(pre++[(⟨x,hxl⟩:Fin ps.length)]).map (·.val)=pre.map (·.val)++[x]:=by simp
   have hpl3:(pre.map (·.val)).length<ps.length:=by simpa using hpl2
   generalize pre.map (·.val)=pm at hA e2 hpl3
   simp only at hA
   unfold uF
   have hsc:jd ps (pm++[x])={jd ps pm with cmds:=(ps.getD x kD).1::(jd ps pm).cmds}:=by
    unfold jd lO
    rw[List.reverse_append,List.reverse_cons,List.reverse_nil,List.nil_append,List.cons_append,List.nil_append,List.map_cons]
   have hyw:lp (ps.getD x kD).1∧ga w.heap.size W1 (ps.getD x kD).1.words (ps.getD x kD).2:=by
    rw[List.getD_eq_getElem?_getD]
    cases hx:ps[x]? with
    |none=>exact absurd (List.getElem?_eq_none_iff.1 hx) (by omega)
    |some p=>exact⟨HOK.out _ (List.mem_map_of_mem (List.mem_of_getElem? hx)),HW.out p (List.mem_of_getElem? hx)⟩
   have HSC:=hid hsc
   have HYW:=hid hyw
   clear hsc hyw
   generalize ps.getD x kD=y at *
   obtain⟨D',tv',cs',h1,h2,hz,h3,h4,h5,h6⟩:=hA
   have HRD:=hid (fun(W':World) (hb:Below W.heap.size W W')=>And.intro (h4.below hb) (show W2.heap.size≤W'.heap.size by have:=hb.size;omega))
   have h1':∀j,D' j→j=W2.heap.size∨j=W2.heap.size+1∨W6.heap.size≤j:=fun j hj=>by
    rcases h1 j hj with(e|e)|e
    ·exact .inl e
    ·exact .inr (.inl e)
    ·exact .inr (.inr e)
   have q3:aI D' W (W2.heap.size+1+1) (.pointer (some ⟨W2.heap.size+1,0,none⟩)):=⟨by omega,fun e=>by have:=h1' _ e;omega,(World.cell?_of_block (h3.block (W2.heap.size+1+1) (by omega) (fun e=>by rcases e with e|e<;>omega))).trans HT9.out⟩
   have HSS:=hid (And.intro q3.2.2 (aA h4.at_).1)
   have HY6:=hid (And.intro h5 h6)
   clear h5 h6
   gi_wp2_with fail
   refine lm (fun W'=>W'.cell? ⟨W2.heap.size+1+1,0,none⟩=some (.pointer (some ⟨W2.heap.size+1,0,none⟩))∧W'.cell? ⟨W2.heap.size+1,0,none⟩=some tv') 10 (by kernel_rfl) (fun⟨_,_,h⟩=>h) (by kernel_rfl) ?_
   intro Wd hbd
   have hS:Wd.cell? ⟨W2.heap.size+1+1,0,none⟩=some (.pointer (some ⟨W2.heap.size+1,0,none⟩))∧Wd.cell? ⟨W2.heap.size+1,0,none⟩=some tv':=⟨Below.keeps hbd HSS.out.1,Below.keeps hbd HSS.out.2⟩
   refine zfs 0 (some 30) (hi:=rfl) hS ?_
   apply Exists.intro
   refine⟨fun W hW=>?_,?_⟩
   ·have e1:=hW.1
    go_simp
    try rfl
   try simp only[Act.put,sA,sB,sC]
   refine zfs 1 (some 31) (hi:=rfl) hS ?_
   apply Exists.intro
   refine⟨fun W hW=>?_,?_⟩
   ·have e1:=hW.1
    go_simp
    try rfl
   try simp only[Act.put,sA,sB,sC]
   refine zfq 2 (some 32) (hi:=rfl) (.inr hS) ?_
   apply Exists.intro
   refine⟨fun W=>?_,?_⟩
   ·go_simp
    try rfl
   try simp only[Act.put,sA,sB,sC]
   refine zfq 3 (some 33) (hi:=rfl) (.inr hS) ?_
   apply Exists.intro
   refine⟨fun W=>?_,?_⟩
   ·go_simp
    try rfl
   try simp only[Act.put,sA,sB,sC]
   refine zfs 4 (some 34) (hi:=rfl) hS ?_
   apply Exists.intro
   refine⟨fun W hW=>?_,?_⟩
   ·have e1:=hW.2
    go_simp
    try rfl
   try simp only[Act.put,sA,sB,sC]
   refine zfq 5 (some 35) (hi:=rfl) (.inr hS) ?_
   apply Exists.intro
   refine⟨fun W=>?_,?_⟩
   ·go_simp
    try rfl
   try simp only[Act.put,sA,sB,sC]
   refine WL.o 6 (hi:=rfl) ?_
   intro K hK
   go_simp
   have hb6:=ab Wd (.cells #[Value.func (.func 193) #[] #[.pointer (some ⟨W2.heap.size+1+1,0,none⟩),.pointer (some ⟨bx,0,none⟩)]] 1)
   have hn6:=heap_alloc_new Wd (.cells #[Value.func (.func 193) #[] #[.pointer (some ⟨W2.heap.size+1+1,0,none⟩),.pointer (some ⟨bx,0,none⟩)]] 1)
   generalize Wd.alloc (.cells #[Value.func (.func 193) #[] #[.pointer (some ⟨W2.heap.size+1+1,0,none⟩),.pointer (some ⟨bx,0,none⟩)]] 1)=W7a at *
   obtain⟨hR6,hW6⟩:=HRD.out _ (Below.chain hbd hb6)
   obtain⟨v7,W7,hr7,ho7,hg7,hat7⟩:=uI _ rfl hR6.row hn6 hW6 (by have:=hR6.sm.tl;have:=hR6.top.len;have:=hR6.cmd.len;omega)
   have G7:=hid (And.intro hR6 (And.intro hn6 (And.intro ho7 (And.intro hg7 (And.intro hat7 (Below.chain hbd hb6))))))
   have ne7:=iQ hR6.row hR6.at_
   have hg7b:W7.heap[W2.heap.size+1]?=some (.cells (iF tv' (.slice la env.length lc) W2.heap.size (jd ps pm)).toArray 323 (0,0)):=(hg7.block (W2.heap.size+1) (lx (hid hR6.at_)) (fun e=>ne7 (W2.heap.size+1) e.symm rfl)).trans hR6.at_
   have c37:=q3.go (az.of_below (Below.chain hbd hb6)) (fun j e=>.inl e)
   have hS7:W7.cell? ⟨W2.heap.size+1+1,0,none⟩=some (.pointer (some ⟨W2.heap.size+1,0,none⟩))∧W7.cell? ⟨W2.heap.size+1,0,none⟩=some tv':=⟨(World.cell?_of_block (hg7.block (W2.heap.size+1+1) c37.1 (fun e=>c37.2.1 (hR6.dt _ e.symm)))).trans c37.2.2,(aA hg7b).1⟩
   have f7:W7.frozen? ⟨W2.heap.size+1,0,none⟩=false:=Lib.frozen_of_heap hg7b 0
   obtain⟨a7,q7,rfl⟩:=ax ho7
   clear ne7 hg7b c37 hR6 hn6 ho7 hg7 hat7
   have hS6:=And.intro (Below.keeps hb6 hS.1) (Below.keeps hb6 hS.2)
   refine hK.out _ _ (.inr hS6) ?_
   clear hK K
   try simp only[Act.put,sA,sB,sC]
   refine WL.o 7 (hi:=rfl) ?_
   intro K hK
   refine jg (t:=319) hr7 ?_
   refine hK.out _ _ (.inr hS7) ?_
   clear hK K
   try simp only[Act.put,sA]
   refine WL.o 8 (hi:=rfl) ?_
   intro K hK
   go_simp
   refine hK.out _ _ (.inr hS7) ?_
   clear hK K
   try simp only[Act.put,sA,sB,sC]
   refine WL.o 9 (hi:=rfl) ?_
   intro K hK
   go_simp
   refine hK.out _ _ (.inr hS7) ?_
   clear hK K
   try simp only[Act.put,sA,sB,sC]
   refine WL.o 10 (hi:=rfl) ?_
   intro K hK
   have c7':=hS7.2
   go_simp
   refine hK.out _ _ (.inl (by kernel_rfl)) ?_
   clear hK K
   try simp only[Act.put,sA,sB,sC]
   refine WL.d ?_
   gi_wp2_with fail
   obtain⟨k1,k2,k3,k4,k5,k6⟩:=G7.out
   have bI:(jd ps pm).cmds.length=pm.length:=by unfold jd lO;simp
   have hfi:dp (jd ps (pm++[x])):=by
    rw[HSC.out]
    refine⟨k1.sm.buf,k1.sm.kn,k1.sm.ln,fun c' hc'=>?_,?_,k1.sm.nd⟩
    ·rcases List.mem_cons.1 hc' with e|e
     ·rw[e];exact HYW.out.1
     ·exact k1.sm.cm c' e
    ·show(jd ps pm).top.length+((jd ps pm).cmds.length+1)≤_
     have:(jd ps pm).top.length=0:=rfl
     omega
   have hfW:az D' W W7a:=az.of_below k6
   have r3:=q3.go hfW (fun j e=>.inl e)
   have hyo:∀k,y.2.ownBlock=some k→w.heap.size≤k∧k<W1.heap.size:=HYW.out.2.own
   have hys:ap W7a 1 y.2 y.1.words.length (ag y.1.words):=dE HYW.out.2.at_ (by have:=HB16.out.size;have:=k6.size;omega) fun k hk hl=>(k6.block k (by omega)).trans ((h3.block k (by have:=HB16.out.size;omega) (by omega)).trans (HB16.out.block k hl))
   have hyb:W7a.heap[bx]?=some (.cells (gN y).toArray 328 (0,0)):=(k6.block bx (lx (hid HY6.out.2))).trans HY6.out.2
   obtain⟨D2,j1,j2,j3⟩:=k1.push (mb':=0) (r':=jd ps (pm++[x])) (vs':=[]) (cs':=_::cs') k3 k4 k5 rfl (by rw[HSC.out];exact⟨rfl,rfl,rfl,rfl,rfl⟩) hfi (fun e=>by cases e)
    (fun W3 D3 f3 d3=>trivial)
    (fun W3 D3 f3 d3=>by
     rw[HSC.out]
     exact⟨dr.go (D:=D') (w:=W7a) ⟨_,_,y.2,rfl,r3,⟨HY6.out.1,hyb⟩,hys,fun k hk=>⟨fun e=>h2 k (.inl (hyo k hk)) e,by have:=hyo k hk;have:=HB16.out.size;have:=k6.size;omega⟩,fun k hk=>by have:=hyo k hk;omega⟩ f3 d3,k1.cmd.imp fun _ _ k=>k.go f3 d3⟩)
   have ne7:=iQ k1.row k1.at_
   have hko:KeepsOthers W (W7.setCell ⟨W2.heap.size+1,0,none⟩ (.slice a7 (([]:List Value).length+cs'.length+1) q7)):=((dz k6).trans (KeepsOthers.of_grownBy k4 (fun j o hj ho=>by
    obtain⟨-,⟨h1, -⟩|⟨b,cap,cur,h1, -,h2, -⟩⟩:=k1.row
    ·rw[h1] at hj;cases hj
    ·rw[h1] at hj
     have:b=j:=Option.some.inj hj
     subst this
     rw[h2] at ho
     cases ho
     rfl))).trans (KeepsOthers.setCell _ _ _)
   have hd:∀j,D2 j→D' j∨W.heap.size≤j:=fun j hj=>by
    rcases j1 j hj with e|e
    ·exact .inl e
    ·exact .inr (Nat.le_trans k6.size e)
   have hwW:W6.heap.size≤W.heap.size:=h3.size
   have e00:([]:List Value).length+cs'.length+1=cs'.length+1:=by simp
   rw[e00] at hko j2 j3
   rw[←e2] at j3
   refine⟨hko,fun j hj=>?_,D2,_,_,fun j hj=>?_,fun j hj hd2=>?_,Nat.le_trans hz (Nat.le_trans k6.size j2.size),h3.trans (hfW.trans j2 fun j _ e=>e) (fun j hj e=>?_),j3⟩
   ·exact(hfW.trans j2 fun j _ e=>e).block j (by omega) (h2 j hj)
   ·rcases hd j hj with e|e
    ·exact h1 j e
    ·exact .inr (by omega)
   ·rcases hd j hd2 with e|e
    ·exact h2 j hj e
    ·omega
   ·rcases h1 j e with e|e
    ·exact e
    ·omega
  case done=>
   rintro D0 xs W hD hxs hI hK
   rw[hxs] at hI
   obtain⟨D',tv',cs',h1,h2,hz,h3,h4⟩:=hI
   have hgr:=grownBy_putObj' W D0 (.deferred none)
   have hrw:∀x,some D0=some x→W6.heap.size≤x∧∃o:Obj,W.heap[x]?=some o∧o.isCells=false:=fun x e=>by cases e;exact⟨hD,_,hK,rfl⟩
   have h5:=h4.grown hgr (fun x hx=>(hrw x hx).2) (fun e=>by have:=(hrw _ e).1;omega) (fun h _=>by cases h)
   have e1:jd ps (bk ps.length 0)=lO (ps.map (·.1)):=by
    unfold jd
    rw[zdk]
   rw[e1] at h5
   have t9W:W.cell? ⟨W2.heap.size+1+1,0,none⟩=some (.pointer (some ⟨W2.heap.size+1,0,none⟩)):=(World.cell?_of_block (h3.block (W2.heap.size+1+1) (by omega) (fun e=>by rcases e with e|e<;>omega))).trans HT9.out
   have HH:=hid (And.intro h5 (eT h3 hgr (fun x hx=>by have:=(hrw x hx).1;omega)))
   clear h1 h2 hz h3 h4 hgr hrw h5 e1
   gi_wp2_with fail
   refine⟨by simp,.inl ⟨_,_,rfl,run_takeDeferred hK,?_⟩⟩
   refine⟨.tuple #[.pointer (some ⟨W2.heap.size+1,0,none⟩),.int .i64 0],by simp[results,Tryz.f153,go_sem],⟨W2.heap.size+1,W2.heap.size,D',rfl,by omega,tv',_,_,0,[],cs',HH.out.1⟩,?_⟩
   exact HB6.out.trans ((HH.out.2.below (B:=w.heap.size) (by omega) (fun i e=>by omega)))
noncomputable def byA (x:fW):ByL:=⟨bH x.env,jA x.ins x.asks x.outs,x.outs⟩
def nU (lo hi:Nat) (may:Txt→Bool) (v:Value) (w:World):Prop:=∀E:Nat→Prop,(∀j,E j→j≠0∧¬(lo≤j∧j<hi))→qc E may v w
theorem nU.below {lo hi:Nat} {may:Txt→Bool} {v:Value} {w w':World} (h:nU lo hi may v w) (hb:Below w.heap.size w w'):nU lo hi may v w':=fun E hE=>(h E hE).go (az.of_below hb) fun _j e=>.inl e
structure lK (B:Nat) (x:fW) (st:List (Option Value)) (w:World):Prop where
 a:∀v,st[0]?=some (some v)→w.ownsRow B 9 1 v x.outs.length (ag x.outs)
 b:∀v,st[1]?=some (some v)→∃lo hi,(B≤lo∧hi≤w.heap.size)∧nU lo hi (jA x.ins x.asks x.outs) v w∧∀m,st[2]?=some (some (.map (some m)))→¬(lo≤m∧m<hi)
 c:∀u,st[2]?=some (some u)→∃m,u=.map (some m)∧B≤m∧w.heap[m]?=some (.map #[] 0)
theorem zgs (B:Nat) (x:fW) (w:World):lK B x [none,none,none] w:=
 ⟨fun v hv=>by simp at hv,fun v hv=>by simp at hv,fun v hv=>by simp at hv⟩
theorem lK.row {B:Nat} {x:fW} {st:List (Option Value)} {w w':World} (h:lK B x st w) (hb:Below w.heap.size w w') (hn:st[0]?=some none) (v:Value) (hv:w'.ownsRow B 9 1 v x.outs.length (ag x.outs)):lK B x (st.set 0 (some v)) w':=by
 refine⟨fun u hu=>?_,fun u hu=>?_,fun u hu=>?_⟩
 ·rcases aW hn hu with⟨-,rfl⟩|⟨h1, -⟩
  ·exact hv
  ·exact absurd rfl h1
 ·rcases aW hn hu with⟨h1, -⟩|⟨-,h1⟩
  ·cases h1
  ·obtain⟨lo,hi,h2,h3,h4⟩:=h.b u h1
   refine⟨lo,hi,⟨h2.1,Nat.le_trans h2.2 hb.size⟩,h3.below hb,fun m hm=>?_⟩
   rcases aW hn hm with⟨h5, -⟩|⟨-,h5⟩
   ·cases h5
   ·exact h4 m h5
 ·rcases aW hn hu with⟨h1, -⟩|⟨-,h1⟩
  ·cases h1
  ·obtain⟨m,h2,h3,h4⟩:=h.c u h1
   exact⟨m,h2,h3,(hb.block m (lx (hid h4))).trans h4⟩
theorem lK.may {B:Nat} {x:fW} {st:List (Option Value)} {w w':World} (h:lK B x st w) (hB:B≤w.heap.size) (hb:Below w.heap.size w w') (hn:st[1]?=some none) (v:Value) (hv:nU w.heap.size w'.heap.size (jA x.ins x.asks x.outs) v w'):lK B x (st.set 1 (some v)) w':=by
 refine⟨fun u hu=>?_,fun u hu=>?_,fun u hu=>?_⟩
 ·rcases aW hn hu with⟨h1, -⟩|⟨-,h1⟩
  ·cases h1
  ·exact aS (h.a u h1) hb (Nat.le_refl _)
 ·rcases aW hn hu with⟨-,rfl⟩|⟨h1, -⟩
  ·refine⟨_,_,⟨hB,Nat.le_refl _⟩,hv,fun m hm=>?_⟩
   rcases aW hn hm with⟨h5, -⟩|⟨-,h5⟩
   ·cases h5
   ·obtain⟨m',e, -,h6⟩:=h.c _ h5
    have:m=m':=by simpa using e
    subst this
    have:=lx (hid h6)
    omega
  ·exact absurd rfl h1
 ·rcases aW hn hu with⟨h1, -⟩|⟨-,h1⟩
  ·cases h1
  ·obtain⟨m,h2,h3,h4⟩:=h.c u h1
   exact⟨m,h2,h3,(hb.block m (lx (hid h4))).trans h4⟩
theorem lK.map {B:Nat} {x:fW} {st:List (Option Value)} {w:World} (h:lK B x st w) (hB:B≤w.heap.size) (hn:st[2]?=some none):lK B x (st.set 2 (some (.map (some w.heap.size)))) (w.alloc (.map #[] 0)):=by
 have hb:=ab w (.map #[] 0)
 refine⟨fun u hu=>?_,fun u hu=>?_,fun u hu=>?_⟩
 ·rcases aW hn hu with⟨h1, -⟩|⟨-,h1⟩
  ·cases h1
  ·exact aS (h.a u h1) hb (Nat.le_refl _)
 ·rcases aW hn hu with⟨h1, -⟩|⟨-,h1⟩
  ·cases h1
  ·obtain⟨lo,hi,h2,h3,h4⟩:=h.b u h1
   refine⟨lo,hi,⟨h2.1,Nat.le_trans h2.2 hb.size⟩,h3.below hb,fun m hm=>?_⟩
   rcases aW hn hm with⟨-,h5⟩|⟨h5, -⟩
   ·have:m=w.heap.size:=by simpa using h5
    omega
   ·exact absurd rfl h5
 ·rcases aW hn hu with⟨-,rfl⟩|⟨h1, -⟩
  ·exact⟨_,rfl,hB,heap_alloc_new w _⟩
  ·exact absurd rfl h1
def zdW (B0:Nat) (x:fW) (w':World):Except Nat (List bS)→Ending→Prop
 |.ok l,e=>∃(bb B:Nat) (E:Nat→Prop),e=.returned (.tuple #[.pointer (some ⟨bb,0,none⟩),.int .i64 0])∧B0≤B∧ep B E bb x.env (byA x) (pH (byA x) l) w'∧bW (pH (byA x) l).run
 |.error er,e=>e=.returned (.tuple #[.pointer none,.int .i64 (er:Int)])
set_option maxHeartbeats 8000000 in
theorem za2 (x:dW) (w:World) (hx:fe w x) (hs:dU x.l) (ht:x.l.tool.length≤1000000) (hm:bE w) (hp:eG w):
 Calls Tryz.prog 105 #[.agg x.cells.toArray] w fun e w'=>zdW w.heap.size x.l w' (cJ x.l.tool) e∧Below w.heap.size w w':=by
 have HX:=hid hx
 have HS:=hid hs
 have HM:=hid hm
 have HG:=hid (fun(B:Nat) (W:World) (hB:w.heap.size≤B) (hb:Below w.heap.size w W)=>show aM B W from⟨w,hB,hm,hp,hb⟩)
 clear hx hs hm hp
 go_enter Tryz.func105,Tryz.ntmps105
 go_upto_region 1 with(refine cI dc ?_;intro W1 hb1 hn1 hs1)
 have k2:W1.cell? ⟨w.heap.size,2,none⟩=some (.string (bs x.l.tool)):=(cell_of_row _ _ 2 _ _ _ hn1).trans rfl
 have k3:W1.cell? ⟨w.heap.size,3,none⟩=some x.ev:=(cell_of_row _ _ 3 _ _ _ hn1).trans rfl
 have k6:W1.cell? ⟨w.heap.size,6,none⟩=some x.ov:=(cell_of_row _ _ 6 _ _ _ hn1).trans rfl
 have HB1:=hid hb1
 have HN1:=hid hn1
 clear hb1 hn1
 refine aG (fun W=>W.cell? ⟨w.heap.size,2,none⟩=some (.string (bs x.l.tool))∧W.cell? ⟨w.heap.size,3,none⟩=some x.ev) 5 (by kernel_rfl) ?_
 intro wq hwq
 have hS:∀W,Below wq.heap.size wq W→W.cell? ⟨w.heap.size,2,none⟩=some (.string (bs x.l.tool))∧W.cell? ⟨w.heap.size,3,none⟩=some x.ev:=fun W hW=>⟨Below.keeps hW (Below.keeps hwq k2),Below.keeps hW (Below.keeps hwq k3)⟩
 have hS0:=hS wq (Below.refl _ _)
 have hbq:=Below.chain HB1.out hwq
 refine zfq 0 (some 8) (hi:=rfl) (.inr hS0) ?_
 apply Exists.intro
 refine⟨fun W=>?_,?_⟩
 ·go_simp
  try rfl
 try simp only[Act.put,sA,sB,sC]
 refine zfs 1 (some 9) (hi:=rfl) hS0 ?_
 apply Exists.intro
 refine⟨fun W hW=>?_,?_⟩
 ·have e1:=hW.1
  go_simp
  try rfl
 try simp only[Act.put,sA,sB,sC]
 refine zfq 2 (some 10) (hi:=rfl) (.inr hS0) ?_
 apply Exists.intro
 refine⟨fun W=>?_,?_⟩
 ·go_simp
  try rfl
 try simp only[Act.put,sA,sB,sC]
 refine zfz 3 4 (some 11) (hi:=rfl) hS0 ?_
 apply Exists.intro
 refine⟨fun W hW=>?_,?_⟩
 ·have e1:=hW.2
  go_simp
  try rfl
 try simp only[Act.put,sA,sB,sC]
 refine WL.o 4 (hi:=rfl) ?_
 intro K hK
 go_simp
 refine(t7 x.ev x.l.env wq (HX.out.env.below hbq (Nat.le_refl _)) (by have:=HS.out.env;omega)).mono ?_
 rintro e W2 ⟨ev2,rfl,he2,hb2⟩
 refine hK.out _ _ (.inr (hS W2 hb2)) ?_
 clear hK K
 try simp only[Act.put,sA,sB,sC]
 have hb12:=Below.chain hbq hb2
 refine WL.o 5 (hi:=rfl) ?_
 intro K hK
 go_simp
 refine(yK x.l.tool x.l.env ev2 W2 ht (HM.out.below hb12) (cV he2 (by have:=HS.out.env;unfold maxLen;omega)) (by have:=HS.out.env;omega)).mono ?_
 rintro e W3 ⟨im,hb3⟩
 have HB3:=hid (Below.chain hb12 hb3)
 have hz2:=(Below.chain hwq hb2).size
 have HB13:=hid (Below.chain hwq (Below.chain hb2 hb3))
 cases htl:cJ x.l.tool with
 |error er=>
  rw[htl] at im
  unfold sw at im
  simp only at im
  subst im
  have E1:((er:Int) !=0)=true:=neT (by rcases uj htl with h|h<;>omega)
  have HTL:=hid htl
  refine hK.out _ _ (.inl (by kernel_rfl)) ?_
  clear hK K htl hS hS0 hbq hb2 hb12 hb3 he2 hwq
  refine zfq 6 (some 7) (hi:=rfl) (.inl (by kernel_rfl)) ?_
  apply Exists.intro
  refine⟨fun W=>?_,?_⟩
  ·go_simp
   try rfl
  try simp only[Act.put,sA,sB,sC]
  refine zfq 7 (some 14) (hi:=rfl) (.inl (by kernel_rfl)) ?_
  apply Exists.intro
  refine⟨fun W=>?_,?_⟩
  ·go_simp
   try rfl
  try simp only[Act.put,sA,sB,sC]
  refine zfq 8 (some 15) (hi:=rfl) (.inl (by kernel_rfl)) ?_
  apply Exists.intro
  refine⟨fun W=>?_,?_⟩
  ·go_simp
   try rfl
  try simp only[Act.put,sA,sB,sC]
  refine zfq 9 (some 4) (hi:=rfl) (.inl (by kernel_rfl)) ?_
  apply Exists.intro
  refine⟨fun W=>?_,?_⟩
  ·go_simp
   try rfl
  try simp only[Act.put,sA,sB,sC]
  refine zfq 10 (some 5) (hi:=rfl) (.inl (by kernel_rfl)) ?_
  apply Exists.intro
  refine⟨fun W=>?_,?_⟩
  ·go_simp
   try rfl
  try simp only[Act.put,sA,sB,sC]
  refine WL.d ?_
  go_wp2_with fail
  go_ret2
  exact⟨by rw[HTL.out];rfl,HB3.out⟩
 |ok l=>
  rw[htl] at im
  obtain⟨g,B,D,rfl,hB,hrun⟩:=im
  have HOK:=hid (rI htl)
  have HTL:=hid htl
  have HR:=hid (And.intro hB hrun)
  refine hK.out _ _ (.inl (by kernel_rfl)) ?_
  clear hK K htl hS hS0 hbq hb2 hb12 hb3 he2 hwq
  refine zfq 6 (some 7) (hi:=rfl) (.inl (by kernel_rfl)) ?_
  apply Exists.intro
  refine⟨fun W=>?_,?_⟩
  ·go_simp
   try rfl
  try simp only[Act.put,sA,sB,sC]
  refine zfq 7 (some 14) (hi:=rfl) (.inl (by kernel_rfl)) ?_
  apply Exists.intro
  refine⟨fun W=>?_,?_⟩
  ·go_simp
   try rfl
  try simp only[Act.put,sA,sB,sC]
  refine zfq 8 (some 15) (hi:=rfl) (.inl (by kernel_rfl)) ?_
  apply Exists.intro
  refine⟨fun W=>?_,?_⟩
  ·go_simp
   try rfl
  try simp only[Act.put,sA,sB,sC]
  refine zfq 9 (some 4) (hi:=rfl) (.inl (by kernel_rfl)) ?_
  apply Exists.intro
  refine⟨fun W=>?_,?_⟩
  ·go_simp
   try rfl
  try simp only[Act.put,sA,sB,sC]
  refine zfq 10 (some 5) (hi:=rfl) (.inl (by kernel_rfl)) ?_
  apply Exists.intro
  refine⟨fun W=>?_,?_⟩
  ·go_simp
   try rfl
  try simp only[Act.put,sA,sB,sC]
  refine WL.d ?_
  have q6:=Below.keeps HB13.out k6
  have HN3:=hid ((HB13.out.block _ (by omega)).trans HN1.out)
  clear k2 k3 k6 hrun hB
  go_upto_region 4 with fail
  refine aG (fun W=>W.cell? ⟨w.heap.size,6,none⟩=some x.ov∧W.heap[w.heap.size]?=some (.cells x.cells.toArray 72 (0,0))) 7 (by kernel_rfl) ?_
  intro wr hwr
  have hS:∀W,Below wr.heap.size wr W→W.cell? ⟨w.heap.size,6,none⟩=some x.ov∧W.heap[w.heap.size]?=some (.cells x.cells.toArray 72 (0,0)):=fun W hW=>⟨Below.keeps hW (Below.keeps hwr q6),(Below.chain hwr hW).block _ (lx HN3) |>.trans HN3.out⟩
  have hS0:=hS wr (Below.refl _ _)
  refine zfq 0 (some 19) (hi:=rfl) (.inr hS0) ?_
  apply Exists.intro
  refine⟨fun W=>?_,?_⟩
  ·go_simp
   try rfl
  try simp only[Act.put,sA,sB,sC]
  refine zfq 1 (some 20) (hi:=rfl) (.inr hS0) ?_
  apply Exists.intro
  refine⟨fun W=>?_,?_⟩
  ·go_simp
   try rfl
  try simp only[Act.put,sA,sB,sC]
  refine zfz 2 3 (some 21) (hi:=rfl) hS0 ?_
  apply Exists.intro
  refine⟨fun W hW=>?_,?_⟩
  ·have e1:=hW.1
   go_simp
   try rfl
  try simp only[Act.put,sA,sB,sC]
  refine zfz 4 5 (some 23) (hi:=rfl) hS0 ⟨_,fun W hW=>yh dc (af hW.2) rfl rfl rfl,?_⟩
  simp only[Act.put,sA,sB,sC]
  generalize hA:({tmps:=#[Value.agg x.cells.toArray,Value.pointer (some {block:=w.heap.size,off:=0}),Value.pointer none,Value.int IntKind.i64 0,Value.pointer (some {block:=g,off:=0}),Value.int IntKind.i64 0,undef,Value.tuple #[Value.pointer (some {block:=g,off:=0}),Value.int IntKind.i64 0],Value.pointer (some {block:=w.heap.size,off:=2}),Value.string (bs x.l.tool),Value.pointer (some {block:=w.heap.size,off:=3}),x.ev,ev2,Value.tuple #[Value.pointer (some {block:=g,off:=0}),Value.int IntKind.i64 0],Value.pointer (some {block:=g,off:=0}),Value.int IntKind.i64 0,Value.int IntKind.i64 0,Value.bool false,undef,Value.pointer (some {block:=g,off:=0}),Value.pointer (some {block:=w.heap.size,off:=6}),x.ov,undef,Value.agg x.cells.toArray,undef,undef,undef,undef,undef,undef,undef],defers:=[]}:Act)=A0
  have hmm:=@run_makeMap Tryz.prog
  have hzr:=hwr.size
  have HBR:=hid (Below.chain HB3.out hwr)
  refine(show WL Tryz.prog _ _ _ 7 (3+3) (gS _ [3,5,6] (([none,none,none]:List (Option Value)).map Option.isSome)) (cQ A0 [some 22,some 24,some 25] [none,none,none]) wr from
   rE [3,5,6] [some 22,some 24,some 25] [[],[0],[]] (lK W3.heap.size x.l) 3 _ A0 wr hS (by simp[lH]) rfl (by decide) (by kernel_rfl) ?step ?fin 3 [none,none,none] wr rfl rfl rfl (Below.refl _ _) (zgs _ _ _))
  case step=>
   intro n hn st w' hl hb hr hsn hdep
   have hwB:W3.heap.size≤w'.heap.size:=by have:=hb.size;omega
   have hb2:=Below.chain HBR.out hb
   match n,hn,hsn with
   |0,_,hsn=>
    refine⟨_,rfl,rfl,by kernel_rfl,fun K hK=>?_⟩
    have hg:=e7 [some 22,some 24,some 25] st A0 21 (by decide)
    have HK:=hid hK
    clear hK
    generalize cQ A0 [some 22,some 24,some 25] st=A at *
    have HC:=hid (kQ x.ov x.l.outs w' (HX.out.outs.below hb2) (by have:=HS.out.outs;omega))
    rw[←hA] at hg
    go_simp
    refine HC.out.mono ?_
    rintro e W4 ⟨v,rfl,ho,hb3⟩
    exact HK.out v W4 hb3 (hr.row hb3 hsn v (aK ho hwB))
   |1,_,hsn=>
    refine⟨_,rfl,rfl,by kernel_rfl,fun K hK=>?_⟩
    have hg:=e7 [some 22,some 24,some 25] st A0 23 (by decide)
    have HK:=hid hK
    clear hK
    generalize cQ A0 [some 22,some 24,some 25] st=A at *
    have HC:=hid (zgu x w' (HX.out.below hb2) HS.out (HM.out.below hb2))
    rw[←hA] at hg
    go_simp
    refine HC.out.mono ?_
    rintro e W4 ⟨v,rfl,hb3,hmay⟩
    exact HK.out v W4 hb3 (hr.may hwB hb3 hsn v hmay)
   |2,_,hsn=>
    refine⟨_,rfl,rfl,by kernel_rfl,fun K hK=>?_⟩
    have HK:=hid hK
    clear hK
    generalize cQ A0 [some 22,some 24,some 25] st=A at *
    go_simp
    exact HK.out _ _ (ab w' _) (hr.map hwB hsn)
   |n+3,hn,_=>exact absurd hn (by simp)
  case fin=>
   intro st w' hl hall hr hb
   obtain⟨s0,s1,s2,rfl⟩:∃s0 s1 s2,st=[s0,s1,s2]:=by
    match st,hl with
    |[a,b,c],_=>exact⟨a,b,c,rfl⟩
   obtain⟨v0,h0⟩:=hall 0 (by simp)
   obtain⟨v1,h1⟩:=hall 1 (by simp)
   obtain⟨v2,h2⟩:=hall 2 (by simp)
   simp only[List.getElem?_cons_zero,List.getElem?_cons_succ,Option.some.injEq] at h0 h1 h2
   subst h0 h1 h2
   obtain⟨m,rfl,hm1,hm2⟩:=hr.c v2 rfl
   obtain⟨lo,hi,hlh,hmay,hml⟩:=hr.b v1 rfl
   have hro:=hr.a v0 rfl
   have hmx:=hml m rfl
   obtain⟨c1,c2,c3,rfl, -⟩:=hmay (fun _=>False) (fun _ e=>e.elim)
   obtain⟨a0,q0,rfl⟩:=ax hro
   have hbw:=Below.chain HBR.out hb
   have hb3w:=Below.chain hwr hb
   have HF:=hid (And.intro hm1 (And.intro hm2 (And.intro hlh (And.intro hmay (And.intro hmx (And.intro hro (And.intro hbw hb3w)))))))
   rw[←hA]
   clear hr hall hm1 hm2 hlh hmay hml hmx hro hbw hb3w hS hS0 q6 hmm
   simp only[cQ,Act.put,sA,sB,sC]
   refine WL.o 7 (hi:=rfl) ?_
   intro K hK
   go_simp
   refine hK.out _ _ (.inl (by kernel_rfl)) ?_
   clear hK K
   try simp only[Act.put,sA,sB,sC]
   refine WL.o 8 (hi:=rfl) ?_
   intro K hK
   go_simp
   refine hK.out _ _ (.inl (by kernel_rfl)) ?_
   clear hK K
   try simp only[Act.put,sA,sB,sC]
   refine WL.o 9 (hi:=rfl) ?_
   intro K hK
   go_simp
   refine hK.out _ _ (.inl (by kernel_rfl)) ?_
   clear hK K
   try simp only[Act.put,sA,sB,sC]
   refine WL.d ?_
   obtain⟨hm1,hm2,hlh,hmay,hmx,hro,hbw,hb3w⟩:=HF.out
   obtain⟨hB,hrun⟩:=HR.out
   have hbn:=ab w' (.cells (uD g (.slice a0 x.l.outs.length q0) (.func (.func 195) #[] #[pp c1,pp c2,pp c3]) (.slice none 0 0) m ⟨lO l,[],[],[],false,0⟩).toArray 281)
   have hnn:=heap_alloc_new w' (.cells (uD g (.slice a0 x.l.outs.length q0) (.func (.func 195) #[] #[pp c1,pp c2,pp c3]) (.slice none 0 0) m ⟨lO l,[],[],[],false,0⟩).toArray 281)
   have hzn:(w'.alloc (.cells (uD g (.slice a0 x.l.outs.length q0) (.func (.func 195) #[] #[pp c1,pp c2,pp c3]) (.slice none 0 0) m ⟨lO l,[],[],[],false,0⟩).toArray 281)).heap.size=w'.heap.size+1:=World.size_alloc _ _
   unfold uD at hbn hnn hzn
   generalize hWb:w'.alloc (.cells [Value.pointer (some ⟨g,0,none⟩),.slice a0 x.l.outs.length q0,.func (.func 195) #[] #[pp c1,pp c2,pp c3],.map (some m),.slice none 0 0,.string (bs []),.bool false,.int .i64 ((0:Nat):Int)].toArray 281)=Wb at *
   have hWb2:w'.alloc (.cells #[Value.pointer (some ⟨g,0,none⟩),.slice a0 x.l.outs.length q0,.func (.func 195) #[] #[pp c1,pp c2,pp c3],.map (some m),.slice none 0 0,.string ⟨#[]⟩,.bool false,.int .i64 0] 281)=Wb:=hWb
   rw[hWb2]
   have hml2:=lx (hid hm2)
   have hgD:∃g0,D g0:=by
    obtain⟨tv,ev,km,mb,vs,cs,h⟩:=hrun
    exact⟨g,h.dg⟩
   have hBW:B≤W3.heap.size:=by
    obtain⟨g0,h0⟩:=hgD
    have:=hrun.db g0 h0
    omega
   have hDl:∀j,D j→B≤j∧j<W3.heap.size:=hrun.db
   have hwz:=hb3w.size
   have hbox:df B D (fun j=>D j∨j=w'.heap.size∨j=m) g w'.heap.size m x.l.env (byA x.l) ⟨lO l,[],[],[],false,0⟩ Wb (.slice a0 x.l.outs.length q0) (.func (.func 195) #[] #[pp c1,pp c2,pp c3]) (.slice none 0 0):=
    {at_:=hnn
     run:=hrun.below (Below.chain hb3w hbn)
     outs:=aO.below (ap.of_owns hro (show x.l.outs.length≤maxLen by have:=HS.out.outs;unfold maxLen;omega)) hbn
     ono:=fun k hk=>by
      have h1:=hro.lt k hk
      refine⟨fun e=>?_,by omega⟩
      rcases e with e|e|e
      ·have:=(hDl k e).2;omega
      ·omega
      ·subst e
       obtain⟨-,⟨h2, -⟩|⟨b,cap,cur,h2, -,h3, -⟩⟩:=hro
       ·rw[h2] at hk;cases hk
       ·rw[h2] at hk
        have:b=k:=Option.some.inj hk
        subst this
        rw[hm2] at h3
        cases h3
     may:=(hmay _ fun j e=>by
      rcases e with e|e|e
      ·have:=hDl j e;omega
      ·omega
      ·subst e
       exact⟨by omega,hmx⟩).go (az.of_below hbn) fun j e=>.inl e
     wr:=⟨_,(hbn.block m hml2).trans hm2,rfl,.nil⟩
     rd:=World.ownsRow_nil _ _ _ _
     sub:=fun j e=>.inl e
     eb:=.inr (.inl rfl)
     ew:=.inr (.inr rfl)
     er:=fun k hk=>by cases hk
     nb:=fun e=>by have:=(hDl _ e).2;omega
     nw:=fun e=>by have:=(hDl _ e).2;omega
     nr:=fun k hk=>by cases hk
     rn:=fun _=>rfl
     ne:=by omega
     db:=fun k hk=>by
      rcases hk with e|e|e
      ·have:=hDl k e;omega
      ·omega
      ·omega}
   have hbl:Below w.heap.size w Wb:=Below.chain hbw hbn
   have HGO:=hid (rA ⟨D,g,m,_,_,_,hbox⟩ (HG.out B Wb (by omega) hbl) ⟨rfl,fun _=>⟨rfl,rfl⟩⟩ (zgn l HOK.out.1 HOK.out.2) rfl (fun y hy=>by have:=HS.out.el y hy;omega) (by show x.l.outs.length≤_;have:=HS.out.outs;omega))
   have HBL:=hid (And.intro hbl (show w.heap.size≤B by omega))
   have HDL:=hid (show ∀j,(D j∨j=w'.heap.size∨j=m)→w.heap.size≤j by
    intro j e
    rcases e with e|e|e
    ·have:=hDl j e;omega
    ·omega
    ·omega)
   clear hWb hWb2 hbox hbn hnn hm1 hm2 hlh hmay hmx hro hbw hb3w hB hrun hbl
   go_wp2_with (go_at_call 157;refine HGO.out.mono ?_;rintro e W5 ⟨rfl,hrok,hgo⟩)
   go_ret2
   obtain⟨E5,hE5,hf5,hb5⟩:=hgo
   refine⟨by rw[HTL.out];exact⟨w'.heap.size,B,E5,rfl,HBL.out.2,hb5,hrok⟩,HBL.out.1.trans (hf5.below (by have:=HBL.out.1.size;omega) fun i e=>HDL.out i e)⟩
end Go.Proofs.YtlbipokkdiiaiaaGreatDoor
namespace Go.Proofs.YtlbipokkdiiaiaaGreatDoor
open Go.RowKit
section
variable {y z:ByL} (h1:y.env=z.env) (h2:y.may=z.may) (h3:∀p,p∈y.outs↔p∈z.outs)
include h1 h2 h3
theorem zbV:cv y=cv z:=by
 have ha:∀f:Txt→Bool,y.outs.any f=z.outs.any f:=by
  intro f
  rw[Bool.eq_iff_iff,List.any_eq_true,List.any_eq_true]
  exact⟨fun⟨p,h,k⟩=>⟨p,(h3 p).1 h,k⟩,fun⟨p,h,k⟩=>⟨p,(h3 p).2 h,k⟩⟩
 have hw:∀b p d,dx y b p d=dx z b p d:=fun b p d=>by
  unfold dx
  by_cases h:b.has p=true∨p∉y.outs
  ·rw[if_pos h,if_pos (by rwa [h3] at h)]
  ·rw[if_neg h,if_neg (by rwa [h3] at h)]
 funext b
 unfold cv
 rw[h1,h2,ha,hw]
theorem zar:goB y=goB z:=by
 funext b
 unfold goB mG
 rw[zbV h1 h2 h3,h1]
theorem z6 (ans:Txt→Option KnL) (l:List bS):iT y ans l=iT z ans l:=by
 have hg:fY y=fY z:=by
  funext b k
  unfold fY
  rw[zar h1 h2 h3]
 have hs:iw y ans=iw z ans:=by
  funext b
  unfold iw
  rw[hg]
 unfold iT pH
 rw[zar h1 h2 h3,hs]
end
def iD (l:List (Txt×Txt)) (x:Txt×Txt):List (Txt×Txt):=if l.any (fun y=>decide (y.1=x.1)) then l.map (fun y=>if y.1=x.1 then x else y) else l++[x]
def kf (l:List (Txt×Txt)):List (Txt×Txt):=l.reverse.foldl iD []
theorem zi (l:List (Txt×Txt)) (x:Txt×Txt):(iD l x).map (·.1)=if l.any (fun y=>decide (y.1=x.1)) then l.map (·.1) else l.map (·.1)++[x.1]:=by
 unfold iD
 split
 ·rw[List.map_map]
  refine List.map_congr_left fun y _=>?_
  by_cases h:y.1=x.1
  ·simp[h]
  ·simp[h]
 ·simp
theorem uV {l:List (Txt×Txt)} {x:Txt×Txt} (h:(l.map (·.1)).Nodup):((iD l x).map (·.1)).Nodup:=by
 rw[zi]
 split
 ·exact h
 ·rename_i hn
  rw[List.nodup_append]
  refine⟨h,by simp,fun a ha b hb=>?_⟩
  simp only[List.mem_singleton] at hb
  subst hb
  rintro rfl
  obtain⟨y,hy,e⟩:=List.mem_map.1 ha
  exact hn (List.any_eq_true.2 ⟨y,hy,by simpa using e⟩)
theorem zbx (l:List (Txt×Txt)) (x:Txt×Txt) (p:Txt):bH (iD l x) p=if x.1=p then some x.2 else bH l p:=by
 have hmap:∀l:List (Txt×Txt),bH (l.map (fun y=>if y.1=x.1 then x else y)) p=if x.1=p∧l.any (fun y=>decide (y.1=x.1))=true then some x.2 else bH l p:=by
  intro l
  induction l with
  |nil=>simp[bH]
  |cons y l ih=>
   unfold bH at ih ⊢
   rw[List.map_cons,List.any_cons]
   by_cases hy:y.1=x.1
   ·by_cases hp:x.1=p
    ·rw[if_pos hy,List.find?_cons_of_pos (by simpa using hp),if_pos ⟨hp,by simp[hy]⟩]
     rfl
    ·rw[if_pos hy,List.find?_cons_of_neg (by simpa using hp),ih,if_neg (by simp[hp]),if_neg (by simp[hp]),List.find?_cons_of_neg (by simpa[hy] using hp)]
   ·by_cases hq:y.1=p
    ·have hp:¬x.1=p:=fun e=>hy (hq.trans e.symm)
     rw[if_neg hy,List.find?_cons_of_pos (by simpa using hq),if_neg (by simp[hp]),List.find?_cons_of_pos (by simpa using hq)]
    ·rw[if_neg hy,List.find?_cons_of_neg (by simpa using hq),ih,List.find?_cons_of_neg (by simpa using hq),decide_eq_false hy,Bool.false_or]
 unfold iD
 by_cases ha:l.any (fun y=>decide (y.1=x.1))=true
 ·rw[if_pos ha,hmap]
  simp[ha]
 ·rw[if_neg ha]
  unfold bH
  rw[List.find?_append]
  by_cases hp:x.1=p
  ·rw[if_pos hp]
   have:l.find? (fun y=>decide (y.1=p))=none:=by
    rw[List.find?_eq_none]
    intro y hy e
    refine ha (List.any_eq_true.2 ⟨y,hy,?_⟩)
    rw[hp]
    exact e
   simp[this,hp]
  ·rw[if_neg hp]
   simp[hp]
theorem qy (x:Txt×Txt) (l:List (Txt×Txt)):kf (x::l)=iD (kf l) x:=by
 unfold kf
 rw[List.reverse_cons,List.foldl_append]
 rfl
theorem iG:∀(l:List (Txt×Txt)) (p:Txt),bH (kf l) p=bH l p
 |[],_=>rfl
 |x::l,p=>by
  rw[qy,zbx,iG l p]
  unfold bH
  by_cases h:x.1=p
  ·rw[if_pos h,List.find?_cons_of_pos (by simpa using h)]
   rfl
  ·rw[if_neg h,List.find?_cons_of_neg (by simpa using h)]
theorem lz (l:List (Txt×Txt)) (p:Txt):p∈l.map (·.1)↔bH l p≠none:=by
 unfold bH
 rw[List.mem_map,ne_eq,Option.map_eq_none_iff,List.find?_eq_none]
 constructor
 ·rintro⟨x,hx,rfl⟩ h
  exact h x hx (by simp)
 ·intro h
  simp only[Classical.not_forall] at h
  obtain⟨x,hx,e⟩:=h
  exact⟨x,hx,by simpa using e⟩
abbrev mC (l:List Txt):List Txt:=l.mergeSort fun x y=>decide (x≤y)
def jy (l:List (Txt×Txt)):List Txt:=(mC ((kf l).map (·.1))).flatMap fun n=>[n,(bH l n).getD []]
def fF (l:List Txt):List Txt:=Lib.compact (mC l)
noncomputable def ia (x:fW):Txt:=bK [x.tool,bK (jy x.env),bK (fF x.ins),bK (fF x.asks),bK (fF x.outs)]
theorem gA {l:List Txt} {p:Txt}:p∈mC l↔p∈l:=(List.mergeSort_perm l _).mem_iff
theorem tU {l:List Txt} {p:Txt}:p∈Lib.compact l↔p∈l:=by
 refine⟨fun h=>(uB l).subset h,fun h=>?_⟩
 have hk:∀i,i<l.length→l.toArray[i]! =p→Lib.keeps l.toArray i=true→p∈Lib.compact l:=fun i hi e h=>
  List.mem_map.2 ⟨i,List.mem_filter.2 ⟨List.mem_range.2 hi,h⟩,e⟩
 have hall:∀i,i<l.length→l.toArray[i]! =p→p∈Lib.compact l:=by
  intro i
  induction i with
  |zero=>exact fun hi e=>hk 0 hi e (by simp[Lib.keeps])
  |succ i ih=>
   intro hi e
   by_cases h:l.toArray[i]! =p
   ·exact ih (by omega) h
   ·exact hk _ hi e (by
     unfold Lib.keeps
     rw[decide_eq_true_iff]
     refine .inr ?_
     rw[e]
     exact fun h'=>h h'.symm)
 obtain⟨i,hi,e⟩:=List.getElem_of_mem h
 exact hall i hi (by simp[hi,e])
theorem oW {l:List Txt} {p:Txt}:p∈fF l↔p∈l:=tU.trans gA
theorem o8 {f g:Txt→Txt}:∀{a b:List Txt},(a.flatMap fun n=>[n,f n])=(b.flatMap fun n=>[n,g n])→a=b∧∀n∈a,f n=g n
 |[],[],_=>⟨rfl,by simp⟩
 |[],y::b,h=>by simp at h
 |x::a,[],h=>by simp at h
 |x::a,y::b,h=>by
  simp only[List.flatMap_cons,List.cons_append,List.nil_append,List.cons.injEq] at h
  obtain⟨rfl,h2,h3⟩:=h
  obtain⟨rfl,h4⟩:=o8 h3
  refine⟨rfl,fun n hn=>?_⟩
  rcases List.mem_cons.1 hn with e|hn
  ·rw[e];exact h2
  ·exact h4 n hn
theorem zdp {a b:List (Txt×Txt)} (h:jy a=jy b):bH a=bH b:=by
 obtain⟨h1,h2⟩:=o8 h
 funext p
 have hm:p∈(kf a).map (·.1)↔p∈(kf b).map (·.1):=by rw[←gA,h1,gA]
 by_cases hp:p∈(kf a).map (·.1)
 ·have e:=h2 p (gA.2 hp)
  have ha:=(lz _ _).1 hp
  have hb:=(lz _ _).1 (hm.1 hp)
  rw[iG] at ha hb
  cases ea:bH a p with
  |none=>exact absurd ea ha
  |some u=>
   cases eb:bH b p with
   |none=>exact absurd eb hb
   |some v=>
    rw[ea,eb] at e
    exact congrArg some e
 ·have ha:bH a p=none:=Classical.byContradiction fun h=>hp ((lz _ _).2 (by rw[iG];exact h))
  have hb:bH b p=none:=Classical.byContradiction fun h=>hp (hm.2 ((lz _ _).2 (by rw[iG];exact h)))
  rw[ha,hb]
theorem rj {a b:List Txt} (h:fF a=fF b) (p:Txt):p∈a↔p∈b:=by rw[←oW,h,oW]
theorem zb8 {i a o i' a' o':List Txt} (hi:∀p,p∈i↔p∈i') (ha:∀p,p∈a↔p∈a') (ho:∀p,p∈o↔p∈o'):jA i a o=jA i' a' o':=by
 funext p
 unfold jA
 have hb:(a.any fun q=>dJ q p)=(a'.any fun q=>dJ q p):=by
  rw[Bool.eq_iff_iff,List.any_eq_true,List.any_eq_true]
  exact⟨fun⟨q,h,k⟩=>⟨q,(ha q).1 h,k⟩,fun⟨q,h,k⟩=>⟨q,(ha q).2 h,k⟩⟩
 rw[hb,decide_eq_decide.2 (hi p)]
 by_cases h:p∈o
 ·rw[if_pos h,if_pos ((ho p).1 h)]
 ·rw[if_neg h,if_neg (fun e=>h ((ho p).2 e))]
def fU (x:fW):Prop:=(x.tool.length<1000000000∧(bK (jy x.env)).length<1000000000∧(bK (fF x.ins)).length<1000000000∧(bK (fF x.asks)).length<1000000000∧(bK (fF x.outs)).length<1000000000)∧(∀s∈jy x.env,s.length<1000000000)∧(∀s∈fF x.ins,s.length<1000000000)∧(∀s∈fF x.asks,s.length<1000000000)∧∀s∈fF x.outs,s.length<1000000000
theorem wT {x y:fW} (hx:fU x) (hy:fU y) (h:ia x=ia y):x.tool=y.tool∧bH x.env=bH y.env∧jA x.ins x.asks x.outs=jA y.ins y.asks y.outs∧∀p,p∈x.outs↔p∈y.outs:=by
 obtain⟨⟨a0,a1,a2,a3,a4⟩,b1,b2,b3,b4⟩:=hx
 obtain⟨⟨c0,c1,c2,c3,c4⟩,d1,d2,d3,d4⟩:=hy
 have e:=kh (by
  intro s hs
  simp only[List.mem_cons,List.not_mem_nil,or_false] at hs
  rcases hs with rfl|rfl|rfl|rfl|rfl<;>assumption) (by
  intro s hs
  simp only[List.mem_cons,List.not_mem_nil,or_false] at hs
  rcases hs with rfl|rfl|rfl|rfl|rfl<;>assumption) h
 simp only[List.cons.injEq,and_true] at e
 obtain⟨e0,e1,e2,e3,e4⟩:=e
 have o:=rj (kh b4 d4 e4)
 exact⟨e0,zdp (kh b1 d1 e1),zb8 (rj (kh b2 d2 e2)) (rj (kh b3 d3 e3)) o,o⟩
theorem gQ {ss:List Txt} {n m:Nat} (hn:ss.length≤n) (hm:∀s∈ss,s.length≤m) (hmm:m≤9223372036854775807):(bK ss).length≤n*(m+20):=by
 refine Nat.le_trans (m:=ss.length*(m+20)) ?_ (Nat.mul_le_mul_right _ hn)
 clear hn
 induction ss with
 |nil=>simp[bK]
 |cons s ss ih=>
  have h1:=ih fun t ht=>hm t (List.mem_cons_of_mem _ ht)
  have h2:=hm s (List.mem_cons_self ..)
  have h3:=yJ (n:=s.length) (by omega)
  have h4:bK (s::ss)=bK [s]++bK ss:=jc [s] ss
  have h5:(bK [s]).length=(dig s.length).length+1+s.length:=by
   simp only[bK,List.flatMap_cons,List.flatMap_nil,List.append_nil,List.length_append,List.length_cons]
   omega
  rw[h4,List.length_append,h5,List.length_cons,Nat.succ_mul]
  omega
theorem iR:∀(l:List (Txt×Txt)),(∀x∈kf l,x∈l)∧(kf l).length≤l.length
 |[]=>⟨fun x h=>h,Nat.le_refl _⟩
 |y::l=>by
  obtain⟨h1,h2⟩:=iR l
  rw[qy]
  unfold iD
  split
  ·refine⟨fun x hx=>?_,by rw[List.length_map,List.length_cons];omega⟩
   obtain⟨z,hz,rfl⟩:=List.mem_map.1 hx
   split
   ·exact List.mem_cons_self ..
   ·exact List.mem_cons_of_mem _ (h1 z hz)
  ·refine⟨fun x hx=>?_,by simp only[List.length_append,List.length_cons,List.length_nil];omega⟩
   rcases List.mem_append.1 hx with h|h
   ·exact List.mem_cons_of_mem _ (h1 x h)
   ·rw[List.mem_singleton.1 h]
    exact List.mem_cons_self ..
theorem zgx {l:List (Txt×Txt)} {m:Nat} (h:∀s∈l,s.2.length≤m) (p:Txt):((bH l p).getD []).length≤m:=by
 unfold bH
 cases e:l.find? fun x=>decide (x.1=p) with
 |none=>exact Nat.zero_le _
 |some x=>exact h x (List.mem_of_find?_eq_some e)
theorem nX {l:List (Txt×Txt)} {m:Nat} (h:∀s∈l,s.2.length≤m) (h1:∀s∈l,s.1.length≤m):(∀s∈jy l,s.length≤m)∧(jy l).length≤2*l.length:=by
 constructor
 ·intro s hs
  obtain⟨n,hn,hs⟩:=List.mem_flatMap.1 hs
  rcases List.mem_cons.1 hs with rfl|hs
  ·obtain⟨x,hx,rfl⟩:=List.mem_map.1 (gA.1 hn)
   exact h1 x ((iR l).1 x hx)
  ·rw[List.mem_singleton.1 hs]
   exact zgx h n
 ·have e:∀a:List Txt,(a.flatMap fun n=>[n,(bH l n).getD []]).length=2*a.length:=by
   intro a
   induction a with
   |nil=>rfl
   |cons x a ih=>
    rw[List.flatMap_cons,List.length_append,ih,List.length_cons,List.length_cons,List.length_cons,List.length_nil]
    omega
  unfold jy
  rw[e,List.length_mergeSort,List.length_map]
  have:=(iR l).2
  omega
theorem eS {l:List Txt} {m:Nat} (h:∀s∈l,s.length≤m):(∀s∈fF l,s.length≤m)∧(fF l).length≤l.length:=by
 refine⟨fun s hs=>h s (oW.1 hs),Nat.le_trans (Lib.compact_length_le _) ?_⟩
 exact Nat.le_of_eq (List.length_mergeSort _)
theorem kR {x:fW} (hs:dU x) (ht:x.tool.length≤1500000) (hc:x.env.length+x.ins.length+x.asks.length+x.outs.length≤120):fU x:=by
 obtain⟨e1,e2⟩:=nX hs.el hs.nl
 obtain⟨i1,i2⟩:=eS hs.il
 obtain⟨a1,a2⟩:=eS hs.al
 obtain⟨o1,o2⟩:=eS hs.ol
 have re:=gQ (n:=240) (by omega) e1 (by omega)
 have ri:=gQ (n:=120) (by omega) i1 (by omega)
 have ra:=gQ (n:=120) (by omega) a1 (by omega)
 have ro:=gQ (n:=120) (by omega) o1 (by omega)
 exact⟨⟨by omega,by omega,by omega,by omega,by omega⟩,fun s h=>by have:=e1 s h;omega,fun s h=>by have:=i1 s h;omega,fun s h=>by have:=a1 s h;omega,fun s h=>by have:=o1 s h;omega⟩
theorem uX {x y:fW} (hx:fU x) (hy:fU y) (h:ia x=ia y) (ans:Txt→Option KnL) (l:List bS):iT (byA x) ans l=iT (byA y) ans l:=by
 obtain⟨-,h1,h2,h3⟩:=wT hx hy h
 exact z6 h1 h2 h3 ans l
open Exec Go.Shelf
attribute [local go_sem] Oper.semAt_some
set_option maxRecDepth 100000
theorem sX {α:Type} (f:α→List Value) {t e sz by_:Nat} (hu:Tryz.prog.underlying t=some (.slice e)) (hinfo:gg e sz by_=true) (hsz:∀x,(f x).length=sz) (h0:0<sz) (hby:by_≤1000) {W:World} {base g n:Nat} {v:Value} {l:List α} (x:α)
 (h1:∀u∈f x,u.oneCell'=true) (h:W.ownsRow base e sz v n (l.flatMap f)) (hg:W.heap[g]?=some (.cells (f x).toArray e (0,0))) (hb:base≤W.heap.size) (hn:n≤100000):
 ∃v' w',(∀ty,(Builtin.append_ #[t,t] ty #[v,.slice (some ⟨g,0,none⟩) 1 1]).run Tryz.prog W=.ok v' w')∧w'.ownsRow base e sz v' (n+1) ((l++[x]).flatMap f)∧Below base W w'∧W.grownBy w' v.ownBlock∧(v'.ownBlock=v.ownBlock∨v'.ownBlock=some W.heap.size∧∀k,k<W.heap.size→w'.heap[k]?=W.heap[k]?):=by
 obtain⟨v',w',hr,ho,hbl,hgr,hat⟩:=lg f hu hinfo hsz h0 hby x h1 h hg hb hn
 refine⟨v',w',hr,ho,hbl,hgr,?_⟩
 rcases hat with e1|e1
 ·exact .inl e1
 ·refine .inr ⟨e1,?_⟩
  obtain⟨i0,z,hi,hz,hs,lS,hzs⟩:=cW hinfo
  have hsrc:∀j u,(f x)[j]?=some u→W.cell? ((⟨g,0,none⟩:Addr).add j)=some u:=fun j u hu=>by
   have:=af hg j u hu
   rw[Addr.add_lit]
   exact this
  rcases h.2 with⟨rfl, -⟩|⟨b,cap,cur,rfl,hbb2,hh,hnc,hcm,hcs,htk⟩
  ·exact fun k hk=>hgr.block k hk (by simp[Value.ownBlock])
  ·by_cases hroom:n+1≤cap
   ·exfalso
    obtain⟨w2,h2, -⟩:=run_append_own_spare (P:=Tryz.prog) W base t 0 e i0 sz hu hi hs b n cap (l.flatMap f) h ⟨g,0,none⟩ 1 1 (f x) (by rw[hsz];omega) hsrc h1 hroom
    rw[hr 0] at h2
    have h3:v'=.slice (some ⟨b,0,none⟩) (n+1) cap:=by injection h2
    rw[h3] at e1
    have:b=W.heap.size:=by simpa[Value.ownBlock] using e1
    have:=lx (hid hh)
    omega
   ·have holds:∀j u,(l.flatMap f)[j]?=some u→W.cell? ((⟨b,0,none⟩:Addr).add j)=some u:=h.cells (g:=b) rfl
    have h2:=run_append_grow (P:=Tryz.prog) W t 0 e i0 z hu hi hz ⟨b,0,none⟩ n cap (l.flatMap f) (by rw[hs];exact h.1) holds ⟨g,0,none⟩ 1 1 (f x) (by rw[hs,hsz];omega) hsrc (by omega) (by omega) (growslice_fits (by omega) (by
     rw[lS]
     exact Nat.le_trans (Nat.mul_le_mul (show n+1≤100001 by omega) hby) (by decide)))
    rw[hr 0] at h2
    simp only[Result.ok.injEq] at h2
    intro k hk
    rw[h2.2]
    exact heap_alloc_old W.drew _ hk
section
variable {B g bb wm:Nat} {D E:Nat→Prop} {env:List (Txt×Txt)} {y:ByL} {b:bG} {w W2:World} {ov mv rv v':Value}
theorem zC (h:df B D E g bb wm env y b w ov mv rv):Calls Tryz.prog 106 #[.pointer (some ⟨bb,0,none⟩)] w fun e w'=>e=.returned (.tuple (if b.over=true then #[.string (bs []),.bool false] else #[.string (bs b.asks),.bool true]))∧w'=w:=by
 obtain⟨-, -, -, -, -,c5,c6, -⟩:=bi h.at_
 clear h
 cases hov:b.over with
 |true=>
  rw[hov] at c6
  go_enter Tryz.func106,Tryz.ntmps106
  go_wp2_with fail
  go_ret2
  exact⟨rfl,rfl⟩
 |false=>
  rw[hov] at c6
  go_enter Tryz.func106,Tryz.ntmps106
  go_wp2_with fail
  go_ret2
  exact⟨rfl,rfl⟩
theorem px {e sz n k:Nat} {v x:Value} {xs r:List Value} (h:w.ownsRow B e sz v n xs) (hk:v.ownBlock=some k) (hx:xs=x::r):w.cell? ⟨k,0,none⟩=some x∧∃cur,w.heap[k]?=some (.cells cur e (0,0)):=by
 obtain⟨hl,⟨h1, -⟩|⟨b,cap,cur,h1,hB,hh,hn,hm,hs,ht⟩⟩:=h
 ·rw[h1] at hk;cases hk
 ·rw[h1] at hk
  have:b=k:=Option.some.inj hk
  subst this
  refine⟨?_,cur,hh⟩
  rw[cell_of_row _ _ _ _ _ _ hh]
  have h2:(cur.toList.take (n*sz))[0]?=some x:=by rw[ht,hx];rfl
  rw[List.getElem?_take] at h2
  split at h2
  ·simpa using h2
  ·cases h2
theorem df.read (h:df B D E g bb wm env y b w ov mv rv) (k:KnL) (ho:W2.ownsRow B 100 34 v' (b.reads.length+1) (((b.reads.map rdK)++[rdK k]).flatMap RdL.cells)) (hg:w.grownBy W2 rv.ownBlock) (hat2:v'.ownBlock=rv.ownBlock∨v'.ownBlock=some w.heap.size∧∀k,k<w.heap.size→W2.heap[k]?=w.heap[k]?):
 ∃E':Nat→Prop,(∀j,E' j→E j∨w.heap.size≤j)∧az E w (W2.setCell ⟨bb,4,none⟩ v')∧df B D E' g bb wm env y {b with reads:=b.reads++[k]} (W2.setCell ⟨bb,4,none⟩ v') ov mv v':=by
 have hat:v'.ownBlock=rv.ownBlock∨v'.ownBlock=some w.heap.size:=hat2.imp id (·.1)
 have hbl:=lx (hid h.at_)
 have hbb2:W2.heap[bb]?=some (.cells (uD g ov mv rv wm b).toArray 281 (0,0)):=(hg.block bb hbl (fun e=>(h.nr bb e.symm).2.1 rfl)).trans h.at_
 obtain⟨n3,t3⟩:=au hbb2 4 v'
 have hf:az (fun j=>rv.ownBlock=some j∨j=bb) w (W2.setCell ⟨bb,4,none⟩ v'):=⟨t3.foot.os.trans hg.os,t3.foot.tape.trans hg.tape,t3.foot.output.trans hg.output,Nat.le_trans hg.size t3.foot.size,fun j hj hd=>(t3.foot.block j (Nat.lt_of_lt_of_le hj hg.size) (fun e=>hd (.inr e))).trans (hg.block j hj (fun e=>hd (.inl e.symm)))⟩
 have hfE:az E w (W2.setCell ⟨bb,4,none⟩ v'):=hf.mono fun j _ e=>by
  rcases e with e|e
  ·exact h.er j e
  ·exact e▸h.eb
 have hvb:∀j,v'.ownBlock=some j→j≠bb∧j≠wm∧¬D j:=fun j hj=>by
  rcases hat with e|e
  ·rw[e] at hj
   have:=h.nr j hj
   exact⟨this.2.1,this.2.2,this.1⟩
  ·rw[e] at hj
   have:w.heap.size=j:=Option.some.inj hj
   subst this
   obtain⟨o,h1, -⟩:=h.wr
   exact⟨by omega,by have:=lx (hid h1);omega,fun e=>by have:=(h.db _ (h.sub _ e)).2;omega⟩
 have ho3:(W2.setCell ⟨bb,4,none⟩ v').ownsRow B 100 34 v' (b.reads.length+1) (((b.reads.map rdK)++[rdK k]).flatMap RdL.cells):=aJ ho fun j hj=>t3.foot.block j (ho.lt j hj).2 (hvb j hj).1
 have hkp:∀j,j<w.heap.size→j≠bb→(W2.setCell ⟨bb,4,none⟩ v').heap[j]?=W2.heap[j]?:=fun j hj hne=>t3.foot.block j (Nat.lt_of_lt_of_le hj hg.size) hne
 generalize W2.setCell ⟨bb,4,none⟩ v'=W3 at *
 have hE:∀j,(E j∨v'.ownBlock=some j)→E j∨w.heap.size≤j:=fun j hj=>by
  rcases hj with e|e
  ·exact .inl e
  ·rcases hat with e2|e2
   ·exact .inl (h.er j (e2▸e))
   ·rw[e2] at e
    have:w.heap.size=j:=Option.some.inj e
    exact .inr (by omega)
 refine⟨fun j=>E j∨v'.ownBlock=some j,hE,hfE,?_⟩
 obtain⟨o,w1,w2⟩:=h.wr
 exact
  {at_:=by
    rw[n3]
    rfl
   run:=by
    refine h.run.kept hf (fun j e=>?_) (fun j e v hv=>?_) (fun j e xs fr hx=>?_)
    ·rcases e with e|e
     ·exact⟨(h.nr j e).1,(h.db j (h.er j e)).1⟩
     ·exact e▸⟨h.nb,(h.db bb h.eb).1⟩
    ·rcases e with e|e
     ·cases hr:b.reads with
      |nil=>rw[h.rn hr] at e;cases e
      |cons x l=>
       have hrd:=h.rd
       rw[hr] at hrd ho3
       obtain⟨p1, -⟩:=px hrd e (x:=.string (bs (rdK x).path)) rfl
       rw[p1] at hv
       rcases hat2 with e2|⟨-,e2⟩
       ·exact(px ho3 (e2.trans e) (x:=.string (bs (rdK x).path)) rfl).1.trans hv
       ·have h9:=(h.rd.lt j e).2
        exact(World.cell?_of_block ((hkp j h9 (h.nr j e).2.1).trans (e2 j h9))).trans (p1.trans hv)
     ·subst e
      rw[(bi h.at_).1] at hv
      rw[cell_of_row _ _ _ _ _ _ n3]
      exact hv
    ·rcases e with e|e
     ·obtain⟨-,⟨h1, -⟩|⟨b1,cap,cur,h1, -,h2, -⟩⟩:=h.rd
      ·rw[h1] at e;cases e
      ·rw[h1] at e
       have:b1=j:=Option.some.inj e
       subst this
       rw[hx] at h2
       have:=Option.some.inj h2
       simp at this
     ·subst e
      rw[h.at_] at hx
      have:=Option.some.inj hx
      simp at this
   outs:=dE h.outs hfE.size fun k hk hl=>hfE.block k hl (h.ono k hk).1
   ono:=fun k hk=>⟨fun e=>by
    rcases hE k e with e|e
    ·exact(h.ono k hk).1 e
    ·have:=(h.ono k hk).2;omega,Nat.lt_of_lt_of_le (h.ono k hk).2 hfE.size⟩
   may:=h.may.go hfE hE
   wr:=⟨o,(hf.block wm (lx (hid w1)) (fun e=>by
    rcases e with e|e
    ·exact(h.nr wm e).2.2 rfl
    ·exact h.ne e.symm)).trans w1,w2⟩
   rd:=by
    show W3.ownsRow B 100 34 v' (b.reads++[k]).length (((b.reads++[k]).map rdK).flatMap RdL.cells)
    rw[List.length_append,List.map_append]
    exact ho3
   sub:=fun j e=>.inl (h.sub j e)
   eb:=.inl h.eb
   ew:=.inl h.ew
   er:=fun j e=>.inr e
   nb:=h.nb
   nw:=h.nw
   nr:=fun j hj=>⟨(hvb j hj).2.2,(hvb j hj).1,(hvb j hj).2.1⟩
   rn:=fun e=>absurd e (by simp)
   ne:=h.ne
   db:=fun j hj=>by
    rcases hj with e|e
    ·exact⟨(h.db j e).1,Nat.lt_of_lt_of_le (h.db j e).2 hfE.size⟩
    ·exact ho3.lt j e}
end
end Go.Proofs.YtlbipokkdiiaiaaGreatDoor
