/- Lemmas for TopKeysUpto: F21, F22a, F22, F23, F23b, F24. -/
import Derived.Test.YtlbipokkdiiaiaaGreatDoorK12
import Derived.Test.YtlbipokkdiiaiaaGreatDoorK06
import Derived.Test.YtlbipokkdiiaiaaGreatDoorK08
open List renaming setIfInBounds_toArray → sA, set_cons_zero → sB, set_cons_succ → sC
namespace Go.Proofs.YtlbipokkdiiaiaaGreatDoor
open Go.RowKit Exec Go.Shelf
set_option maxRecDepth 100000
attribute [local go_sem] Oper.semAt_some
section
variable {B g km mb:Nat} {D:Nat→Prop} {env:List (Txt×Txt)} {r:aw} {w:World} {tv ev:Value} {vs cs:List Value}
theorem zcd {r r':aw} (h:dp r') (e1:r'.buffer=r.buffer) (e2:r'.known=r.known) (e3:∀s,.line s∈r.top→.line s∈r'.top) (e4:r'.cmds=r.cmds) (e5:r.top.length≤r'.top.length):dp r:=
 ⟨e1▸h.buf,e2▸h.kn,fun s hs=>h.ln s (e3 s hs),e4▸h.cm,by have:=h.tl;rw[e4] at this;omega,e2▸h.nd⟩
set_option maxHeartbeats 8000000 in
theorem zdr (h:aN B D g env r w tv ev km mb vs cs) (t:cR) (f:Nat) (fs:Array Value) (ht:dm D g mb r.word w t (.func (.func f) #[] fs)) (hs:t=.scan→w.heap[mb]?=some (dP r.seen.reverse)∧D mb∧mb≠km) (p:Txt) (hk:r.knows p=none) (hl:¬500≤r.known.length) (hfit:dp (cy r p t)):
 Calls Tryz.prog 239 #[.pointer (some ⟨g,0,none⟩),.string (bs p),.func (.func f) #[] fs] w fun e w2=>e=.returned (.tuple #[])∧aD B D g env (cy r p t) w w2:=by
 have ea:cy r p t={r with asks:=p,waits:=true,top:=.told p t::r.top}:=by
  unfold cy
  rw[hk]
  exact if_neg hl
 rw[ea] at hfit ⊢
 have hfr:dp {r with asks:=p,waits:=true}:=zcd (r:={r with asks:=p,waits:=true}) hfit rfl rfl (fun s hs=>List.mem_cons_of_mem _ hs) rfl (by simp)
 have hgl:=lx (hid h.at_)
 have c3:=(aA h.at_).2.2.2.1
 obtain⟨hb,hz,q0,q1,q2⟩:=lL w g p (.func (.func f) #[] fs)
 have HLK:=hid (fun(W:World) (e:W.heap[km]?=some (knO r.known))=>(mW e h.sm.nd p).2)
 rw[hk] at HLK
 have HB:=hid hb
 have HZ:=hid hz
 have HQ:=hid (And.intro q0 (And.intro (Below.keeps hb c3) (And.intro q1 (And.intro q2 ((hb.block _ (lx (hid h.kn))).trans h.kn)))))
 have H:=hid h
 have HT:=hid ht
 have HSN:=hid hs
 have HFT:=hid (And.intro hfit hfr)
 clear hb hz q0 q1 q2 c3 h ht hs hfit hfr ea
 go_enter Tryz.func239,Tryz.ntmps239
 go_wp2_with fail
 obtain⟨W3,hW3⟩:∃W3,iE w g p (.func (.func f) #[] fs)=W3:=⟨_,rfl⟩
 unfold iE at hW3
 rw[hW3]
 have hW3':iE w g p (.func (.func f) #[] fs)=W3:=hW3
 rw[hW3'] at HB HZ HQ
 clear hW3 hW3'
 refine aG (fun W'=>W'.cell? ⟨w.heap.size,0,none⟩=some (.pointer (some ⟨g,0,none⟩))∧W'.cell? ⟨g,3,none⟩=some (.map (some km))∧W'.cell? ⟨w.heap.size+1,0,none⟩=some (.string (bs p))∧W'.heap[km]?=some (knO r.known)) 10 (by kernel_rfl) ?_
 intro Wd hbd
 have hS:Wd.cell? ⟨w.heap.size,0,none⟩=some (.pointer (some ⟨g,0,none⟩))∧Wd.cell? ⟨g,3,none⟩=some (.map (some km))∧Wd.cell? ⟨w.heap.size+1,0,none⟩=some (.string (bs p))∧Wd.heap[km]?=some (knO r.known):=⟨Below.keeps hbd HQ.out.1,Below.keeps hbd HQ.out.2.1,Below.keeps hbd HQ.out.2.2.1,(hbd.block _ (lx (hid HQ.out.2.2.2.2))).trans HQ.out.2.2.2.2⟩
 refine zfs 0 (some 9) (hi:=rfl) hS ?_
 apply Exists.intro
 refine⟨fun W hW=>?_,?_⟩
 ·have e1:=hW.1
  go_simp
  try rfl
 try simp only[Act.put,sA,sB,sC]
 refine zfq 1 (some 10) (hi:=rfl) (.inr hS) ?_
 apply Exists.intro
 refine⟨fun W=>?_,?_⟩
 ·go_simp
  try rfl
 try simp only[Act.put,sA,sB,sC]
 refine zfq 2 (some 11) (hi:=rfl) (.inr hS) ?_
 apply Exists.intro
 refine⟨fun W=>?_,?_⟩
 ·go_simp
  try rfl
 try simp only[Act.put,sA,sB,sC]
 refine zfs 3 (some 12) (hi:=rfl) hS ?_
 apply Exists.intro
 refine⟨fun W hW=>?_,?_⟩
 ·have e1:=hW.2.1
  go_simp
  try rfl
 try simp only[Act.put,sA,sB,sC]
 refine zfs 4 (some 13) (hi:=rfl) hS ?_
 apply Exists.intro
 refine⟨fun W hW=>?_,?_⟩
 ·have e1:=hW.2.2.1
  go_simp
  try rfl
 try simp only[Act.put,sA,sB,sC]
 refine zfs 5 (some 14) (hi:=rfl) hS ?_
 apply Exists.intro
 refine⟨fun W hW=>?_,?_⟩
 ·have e1:=HLK.out _ hW.2.2.2
  go_simp
  try rfl
 try simp only[Act.put,sA,sB,sC]
 refine zfq 6 (some 8) (hi:=rfl) (.inr hS) ?_
 apply Exists.intro
 refine⟨fun W=>?_,?_⟩
 ·go_simp
  try rfl
 try simp only[Act.put,sA,sB,sC]
 refine zfq 7 (some 15) (hi:=rfl) (.inr hS) ?_
 apply Exists.intro
 refine⟨fun W=>?_,?_⟩
 ·go_simp
  try rfl
 try simp only[Act.put,sA,sB,sC]
 refine zfq 8 (some 16) (hi:=rfl) (.inr hS) ?_
 apply Exists.intro
 refine⟨fun W=>?_,?_⟩
 ·go_simp
  try rfl
 try simp only[Act.put,sA,sB,sC]
 refine WL.o 9 (hi:=rfl) ?_
 intro K hK
 refine s9 iC ?_
 intro zs W4 hzs hb4 hn4 hs4
 have hS4:=And.intro (Below.keeps hb4 hS.1) (And.intro (Below.keeps hb4 hS.2.1) (And.intro (Below.keeps hb4 hS.2.2.1) ((hb4.block _ (lx (hid hS.2.2.2))).trans hS.2.2.2)))
 refine hK.out _ _ (.inr hS4) ?_
 clear hK K
 try simp only[Act.put,sA]
 refine WL.o 10 (hi:=rfl) ?_
 intro K hK
 refine nG (xs:=(knC kn0).toArray) iC hn4 hzs rfl (by unfold knC;intro u hu;simp at hu;rcases hu with rfl|rfl|rfl<;>rfl) ?_
 intro W5 ht5 hn5 hs5
 refine hK.out _ _ (.inl (by kernel_rfl)) ?_
 clear hK K
 try simp only[Act.put]
 refine zfq 11 (some 7) (hi:=rfl) (.inl (by kernel_rfl)) ?_
 apply Exists.intro
 refine⟨fun W=>?_,?_⟩
 ·go_simp
  try rfl
 try simp only[Act.put]
 refine WL.d ?_
 have hb5:=hb4.trans (ht5.below (Nat.le_refl _))
 have hb35:Below W3.heap.size W3 W5:=Below.chain hbd hb5
 have hbw:Below w.heap.size w W5:=Below.chain HB.out hb35
 have q0:=Below.keeps hb35 HQ.out.1
 have q1:=Below.keeps hb35 HQ.out.2.1
 have q4:W5.heap[km]?=some (knO r.known):=(hb35.block _ (lx (hid HQ.out.2.2.2.2))).trans HQ.out.2.2.2.2
 have bI:=zae q4
 have E:decide (500≤(r.known.length:Int))=false:=decide_eq_false (by omega)
 have HS6:=hid (show W5.cell? ⟨w.heap.size,0,none⟩=some (.pointer (some ⟨g,0,none⟩))∧W5.cell? ⟨w.heap.size+1,0,none⟩=some (.string (bs p))∧W5.heap[g]?=some (.cells (iF tv ev km r).toArray 323 (0,0)) from
  ⟨q0,Below.keeps hb35 HQ.out.2.2.1,(hbw.block g hgl).trans H.out.at_⟩)
 have HP5:=hid (show aI D W5 w.heap.size (.pointer (some ⟨g,0,none⟩))∧aI D W5 (w.heap.size+1) (.string (bs p))∧aI D W5 (w.heap.size+2) (.func (.func f) #[] fs) from by
  have h1:=HZ.out
  have h2:=hb35.size
  exact⟨⟨by omega,fun e=>by have:=(H.out.db _ e).2;omega,q0⟩,⟨by omega,fun e=>by have:=(H.out.db _ e).2;omega,HS6.out.2.1⟩,⟨by omega,fun e=>by have:=(H.out.db _ e).2;omega,Below.keeps hb35 HQ.out.2.2.2.1⟩⟩)
 have HB5:=hid hbw
 go_wp2_with fail
 clear q0 q1 q4 hb5 hb35 hbw hbd hb4 ht5 hn5 hs5 hn4 hs4 hS4 hS HQ HZ HB HLK bI E
 refine aG (fun W'=>W'.cell? ⟨w.heap.size,0,none⟩=some (.pointer (some ⟨g,0,none⟩))∧W'.cell? ⟨w.heap.size+1,0,none⟩=some (.string (bs p))∧True) 8 (by kernel_rfl) ?_
 intro V6 hv6
 have hS:V6.cell? ⟨w.heap.size,0,none⟩=some (.pointer (some ⟨g,0,none⟩))∧V6.cell? ⟨w.heap.size+1,0,none⟩=some (.string (bs p))∧V6.heap[g]?=some (.cells (iF tv ev km r).toArray 323 (0,0)):=⟨Below.keeps hv6 HS6.out.1,Below.keeps hv6 HS6.out.2.1,(hv6.block _ (lx (hid HS6.out.2.2))).trans HS6.out.2.2⟩
 refine zfs 0 (some 29) (hi:=rfl) ⟨hS.1,hS.2.1,trivial⟩ ?_
 apply Exists.intro
 refine⟨fun W hW=>?_,?_⟩
 ·have e1:=hW.1
  go_simp
  try rfl
 try simp only[Act.put,sA,sB,sC]
 refine zfs 1 (some 30) (hi:=rfl) ⟨hS.1,hS.2.1,trivial⟩ ?_
 apply Exists.intro
 refine⟨fun W hW=>?_,?_⟩
 ·have e1:=hW.1
  go_simp
  try rfl
 try simp only[Act.put,sA,sB,sC]
 refine zfs 2 (some 31) (hi:=rfl) ⟨hS.1,hS.2.1,trivial⟩ ?_
 apply Exists.intro
 refine⟨fun W hW=>?_,?_⟩
 ·have e1:=hW.2.1
  go_simp
  try rfl
 try simp only[Act.put,sA,sB,sC]
 refine zfq 3 (some 32) (hi:=rfl) (.inr ⟨hS.1,hS.2.1,trivial⟩) ?_
 apply Exists.intro
 refine⟨fun W=>?_,?_⟩
 ·go_simp
  try rfl
 try simp only[Act.put,sA,sB,sC]
 refine zfq 4 (some 33) (hi:=rfl) (.inr ⟨hS.1,hS.2.1,trivial⟩) ?_
 apply Exists.intro
 refine⟨fun W=>?_,?_⟩
 ·go_simp
  try rfl
 try simp only[Act.put,sA,sB,sC]
 refine WL.o 5 (hi:=rfl) ?_
 intro K hK
 have c4:=(aA hS.2.2).2.2.2.2.1
 have f4:V6.frozen? ⟨g,4,none⟩=false:=Lib.frozen_of_heap hS.2.2 4
 go_simp
 obtain⟨n1,t1⟩:=au hS.2.2 4 (.string (bs p))
 have hS2:(V6.setCell ⟨g,4,none⟩ (.string (bs p))).cell? ⟨w.heap.size,0,none⟩=some (.pointer (some ⟨g,0,none⟩))∧(V6.setCell ⟨g,4,none⟩ (.string (bs p))).cell? ⟨w.heap.size+1,0,none⟩=some (.string (bs p))∧True:=⟨(dS _ (fun e=>by omega)).trans hS.1,(dS _ (fun e=>by omega)).trans hS.2.1,trivial⟩
 refine hK.out _ _ (.inr hS2) ?_
 clear hK K
 try simp only[Act.put,sA,sB,sC]
 refine zfq 6 (some 34) (hi:=rfl) (.inr hS2) ?_
 apply Exists.intro
 refine⟨fun W=>?_,?_⟩
 ·go_simp
  try rfl
 try simp only[Act.put,sA,sB,sC]
 refine zfq 7 (some 35) (hi:=rfl) (.inr hS2) ?_
 apply Exists.intro
 refine⟨fun W=>?_,?_⟩
 ·go_simp
  try rfl
 try simp only[Act.put,sA,sB,sC]
 refine WL.o 8 (hi:=rfl) ?_
 intro K hK
 have f5:(V6.setCell ⟨g,4,none⟩ (.string (bs p))).frozen? ⟨g,5,none⟩=false:=Lib.frozen_of_heap n1 5
 have c5:(V6.setCell ⟨g,4,none⟩ (.string (bs p))).cell? ⟨g,5,none⟩=some (.bool r.waits):=(cell_of_row _ _ 5 _ _ _ n1).trans rfl
 go_simp
 refine hK.out _ _ (.inl (by kernel_rfl)) ?_
 clear hK K
 try simp only[Act.put,sA,sB,sC]
 refine WL.d ?_
 obtain⟨n2,t2⟩:=au n1 5 (.bool true)
 have hR7:=(H.out.below (Below.chain HB5.out hv6)).cells (r':={r with asks:=p,waits:=true}) (t1.trans t2) (n2.trans rfl) rfl rfl rfl rfl rfl HFT.out.2
 have f57:az D W5 ((V6.setCell ⟨g,4,none⟩ (.string (bs p))).setCell ⟨g,5,none⟩ (.bool true)):=(az.of_below hv6).trans ((t1.trans t2).foot.mono fun _ _ e=>e▸H.out.dg) fun _ _ e=>e
 have hmb7:∀es cl,w.heap[mb]?=some (.map es cl)→((V6.setCell ⟨g,4,none⟩ (.string (bs p))).setCell ⟨g,5,none⟩ (.bool true)).heap[mb]?=some (.map es cl):=fun es cl hm=>by
  have e1:V6.heap[mb]?=some (.map es cl):=(hv6.block mb (Nat.lt_of_lt_of_le (lx (hid hm)) HB5.out.size)).trans ((HB5.out.block mb (lx (hid hm))).trans hm)
  exact((t1.trans t2).foot.block mb (lx (hid e1)) (fun e=>by rw[e,hS.2.2] at e1;cases e1)).trans e1
 have HMB:=hid hmb7
 clear hmb7
 generalize (V6.setCell ⟨g,4,none⟩ (.string (bs p))).setCell ⟨g,5,none⟩ (.bool true)=W7 at *
 have f07:az D w W7:=(az.of_below HB5.out).chain f57
 have HP7:=hid (And.intro (HP5.out.1.go f57 (fun j e=>.inl e)) (And.intro (HP5.out.2.1.go f57 (fun j e=>.inl e)) (HP5.out.2.2.go f57 (fun j e=>.inl e))))
 have HRD:=hid (fun(W':World) (hb:Below W7.heap.size W7 W')=>And.intro (hR7.below hb) (show B≤W'.heap.size by have:=hR7.db g hR7.dg;have:=hb.size;omega))
 have HSS:=hid (And.intro HP7.out.1.2.2 (aA hR7.at_).1)
 have HF7:=hid f07
 clear hS hS2 hv6 n1 t1 n2 t2 f57 f07 hR7 HS6 HP5 HB5
 go_wp2_with fail
 refine aG (fun W'=>W'.cell? ⟨w.heap.size,0,none⟩=some (.pointer (some ⟨g,0,none⟩))∧W'.cell? ⟨g,0,none⟩=some tv) 10 (by kernel_rfl) ?_
 intro Wx hbx
 have hS:Wx.cell? ⟨w.heap.size,0,none⟩=some (.pointer (some ⟨g,0,none⟩))∧Wx.cell? ⟨g,0,none⟩=some tv:=⟨Below.keeps hbx HSS.out.1,Below.keeps hbx HSS.out.2⟩
 refine zfs 0 (some 36) (hi:=rfl) hS ?_
 apply Exists.intro
 refine⟨fun W hW=>?_,?_⟩
 ·have e1:=hW.1
  go_simp
  try rfl
 try simp only[Act.put,sA,sB,sC]
 refine zfs 1 (some 37) (hi:=rfl) hS ?_
 apply Exists.intro
 refine⟨fun W hW=>?_,?_⟩
 ·have e1:=hW.1
  go_simp
  try rfl
 try simp only[Act.put,sA,sB,sC]
 refine zfq 2 (some 38) (hi:=rfl) (.inr hS) ?_
 apply Exists.intro
 refine⟨fun W=>?_,?_⟩
 ·go_simp
  try rfl
 try simp only[Act.put,sA,sB,sC]
 refine zfq 3 (some 39) (hi:=rfl) (.inr hS) ?_
 apply Exists.intro
 refine⟨fun W=>?_,?_⟩
 ·go_simp
  try rfl
 try simp only[Act.put,sA,sB,sC]
 refine zfs 4 (some 40) (hi:=rfl) hS ?_
 apply Exists.intro
 refine⟨fun W hW=>?_,?_⟩
 ·have e1:=hW.2
  go_simp
  try rfl
 try simp only[Act.put,sA,sB,sC]
 refine zfq 5 (some 41) (hi:=rfl) (.inr hS) ?_
 apply Exists.intro
 refine⟨fun W=>?_,?_⟩
 ·go_simp
  try rfl
 try simp only[Act.put,sA,sB,sC]
 refine WL.o 6 (hi:=rfl) ?_
 intro K hK
 go_simp
 have hb6:=ab Wx (.cells #[Value.func (.func 294) #[] #[.pointer (some ⟨w.heap.size+1+1,0,none⟩),.pointer (some ⟨w.heap.size,0,none⟩),.pointer (some ⟨w.heap.size+1,0,none⟩)]] 1)
 have hn6:=heap_alloc_new Wx (.cells #[Value.func (.func 294) #[] #[.pointer (some ⟨w.heap.size+1+1,0,none⟩),.pointer (some ⟨w.heap.size,0,none⟩),.pointer (some ⟨w.heap.size+1,0,none⟩)]] 1)
 generalize Wx.alloc (.cells #[Value.func (.func 294) #[] #[.pointer (some ⟨w.heap.size+1+1,0,none⟩),.pointer (some ⟨w.heap.size,0,none⟩),.pointer (some ⟨w.heap.size+1,0,none⟩)]] 1)=W8 at *
 obtain⟨hR6,hW6⟩:=HRD.out _ (Below.chain hbx hb6)
 obtain⟨v7,W9,hr7,ho7,hg7,hat7⟩:=uI _ rfl hR6.row hn6 hW6 (by have:=hR6.sm.tl;have:=hR6.top.len;have:=hR6.cmd.len;omega)
 have G7:=hid (And.intro hR6 (And.intro hn6 (And.intro ho7 (And.intro hg7 (And.intro hat7 (Below.chain hbx hb6))))))
 have ne7:=iQ hR6.row hR6.at_
 have hg7b:W9.heap[g]?=some (.cells (iF tv ev km {r with asks:=p,waits:=true}).toArray 323 (0,0)):=(hg7.block g (lx (hid hR6.at_)) (fun e=>ne7 g e.symm rfl)).trans hR6.at_
 have c37:=HP7.out.1.go (az.of_below (Below.chain hbx hb6)) (fun j e=>.inl e)
 have hS7:W9.cell? ⟨w.heap.size,0,none⟩=some (.pointer (some ⟨g,0,none⟩))∧W9.cell? ⟨g,0,none⟩=some tv:=⟨(World.cell?_of_block (hg7.block w.heap.size c37.1 (fun e=>c37.2.1 (hR6.dt _ e.symm)))).trans c37.2.2,(aA hg7b).1⟩
 have f7:W9.frozen? ⟨g,0,none⟩=false:=Lib.frozen_of_heap hg7b 0
 obtain⟨a7,q7,rfl⟩:=ax ho7
 clear ne7 hg7b c37 hR6 hn6 ho7 hg7 hat7
 have hS6:=And.intro (Below.keeps hb6 hS.1) (Below.keeps hb6 hS.2)
 refine hK.out _ _ (.inr hS6) ?_
 clear hK K
 try simp only[Act.put,sA,sB,sC]
 refine WL.o 7 (hi:=rfl) ?_
 intro K hK
 refine jg (t:=319) hr7 ?_
 refine hK.out _ _ (.inr hS7) ?_
 clear hK K
 try simp only[Act.put,sA]
 refine WL.o 8 (hi:=rfl) ?_
 intro K hK
 go_simp
 refine hK.out _ _ (.inr hS7) ?_
 clear hK K
 try simp only[Act.put,sA,sB,sC]
 refine WL.o 9 (hi:=rfl) ?_
 intro K hK
 go_simp
 refine hK.out _ _ (.inr hS7) ?_
 clear hK K
 try simp only[Act.put,sA,sB,sC]
 refine WL.o 10 (hi:=rfl) ?_
 intro K hK
 have c7':=hS7.2
 go_simp
 refine hK.out _ _ (.inl (by kernel_rfl)) ?_
 clear hK K
 try simp only[Act.put,sA,sB,sC]
 refine WL.d ?_
 obtain⟨k1,k2,k3,k4,k5,k6⟩:=G7.out
 have hfW:az D W7 W8:=az.of_below k6
 have f08:az D w W8:=HF7.out.trans hfW fun _ _ e=>e
 have rz:=HP7.out.1.go hfW (fun j e=>.inl e)
 have rp:=HP7.out.2.1.go hfW (fun j e=>.inl e)
 have rv:=HP7.out.2.2.go hfW (fun j e=>.inl e)
 have hsn:({r with asks:=p,waits:=true,top:=.told p t::r.top}:aw).top.any fy=true→W8.heap[mb]?=some (dP r.seen.reverse)∧D mb∧mb≠km:=fun e=>by
  have e2:t=.scan∨r.top.any fy=true:=by
   rw[List.any_cons] at e
   rcases Bool.or_eq_true _ _▸e with e|e
   ·exact .inl (of_decide_eq_true e)
   ·exact .inr e
  rcases e2 with rfl|e2
  ·obtain⟨s1,s2,s3⟩:=HSN.out rfl
   have s4:=HMB.out _ _ s1
   exact⟨(k6.block mb (lx (hid s4))).trans s4,s2,s3⟩
  ·exact k1.seen e2
 obtain⟨D2,j1,j2,j3⟩:=k1.push (mb':=mb) (r':={r with asks:=p,waits:=true,top:=.told p t::r.top}) (vs':=_::vs) (cs':=cs) k3 k4 k5 rfl ⟨rfl,rfl,rfl,rfl,rfl⟩ HFT.out.1 hsn
  (fun W9 D9 f9 d9=>⟨⟨_,_,_,_,rfl,rv.go f9 d9,(HT.out.go f08 (fun j e=>.inl e)).go f9 d9,rz.go f9 d9,rp.go f9 d9⟩,k1.top.imp fun _ _ k=>k.go f9 d9⟩)
  (fun W9 D9 f9 d9=>k1.cmd.imp fun _ _ k=>k.go f9 d9)
 go_end0
 refine⟨rfl,aD.then (fun j e=>.inl e) f08 ⟨D2,j1,j2,?_⟩⟩
 exact⟨_,_,_,_,_,_,j3⟩
theorem rM (h:aN B D g env r w tv ev km mb vs cs) (t:cR) (v:Value) (ht:dm D g mb r.word w t v) (hs:t=.scan→w.heap[mb]?=some (dP r.seen.reverse)∧D mb∧mb≠km) (hm:bE w) (p:Txt) (hfit:dp (cy r p t)):
 Calls Tryz.prog 239 #[.pointer (some ⟨g,0,none⟩),.string (bs p),v] w fun e w2=>e=.returned (.tuple #[])∧aD B D g env (cy r p t) w w2:=by
 cases hk:r.knows p with
 |some k=>
  have e:cy r p t=bn r t k:=by unfold cy;rw[hk]
  rw[e] at hfit ⊢
  have hkd:k.data.length≤65536:=h.sm.kn k (List.mem_of_find?_eq_some hk)
  exact yl h v p k hk _ (uw h t v ht hs k hkd hm hfit)
 |none=>
  obtain⟨f,fs,rfl⟩:∃f fs,v=.func (.func f) #[] fs:=by
   cases t with
   |read=>obtain⟨b1,b2,rfl, -⟩:=ht;exact⟨_,_,rfl⟩
   |try_=>obtain⟨b1,rfl, -⟩:=ht;exact⟨_,_,rfl⟩
   |scan=>obtain⟨b1,b2,b3,b4,b5,rfl, -⟩:=ht;exact⟨_,_,rfl⟩
  by_cases hl:500≤r.known.length
  ·have e:cy r p t=cK r 6:=by unfold cy;rw[hk];exact if_pos hl
   rw[e]
   exact za0 h f fs p hk hl
  ·exact zdr h t f fs ht hs p hk hl hfit
end
end Go.Proofs.YtlbipokkdiiaiaaGreatDoor
namespace Go.Proofs.YtlbipokkdiiaiaaGreatDoor
open Go.RowKit Exec
section
variable {P:Program} {md:Region.Mode} {ops:Array Oper} {Q:Exit→Act→World→Prop} {S:World→Prop} {k:Nat}
theorem pV {i m:Nat} {oi:Oper} {v:Value} (hi:ops[i]?=some oi) (hsel:∀(j:Nat) (o:Oper) cs b,ops[j]?=some o→o.op≠.select cs b)
 (hQ:∀c a w,Q (.panic c) (a.put oi.dst v) w→Q (.panic c) a w)
 (hk:∃ok,ops[k]?=some ok∧∃e∈ok.after,Region.binds md e=true∧e.on=m) (hm:∃om,ops[m]?=some om∧∃e∈om.after,Region.binds md e=true∧e.on=i):
 ∀(fuel:Nat) (listed:Array Bool) (a:Act) (w:World),
  (∀j oj,ops[j]?=some oj→j≠i→listed.getD j true=false→(∀e∈oj.after,Region.binds md e=true→e.on≠i)→oi.apart ops oj=true)→
  i∈Region.ready md ops listed→YieldsIf P ops S oi v a→S w→listed.getD k false=false→listed.getD m true=false→k≠i→
  fO P md ops Q S k fuel (listed.setIfInBounds i true) (a.put oi.dst v) w→fO P md ops Q S k (fuel+1) listed a w:=by
 intro fuel
 induction fuel with
 |zero=>
  intro listed a w _ hr hy hS _ _ _ H
  refine⟨fun h=>(by rw[h] at hr;cases hr),fun j hj=>?_⟩
  by_cases hji:j=i
  ·subst hji;exact hy.wpOp hi hS ⟨.inr hS,H⟩
  ·have:=ready_mono hj hji
   rw[H.1] at this
   cases this
 |succ fuel ih=>
  intro listed a w hfree hr hy hS hkl hml hki H
  refine⟨fun h=>(by rw[h] at hr;cases hr),fun j hj=>?_⟩
  by_cases hji:j=i
  ·subst hji;exact hy.wpOp hi hS ⟨.inr hS,H⟩
  ·have h1:=H.2 j (ready_mono hj hji)
   obtain⟨hjun,oj,hoj,hall⟩:=mem_ready.1 hj
   have mR:∀e∈oj.after,Region.binds md e=true→e.on≠i:=fun e he hb heq=>by
    have h1:=hall e he hb
    have h0:=(mem_ready.1 hr).1
    rw[heq] at h1
    rcases Nat.lt_or_ge i listed.size with h'|h'
    ·simp[h'] at h0 h1;rw[h0] at h1;cases h1
    ·simp[Array.getElem?_eq_none h'] at h1
   have hjk:j≠k:=fun e=>by
    subst e
    obtain⟨ok,hok,e,he,hb,hon⟩:=hk
    obtain rfl:ok=oj:=Option.some.inj (hok.symm.trans hoj)
    have h1:=hall e he hb
    rw[hon] at h1
    rcases Nat.lt_or_ge m listed.size with h'|h'
    ·simp[h'] at hml h1;rw[hml] at h1;cases h1
    ·simp[Array.getElem?_eq_none h'] at h1
   have hjm:j≠m:=fun e=>by
    subst e
    obtain⟨ok,hok,e,he,hb,hon⟩:=hm
    obtain rfl:ok=oj:=Option.some.inj (hok.symm.trans hoj)
    exact mR e he hb hon
   have h2:=wpOp_putIf hoj (hfree j oj hoj hji hjun mR) (fun cs b=>hsel i oi cs b hi) (fun cs b=>hsel j oj cs b hoj) hQ hy h1
   have hfree':∀k ok,ops[k]?=some ok→k≠i→(listed.setIfInBounds j true).getD k true=false→
    (∀e∈ok.after,Region.binds md e=true→e.on≠i)→oi.apart ops ok=true:=fun k ok hk hki hun hno=>by
    refine hfree k ok hk hki ?_ hno
    by_cases hjk:j=k
    ·subst hjk;exact hjun
    ·rw[getD_set_ne true hjk] at hun;exact hun
   have hkj:(listed.setIfInBounds j true).getD k false=false:=by rw[getD_set_ne false hjk];exact hkl
   have hmj:(listed.setIfInBounds j true).getD m true=false:=by rw[getD_set_ne true hjm];exact hml
   refine wpOp_mono (fun a' w' h3=>?_) h2
   obtain⟨h4,h5,h6⟩:=h3
   have hS':S w':=by
    rcases h5 with h5|h5
    ·rw[getD_set_ne false hjk,getD_set_ne false (Ne.symm hki),hkl] at h5
     cases h5
    ·exact h5
   refine⟨.inr hS',ih (listed.setIfInBounds j true) a' w' hfree' (ready_mono hr (Ne.symm hji)) h4 hS' hkj hmj hki ?_⟩
   rw[Array.setIfInBounds_comm _ _ hji]
   exact h6
variable {fuel:Nat} {listed:Array Bool} {a:Act} {w:World}
theorem zfz (i m:Nat) (dst:Option Tmp) {oi:Oper} (hS:S w) (h:∃v,(∀W,S W→(execOp a.eval oi).run P W=.ok (.value v) W)∧WL P ops Q S k fuel (listed.setIfInBounds i true) (a.put dst v) w)
 (hi:ops[i]?=some oi:=by rfl) (hd:oi.dst=dst:=by rfl) (hs:Region.noSelect ops=true:=by kernel_rfl) (hf:Region.free .any ops listed i=true:=by kernel_rfl) (hr:(Region.ready .any ops listed).contains i=true:=by kernel_rfl)
 (hQ:∀v c a w,Q (.panic c) (a.put oi.dst v) w→Q (.panic c) a w:=by exact fun _ _ _ _ h=>h) (hwt:Region.wanted oi (yielded ops a.tmps)=true:=by kernel_rfl) (hw:waits ops k m=true:=by kernel_rfl) (hwm:waits ops m i=true:=by kernel_rfl) (hkl:listed.getD k false=false:=by kernel_rfl) (hml:listed.getD m true=false:=by kernel_rfl) (hki:k≠i:=by decide):WL P ops Q S k (fuel+1) listed a w:=by
 obtain⟨v,hv,h⟩:=h
 subst hd
 exact⟨pV hi (Region.noSelect_spec hs) (hQ v) (fB hw) (fB hwm) fuel listed a w (Region.free_spec hi hf) (by simpa using hr) (.inl ⟨hwt,hv⟩) hS hkl hml hki h.out⟩
end
open Go.Shelf
attribute [local go_sem] Oper.semAt_some
set_option maxRecDepth 100000
def j6 (w:World) (g:Nat) (v:Value):World:=(w.alloc (.cells #[.pointer (some ⟨g,0,none⟩)] 275)).alloc (.cells #[v] 182)
theorem mI (w:World) (g:Nat) (v:Value):Below w.heap.size w (j6 w g v)∧(j6 w g v).heap.size=w.heap.size+2∧(j6 w g v).cell? ⟨w.heap.size,0,none⟩=some (.pointer (some ⟨g,0,none⟩))∧(j6 w g v).cell? ⟨w.heap.size+1,0,none⟩=some v:=by
 unfold j6
 have b1:=ab w (.cells #[.pointer (some ⟨g,0,none⟩)] 275)
 have n1:=heap_alloc_new w (.cells #[.pointer (some ⟨g,0,none⟩)] 275)
 have z1:=World.size_alloc w (.cells #[.pointer (some ⟨g,0,none⟩)] 275)
 generalize w.alloc (.cells #[.pointer (some ⟨g,0,none⟩)] 275)=w1 at *
 have b3:=ab w1 (.cells #[v] 182)
 have n3:=heap_alloc_new w1 (.cells #[v] 182)
 have z3:=World.size_alloc w1 (.cells #[v] 182)
 generalize w1.alloc (.cells #[v] 182)=w3 at *
 have h1:=(b3.block w.heap.size (by omega)).trans n1
 rw[z1] at n3
 exact⟨Below.chain b1 b3,by omega,(cell_of_row _ _ 0 _ _ _ h1).trans rfl,(cell_of_row _ _ 0 _ _ _ n3).trans rfl⟩
theorem qi (w:World) (g:Nat) (f:Nat) (ms fs:Array Value):Calls Tryz.prog 240 #[.pointer (some ⟨g,0,none⟩),.func (.func f) ms fs] w fun e w'=>e=.returned (.func (.func 295) #[] #[.pointer (some ⟨w.heap.size,0,none⟩),.pointer (some ⟨w.heap.size+1,0,none⟩)])∧w'=j6 w g (.func (.func f) ms fs):=by
 unfold j6
 go_enter Tryz.func240,Tryz.ntmps240
 go_wp2
 go_ret
 exact⟨rfl,rfl⟩
section
variable {B g km mb:Nat} {D:Nat→Prop} {env:List (Txt×Txt)} {r:aw} {w W:World} {tv ev:Value} {vs cs:List Value}
theorem sH {r:aw} (h:dp r) (s:List Txt) (x:Txt):dp {r with seen:=s,word:=x}:=⟨h.buf,h.kn,h.ln,h.cm,h.tl,h.nd⟩
theorem aN.saw (h:aN B D g env r w tv ev km mb vs cs) (p:Txt) (ht:bg mb w W) (hm:∃o,w.heap[mb]?=some (dP o)) (hn:W.heap[mb]?=some (dP (p::r.seen).reverse)) (hd:D mb) (hne:mb≠km):aN B D g env {r with seen:=p::r.seen} W tv ev km mb vs cs:=by
 obtain⟨o,hm⟩:=hm
 have hf:az D w W:=ht.foot.mono fun i _ e=>e▸hd
 have hD:∀j,D j→D j∨w.heap.size≤j:=fun j e=>.inl e
 have hg:g≠mb:=fun e=>by
  have h1:=h.at_
  rw[e,hm] at h1
  cases h1
 exact
  {at_:=(ht.foot.block g (lx (hid h.at_)) hg).trans h.at_
   row:=aJ h.row fun k hk=>ht.foot.block k (h.row.lt k hk).2 (we h.row hm k hk)
   top:=h.top.imp fun _ _ k=>k.go hf hD
   cmd:=h.cmd.imp fun _ _ k=>k.go hf hD
   env:=eP h.env hf.size fun k hk hl=>hf.block k hl (h.eno k hk).1
   eno:=fun k hk=>⟨(h.eno k hk).1,Nat.lt_of_lt_of_le (h.eno k hk).2 hf.size⟩
   kn:=(ht.foot.block km (lx (hid h.kn)) (Ne.symm hne)).trans h.kn
   seen:=fun _=>⟨hn,hd,hne⟩
   dg:=h.dg
   dk:=h.dk
   dt:=h.dt
   db:=fun k hk=>⟨(h.db k hk).1,Nat.lt_of_lt_of_le (h.db k hk).2 hf.size⟩
   sm:=sH h.sm (p::r.seen) r.word
   eb:=h.eb}
def jF (w:World) (g mb:Nat) (x:Txt):World:=((w.alloc (.cells #[.pointer (some ⟨g,0,none⟩)] 275)).alloc (.cells #[.string (bs x)] 9)).alloc (.cells #[.map (some mb)] 195)
theorem vM (w:World) (g mb:Nat) (x:Txt):Below w.heap.size w (jF w g mb x)∧(jF w g mb x).heap.size=w.heap.size+3∧(jF w g mb x).cell? ⟨w.heap.size,0,none⟩=some (.pointer (some ⟨g,0,none⟩))∧(jF w g mb x).cell? ⟨w.heap.size+1,0,none⟩=some (.string (bs x))∧(jF w g mb x).cell? ⟨w.heap.size+2,0,none⟩=some (.map (some mb)):=by
 unfold jF
 have b1:=ab w (.cells #[.pointer (some ⟨g,0,none⟩)] 275)
 have n1:=heap_alloc_new w (.cells #[.pointer (some ⟨g,0,none⟩)] 275)
 have z1:=World.size_alloc w (.cells #[.pointer (some ⟨g,0,none⟩)] 275)
 generalize w.alloc (.cells #[.pointer (some ⟨g,0,none⟩)] 275)=w1 at *
 have b2:=ab w1 (.cells #[.string (bs x)] 9)
 have n2:=heap_alloc_new w1 (.cells #[.string (bs x)] 9)
 have z2:=World.size_alloc w1 (.cells #[.string (bs x)] 9)
 generalize w1.alloc (.cells #[.string (bs x)] 9)=w2 at *
 have b3:=ab w2 (.cells #[.map (some mb)] 195)
 have n3:=heap_alloc_new w2 (.cells #[.map (some mb)] 195)
 have z3:=World.size_alloc w2 (.cells #[.map (some mb)] 195)
 generalize w2.alloc (.cells #[.map (some mb)] 195)=w3 at *
 have h1:=(b3.block w.heap.size (by omega)).trans ((b2.block w.heap.size (by omega)).trans n1)
 have h2:=(b3.block w1.heap.size (by omega)).trans n2
 rw[z1] at h2
 rw[z2,z1] at n3
 exact⟨Below.chain b1 (Below.chain b2 b3),by omega,(cell_of_row _ _ 0 _ _ _ h1).trans rfl,(cell_of_row _ _ 0 _ _ _ h2).trans rfl,(cell_of_row _ _ 0 _ _ _ n3).trans rfl⟩
set_option maxHeartbeats 4000000 in
theorem sY (h:aN B D g env r w tv ev km mb vs cs) (hs:w.heap[mb]?=some (dP r.seen.reverse)∧D mb∧mb≠km) (hB:0<B) (hm:bE w) (p:Txt) (hp:p∉r.seen) (hfit:dp (cy {r with seen:=p::r.seen} p .scan)):
 Calls Tryz.prog 243 #[.pointer (some ⟨g,0,none⟩),.string (bs p),.string (bs r.word),.map (some mb)] w fun e w2=>e=.returned (.tuple #[])∧aD B D g env (cy {r with seen:=p::r.seen} p .scan) w w2:=by
 obtain⟨hb,hz,q0,q1,q2⟩:=vM w g mb r.word
 have s1:=(hb.block _ (lx (hid hs.1))).trans hs.1
 have nd:=h.db
 have P0:=hid (show aI D (jF w g mb r.word) w.heap.size (.pointer (some ⟨g,0,none⟩))∧aI D (jF w g mb r.word) (w.heap.size+1) (.string (bs r.word))∧aI D (jF w g mb r.word) (w.heap.size+2) (.map (some mb)) from
  ⟨⟨by omega,fun e=>by have:=(nd _ e).2;omega,q0⟩,⟨by omega,fun e=>by have:=(nd _ e).2;omega,q1⟩,⟨by omega,fun e=>by have:=(nd _ e).2;omega,q2⟩⟩)
 have H:=hid (h.below hb)
 have HM:=hid (hm.below hb)
 have HB:=hid hb
 have HDM:=hid (show D mb∧mb≠km∧¬D 0 from⟨hs.2.1,hs.2.2,fun e=>by have:=(nd 0 e).1;omega⟩)
 have HFIT:=hid hfit
 obtain⟨W4,hu,ht4,hn4⟩:=wV s1 p (by simpa using hp)
 have HT4:=hid ht4
 have HN4:=hid hn4
 have HS1:=hid s1
 clear h hs hm hb hz q0 q1 s1 nd hfit ht4 hn4
 go_enter Tryz.func243,Tryz.ntmps243
 unfold jF at *
 go_wp2_with fail
 generalize ((w.alloc (.cells #[.pointer (some ⟨g,0,none⟩)] 275)).alloc (.cells #[.string (bs r.word)] 9)).alloc (.cells #[.map (some mb)] 195)=W3 at *
 have f34:az D W3 W4:=HT4.out.foot.mono fun i _ e=>e▸HDM.out.1
 have f04:az D w W4:=(az.of_below HB.out).chain f34
 have hD:∀j,D j→D j∨W3.heap.size≤j:=fun j e=>.inl e
 have HP4:=hid (And.intro (P0.out.1.go f34 hD) (And.intro (P0.out.2.1.go f34 hD) (P0.out.2.2.go f34 hD)))
 have hn4:W4.heap[mb]?=some (dP (p::r.seen).reverse):=by rw[List.reverse_cons];exact HN4.out
 have HR4:=hid (H.out.saw p HT4.out ⟨_,HS1.out⟩ hn4 HDM.out.1 HDM.out.2.1)
 have HM4:=hid (HM.out.go f34 HDM.out.2.2)
 have HF4:=hid f04
 have HN4':=hid hn4
 have c0:=HP4.out.1.2.2
 clear f34 f04 hD hn4
 refine aG (fun W=>W.cell? ⟨w.heap.size,0,none⟩=some (.pointer (some ⟨g,0,none⟩))) 5 (by kernel_rfl) ?_
 intro wq hwq
 have hS:=Below.keeps hwq c0
 refine zfs 0 (some 10) (hi:=rfl) hS ?_
 apply Exists.intro
 refine⟨fun W hW=>?_,?_⟩
 ·have e1:=hW
  go_simp
  try rfl
 try simp only[Act.put,sA,sB,sC]
 refine zfq 1 (some 11) (hi:=rfl) (.inr hS) ?_
 apply Exists.intro
 refine⟨fun W=>?_,?_⟩
 ·go_simp
  try rfl
 try simp only[Act.put,sA,sB,sC]
 refine zfz 2 4 (some 12) (hi:=rfl) hS ?_
 apply Exists.intro
 refine⟨fun W hW=>?_,?_⟩
 ·have e1:=hW
  go_simp
  try rfl
 try simp only[Act.put,sA,sB,sC]
 refine zfq 3 (some 13) (hi:=rfl) (.inr hS) ?_
 apply Exists.intro
 refine⟨fun W=>?_,?_⟩
 ·go_simp
  try rfl
 try simp only[Act.put,sA,sB,sC]
 refine WL.o 4 (hi:=rfl) ?_
 intro K hK
 go_simp
 refine(qi wq g 296 _ _).mono ?_
 rintro e W6 ⟨rfl,hW6⟩
 obtain⟨hb6,hz6,c60,c61⟩:=mI wq g (.func (.func 296) #[] #[.pointer (some ⟨w.heap.size,0,none⟩),.pointer (some ⟨w.heap.size+1,0,none⟩),.pointer (some ⟨w.heap.size+1+1,0,none⟩)])
 rw[←hW6] at hb6 hz6 c60 c61
 clear hW6
 refine hK.out _ _ (.inr (Below.keeps hb6 hS)) ?_
 clear hK K
 try simp only[Act.put,sA,sB,sC]
 refine WL.o 5 (hi:=rfl) ?_
 intro K hK
 have hf:az D W4 W6:=az.of_below (Below.chain hwq hb6)
 have hD:∀j,D j→D j∨W4.heap.size≤j:=fun j e=>.inl e
 have hdb:=(HR4.out.below hwq).db
 go_simp
 refine(rM (HR4.out.below (Below.chain hwq hb6)) .scan _ (⟨_,_,_,_,_,rfl,⟨by omega,fun e=>by have:=(hdb _ e).2;omega,c60⟩,⟨by omega,fun e=>by have:=(hdb _ e).2;omega,c61⟩,HP4.out.1.go hf hD,HP4.out.2.1.go hf hD,HP4.out.2.2.go hf hD⟩) (fun _=>⟨((Below.chain hwq hb6).block _ (lx HN4')).trans HN4'.out,HDM.out.1,HDM.out.2.1⟩) (HM4.out.below (Below.chain hwq hb6)) p HFIT.out).mono ?_
 rintro e W7 ⟨rfl,hg⟩
 refine hK.out _ _ (.inl (by kernel_rfl)) ?_
 clear hK K
 try simp only[Act.put,sA,sB,sC]
 refine WL.d ?_
 go_end0
 exact⟨rfl,aD.then (fun j e=>.inl e) HF4.out (hg.ahead (Below.chain hwq hb6))⟩
end
theorem wk (x:Txt):(bs x==bs x)=true:=by
 show((bs x).data==(bs x).data)=true
 simp
theorem zeo {x y:Txt} (h:x≠y):(bs x==bs y)=false:=by
 show((bs x).data==(bs y).data)=false
 refine beq_eq_false_iff_ne.2 fun e=>h ?_
 simpa[bs] using e
section
variable {B g km mb:Nat} {D:Nat→Prop} {env:List (Txt×Txt)} {r:aw} {w W:World} {tv ev:Value} {vs cs:List Value}
set_option maxHeartbeats 4000000 in
theorem zW (h:bA B D g env r w) (s:Txt) (b0 b1 b2 b3:Nat) (p0:aI D w b0 (.string (bs s))) (p2:aI D w b2 (.pointer (some ⟨g,0,none⟩))) (hs:s.length≤65536) (hl:(cb s).length≠2):
 Calls Tryz.prog 298 #[.pointer (some ⟨b0,0,none⟩),.pointer (some ⟨b1,0,none⟩),.pointer (some ⟨b2,0,none⟩),.pointer (some ⟨b3,0,none⟩)] w fun e w2=>e=.returned (.tuple #[])∧aD B D g env (cZ r (s++[10])) w w2:=by
 have HW:=hid (fD s w (by omega))
 have H:=hid h
 have q0:=p0.2.2
 have q2:=p2.2.2
 have hfew:=qw s
 clear h p0 p2
 generalize cb s=ws at *
 have E:((ws.length:Int) !=2)=true:=by rw[bne,eqF (by omega)];rfl
 go_enter Tryz.func298,Tryz.ntmps298
 go_wp2_with (go_at_call 279;refine HW.out.mono ?_;rintro e W1 ⟨v,rfl,ho,hb1⟩;obtain⟨a,c,rfl,hvc,hvm, -,hown,hxx⟩:=cp ho (by omega);clear ho hown hxx)
 refine aC (by kernel_rfl) (by kernel_rfl) ?_
 repeat(refine WQ.step (fun K hK=>?_);go_simp;first|(refine hK _ ?_;clear hK K)|(apply Exists.intro;refine⟨fun W hW=>?_,hK _ ?_⟩;(first|with_reducible rfl|(go_simp;first|rfl|exact⟨rfl,rfl⟩));clear hK K))
 refine WQ.nil ?_
 intro wq hwq
 have hbq:=Below.chain hb1 hwq
 have L0:=Below.keeps hbq q0
 have L2:=Below.keeps hbq q2
 have HA:=hid (eZ (H.out.below hbq) (s++[10]) (by simp;omega))
 go_wp2_with (go_at_call 241;refine HA.out.mono ?_;rintro e W2 ⟨rfl,hg⟩)
 go_end0
 exact⟨rfl,hg.ahead hbq⟩
set_option maxHeartbeats 4000000 in
theorem ze (h:bA B D g env r w) (s x y:Txt) (b0 b1 b2 b3:Nat) (p0:aI D w b0 (.string (bs s))) (p1:aI D w b1 (.string (bs r.word))) (p2:aI D w b2 (.pointer (some ⟨g,0,none⟩))) (hs:s.length≤65536) (hl:cb s=[x,y]) (hx:x≠r.word):
 Calls Tryz.prog 298 #[.pointer (some ⟨b0,0,none⟩),.pointer (some ⟨b1,0,none⟩),.pointer (some ⟨b2,0,none⟩),.pointer (some ⟨b3,0,none⟩)] w fun e w2=>e=.returned (.tuple #[])∧aD B D g env (cZ r (s++[10])) w w2:=by
 have HW:=hid (fD s w (by omega))
 have H:=hid h
 have q0:=p0.2.2
 have q1:=p1.2.2
 have q2:=p2.2.2
 have hyl:y.length≤65536:=by
  have:=(fd s y (by rw[hl];simp)).2
  omega
 rw[hl] at HW
 clear h p0 p1 p2 hl
 have E:(bs x !=bs r.word)=true:=by rw[bne,zeo hx];rfl
 go_enter Tryz.func298,Tryz.ntmps298
 go_wp2_with (go_at_call 279;refine HW.out.mono ?_;rintro e W1 ⟨v,rfl,ho,hb1⟩;obtain⟨a,c,rfl,hvc,hvm, -,hown,hxx⟩:=cp ho (by simp);simp only[List.length_cons,List.length_nil,Nat.reduceAdd] at hvc hxx;obtain⟨b,o,rfl,hb,aX⟩:=hxx 0 (by omega);have L3:=aX 0 (by omega);have L4:=aX 1 (by omega);simp only[List.getElem_cons_zero,List.getElem_cons_succ,Nat.add_zero] at L3 L4;clear ho hown hxx aX)
 have L1:=Below.keeps hb1 q1
 refine aC (by kernel_rfl) (by kernel_rfl) ?_
 repeat(refine WQ.step (fun K hK=>?_);go_simp;first|(refine hK _ ?_;clear hK K)|(apply Exists.intro;refine⟨fun W hW=>?_,hK _ ?_⟩;(first|with_reducible rfl|(go_at_call 51;exact zfr hW (jq y (by omega) W))|(have z0:=Below.keeps hW L1;have z1:=Below.keeps hW L3;have z2:=Below.keeps hW L4;go_simp;first|rfl|exact⟨rfl,rfl⟩));clear hK K))
 refine WQ.nil ?_
 intro wq hwq
 have hbq:=Below.chain hb1 hwq
 have L0:=Below.keeps hbq q0
 have L2:=Below.keeps hbq q2
 have HA:=hid (eZ (H.out.below hbq) (s++[10]) (by simp;omega))
 go_wp2_with (go_at_call 241;refine HA.out.mono ?_;rintro e W2 ⟨rfl,hg⟩)
 go_end0
 exact⟨rfl,hg.ahead hbq⟩
set_option maxHeartbeats 4000000 in
theorem zU (h:bA B D g env r w) (s x y:Txt) (b0 b1 b2 b3:Nat) (p0:aI D w b0 (.string (bs s))) (p1:aI D w b1 (.string (bs r.word))) (p2:aI D w b2 (.pointer (some ⟨g,0,none⟩))) (hs:s.length≤65536) (hl:cb s=[x,y]) (hx:x=r.word) (hy:dY y=false):
 Calls Tryz.prog 298 #[.pointer (some ⟨b0,0,none⟩),.pointer (some ⟨b1,0,none⟩),.pointer (some ⟨b2,0,none⟩),.pointer (some ⟨b3,0,none⟩)] w fun e w2=>e=.returned (.tuple #[])∧aD B D g env (cZ r (s++[10])) w w2:=by
 have HW:=hid (fD s w (by omega))
 have H:=hid h
 have q0:=p0.2.2
 have q1:=p1.2.2
 have q2:=p2.2.2
 have hyl:y.length≤65536:=by
  have:=(fd s y (by rw[hl];simp)).2
  omega
 rw[hl] at HW
 clear h p0 p1 p2 hl
 have E:(bs x !=bs r.word)=false:=by rw[hx,bne,wk];rfl
 go_enter Tryz.func298,Tryz.ntmps298
 go_wp2_with (go_at_call 279;refine HW.out.mono ?_;rintro e W1 ⟨v,rfl,ho,hb1⟩;obtain⟨a,c,rfl,hvc,hvm, -,hown,hxx⟩:=cp ho (by simp);simp only[List.length_cons,List.length_nil,Nat.reduceAdd] at hvc hxx;obtain⟨b,o,rfl,hb,aX⟩:=hxx 0 (by omega);have L3:=aX 0 (by omega);have L4:=aX 1 (by omega);simp only[List.getElem_cons_zero,List.getElem_cons_succ,Nat.add_zero] at L3 L4;clear ho hown hxx aX)
 have L1:=Below.keeps hb1 q1
 refine aC (by kernel_rfl) (by kernel_rfl) ?_
 repeat(refine WQ.step (fun K hK=>?_);go_simp;first|(refine hK _ ?_;clear hK K)|(apply Exists.intro;refine⟨fun W hW=>?_,hK _ ?_⟩;(first|with_reducible rfl|(go_at_call 51;exact zfr hW (jq y (by omega) W))|(have z0:=Below.keeps hW L1;have z1:=Below.keeps hW L3;have z2:=Below.keeps hW L4;go_simp;first|rfl|exact⟨rfl,rfl⟩));clear hK K))
 refine WQ.nil ?_
 intro wq hwq
 have hbq:=Below.chain hb1 hwq
 have L0:=Below.keeps hbq q0
 have L2:=Below.keeps hbq q2
 have HA:=hid (eZ (H.out.below hbq) (s++[10]) (by simp;omega))
 go_wp2_with (go_at_call 241;refine HA.out.mono ?_;rintro e W2 ⟨rfl,hg⟩)
 go_end0
 exact⟨rfl,hg.ahead hbq⟩
end
section
variable {B g km mb:Nat} {D:Nat→Prop} {env:List (Txt×Txt)} {r:aw} {w W:World} {tv ev:Value} {vs cs:List Value}
set_option maxHeartbeats 4000000 in
theorem zE (h:aN B D g env r w tv ev km mb vs cs) (s x y:Txt) (b0 b1 b2 b3:Nat) (p0:aI D w b0 (.string (bs s))) (p1:aI D w b1 (.string (bs r.word))) (p2:aI D w b2 (.pointer (some ⟨g,0,none⟩))) (p3:aI D w b3 (.map (some mb))) (hsn:w.heap[mb]?=some (dP r.seen.reverse)∧D mb∧mb≠km) (hs:s.length≤65536) (hl:cb s=[x,y]) (hx:x=r.word) (hy:dY y=true) (hys:y∈r.seen):
 Calls Tryz.prog 298 #[.pointer (some ⟨b0,0,none⟩),.pointer (some ⟨b1,0,none⟩),.pointer (some ⟨b2,0,none⟩),.pointer (some ⟨b3,0,none⟩)] w fun e w2=>e=.returned (.tuple #[])∧aD B D g env (r) w w2:=by
 have HW:=hid (fD s w (by omega))
 have H:=hid h
 have q0:=p0.2.2
 have q1:=p1.2.2
 have q2:=p2.2.2
 have hyl:y.length≤65536:=by
  have:=(fd s y (by rw[hl];simp)).2
  omega
 rw[hl] at HW
 have q3:=p3.2.2
 have HSN:=hid hsn
 clear h p0 p1 p2 p3 hsn hl
 have E:(bs x !=bs r.word)=false:=by rw[hx,bne,wk];rfl
 go_enter Tryz.func298,Tryz.ntmps298
 go_wp2_with (go_at_call 279;refine HW.out.mono ?_;rintro e W1 ⟨v,rfl,ho,hb1⟩;obtain⟨a,c,rfl,hvc,hvm, -,hown,hxx⟩:=cp ho (by simp);simp only[List.length_cons,List.length_nil,Nat.reduceAdd] at hvc hxx;obtain⟨b,o,rfl,hb,aX⟩:=hxx 0 (by omega);have L3:=aX 0 (by omega);have L4:=aX 1 (by omega);simp only[List.getElem_cons_zero,List.getElem_cons_succ,Nat.add_zero] at L3 L4;clear ho hown hxx aX)
 have L1:=Below.keeps hb1 q1
 refine aC (by kernel_rfl) (by kernel_rfl) ?_
 repeat(refine WQ.step (fun K hK=>?_);go_simp;first|(refine hK _ ?_;clear hK K)|(apply Exists.intro;refine⟨fun W hW=>?_,hK _ ?_⟩;(first|with_reducible rfl|(go_at_call 51;exact zfr hW (jq y (by omega) W))|(have z0:=Below.keeps hW L1;have z1:=Below.keeps hW L3;have z2:=Below.keeps hW L4;go_simp;first|rfl|exact⟨rfl,rfl⟩));clear hK K))
 refine WQ.nil ?_
 intro wq hwq
 have hbq:=Below.chain hb1 hwq
 have L0:=Below.keeps hbq q0
 have L2:=Below.keeps hbq q2
 go_wp2_with fail
 have M1:=Below.keeps hbq q1
 have M3:=Below.keeps hbq q3
 have M4:=Below.keeps hwq L4
 have HLK:=hid (fun(W:World) (hb:Below wq.heap.size wq W)=>kj (((Below.chain hbq hb).block _ (lx (hid HSN.out.1))).trans HSN.out.1) y true (decide_eq_true (by simpa using hys)))
 refine aC (by kernel_rfl) (by kernel_rfl) ?_
 repeat(refine WQ.step (fun K hK=>?_);go_simp;first|(refine hK _ ?_;clear hK K)|(apply Exists.intro;refine⟨fun W hW=>?_,hK _ ?_⟩;(first|with_reducible rfl|(have z0:=Below.keeps hW M3;have z1:=Below.keeps hW M4;have z2:=HLK.out W hW;go_simp;first|rfl|exact⟨rfl,rfl⟩));clear hK K))
 refine WQ.nil ?_
 intro wr hwr
 have hbr:=Below.chain hbq hwr
 go_wp2_with fail
 go_end0
 exact⟨rfl,D,fun j e=>.inl e,az.of_below hbr,_,_,_,_,_,_,H.out.below hbr⟩
set_option maxHeartbeats 4000000 in
theorem xH (h:aN B D g env r w tv ev km mb vs cs) (s x y:Txt) (b0 b1 b2 b3:Nat) (p0:aI D w b0 (.string (bs s))) (p1:aI D w b1 (.string (bs r.word))) (p2:aI D w b2 (.pointer (some ⟨g,0,none⟩))) (p3:aI D w b3 (.map (some mb))) (hsn:w.heap[mb]?=some (dP r.seen.reverse)∧D mb∧mb≠km) (hs:s.length≤65536) (hl:cb s=[x,y]) (hx:x=r.word) (hy:dY y=true) (hys:y∉r.seen) (hB:0<B) (hm:bE w) (hfit:dp (cy {r with seen:=y::r.seen} y .scan)):
 Calls Tryz.prog 298 #[.pointer (some ⟨b0,0,none⟩),.pointer (some ⟨b1,0,none⟩),.pointer (some ⟨b2,0,none⟩),.pointer (some ⟨b3,0,none⟩)] w fun e w2=>e=.returned (.tuple #[])∧aD B D g env (cy {r with seen:=y::r.seen} y .scan) w w2:=by
 have HW:=hid (fD s w (by omega))
 have H:=hid h
 have q0:=p0.2.2
 have q1:=p1.2.2
 have q2:=p2.2.2
 have hyl:y.length≤65536:=by
  have:=(fd s y (by rw[hl];simp)).2
  omega
 rw[hl] at HW
 have q3:=p3.2.2
 have HSN:=hid hsn
 have HBM:=hid (And.intro hB hm)
 have HFIT:=hid hfit
 clear hB hm hfit
 clear h p0 p1 p2 p3 hsn hl
 have E:(bs x !=bs r.word)=false:=by rw[hx,bne,wk];rfl
 go_enter Tryz.func298,Tryz.ntmps298
 go_wp2_with (go_at_call 279;refine HW.out.mono ?_;rintro e W1 ⟨v,rfl,ho,hb1⟩;obtain⟨a,c,rfl,hvc,hvm, -,hown,hxx⟩:=cp ho (by simp);simp only[List.length_cons,List.length_nil,Nat.reduceAdd] at hvc hxx;obtain⟨b,o,rfl,hb,aX⟩:=hxx 0 (by omega);have L3:=aX 0 (by omega);have L4:=aX 1 (by omega);simp only[List.getElem_cons_zero,List.getElem_cons_succ,Nat.add_zero] at L3 L4;clear ho hown hxx aX)
 have L1:=Below.keeps hb1 q1
 refine aC (by kernel_rfl) (by kernel_rfl) ?_
 repeat(refine WQ.step (fun K hK=>?_);go_simp;first|(refine hK _ ?_;clear hK K)|(apply Exists.intro;refine⟨fun W hW=>?_,hK _ ?_⟩;(first|with_reducible rfl|(go_at_call 51;exact zfr hW (jq y (by omega) W))|(have z0:=Below.keeps hW L1;have z1:=Below.keeps hW L3;have z2:=Below.keeps hW L4;go_simp;first|rfl|exact⟨rfl,rfl⟩));clear hK K))
 refine WQ.nil ?_
 intro wq hwq
 have hbq:=Below.chain hb1 hwq
 have L0:=Below.keeps hbq q0
 have L2:=Below.keeps hbq q2
 go_wp2_with fail
 have M1:=Below.keeps hbq q1
 have M3:=Below.keeps hbq q3
 have M4:=Below.keeps hwq L4
 have HLK:=hid (fun(W:World) (hb:Below wq.heap.size wq W)=>kj (((Below.chain hbq hb).block _ (lx (hid HSN.out.1))).trans HSN.out.1) y false (decide_eq_false (by simpa using hys)))
 refine aC (by kernel_rfl) (by kernel_rfl) ?_
 repeat(refine WQ.step (fun K hK=>?_);go_simp;first|(refine hK _ ?_;clear hK K)|(apply Exists.intro;refine⟨fun W hW=>?_,hK _ ?_⟩;(first|with_reducible rfl|(have z0:=Below.keeps hW M3;have z1:=Below.keeps hW M4;have z2:=HLK.out W hW;go_simp;first|rfl|exact⟨rfl,rfl⟩));clear hK K))
 refine WQ.nil ?_
 intro wr hwr
 have hbr:=Below.chain hbq hwr
 have N1:=Below.keeps hwr M1
 have N2:=Below.keeps hwr L2
 have N3:=Below.keeps hwr M3
 have N4:=Below.keeps hwr M4
 go_wp2_with fail
 refine ar 6 (by kernel_rfl) (by kernel_rfl) ?_
 simp only[List.take_succ_cons,List.take_zero,List.drop_succ_cons,List.drop_zero]
 repeat(refine WQ.step (fun K hK=>?_);go_simp;first|(refine hK _ ?_;clear hK K)|(apply Exists.intro;refine⟨fun W hW=>?_,hK _ ?_⟩;(first|with_reducible rfl|(have z0:=Below.keeps hW N2;have z1:=Below.keeps hW N4;have z2:=Below.keeps hW N1;have z3:=Below.keeps hW N3;go_simp;first|rfl|exact⟨rfl,rfl⟩));clear hK K))
 refine WQ.nil ?_
 intro wt hwt
 have hbt:=Below.chain hbr hwt
 go_wp2_with (go_at_call 243;refine(sY (H.out.below hbt) ⟨(hbt.block _ (lx (hid HSN.out.1))).trans HSN.out.1,HSN.out.2⟩ HBM.out.1 (HBM.out.2.below hbt) y hys HFIT.out).mono ?_;rintro e W2 ⟨rfl,hg⟩)
 go_end0
 exact⟨rfl,hg.ahead hbt⟩
theorem zS (h:aN B D g env r w tv ev km mb vs cs) (s:Txt) (b0 b1 b2 b3:Nat) (p0:aI D w b0 (.string (bs s))) (p1:aI D w b1 (.string (bs r.word))) (p2:aI D w b2 (.pointer (some ⟨g,0,none⟩))) (p3:aI D w b3 (.map (some mb)))
 (hsn:w.heap[mb]?=some (dP r.seen.reverse)∧D mb∧mb≠km) (hs:s.length≤65536) (hB:0<B) (hm:bE w) (hfit:dp (fS r s)):
 Calls Tryz.prog 298 #[.pointer (some ⟨b0,0,none⟩),.pointer (some ⟨b1,0,none⟩),.pointer (some ⟨b2,0,none⟩),.pointer (some ⟨b3,0,none⟩)] w fun e w2=>e=.returned (.tuple #[])∧aD B D g env (fS r s) w w2:=by
 have hi:bA B D g env r w:=⟨_,_,_,_,_,_,h⟩
 by_cases hl:(cb s).length=2
 ·obtain⟨x,y,hxy⟩:∃x y,cb s=[x,y]:=by
   match hw:cb s with
   |[]=>rw[hw] at hl;cases hl
   |[x]=>rw[hw] at hl;cases hl
   |[x,y]=>exact⟨x,y,rfl⟩
   |x::y::z::l=>rw[hw] at hl;simp at hl
  have e:fS r s=if x≠r.word∨dY y=false then cZ r (s++[10]) else if y∈r.seen then r else cy {r with seen:=y::r.seen} y .scan:=by unfold fS;rw[hxy]
  rw[e] at hfit ⊢
  by_cases hx:x=r.word
  ·by_cases hy:dY y=false
   ·rw[if_pos (.inr hy)]
    exact zU hi s x y b0 b1 b2 b3 p0 p1 p2 hs hxy hx hy
   ·have hn:¬(x≠r.word∨dY y=false):=fun e=>e.elim (fun e=>e hx) hy
    rw[if_neg hn] at hfit ⊢
    have hy:dY y=true:=by simpa using hy
    by_cases hys:y∈r.seen
    ·rw[if_pos hys]
     exact zE h s x y b0 b1 b2 b3 p0 p1 p2 p3 hsn hs hxy hx hy hys
    ·rw[if_neg hys] at hfit ⊢
     exact xH h s x y b0 b1 b2 b3 p0 p1 p2 p3 hsn hs hxy hx hy hys hB hm hfit
  ·rw[if_pos (.inl hx)]
   exact ze hi s x y b0 b1 b2 b3 p0 p1 p2 hs hxy hx
 ·have e:fS r s=cZ r (s++[10]):=by
   unfold fS
   split
   ·rename_i a b hw
    rw[hw] at hl
    exact absurd rfl hl
   ·rfl
  rw[e]
  exact zW hi s b0 b1 b2 b3 p0 p2 hs hl
end
section
variable {B g km mb:Nat} {D:Nat→Prop} {env:List (Txt×Txt)} {r:aw} {w W:World} {tv ev:Value} {vs cs:List Value}
def rW (w:World) (a:Option Addr) (ls:List Txt):Prop:=∀k,k<ls.length→∃b o,a=some ⟨b,o,none⟩∧b<w.heap.size∧∀j (hj:j<ls.length),w.cell? ⟨b,o+j,none⟩=some (.string (bs ls[j]))
def nlL (ls:List Txt):Txt:=ls.flatMap fun s=>s++[10]
theorem zcs (ls:List Txt) (k:Nat) (h:k<ls.length):nlL (ls.take (k+1))=nlL (ls.take k)++(ls[k]++[10]):=by
 unfold nlL
 rw[List.take_succ_eq_append_getElem h,List.flatMap_append,List.flatMap_cons,List.flatMap_nil,List.append_nil]
theorem zdH (ls:List Txt) (k:Nat):(nlL (ls.take k)).length≤(nlL ls).length:=by
 have:nlL ls=nlL (ls.take k)++nlL (ls.drop k):=by
  unfold nlL
  rw[←List.flatMap_append,List.take_append_drop]
 rw[this,List.length_append]
 omega
theorem iY {T e:TypeId} {B b:Nat} {p:Value} {xs:List Value} {w w':World} (h:Lib.BuilderAtF T e B b p xs w) (hb:∀k,B≤k→k<w.heap.size→w'.heap[k]?=w.heap[k]?):Lib.BuilderAtF T e B b p xs w':=by
 obtain⟨hB,v,hbk,⟨hl,hown⟩,hne⟩:=h
 refine⟨hB,v,(hb b hB (Array.getElem?_eq_some_iff.1 hbk).1).trans hbk,⟨hl,?_⟩,hne⟩
 rcases hown with h0|⟨g,cap,cur,fz,hv,hg,hh,r⟩
 ·exact .inl h0
 ·exact .inr ⟨g,cap,cur,fz,hv,hg,(hb g hg (Array.getElem?_eq_some_iff.1 hh).1).trans hh,r⟩
theorem nL {T e:TypeId} {B b:Nat} {xs:List Value} {w w':World} (h:Lib.IsBuilderF T e B b xs w) (hb:∀k,B≤k→k<w.heap.size→w'.heap[k]?=w.heap[k]?):Lib.IsBuilderF T e B b xs w':=
 h.elim (fun x=>.inl (iY x hb)) (fun x=>.inr (iY x hb))
theorem uK {w wr:World} {n g k:Nat} {cs:Array Value} {t:TypeId} {v:Value} (hb:Below n w wr) (hn:n≤w.heap.size) (h:w.heap[g]?=some (.cells cs t (0,0))) (h':wr.heap[g]?=some (.cells cs t (0,0))):Below n (w.setCell ⟨g,k,none⟩ v) (wr.setCell ⟨g,k,none⟩ v):=by
 obtain⟨n1,t1⟩:=au h k v
 obtain⟨n2,t2⟩:=au h' k v
 refine⟨t2.foot.os.trans (hb.os.trans t1.foot.os.symm),t2.foot.tape.trans (hb.tape.trans t1.foot.tape.symm),t2.foot.output.trans (hb.output.trans t1.foot.output.symm),?_,fun i hi=>?_⟩
 ·have e1:(w.setCell ⟨g,k,none⟩ v).heap.size=w.heap.size:=by simp[World.setCell]
  have e2:(wr.setCell ⟨g,k,none⟩ v).heap.size=wr.heap.size:=by simp[World.setCell]
  rw[e1,e2]
  exact hb.size
 ·by_cases e:i=g
  ·rw[e,n1,n2]
  ·exact(t2.foot.block i (Nat.lt_of_lt_of_le (Nat.lt_of_lt_of_le hi hn) hb.size) e).trans ((hb.block i hi).trans (t1.foot.block i (Nat.lt_of_lt_of_le hi hn) e).symm)
set_option maxHeartbeats 4000000 in
theorem rQ (h:bA B D g env r w) (ls:List Txt) (a:Option Addr) (c:Nat) (hx:rW w a ls) (hn:ls.length≤1000000) (hl:(nlL ls).length≤10000000000):
 Calls Tryz.prog 299 #[.pointer (some ⟨g,0,none⟩),.slice a ls.length c] w fun e w2=>e=.returned (.tuple #[])∧aD B D g env (jx r ls) w w2:=by
 have H:=hid h
 have HX:=hid hx
 have hfr:=iz w w.heap.size (Nat.le_refl _)
 have hb0:=ab w (.cells #[.pointer none,.slice none 0 0] 215 (0,0))
 clear h hx
 go_enter Tryz.func299,Tryz.ntmps299
 go_wp2_with fail
 generalize w.alloc (.cells #[.pointer none,.slice none 0 0] 215)=W0 at *
 have HFR:=hid hfr
 have HB0:=hid hb0
 clear hfr hb0
 go_loopw [9] (fun i wr=>∃k:Nat,k≤ls.length∧i=.int .i64 k∧Lib.IsBuilderF 215 5 w.heap.size w.heap.size (Lib.byteCells (nlL (ls.take k))) wr∧Below w.heap.size w wr) (fun i _=>ls.length-(intOf i).toNat)
 case atStart=>exact⟨0,Nat.zero_le _,rfl,HFR.out,HB0.out⟩
 case round=>
  obtain⟨k,hk,rfl,hib,hbe⟩:=hrel
  have HIB:=hid hib
  have HB:=hid hbe
  have hle:=zdH ls k
  by_cases aH:k<ls.length
  ·obtain⟨b,o,rfl,hbl,aX⟩:=HX.out k aH
   have L0:=Below.keeps hbe (aX k aH)
   have hst:=zcs ls k aH
   have hl2:=zdH ls (k+1)
   rw[hst,List.length_append] at hl2
   have HST:=hid hst
   clear hst hib hbe aX HX
   generalize ls[k]=s at *
   have hl3:s.length+1≤(nlL ls).length:=by
    have:(s++[10]).length=s.length+1:=by simp
    omega
   have E9:¬9223372036854775807<s.length+1:=by omega
   go_wp2_with (go_at_call 101;refine(gu w.heap.size w.heap.size _ (s++[10]) wr HIB.out (by omega) HB.out.size).mono ?_;rintro e W2 ⟨rfl,hi2,hb2, -⟩)
   exact⟨⟨k+1,by omega,by go_num,by rw[HST.out];exact hi2,HB.out.trans hb2⟩,by simp[intOf];omega⟩
  ·obtain rfl:k=ls.length:=by omega
   rw[List.take_length] at HIB
   obtain⟨tv,ev,km,mb,vs,cs,hR⟩:=H.out
   have hgl:=lx (hid hR.at_)
   have hg5:wr.heap[g]?=some (.cells (iF tv ev km r).toArray 323 (0,0)):=(HB.out.block g hgl).trans hR.at_
   have c2:=(aA hg5).2.2.1
   have f2:wr.frozen? ⟨g,2,none⟩=false:=Lib.frozen_of_heap hg5 2
   obtain⟨n0,t0⟩:=au hR.at_ 2 (.string ⟨#[]⟩)
   obtain⟨n1,t1⟩:=au hg5 2 (.string ⟨#[]⟩)
   have hgo:=hR.cells (r':={r with buffer:=[]}) t0 (n0.trans rfl) rfl rfl rfl rfl rfl ⟨Nat.zero_le _,hR.sm.kn,hR.sm.ln,hR.sm.cm,hR.sm.tl,hR.sm.nd⟩
   have hfo:az D w (w.setCell ⟨g,2,none⟩ (.string ⟨#[]⟩)):=t0.foot.mono fun _ _ e=>e▸hR.dg
   have hz0:(w.setCell ⟨g,2,none⟩ (.string ⟨#[]⟩)).heap.size=w.heap.size:=by simp[World.setCell]
   have HGO:=hid hgo
   have HFO:=hid hfo
   have HBC:=hid (uK (k:=2) (v:=.string ⟨#[]⟩) HB.out (Nat.le_refl _) hR.at_ hg5)
   have HIB2:=hid (nL (w':=wr.setCell ⟨g,2,none⟩ (.string ⟨#[]⟩)) HIB.out fun k hk1 hk2=>t1.foot.block k hk2 (by intro e;omega))
   have hzz:w.heap.size≤(wr.setCell ⟨g,2,none⟩ (.string ⟨#[]⟩)).heap.size:=by have:=HB.out.size;have:=t1.foot.size;omega
   clear hib hbe hR hgo hfo n0 t0 n1 t1 HIB hg5
   go_wp2_with first|(go_at_call 104;refine(sE w.heap.size w.heap.size _ _ HIB2.out hzz).mono ?_;rintro e W6 ⟨rfl, -,hb6⟩)|(go_at_call 241;have hb7:=HBC.out.trans hb6;rw[←hz0] at hb7;have HR7:=hid (HGO.out.below hb7);have HF7:=hid (HFO.out.then hb7);refine(eZ ⟨_,_,_,_,_,_,HR7.out⟩ (nlL ls) (by omega)).mono ?_;rintro e W8 ⟨rfl,hg8⟩)
   go_end0
   refine⟨rfl,?_⟩
   have e:jx r ls=cZ {r with buffer:=[]} (nlL ls):=rfl
   rw[e]
   exact aD.then (fun j e=>.inl e) HF7.out hg8
end
end Go.Proofs.YtlbipokkdiiaiaaGreatDoor
