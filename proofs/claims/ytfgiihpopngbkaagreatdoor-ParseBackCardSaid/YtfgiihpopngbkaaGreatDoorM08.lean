/- Lemmas and walks that the statement needs: ReplBuild, ReplWalk, ReplOnce, ReplDo, QuotePlain, ReplPlain, ReplRun, LexQuote. -/
import Derived.Test.YtfgiihpopngbkaaGreatDoorM07
import Derived.LoopN
import Derived.Great.Walk
import Derived.Great.BuildSlice
import Derived.OwnWalk
import Derived.Laws.CopyOwn
import Derived.Test.YtfgiihpopngbkaaGreatDoorM01
import Derived.Test.YtfgiihpopngbkaaGreatDoorShelf
namespace Go.Proofs.YtfgiihpopngbkaaGreatDoor
set_option maxRecDepth 100000
open Go.RowKit
open Nat renaming lt_of_lt_of_le→nL,le_trans→nT
def nils (v:Value):Array Value:=(List.replicate 256 (Value.slice none 0 0)++[v]).toArray
theorem nils_one (a:Option Addr) (l c:Nat):(nils (.slice a l c)).all (·.oneCell')=true:=by kernel_rfl
theorem wpList_conv_bytes {w:World} {ops:Array Oper} {rest:List Oper} {o:Oper} {a:Act} {Q:Exit→Act→World→Prop} (hg:o.guard=none) (x:Operand)
  (ho:o.op=.convert 9 41 x) (l:List UInt8) (n:Nat) (hn:l.length=n) (hl:n≤1000000000000) (hx:a.eval x=.string (bs l))
  (h:∀ (k:Nat) (w':World),n≤k→k≤maxLen→(∀ j u,(Lib.byteCells l)[j]? = some u→w'.cell? ⟨w.heap.size,j,none⟩=some u)→w.heap.size<w'.heap.size→Below w.heap.size w w' →
   wpList Tryz.prog ops Q rest (a.put o.dst (.slice (some ⟨w.heap.size,0,none⟩) n k)) w'):wpList Tryz.prog ops Q (o::rest) a w:=by
 subst hn;refine wpList_plain hg fun K hK=>?_
 have hrun:=run_bytes_of_string (P:=Tryz.prog) w 9 41 5 (bs l) Tryz.underlying9 Tryz.underlying41 Tryz.underlying5;have hk1:=grownCap_ge w (bs l).size 0 5;have hk2:=grownCap_le_maxLen w (bs l).size 0 5 (by rw [bs_size];unfold maxLen;omega);generalize hk:grownCap w (bs l).size 0 5=k at hrun hk1 hk2;have hnew:∀ j u,(Lib.byteCells l)[j]? = some u→(w.drew.alloc (.cells (bytesRow (bs l) k) 5 ((bytesRow (bs l) k).size,(bytesRow (bs l) k).size+1))).cell? ⟨w.heap.size,j,none⟩=some u:=by
  intro j u hj;have e:(w.drew.alloc (.cells (bytesRow (bs l) k) 5 ((bytesRow (bs l) k).size,(bytesRow (bs l) k).size+1))).heap[w.heap.size]? = some (.cells (bytesRow (bs l) k) 5 ((bytesRow (bs l) k).size,(bytesRow (bs l) k).size+1)):=by
   show (w.heap.push _)[w.heap.size]? = _;simp
  have hjl:j<l.length:=by
   have:=(List.getElem?_eq_some_iff.1 hj).1;rwa [byteCells_len] at this
  simp only [World.cell?,e];rw [← hj];simp [bytesRow,Lib.byteCells,Array.getElem?_append,hjl];simp [bs,hjl];intro hle;have hle':l.length≤j:=hle;omega
 unfold Oper.wp;simp only [execOp,ho,hx,Sem.run_bind,hrun,Result.andThen_ok];refine hK _ _ (h k _ hk1 hk2 hnew ?_ ?_)
 ·show w.heap.size<(w.heap.push _).size;simp
 ·exact ((Below.refl _ w).drew).alloc (Nat.le_refl _) _
structure TabAt (w:World) (r:Nat) (D:List UInt8):Prop where
 has:∀ c ∈ D,∃ g k:Nat,w.cell? ⟨r,c.toNat,none⟩=some (.slice (some ⟨g,0,none⟩) 2 k)∧2≤k∧k≤maxLen∧g<w.heap.size∧r<g∧∀ j u,(Lib.byteCells (escB c))[j]? = some u→w.cell? ⟨g,j,none⟩=some u
 non:∀ c:UInt8,c ∉ D→w.cell? ⟨r,c.toNat,none⟩=some (.slice none 0 0)
 free:Free w r
 lt:r<w.heap.size
theorem TabAt.past {B:Nat} {w w':World} {r:Nat} {D:List UInt8} (h:TabAt w r D) (hb:Below B w w') (hlt:w.heap.size≤B):TabAt w' r D:=by
 have hr:r<B:=nL h.lt hlt;refine ⟨fun c hc=>?_,fun c hc=>(hb.cell (p:=⟨r,c.toNat,none⟩) hr).trans (h.non c hc),h.free.past hb hr,nL h.lt hb.size⟩;obtain ⟨g,k,h1,h2,h3,h4,h5,h6⟩:=h.has c hc;exact ⟨g,k,(hb.cell (p:=⟨r,c.toNat,none⟩) hr).trans h1,h2,h3,nL h4 hb.size,h5,fun j u hj=>(hb.cell (p:=⟨g,j,none⟩) (nL h4 hlt)).trans (h6 j u hj)⟩
theorem TabAt.store {w:World} {r:Nat} {D:List UInt8} (h:TabAt w r D) (v:Value):TabAt (w.setCell ⟨r,256,none⟩ v) r D:=by
 have hn:∀ c:UInt8,(⟨r,256,none⟩:Addr)≠⟨r,c.toNat,none⟩:=fun c e=>by
  have h1:=congrArg Addr.off e;have h2:=c.toNat_lt;simp only at h1;omega
 refine ⟨fun c hc=>?_,fun c hc=>(World.cell?_setCell_other _ _ _ _ (hn c)).trans (h.non c hc),fun j=>by rw [World.frozen?_setCell];exact h.free j,by simpa using h.lt⟩;obtain ⟨g,k,h1,h2,h3,h4,h5,h6⟩:=h.has c hc;exact ⟨g,k,(World.cell?_setCell_other _ _ _ _ (hn c)).trans h1,h2,h3,by simpa using h4,h5,fun j u hj=>(World.cell?_setCell_other _ _ _ _ (fun e=>Nat.ne_of_lt h5 (congrArg Addr.block e))).trans (h6 j u hj)⟩
theorem TabAt.more {w:World} {r:Nat} {D:List UInt8} (h:TabAt w r D) {x:UInt8} (hx:x ∉ D) (g k:Nat) (h2:2≤k) (h3:k≤maxLen) (h4:g<w.heap.size) (h5:r<g)
  (h6:∀ j u,(Lib.byteCells (escB x))[j]? = some u→w.cell? ⟨g,j,none⟩=some u):TabAt (w.setCell ⟨r,x.toNat,none⟩ (.slice (some ⟨g,0,none⟩) 2 k)) r (D++[x]):=by
 have hn:∀ c:UInt8,c≠x→(⟨r,x.toNat,none⟩:Addr)≠⟨r,c.toNat,none⟩:=fun c hc e=>by
  have h1:=congrArg Addr.off e;simp only at h1;exact hc (UInt8.toNat_inj.1 h1.symm)
 have hg:∀ (g' j:Nat),r<g'→(⟨r,x.toNat,none⟩:Addr)≠⟨g',j,none⟩:=fun g' j h e=>Nat.ne_of_lt h (congrArg Addr.block e)
 refine ⟨fun c hc=>?_,fun c hc=>?_,fun j=>by rw [World.frozen?_setCell];exact h.free j,by simpa using h.lt⟩
 ·rw [List.mem_append,List.mem_singleton] at hc;by_cases hcx:c=x
  ·subst hcx;exact ⟨g,k,World.cell?_setCell_same' _ _ _ (by rw [h.non c hx];rfl),h2,h3,by simpa using h4,h5,fun j u hj=>(World.cell?_setCell_other _ _ _ _ (hg _ _ h5)).trans (h6 j u hj)⟩
  ·obtain ⟨g',k',q1,q2,q3,q4,q5,q6⟩:=h.has c (hc.resolve_right hcx);exact ⟨g',k',(World.cell?_setCell_other _ _ _ _ (hn c hcx)).trans q1,q2,q3,by simpa using q4,q5,fun j u hj=>(World.cell?_setCell_other _ _ _ _ (hg _ _ q5)).trans (q6 j u hj)⟩
 ·rw [List.mem_append,List.mem_singleton,not_or] at hc;exact (World.cell?_setCell_other _ _ _ _ (hn c hc.2)).trans (h.non c hc.1)
theorem nils_get (v:Value) (c:UInt8):(nils v)[c.toNat]? = some (.slice none 0 0):=by
 have h:=c.toNat_lt;unfold nils;rw [List.getElem?_toArray,List.getElem?_append_left (by simpa using h),List.getElem?_replicate,if_pos (by simpa using h)]
theorem nils_last (v:Value):(nils v)[256]? = some v:=rfl
theorem tab_new (w:World) (r:Nat) (hr:w.heap[r]? = some (.cells (nils (.slice none 0 0)) 160 (0,0))) (v:Value) :
  TabAt (w.setRow r (nils v)) r []∧(w.setRow r (nils v)).cell? ⟨r,256,none⟩=some v:=by
 have hc:∀ j,(w.setRow r (nils v)).cell? ⟨r,j,none⟩=(nils v)[j]?:=fun j=>cell_setRow_same w r j _ _ _ _ hr
 have hh:=setRow_heap w r _ (nils v) _ _ hr;refine ⟨⟨fun c hc=>(by cases hc),fun c _=>(hc _).trans (nils_get v c),fun j=>?_,?_⟩,(hc 256).trans (nils_last v)⟩
 ·simp [World.frozen?,hh]
 ·exact (Array.getElem?_eq_some_iff.1 hh).1
theorem TabAt.grown {w w':World} {r n:Nat} {D:List UInt8} (h:TabAt w r D) (hg:w.grownBy w' (some n)) (hn:n<r):TabAt w' r D:=by
 have hb:∀ k,k<w.heap.size→r≤k→w'.heap[k]? = w.heap[k]?:=fun k hk hr=>hg.block k hk (by simp;omega)
 have hc:∀ k j,k<w.heap.size→r≤k→w'.cell? ⟨k,j,none⟩=w.cell? ⟨k,j,none⟩:=fun k j hk hr=>by simp only [World.cell?,hb k hk hr]
 refine ⟨fun c hc'=>?_,fun c hc'=>(hc _ _ h.lt (Nat.le_refl _)).trans (h.non c hc'),fun j=>?_,nL h.lt hg.size⟩
 ·obtain ⟨g,k,h1,h2,h3,h4,h5,h6⟩:=h.has c hc';exact ⟨g,k,(hc _ _ h.lt (Nat.le_refl _)).trans h1,h2,h3,nL h4 hg.size,h5,fun j u hj=>(hc _ _ h4 (Nat.le_of_lt h5)).trans (h6 j u hj)⟩
 ·have:=h.free j;simp only [World.frozen?,hb r h.lt (Nat.le_refl _)] at this ⊢;exact this
theorem Six.past {B:Nat} {w w':World} {b o:Nat} (h:Six w b o) (hb:Below B w w') (hB:w.heap.size≤B):Six w' b o:=by
 have hlt:b<B:=nL h.lt hB;exact ⟨nL h.lt hb.size,(hb.cell (p:=⟨b,o,none⟩) hlt).trans h.s0,(hb.cell (p:=⟨b,o+1,none⟩) hlt).trans h.s1,(hb.cell (p:=⟨b,o+2,none⟩) hlt).trans h.s2,(hb.cell (p:=⟨b,o+3,none⟩) hlt).trans h.s3,(hb.cell (p:=⟨b,o+4,none⟩) hlt).trans h.s4,(hb.cell (p:=⟨b,o+5,none⟩) hlt).trans h.s5⟩
def takes (m:Nat):UInt8:=if m=0 then 10 else if m=1 then 92 else 34
def takenB (m:Nat):List UInt8:=[10,92,34].take m
theorem Six.round {w:World} {b o:Nat} (h:Six w b o) (m:Nat) (hm:m<3) :
  w.cell? ⟨b,o+(4 - 2 * m),none⟩=some (.string (bs [takes m]))∧w.cell? ⟨b,o+(4 - 2 * m+1),none⟩=some (.string (bs (escB (takes m))))∧takenB (m+1)=takenB m++[takes m]∧takes m ∉ takenB m∧(escB (takes m)).length=2:=by
 obtain rfl | rfl | rfl:m=0∨m=1∨m=2:=by omega
 ·exact ⟨h.s4,h.s5,rfl,by decide,rfl⟩
 ·exact ⟨h.s2,h.s3,rfl,by decide,rfl⟩
 ·exact ⟨h.s0,h.s1,rfl,by decide,rfl⟩
def ones (D:List UInt8):List (List UInt8):=D.map fun c=>[c]
structure Built (w:World) (lo r:Nat):Prop where
 tab:TabAt w r (takenB 3)
 low:lo≤r
 reps:∃ n c:Nat,w.cell? ⟨r,256,none⟩=some (.slice (some ⟨n,0,none⟩) 3 c)∧3≤c∧c≤maxLen∧lo≤n∧n<w.heap.size∧∀ j u,(strCells (ones (takenB 3)))[j]? = some u→w.cell? ⟨n,j,none⟩=some u
theorem Built.agree {w w':World} {lo r:Nat} (h:Built w lo r) (hs:w.heap.size≤w'.heap.size) (hc:∀ k j,lo≤k→k<w.heap.size→w'.cell? ⟨k,j,none⟩=w.cell? ⟨k,j,none⟩)
  (hf:∀ k j,lo≤k→k<w.heap.size→w'.frozen? ⟨k,j,none⟩=w.frozen? ⟨k,j,none⟩):Built w' lo r:=by
 have hlr:=h.low;have hrl:=h.tab.lt;refine ⟨⟨fun c hc'=>?_,fun c hc'=>(hc _ _ hlr hrl).trans (h.tab.non c hc'),fun j=>(hf _ _ hlr hrl).trans (h.tab.free j),nL hrl hs⟩,hlr,?_⟩
 ·obtain ⟨g,k,h1,h2,h3,h4,h5,h6⟩:=h.tab.has c hc';exact ⟨g,k,(hc _ _ hlr hrl).trans h1,h2,h3,nL h4 hs,h5,fun j u hj=>(hc _ _ (by omega) h4).trans (h6 j u hj)⟩
 ·obtain ⟨n,c,h1,h2,h3,h4,h5,h6⟩:=h.reps;exact ⟨n,c,(hc _ _ hlr hrl).trans h1,h2,h3,h4,nL h5 hs,fun j u hj=>(hc _ _ h4 h5).trans (h6 j u hj)⟩
theorem Built.past {B:Nat} {w w':World} {lo r:Nat} (h:Built w lo r) (hb:Below B w w') (hB:w.heap.size≤B):Built w' lo r :=
 h.agree hb.size (fun k j _ hk=>hb.cell (p:=⟨k,j,none⟩) (nL hk hB)) (fun k j _ hk=>hb.frozen (p:=⟨k,j,none⟩) (nL hk hB))
theorem Built.store {w:World} {lo r b:Nat} (h:Built w lo r) (hb:b<lo) (j:Nat) (v:Value):Built (w.setCell ⟨b,j,none⟩ v) lo r :=
 h.agree (by simp) (fun k i hk _=>World.cell?_setCell_other _ _ _ _ (fun e=>by have:=congrArg Addr.block e;simp only at this;omega)) (fun k i _ _=>by rw [World.frozen?_setCell])
theorem one_str (w:World) (o:Obj) (l:List UInt8) (j:Nat) (u:Value) (h:[Value.string (bs l)][j]? = some u):((w.alloc o).alloc (.cells #[.string (bs l)] 9)).cell? ((⟨w.heap.size+1,0,none⟩:Addr).add j)=some u:=by
 have:=new_cells (w.alloc o) #[.string (bs l)] 9 (0,0) j u h;rwa [World.size_alloc] at this
set_option maxHeartbeats 4000000 in
theorem build_any (b b1 o1 c1:Nat) (w:World) (h4:w.cell? ⟨b,4,none⟩=some (.slice (some ⟨b1,o1,none⟩) 6 c1)) (h6:Six w b1 o1) :
  Calls Tryz.prog 100 #[.pointer (some ⟨b,0,none⟩)] w fun e w'=>∃ r,e=.returned (.iface 161 (.pointer (some ⟨r,0,none⟩)))∧Built w' w.heap.size r∧Below w.heap.size w w':=by
 obtain ⟨i0,hi,hz0,hz1,hz2⟩:=info_parts str_info;have H6:=hid h6;obtain ⟨hlt,s0,s1,s2,s3,s4,s5⟩:=h6;go_enter Tryz.func100,Tryz.ntmps100
 go_wp2_with fail;refine wp_loop_rounds 4 ?_
 iterate 3 (rw [rounds_succ];go_wp2_with fail)
 rw [rounds_succ];go_wp2_with (at_make;go_must (refine wpList_make_own _ rfl _ _ 48 rfl w.heap.size 9 i0 (.string ⟨#[]⟩) 1 Tryz.underlying48 hi hz0 hz1 .i64 .i64 _ 3 rfl rfl rfl (by rw [hz2];decide) (by decide) (Nat.le_refl _) ?_);intro w0 hown0 hgrow0;go_must (refine wpList_buildTo rfl 160 _ rfl (some 95) rfl (nils (.slice (some ⟨w.heap.size,0,none⟩) 0 3)) (by kernel_rfl) ?_);go_must (refine Go.Great.wpList_runTo rfl (some 11) rfl (.pointer (some ⟨w0.heap.size,0,none⟩)) (w0.alloc (.cells (nils (.slice none 0 0)) 160)) (by kernel_rfl) ?_);go_must (refine wpList_store_rowTo rfl 160 _ _ rfl rfl w0.heap.size (nils (.slice (some ⟨w.heap.size,0,none⟩) 0 3)) (by kernel_rfl) (by kernel_rfl) 160 (nils (.slice none 0 0)) Array.getElem?_push_size (by kernel_rfl) rfl (nils_one _ _ _) ?_))
 have hnR:w.heap.size<w0.heap.size:=(hown0.lt _ rfl).2;obtain ⟨htab,htv⟩:=tab_new (w0.alloc (.cells (nils (.slice none 0 0)) 160)) w0.heap.size Array.getElem?_push_size (.slice (some ⟨w.heap.size,0,none⟩) 0 3);have hB0:Below w0.heap.size w0 ((w0.alloc (.cells (nils (.slice none 0 0)) 160)).setRow w0.heap.size (nils (.slice (some ⟨w.heap.size,0,none⟩) 0 3))):=below_setRow ((Below.refl _ _).alloc (Nat.le_refl _) _) (Nat.le_refl _) _;have hown:=ownsRow_below hown0 hB0;have hBw:Below w.heap.size w ((w0.alloc (.cells (nils (.slice none 0 0)) 160)).setRow w0.heap.size (nils (.slice (some ⟨w.heap.size,0,none⟩) 0 3))):=((Below.refl _ w).grown hgrow0 (Nat.le_refl _) (by intro k hk;cases hk)).trans (hB0.mono (Nat.le_of_lt hnR));clear hown0 hgrow0 hB0;generalize (w0.alloc (.cells (nils (.slice none 0 0)) 160)).setRow w0.heap.size (nils (.slice (some ⟨w.heap.size,0,none⟩) 0 3))=W0 at *;generalize w0.heap.size=R at *;have HS0:=hid hBw;have HT0:=hid (And.intro htab (And.intro htv hown));clear htab htv hown hBw h4 s0 s1 s2 s3 s4 s5;go_loopw [12] (fun i wr=>∃ m:Nat,m≤3∧i=.int .i64 (4 - 2 * (m:Int))∧Hid (TabAt wr R (takenB m)∧wr.cell? ⟨R,256,none⟩=some (.slice (some ⟨w.heap.size,0,none⟩) m 3)∧wr.ownsRow w.heap.size 9 1 (.slice (some ⟨w.heap.size,0,none⟩) m 3) m (strCells (ones (takenB m))))∧Hid (Below w.heap.size w wr)) (fun i _=>(intOf i+2).toNat)
 case atStart=>exact ⟨0,by omega,rfl,HT0,HS0⟩
 case round =>
  obtain ⟨m,hm3,rfl,HT,HB⟩:=hrel;obtain ⟨htab,htv,hown⟩:=HT.out;by_cases hlt3:m<3
  ·have h6r:=H6.out.past HB.out (Nat.le_refl _);obtain ⟨t0,t1,e1,e2,e3⟩:=h6r.round m hlt3;have hnon:=htab.non _ e2;have hfr:=htab.free;have hRl:=htab.lt;have hx256:=(takes m).toNat_lt;have E1:=hid e1;have E2:=hid e2;have hti:((4:Int) - 2 * (m:Int))=((4 - 2 * m:Nat):Int):=by omega
   have hi5:4 - 2 * m+1<6:=by omega
   have Hm:Hid ((4 - 2 * m:Nat)+2 * m=4):=hid (by omega);obtain ⟨x,hxe⟩:∃ x,takes m=x:=⟨_,rfl⟩;obtain ⟨tx,htx⟩:∃ tx,escB (takes m)=tx:=⟨_,rfl⟩;rw [htx] at t1 e3;rw [hxe] at t0 hnon hx256 E1 E2 htx;have Htx:=hid htx;rw [hti];generalize 4 - 2 * m=i at *;have hi1:((i:Int)+1).toNat=i+1:=by omega
   have hz256:wr.frozen? ⟨R,256,none⟩=false:=hfr 256;have hzx:wr.frozen? ⟨R,x.toNat,none⟩=false:=hfr x.toNat;have hcv:=run_conv_at (one_byte wr x);have HTr:=hid htab;have Hown:=hid hown;clear h6r e1 e2 hxe htx hti hown htab hfr;have hnil:∀ W:World,(binOp .eql 41 (.slice none 0 0) (.slice none 0 0)).run Tryz.prog W=.ok (.bool true) W:=fun W=>by kernel_rfl
   go_wp2_with (at_builtin;go_must (refine wpList_append_fits _ rfl _ _ 48 rfl w.heap.size 9 i0 1 Tryz.underlying48 hi hz1 w.heap.size m 3 (strCells (ones (takenB m))) rfl ?own ⟨wr.heap.size+1,0,none⟩ 1 1 [.string (bs [x])] rfl rfl ?hc (by simp [Value.oneCell']) (by omega) ?_))
   case own=>exact ((Hown.out.alloc _).alloc _)
   case hc=>exact fun j u hj=>one_str _ _ _ j u hj
   intro w3 hown3 hgrow3;have hRne:∀ j:Nat,w3.cell? ⟨R,j,none⟩=wr.cell? ⟨R,j,none⟩:=fun j=>by
    have h1:w3.heap[R]? = ((wr.alloc (.cells #[.int .u8 x.toNat] 5)).alloc (.cells #[.string (bs [x])] 9)).heap[R]?:=hgrow3.block R (by simp;omega) (by simp;omega);have h2:=(((Below.refl wr.heap.size wr).alloc (Nat.le_refl _) (.cells #[.int .u8 x.toNat] 5)).alloc (by simp) (.cells #[.string (bs [x])] 9)).block R hRl;simp only [World.cell?,h1,h2]
   have htv3:=(hRne 256).trans htv;have HT3:Hid (TabAt w3 R (takenB m)):=hid ((HTr.out.past (((Below.refl wr.heap.size wr).alloc (Nat.le_refl _) _).alloc (by simp) _) (Nat.le_refl _)).grown hgrow3 hnR);have hz3:w3.frozen? ⟨R,256,none⟩=false:=HT3.out.free 256;have HB3:Hid (Below w.heap.size w w3):=hid (((HB.out.alloc (HB.out.size) _).alloc (by simp;have:=HB.out.size;omega) _).grown hgrow3 (by simp;have:=HB.out.size;omega) (by intro k hk;cases hk;exact Nat.le_refl _));have Hown3:=hid hown3;have hR3:=HT3.out.lt;clear hown3 hgrow3 hRne htv hnon hz256 hzx hcv t0 t1;go_wp2_with (refine wpList_conv_bytes rfl _ rfl tx 2 e3 (by omega) rfl ?_;intro k5 w5 hk51 hk52 hcell5 hsz5 hb5;have HT5:=hid ((HT3.out.store (.slice (some ⟨w.heap.size,0,none⟩) (m+1) 3)).past hb5 (Nat.le_refl _));have hcx5:=HT5.out.non x E2.out;have hzx5:w5.frozen? ⟨R,x.toNat,none⟩=false:=HT5.out.free x.toNat)
   have hgt:R<w3.heap.size:=hR3;have HT6:TabAt (w5.setCell ⟨R,x.toNat,none⟩ (.slice (some ⟨w3.heap.size,0,none⟩) 2 k5)) R (takenB (m+1)):=by
    rw [E1.out];refine HT5.out.more E2.out _ k5 hk51 hk52 (by simpa using hsz5) hgt ?_;intro j u hj;rw [Htx.out] at hj;simpa using hcell5 j u hj
   have hne:(⟨R,x.toNat,none⟩:Addr)≠⟨R,256,none⟩:=fun e=>by
    have:=congrArg Addr.off e;simp only at this;omega
   have htv5:w5.cell? ⟨R,256,none⟩=some (.slice (some ⟨w.heap.size,0,none⟩) (m+1) 3):=(hb5.cell (p:=⟨R,256,none⟩) (by simpa using hgt)).trans (World.cell?_setCell_same' _ _ _ (by rw [htv3];rfl));have hown6:=ownsRow_setCell_other (ownsRow_below (ownsRow_setCell_other Hown3.out (a:=⟨R,256,none⟩) (by simp [Value.ownBlock];omega) (.slice (some ⟨w.heap.size,0,none⟩) (m+1) 3)) hb5) (a:=⟨R,x.toNat,none⟩) (by simp [Value.ownBlock];omega) (.slice (some ⟨w3.heap.size,0,none⟩) 2 k5);have hones:strCells (ones (takenB m))++[.string (bs [x])]=strCells (ones (takenB (m+1))):=by rw [E1.out];simp [ones,strCells]
   rw [hones] at hown6;have hHm:=Hm.out;refine ⟨⟨m+1,by omega,by congr 1;omega,hid ⟨HT6,(World.cell?_setCell_other _ _ _ _ hne).trans htv5,hown6⟩,hid (((HB3.out.setCell (p:=⟨R,256,none⟩) (Nat.le_of_lt hnR) _).trans (hb5.mono (by simp;omega))).setCell (p:=⟨R,x.toNat,none⟩) (Nat.le_of_lt hnR) _)⟩,by simp [intOf];omega⟩
  ·obtain rfl:m=3:=by omega
   have HE:Hid (Built wr w.heap.size R):=hid (by
    obtain ⟨hl,a,c,he,hc,hm,_,hx⟩:=SliceAt.of_owns hown (by decide);obtain ⟨n,o,rfl,hlt',hcl⟩:=hx (by decide);cases he
    exact ⟨htab,Nat.le_of_lt hnR,_,_,htv,hc,hm,Nat.le_refl _,hlt',fun j u hj=>by simpa using hcl j u hj⟩)
   clear htab htv hown HT;go_wp2_with fail;go_ret;exact ⟨R,rfl,HE.out,HB.out⟩
theorem Repl.put0 {w:World} {b:Nat} {d st:Int} {r v:Value} (h:Repl w b d st r v) (n:Int):Repl (w.setCell ⟨b,0,none⟩ (.int .u32 n)) b n st r v :=
 ⟨World.cell?_setCell_same' _ _ _ (by rw [h.c0];rfl),(World.cell?_setCell_other _ _ _ _ (by simp)).trans h.c1,(World.cell?_setCell_other _ _ _ _ (by simp)).trans h.c2,(World.cell?_setCell_other _ _ _ _ (by simp)).trans h.c3,(World.cell?_setCell_other _ _ _ _ (by simp)).trans h.c4,fun j=>by rw [World.frozen?_setCell];exact h.fr j⟩
theorem Repl.put1 {w:World} {b:Nat} {d st:Int} {r v:Value} (h:Repl w b d st r v) (n:Int):Repl (w.setCell ⟨b,1,none⟩ (.int .i32 n)) b d n r v :=
 ⟨(World.cell?_setCell_other _ _ _ _ (by simp)).trans h.c0,World.cell?_setCell_same' _ _ _ (by rw [h.c1];rfl),(World.cell?_setCell_other _ _ _ _ (by simp)).trans h.c2,(World.cell?_setCell_other _ _ _ _ (by simp)).trans h.c3,(World.cell?_setCell_other _ _ _ _ (by simp)).trans h.c4,fun j=>by rw [World.frozen?_setCell];exact h.fr j⟩
theorem Repl.put3 {w:World} {b:Nat} {d st:Int} {r v:Value} (h:Repl w b d st r v) (x:Value):Repl (w.setCell ⟨b,3,none⟩ x) b d st x v :=
 ⟨(World.cell?_setCell_other _ _ _ _ (by simp)).trans h.c0,(World.cell?_setCell_other _ _ _ _ (by simp)).trans h.c1,(World.cell?_setCell_other _ _ _ _ (by simp)).trans h.c2,World.cell?_setCell_same' _ _ _ (by rw [h.c3];rfl),(World.cell?_setCell_other _ _ _ _ (by simp)).trans h.c4,fun j=>by rw [World.frozen?_setCell];exact h.fr j⟩
theorem Repl.put4 {w:World} {b:Nat} {d st:Int} {r v:Value} (h:Repl w b d st r v) (x:Value):Repl (w.setCell ⟨b,4,none⟩ x) b d st r x :=
 ⟨(World.cell?_setCell_other _ _ _ _ (by simp)).trans h.c0,(World.cell?_setCell_other _ _ _ _ (by simp)).trans h.c1,(World.cell?_setCell_other _ _ _ _ (by simp)).trans h.c2,(World.cell?_setCell_other _ _ _ _ (by simp)).trans h.c3,World.cell?_setCell_same' _ _ _ (by rw [h.c4];rfl),fun j=>by rw [World.frozen?_setCell];exact h.fr j⟩
def Ready (w:World) (b:Nat) (d st:Int):Prop:=∃ r,Repl w b d st (.iface 161 (.pointer (some ⟨r,0,none⟩))) (.slice none 0 0)∧∃ lo,b<lo∧Built w lo r
set_option maxHeartbeats 1000000 in
theorem buildOnce_any (b b1 o1 c1:Nat) (d st:Int) (r0:Value) (w:World) (hr:Repl w b d st r0 (.slice (some ⟨b1,o1,none⟩) 6 c1)) (h6:Six w b1 o1) :
  Calls Tryz.prog 60 #[.pointer (some ⟨b,0,none⟩)] w fun e w'=>e=.returned (.tuple #[])∧Ready w' b d st∧Below b w w':=by
 have hlt:b<w.heap.size:=World.block_lt_of_cell? w _ hr.c0;have Hr:=hid hr;have H6:=hid h6;clear hr h6;go_enter Tryz.func60,Tryz.ntmps60
 go_wp2_with (go_at_call 100;refine (build_any b b1 o1 c1 _ Hr.out.c4 H6.out).mono ?_;rintro e w1 ⟨r,rfl,hB,hb1⟩;have HR1:=hid (Hr.out.past hb1 hlt);have HBu:=hid hB;have q3:=HR1.out.c3;have q4:=HR1.out.c4;have z3:=HR1.out.fr 3;have z4:=HR1.out.fr 4;clear hB)
 go_end0
 exact ⟨rfl,⟨r,(HR1.out.put3 _).put4 _,w.heap.size,hlt,(HBu.out.store hlt 3 _).store hlt 4 _⟩,((hb1.mono (Nat.le_of_lt hlt)).setCell (Nat.le_refl _) _).setCell (Nat.le_refl _) _⟩
theorem bload_any (a:Addr) (x:Int) (w:World) (hc:w.cell? a=some (.int .u32 x)) :
  Calls Tryz.prog 98 #[.pointer (some a)] w fun e w'=>e=.returned (.bool (x != 0))∧w'=w:=by
 have hl:=run_call_load (P:=Tryz.prog) Tryz.func132 (by kernel_rfl) (by kernel_rfl) (by kernel_rfl) .u32 (by kernel_rfl) (w:=w) (a:=a) (x:=x) hc;go_enter Tryz.func98,Tryz.ntmps98
 go_wp2
 go_ret;exact ⟨rfl,rfl⟩
set_option maxHeartbeats 2000000 in
theorem slow_any (b b1 o1 c1:Nat) (r0:Value) (w:World) (hr:Repl w b 0 0 r0 (.slice (some ⟨b1,o1,none⟩) 6 c1)) (h6:Six w b1 o1) (hb1b:b1≠b) :
  Calls Tryz.prog 99 #[.pointer (some ⟨b,0,none⟩),.func (.func 60) #[.pointer (some ⟨b,0,none⟩)] #[]] w fun e w'=>e=.returned (.tuple #[])∧Ready w' b 1 0∧Below b w w':=by
 have Hr:=hid hr;have hc1':=hr.c1;have hz1':=hr.fr 1;have HrL:=hid (hr.put1 1);have H6L:Hid (Six (w.setCell ⟨b,1,none⟩ (.int .i32 1)) b1 o1):=hid (by
  have hn:∀ j:Nat,(⟨b,1,none⟩:Addr)≠⟨b1,j,none⟩:=fun j e=>hb1b (congrArg Addr.block e).symm
  exact ⟨by simpa using h6.lt,(World.cell?_setCell_other _ _ _ _ (hn _)).trans h6.s0,(World.cell?_setCell_other _ _ _ _ (hn _)).trans h6.s1,(World.cell?_setCell_other _ _ _ _ (hn _)).trans h6.s2,(World.cell?_setCell_other _ _ _ _ (hn _)).trans h6.s3,(World.cell?_setCell_other _ _ _ _ (hn _)).trans h6.s4,(World.cell?_setCell_other _ _ _ _ (hn _)).trans h6.s5⟩)
 clear hr h6;have hnot:∀ (x:Bool) (w:World),(Op.unary .not (.bool x)).run Tryz.prog w=.ok (.bool (!x)) w:=fun _ _=>rfl
 go_enter_defers Tryz.func99,Tryz.ntmps99
 go_wp2_with (first
  | (go_at_call 133;refine (lock_free ⟨b,1,none⟩ _ hc1' hz1').mono ?_;rintro e w' ⟨rfl,rfl⟩)
  | (go_at_call 98;refine (bload_any ⟨b,0,none⟩ 0 _ HrL.out.c0).mono ?_;rintro e w' ⟨rfl,rfl⟩)
  | (go_at_call 60;refine (buildOnce_any b b1 o1 c1 0 1 r0 _ HrL.out H6L.out).mono ?_;rintro e w2 ⟨rfl,hrd,hb2⟩))
 obtain ⟨r,hR2,lo,hlo,hBu⟩:=hrd;have hlt2:b<w2.heap.size:=World.block_lt_of_cell? w2 _ hR2.c0;have hR2d:=hR2.past ((Below.refl w2.heap.size w2).drew) hlt2;have hR3:=hR2d.put0 1;have hB3:=(hBu.past ((Below.refl w2.heap.size w2).drew) (Nat.le_refl _)).store hlo 0 (.int .u32 1);refine leaves_cons (f:=135) (args:=#[.pointer (some ⟨b,0,none⟩),.bool true]) (by simp) (by simp [go_sem]) ?_;refine (store_deferred ⟨b,0,none⟩ (.int .u32 0) .returning _ hR2.c0 (hR2.fr 0)).mono ?_;rintro e u' w'' ⟨rfl,rfl,rfl⟩;refine leaves_cons (f:=134) (args:=#[.pointer (some ⟨b,1,none⟩)]) (by simp [settle]) (by simp [go_sem]) ?_;refine (unlock_deferred ⟨b,1,none⟩ _ _ hR3.c1 (hR3.fr 1)).mono ?_;rintro e u' w'' ⟨rfl,rfl,rfl⟩;have HE:Hid (Ready ((w2.drew.setCell ⟨b,0,none⟩ (.int .u32 1)).setCell ⟨b,1,none⟩ (.int .i32 0)) b 1 0∧Below b w ((w2.drew.setCell ⟨b,0,none⟩ (.int .u32 1)).setCell ⟨b,1,none⟩ (.int .i32 0))) :=
  hid ⟨⟨r,hR3.put1 0,lo,hlo,hB3.store hlo 1 _⟩,(((((Below.refl b w).setCell (p:=⟨b,1,none⟩) (Nat.le_refl _) _).trans hb2).drew).setCell (p:=⟨b,0,none⟩) (Nat.le_refl _) _).setCell (p:=⟨b,1,none⟩) (Nat.le_refl _) _⟩
 simp [Leaves,settle,results,Tryz.f99];exact HE.out
set_option maxHeartbeats 1000000 in
theorem do_any (b b1 o1 c1:Nat) (r0:Value) (w:World) (hr:Repl w b 0 0 r0 (.slice (some ⟨b1,o1,none⟩) 6 c1)) (h6:Six w b1 o1) (hb1b:b1≠b) :
  Calls Tryz.prog 59 #[.pointer (some ⟨b,0,none⟩),.func (.func 60) #[.pointer (some ⟨b,0,none⟩)] #[]] w fun e w'=>e=.returned (.tuple #[])∧Ready w' b 1 0∧Below b w w':=by
 have Hr:=hid hr;have H6:=hid h6;clear hr h6;go_enter Tryz.func59,Tryz.ntmps59
 go_wp2_with (first
  | (go_at_call 98;refine (bload_any ⟨b,0,none⟩ 0 _ Hr.out.c0).mono ?_;rintro e w' ⟨rfl,rfl⟩)
  | (go_at_call 99;refine (slow_any b b1 o1 c1 r0 _ Hr.out H6.out hb1b).mono ?_;rintro e w2 ⟨rfl,hrd,hb2⟩))
 go_end0
 exact ⟨rfl,hrd,hb2⟩
theorem esc_ten {c:UInt8} (h:c.toNat=10):escB c=[92,110]:=by unfold escB;rw [if_pos h]
theorem esc_two {c:UInt8} (h1:c.toNat≠10) (h:c.toNat=34∨c.toNat=92):escB c=[92,c]:=by unfold escB;rw [if_neg h1,if_pos h]
theorem esc_one {c:UInt8} (h1:c.toNat≠10) (h:¬ (c.toNat=34∨c.toNat=92)):escB c=[c]:=by unfold escB;rw [if_neg h1,if_neg h]
theorem bad_ten {c:UInt8} (h:c.toNat=10):badQ c=false:=by simp [badQ,h]
theorem bad_yes {c:UInt8} (h:c.toNat≠10) (h2:c.toNat<32∨c.toNat=127):badQ c=true:=by
 rcases h2 with h2 | h2 <;> simp [badQ,h,h2]
theorem bad_not {c:UInt8} (h2:¬ (c.toNat<32∨c.toNat=127)):badQ c=false:=by
 have h3:¬ c.toNat<32:=fun h=>h2 (.inl h)
 have h4:c.toNat≠127:=fun h=>h2 (.inr h)
 simp [badQ,h3,h4]
def QAt (s:List UInt8) (k:Nat) (out:List UInt8):Prop:=out=34::(s.take k).flatMap escB∧(s.take k).any badQ=false
theorem QAt.step {s:List UInt8} {k:Nat} (h:k<s.length) {out t:List UInt8} (ho:QAt s k out) (hb:badQ s[k]=false) (he:escB s[k]=t):QAt s (k+1) (out++t):=by
 obtain ⟨rfl,hq⟩:=ho;subst he;refine ⟨by rw [take_at s k h];simp only [List.flatMap_append,List.flatMap_cons,List.flatMap_nil,List.append_nil,List.cons_append],?_⟩;rw [take_at s k h,List.any_append,hq];simp [hb]
theorem quote_bad {s:List UInt8} {k:Nat} (h:k<s.length) (hb:badQ s[k]=true):quoteL s=[]:=by
 unfold quoteL;rw [if_pos (List.any_eq_true.2 ⟨s[k],List.getElem_mem h,hb⟩)]
theorem QAt.end {s out:List UInt8} (h:QAt s s.length out):quoteL s=out++[34]:=by
 obtain ⟨rfl,hq⟩:=h;rw [List.take_length] at hq ⊢;unfold quoteL;rw [hq];simp
def hit (c:UInt8):Bool:=decide (c ∈ takenB 3)
theorem hit_iff (c:UInt8):hit c=true ↔ c.toNat=10∨c.toNat=92∨c.toNat=34:=by
 have h:∀ d:UInt8,c=d ↔ c.toNat=d.toNat:=fun d=>UInt8.toNat_inj.symm
 simp [hit,takenB,h]
theorem mem_of_hit {c:UInt8} (h:hit c=true):c ∈ takenB 3:=of_decide_eq_true h
theorem not_of_hit {c:UInt8} (h:hit c=false):c ∉ takenB 3:=of_decide_eq_false h
theorem esc_hit {c:UInt8} (h:hit c=true):(escB c).length=2:=by
 rcases (hit_iff c).1 h with e | e | e
 ·rw [esc_ten e];rfl
 ·rw [esc_two (by omega) (.inr e)];rfl
 ·rw [esc_two (by omega) (.inl e)];rfl
theorem esc_not {c:UInt8} (h:hit c=false):escB c=[c]:=by
 have h':¬ (c.toNat=10∨c.toNat=92∨c.toNat=34):=fun e=>by rw [(hit_iff c).2 e] at h;cases h
 exact esc_one (fun e=>h' (.inl e)) (fun e=>h' (e.elim (fun e=>.inr (.inr e)) (fun e=>.inr (.inl e))))
theorem esc_hit_len (c:UInt8):(escB c).length=1+(if hit c=true then 1 else 0):=by
 cases h:hit c with
 | true=>rw [esc_hit h];rfl
 | false=>rw [esc_not h];rfl
def sizeB (s:List UInt8) (k:Nat):Nat:=s.length+((s.take k).countP hit)
theorem sizeB_step {s:List UInt8} {k:Nat} (h:k<s.length):sizeB s (k+1)=sizeB s k+(if hit s[k]=true then 1 else 0):=by
 unfold sizeB;rw [take_at s k h,List.countP_append,List.countP_singleton];omega
theorem flat_len (s:List UInt8):(s.flatMap escB).length=s.length+s.countP hit:=by
 induction s with
 | nil=>rfl
 | cons c r ih=>rw [List.flatMap_cons,List.length_append,ih,esc_hit_len,List.countP_cons,List.length_cons];omega
theorem sizeB_end (s:List UInt8):sizeB s s.length=(s.flatMap escB).length:=by rw [flat_len,sizeB,List.take_length]
theorem any_step {s:List UInt8} {k:Nat} (h:k<s.length):(s.take (k+1)).any hit=((s.take k).any hit || hit s[k]):=by
 rw [take_at s k h,List.any_append];simp
theorem flat_same:∀ {s:List UInt8},s.any hit=false→s.flatMap escB=s
 | [],_=>rfl
 | c::r,h=>by
   rw [List.any_cons,Bool.or_eq_false_iff] at h;rw [List.flatMap_cons,esc_not h.1,flat_same h.2];rfl
def sizeC (s:List UInt8) (k:Nat):Nat:=s.length+((takenB k).map (fun x=>s.count x)).sum
def anyC (s:List UInt8) (k:Nat):Bool:=(takenB k).any (fun x=>s.count x != 0)
theorem count_three (s:List UInt8):s.countP hit=s.count 10+s.count 92+s.count 34:=by
 induction s with
 | nil=>rfl
 | cons c r ih =>
   simp only [List.countP_cons,List.count_cons,ih];have hb:∀ d:UInt8,(c == d)=decide (c=d):=fun d=>by by_cases h:c=d <;> simp [h]
   simp only [hb];by_cases h1:c=10
   ·subst h1;simp [hit,takenB];omega
   ·by_cases h2:c=92
    ·subst h2;simp [hit,takenB];omega
    ·by_cases h3:c=34
     ·subst h3;simp [hit,takenB];omega
     ·simp [hit,takenB,h1,h2,h3]
theorem sizeC_end (s:List UInt8):sizeC s 3=(s.flatMap escB).length:=by
 rw [flat_len,count_three];simp [sizeC,takenB];omega
theorem anyC_end (s:List UInt8):anyC s 3=s.any hit:=by
 have h:=count_three s;have h1:s.any hit=(s.countP hit != 0):=by
  cases h2:s.any hit with
  | false =>
    have:s.countP hit=0:=List.countP_eq_zero.2 (fun a ha=>by
     have:=List.any_eq_false.1 h2 a ha;exact this)
    simp [this]
  | true =>
    obtain ⟨a,ha,hh⟩:=List.any_eq_true.1 h2;have:0<s.countP hit:=List.countP_pos_iff.2 ⟨a,ha,hh⟩;have hne:s.countP hit≠0:=by omega
    simp [hne]
 rw [h1,h];have e:anyC s 3=((s.count 10 != 0) || ((s.count 92 != 0) || (s.count 34 != 0))):=by simp [anyC,takenB]
 rw [e];generalize s.count 10=a;generalize s.count 92=b;generalize s.count 34=c;cases a <;> cases b <;> cases c <;> first | rfl | (simp [bne];done) | (apply Eq.symm;simp;omega) | (simp;omega)
theorem sizeC_step (s:List UInt8) (k:Nat) (h:k<3):sizeC s (k+1)=sizeC s k+s.count (takes k)∧anyC s (k+1)=(anyC s k || (s.count (takes k) != 0)):=by
 obtain rfl | rfl | rfl:k=0∨k=1∨k=2:=by omega
 ·exact ⟨by simp [sizeC,takenB,takes],by simp [anyC,takenB,takes]⟩
 ·exact ⟨by simp [sizeC,takenB,takes];omega,by simp [anyC,takenB,takes]⟩
 ·exact ⟨by simp [sizeC,takenB,takes];omega,by simp [anyC,takenB,takes,Bool.or_assoc]⟩
theorem sizeC_le (s:List UInt8) (k:Nat) (h:k≤3):sizeC s k≤4 * s.length:=by
 have h1:s.count 10≤s.length:=List.count_le_length;have h2:s.count 92≤s.length:=List.count_le_length;have h3:s.count 34≤s.length:=List.count_le_length;obtain rfl | rfl | rfl | rfl:k=0∨k=1∨k=2∨k=3:=by omega
 all_goals simp [sizeC,takenB];omega
theorem sizeB_le (s:List UInt8) (k:Nat):sizeB s k≤2 * s.length:=by
 have h1:(s.take k).countP hit≤(s.take k).length:=List.countP_le_length;rw [List.length_take] at h1;unfold sizeB;omega
theorem count_le (s:List UInt8) (x:UInt8):s.count x≤s.length:=List.count_le_length
theorem flat_step {s:List UInt8} {k:Nat} (h:k<s.length):(s.take (k+1)).flatMap escB=(s.take k).flatMap escB++escB s[k]:=by
 rw [take_at s k h,List.flatMap_append];simp only [List.flatMap_cons,List.flatMap_nil,List.append_nil]
theorem flat_fit {s:List UInt8} {k:Nat} (h:k<s.length):((s.take k).flatMap escB).length+(escB s[k]).length≤(s.flatMap escB).length:=by
 have h1:s.flatMap escB=(s.take (k+1)).flatMap escB++(s.drop (k+1)).flatMap escB:=by rw [← List.flatMap_append,List.take_append_drop]
 rw [h1,flat_step h];simp only [List.length_append];omega
theorem own_list {w:World} {base:Nat} {e:TypeId} {a:Addr} {n c:Nat} {xs:List Value} (h:w.ownsRow base e 1 (.slice (some a) n c) n xs):∃ L:List Value,w.heap[a.block]? = some (.cells L.toArray e (0,0))∧L.length=c:=by
 obtain ⟨_,h | ⟨g,cap,cur,he,_,hh,_,_,hc,_⟩⟩:=h
 ·cases h.1
 ·cases he
  exact ⟨cur.toList,by simpa using hh,by simpa using hc⟩
theorem quote_flat {s:List UInt8} (h:s.any badQ=false):quoteL s=34::(s.flatMap escB++[34]):=by
 unfold quoteL;rw [h];rfl
theorem count_any (s:List UInt8) (x:UInt8) (w:World) :
  Calls Tryz.prog 57 #[.string (bs s),.string (bs [x])] w fun e w'=>e=.returned (.int .i64 (s.count x:Nat))∧w'=w:=by
 refine (Tryz.strings_Count_one (bs s) x w).mono ?_;rintro e w' ⟨rfl,rfl⟩;exact ⟨rfl,rfl⟩
theorem nil_ne (a:Option Addr) (k:Nat) (W:World) (h:a≠none):(binOp .neq 41 (.slice a 2 k) (.slice none 0 0)).run Tryz.prog W=.ok (.bool true) W:=by
 cases a with
 | none=>exact absurd rfl h
 | some a=>kernel_rfl
theorem nil_eq (W:World):(binOp .neq 41 (.slice none 0 0) (.slice none 0 0)).run Tryz.prog W=.ok (.bool false) W:=by kernel_rfl
theorem ones_at (k:Nat) (h:k<3):(strCells (ones (takenB 3)))[k]? = some (.string (bs [takes k]))∧takes k ∈ takenB 3:=by
 obtain rfl | rfl | rfl:k=0∨k=1∨k=2:=by omega
 ·exact ⟨rfl,by decide⟩
 ·exact ⟨rfl,by decide⟩
 ·exact ⟨rfl,by decide⟩
set_option maxHeartbeats 4000000 in
theorem run_any (s:List UInt8) (hs:s.length≤1000000000) (lo r:Nat) (w:World) (hB:Built w lo r) :
  Calls Tryz.prog 229 #[.pointer (some ⟨r,0,none⟩),.string (bs s)] w fun e w'=>e=.returned (.string (bs (s.flatMap escB)))∧Below w.heap.size w w':=by
 obtain ⟨htab,hlo,n0,cp,h256,hcp,hcm,hln,hn0,hreps⟩:=hB;have HTab:=hid htab;have Hreps:=hid hreps;clear htab hreps;obtain ⟨i8,hj,hj0,hj1,hj2⟩:=info_parts u8_info;have hNle:(s.flatMap escB).length≤2 * s.length:=by
  have:=sizeB_le s s.length;rwa [sizeB_end] at this
 unfold maxLen at hcm;by_cases h24:24≤s.length
 ·have h24':(24:Int)≤(s.length:Int):=by omega
  go_enter Tryz.func229,Tryz.ntmps229
  go_wp2_with fail;go_loopw [5,6,32] (fun n c i wr=>∃ k:Nat,k≤3∧i=.int .i64 k∧n=.int .i64 (sizeC s k)∧c=.bool (anyC s k)∧Drawn w wr) (fun _ _ i _=>3 - (intOf i).toNat)
  case atStart=>exact ⟨0,by omega,rfl,by simp [sizeC,takenB],by simp [anyC,takenB],Drawn.refl _⟩
  case round =>
   obtain ⟨k,hk,rfl,rfl,rfl,d,rfl⟩:=hrel;by_cases hlt:k<3
   ·obtain ⟨hs1,ha1⟩:=sizeC_step s k hlt;obtain ⟨ho1,hmem⟩:=ones_at k hlt;have hcell:=Hreps.out k _ ho1;have hcl:=count_le s (takes k);have hsz:=sizeC_le s k hk;obtain ⟨g,k',ht,hk1,hk2,-,-,-⟩:=HTab.out.has _ hmem;have hx256:=(takes k).toNat_lt;have Hs1:=hid hs1;have Ha1:=hid ha1;clear hs1 ha1 ho1 hmem;generalize takes k=x at *;by_cases hcz:s.count x=0
    ·have q1:((s.count x:Int) != 0)=false:=neF (by omega);go_wp2_with (go_at_call 57;refine (count_any s x _).mono ?_;rintro e w' ⟨rfl,rfl⟩)
     refine ⟨⟨k+1,by omega,by go_num,?_,?_,⟨d,rfl⟩⟩,by simp [intOf];omega⟩
     ·rw [Hs1.out,hcz];rfl
     ·rw [Ha1.out,hcz];simp
    ·have q1:((s.count x:Int) != 0)=true:=neT (by omega);go_wp2_with (go_at_call 57;refine (count_any s x _).mono ?_;rintro e w' ⟨rfl,rfl⟩)
     any_goals go_quiet (fail)
     any_goals go_wp2_with fail
     refine ⟨⟨k+1,by omega,by go_num,?_,?_,⟨_,rfl⟩⟩,by simp [intOf];omega⟩
     ·rw [Hs1.out];go_num
     ·have hb:(s.count x != 0)=true:=by simp [hcz]
      rw [Ha1.out,hb];simp
   ·obtain rfl:k=3:=by omega
    rw [sizeC_end s,anyC_end s];obtain ⟨N,hN⟩:∃ N,(s.flatMap escB).length=N:=⟨_,rfl⟩;rw [hN] at hNle ⊢;have HN:=hid hN;clear hN;have hfl:s.any hit=false→s.flatMap escB=s:=flat_same;cases ha:s.any hit with
    | false =>
      have HE:=hid (hfl ha);clear hfl;go_wp2_with fail;go_ret;exact ⟨by rw [HE.out];rfl,Drawn.below ⟨d,rfl⟩⟩
    | true =>
      clear hfl ha;go_wp2_with (at_make;go_must (refine wpList_make_full _ rfl _ _ 41 rfl w.heap.size 5 i8 (.int .u8 0) 1 Tryz.underlying41 hj hj0 hj1 .i64 .i64 _ _ N rfl rfl rfl rfl (by rw [hj2];omega) (by unfold maxLen;omega) (Nat.le_refl _) ?_);intro w0 hown0 hgrow0)
      have hBw0:Below w.heap.size w w0:=(Drawn.below ⟨d,rfl⟩).trans (((Below.refl w.heap.size (w.drewN d)).grown hgrow0 (by simp) (by intro k hk;cases hk)));obtain ⟨L0,hL0,hLn⟩:=own_list hown0;have HL0:=hid (show _∧_∧List.take 0 L0=Lib.byteCells [] from ⟨hL0,hLn,rfl⟩);have HB0:=hid hBw0;clear hown0 hgrow0 hL0 hLn hBw0;go_loopw [13,14] (fun j i wr=>∃ (k:Nat) (L:List Value),k≤s.length∧i=.int .i64 k∧j=.int .i64 ((s.take k).flatMap escB).length∧Hid (wr.heap[w.heap.size]? = some (.cells L.toArray 5 (0,0))∧L.length=N∧L.take ((s.take k).flatMap escB).length=Lib.byteCells ((s.take k).flatMap escB))∧Hid (Below w.heap.size w wr)) (fun _ i _=>s.length - (intOf i).toNat)
      case atStart=>exact ⟨0,L0,by omega,rfl,rfl,HL0,HB0⟩
      case round =>
       obtain ⟨k,L,hk,rfl,rfl,HL,HB⟩:=hrel;by_cases hlt:k<s.length
       ·have hx256:=s[k].toNat_lt;have HF:=hid (flat_step hlt);have hfit:=flat_fit hlt;rw [HN.out] at hfit;have hrl:r<w.heap.size:=HTab.out.lt;have hTr:=HTab.out.past HB.out (Nat.le_refl _);obtain ⟨hrow,hLn,hLt⟩:=HL.out;cases hh:hit s[k] with
        | true =>
          obtain ⟨g,k',ht,hk1,hk2,hg1,-,hgc⟩:=hTr.has _ (mem_of_hit hh);have hnn:=fun W=>nil_ne (some ⟨g,0,none⟩) k' W (by simp)
          have he1:=esc_hit hh;rw [he1] at hfit;obtain ⟨J,hJ⟩:∃ J,((s.take k).flatMap escB).length=J:=⟨_,rfl⟩;rw [hJ] at hfit hLt;have hJ1:J+2≤N:=hfit;have hJle:J≤N:=by omega
          have hJne:¬ N=J:=by omega
          have hJne':¬ J=N:=by omega
          have hadd:∀ j:Nat,(⟨g,0,none⟩:Addr).add j=⟨g,j,none⟩:=fun j=>by unfold Addr.add;split <;> simp_all
          have hxi:(s[k].toNat:Int)<256:=by omega
          have hJi:(J:Int)≤(N:Int):=by omega
          have HJ:=hid hJ;rw [hJ];have HLt:=hid hLt;have Hrow:=hid hrow;have He1:=hid he1;have Hgc:=hid hgc;clear hh he1 hJ hLt hrow hTr hfit hgc;go_wp2_with fail
          go_region_law (refine step_copy_splice rfl _ _ 41 41 rfl 5 Tryz.underlying41 (by kernel_rfl) (some ⟨w.heap.size,J,none⟩) (some ⟨g,0,none⟩) (N - J) (N - J) 2 k' rfl rfl w.heap.size J L 5 Hrow.out (Lib.byteCells (escB s[k])) (by rw [byteCells_len,He1.out];simp only [Nat.min_def];split <;> omega) (fun _=>⟨rfl,_,rfl,fun j v hj=>by rw [hadd];exact Hgc.out j v hj⟩) (by rw [byteCells_len,He1.out];omega) (fun v hv=>byteCells_one _ v hv) w.heap.size w (by first | exact HB.out | exact HB.out.drew | exact HB.out.drew.drew | exact HB.out.drew.drew.drew) (Nat.le_refl _) ?_;intro w4 hg4 hb4)
          all_goals try go_wp2_with fail
          all_goals
           refine ⟨⟨k+1,splice L J (Lib.byteCells (escB s[k])),by omega,by go_num,?_,?_,hid hb4⟩,by simp [intOf];omega⟩
           ·rw [HF.out,List.length_append,HJ.out,He1.out];rw [byteCells_len,He1.out];congr 1;unfold wrap64;omega
           ·rw [HF.out,List.length_append,HJ.out,He1.out];have hlc:(Lib.byteCells (escB s[k])).length=2:=by rw [byteCells_len,He1.out]
            refine hid ⟨hg4.out,by rw [length_splice _ _ _ (by rw [hlc];omega)];omega,?_⟩;have hl2:(L.take J++Lib.byteCells (escB s[k])).length=J+2:=by rw [List.length_append,hlc,List.length_take];omega
            unfold splice;rw [← List.append_assoc,List.take_append_of_le_length (by rw [hl2];exact Nat.le_refl _),List.take_of_length_le (by rw [hl2];exact Nat.le_refl _),HLt.out,byteCells_app]
        | false =>
          have ht:=hTr.non _ (not_of_hit hh);have hnn:=nil_eq;have he1:=esc_not hh;rw [he1] at hfit;have Hh:=hid he1;obtain ⟨J,hJ⟩:∃ J,((s.take k).flatMap escB).length=J:=⟨_,rfl⟩;rw [hJ] at hfit hLt;have hJ1:J+1≤N:=hfit;have HJ:=hid hJ;rw [hJ];have hJL:J<L.length:=by omega
          have hcJ:wr.cell? ⟨w.heap.size,J,none⟩=some L[J]:=by simp [World.cell?,hrow,hJL]
          have hzJ:wr.frozen? ⟨w.heap.size,J,none⟩=false:=by simp [World.frozen?,hrow]
          have HLt:=hid hLt;have Hrow:=hid hrow;clear hh he1 hJ hLt hrow hTr hfit;go_wp2_with fail;refine ⟨⟨k+1,L.set J (.int .u8 s[k].toNat),by omega,by go_num,?_,?_,?_⟩,by simp [intOf];omega⟩
          ·rw [HF.out,Hh.out,List.length_append,HJ.out];rfl
          ·rw [HF.out,Hh.out,List.length_append,HJ.out];refine hid ⟨?_,by rw [List.length_set];exact hLn,?_⟩
           ·rw [setCell_eq_setRow wr _ J L.toArray _ _ _ Hrow.out,setRow_heap wr _ _ _ _ _ Hrow.out];simp
           ·rw [show J+[s[k]].length=J+1 from rfl,List.take_succ_eq_append_getElem (by rw [List.length_set];exact hJL),List.take_set_of_le (Nat.le_refl J),HLt.out,List.getElem_set_self];simp [Lib.byteCells]
          ·exact hid (HB.out.setCell (p:=⟨w.heap.size,J,none⟩) (Nat.le_refl _) _)
       ·obtain rfl:k=s.length:=by omega
        obtain ⟨hrow,hLn,hLt⟩:=HL.out;rw [List.take_length] at hLt;have hcv:(convert 41 9 (.slice (some ⟨w.heap.size,0,none⟩) N N)).run Tryz.prog wr=.ok (.string (bs (s.flatMap escB))) wr:=by
         refine run_conv_at (n:=N) ⟨by rw [byteCells_len,HN.out];omega,_,N,rfl,Nat.le_refl _,by unfold maxLen;omega,fun e=>(by cases e),fun _=>⟨w.heap.size,0,rfl,(Array.getElem?_eq_some_iff.1 hrow).1,fun j u hj=>?_⟩⟩;have hjl:=(List.getElem?_eq_some_iff.1 hj).1;rw [byteCells_len,HN.out] at hjl;rw [← hLt,List.getElem?_take,if_pos (by rw [HN.out];exact hjl)] at hj;simpa [World.cell?,hrow] using hj
        clear hrow hLn hLt;go_wp2_with fail;go_ret;exact ⟨rfl,HB.out⟩
 ·have h24':¬ (24:Int)≤(s.length:Int):=by omega
  go_enter Tryz.func229,Tryz.ntmps229
  go_wp2_with fail;go_loopw [5,6,10] (fun n c i wr=>∃ k:Nat,k≤s.length∧i=.int .i64 k∧n=.int .i64 (sizeB s k)∧c=.bool ((s.take k).any hit)∧Drawn w wr) (fun _ _ i _=>s.length - (intOf i).toNat)
  case atStart=>exact ⟨0,by omega,rfl,by simp [sizeB],by simp,Drawn.refl _⟩
  case round =>
   obtain ⟨k,hk,rfl,rfl,rfl,d,rfl⟩:=hrel;by_cases hlt:k<s.length
   ·have Hs1:=hid (sizeB_step hlt);have Ha1:=hid (any_step hlt);have hsz:=sizeB_le s k;have hx256:=s[k].toNat_lt;cases hh:hit s[k] with
    | true =>
      obtain ⟨g,k',ht,hk1,hk2,-,-,-⟩:=HTab.out.has _ (mem_of_hit hh);have hnn:=fun W=>nil_ne (some ⟨g,0,none⟩) k' W (by simp)
      have Hh:=hid hh;clear hh;go_wp2_with fail;refine ⟨⟨k+1,by omega,by go_num,?_,?_,⟨_,rfl⟩⟩,by simp [intOf];omega⟩
      ·rw [Hs1.out,Hh.out];go_num
      ·rw [Ha1.out,Hh.out];simp
    | false =>
      have ht:=HTab.out.non _ (not_of_hit hh);have hnn:=nil_eq;have Hh:=hid hh;clear hh;go_wp2_with fail;refine ⟨⟨k+1,by omega,by go_num,?_,?_,⟨_,rfl⟩⟩,by simp [intOf];omega⟩
      ·rw [Hs1.out,Hh.out];rfl
      ·rw [Ha1.out,Hh.out];simp
   ·obtain rfl:k=s.length:=by omega
    rw [sizeB_end s,List.take_length];obtain ⟨N,hN⟩:∃ N,(s.flatMap escB).length=N:=⟨_,rfl⟩;rw [hN] at hNle ⊢;have HN:=hid hN;clear hN;have hfl:s.any hit=false→s.flatMap escB=s:=flat_same;cases ha:s.any hit with
    | false =>
      have HE:=hid (hfl ha);clear hfl;go_wp2_with fail;go_ret;exact ⟨by rw [HE.out];rfl,Drawn.below ⟨d,rfl⟩⟩
    | true =>
      clear hfl ha;go_wp2_with (at_make;go_must (refine wpList_make_full _ rfl _ _ 41 rfl w.heap.size 5 i8 (.int .u8 0) 1 Tryz.underlying41 hj hj0 hj1 .i64 .i64 _ _ N rfl rfl rfl rfl (by rw [hj2];omega) (by unfold maxLen;omega) (Nat.le_refl _) ?_);intro w0 hown0 hgrow0)
      have hBw0:Below w.heap.size w w0:=(Drawn.below ⟨d,rfl⟩).trans (((Below.refl w.heap.size (w.drewN d)).grown hgrow0 (by simp) (by intro k hk;cases hk)));obtain ⟨L0,hL0,hLn⟩:=own_list hown0;have HL0:=hid (show _∧_∧List.take 0 L0=Lib.byteCells [] from ⟨hL0,hLn,rfl⟩);have HB0:=hid hBw0;clear hown0 hgrow0 hL0 hLn hBw0;go_loopw [13,14] (fun j i wr=>∃ (k:Nat) (L:List Value),k≤s.length∧i=.int .i64 k∧j=.int .i64 ((s.take k).flatMap escB).length∧Hid (wr.heap[w.heap.size]? = some (.cells L.toArray 5 (0,0))∧L.length=N∧L.take ((s.take k).flatMap escB).length=Lib.byteCells ((s.take k).flatMap escB))∧Hid (Below w.heap.size w wr)) (fun _ i _=>s.length - (intOf i).toNat)
      case atStart=>exact ⟨0,L0,by omega,rfl,rfl,HL0,HB0⟩
      case round =>
       obtain ⟨k,L,hk,rfl,rfl,HL,HB⟩:=hrel;by_cases hlt:k<s.length
       ·have hx256:=s[k].toNat_lt;have HF:=hid (flat_step hlt);have hfit:=flat_fit hlt;rw [HN.out] at hfit;have hrl:r<w.heap.size:=HTab.out.lt;have hTr:=HTab.out.past HB.out (Nat.le_refl _);obtain ⟨hrow,hLn,hLt⟩:=HL.out;cases hh:hit s[k] with
        | true =>
          obtain ⟨g,k',ht,hk1,hk2,hg1,-,hgc⟩:=hTr.has _ (mem_of_hit hh);have hnn:=fun W=>nil_ne (some ⟨g,0,none⟩) k' W (by simp)
          have he1:=esc_hit hh;rw [he1] at hfit;obtain ⟨J,hJ⟩:∃ J,((s.take k).flatMap escB).length=J:=⟨_,rfl⟩;rw [hJ] at hfit hLt;have hJ1:J+2≤N:=hfit;have hJle:J≤N:=by omega
          have hJne:¬ N=J:=by omega
          have hJne':¬ J=N:=by omega
          have hadd:∀ j:Nat,(⟨g,0,none⟩:Addr).add j=⟨g,j,none⟩:=fun j=>by unfold Addr.add;split <;> simp_all
          have hxi:(s[k].toNat:Int)<256:=by omega
          have hJi:(J:Int)≤(N:Int):=by omega
          have HJ:=hid hJ;rw [hJ];have HLt:=hid hLt;have Hrow:=hid hrow;have He1:=hid he1;have Hgc:=hid hgc;clear hh he1 hJ hLt hrow hTr hfit hgc;go_wp2_with fail
          go_region_law (refine step_copy_splice rfl _ _ 41 41 rfl 5 Tryz.underlying41 (by kernel_rfl) (some ⟨w.heap.size,J,none⟩) (some ⟨g,0,none⟩) (N - J) (N - J) 2 k' rfl rfl w.heap.size J L 5 Hrow.out (Lib.byteCells (escB s[k])) (by rw [byteCells_len,He1.out];simp only [Nat.min_def];split <;> omega) (fun _=>⟨rfl,_,rfl,fun j v hj=>by rw [hadd];exact Hgc.out j v hj⟩) (by rw [byteCells_len,He1.out];omega) (fun v hv=>byteCells_one _ v hv) w.heap.size w (by first | exact HB.out | exact HB.out.drew | exact HB.out.drew.drew | exact HB.out.drew.drew.drew) (Nat.le_refl _) ?_;intro w4 hg4 hb4)
          all_goals try go_wp2_with fail
          all_goals
           refine ⟨⟨k+1,splice L J (Lib.byteCells (escB s[k])),by omega,by go_num,?_,?_,hid hb4⟩,by simp [intOf];omega⟩
           ·rw [HF.out,List.length_append,HJ.out,He1.out];rw [byteCells_len,He1.out];congr 1;unfold wrap64;omega
           ·rw [HF.out,List.length_append,HJ.out,He1.out];have hlc:(Lib.byteCells (escB s[k])).length=2:=by rw [byteCells_len,He1.out]
            refine hid ⟨hg4.out,by rw [length_splice _ _ _ (by rw [hlc];omega)];omega,?_⟩;have hl2:(L.take J++Lib.byteCells (escB s[k])).length=J+2:=by rw [List.length_append,hlc,List.length_take];omega
            unfold splice;rw [← List.append_assoc,List.take_append_of_le_length (by rw [hl2];exact Nat.le_refl _),List.take_of_length_le (by rw [hl2];exact Nat.le_refl _),HLt.out,byteCells_app]
        | false =>
          have ht:=hTr.non _ (not_of_hit hh);have hnn:=nil_eq;have he1:=esc_not hh;rw [he1] at hfit;have Hh:=hid he1;obtain ⟨J,hJ⟩:∃ J,((s.take k).flatMap escB).length=J:=⟨_,rfl⟩;rw [hJ] at hfit hLt;have hJ1:J+1≤N:=hfit;have HJ:=hid hJ;rw [hJ];have hJL:J<L.length:=by omega
          have hcJ:wr.cell? ⟨w.heap.size,J,none⟩=some L[J]:=by simp [World.cell?,hrow,hJL]
          have hzJ:wr.frozen? ⟨w.heap.size,J,none⟩=false:=by simp [World.frozen?,hrow]
          have HLt:=hid hLt;have Hrow:=hid hrow;clear hh he1 hJ hLt hrow hTr hfit;go_wp2_with fail;refine ⟨⟨k+1,L.set J (.int .u8 s[k].toNat),by omega,by go_num,?_,?_,?_⟩,by simp [intOf];omega⟩
          ·rw [HF.out,Hh.out,List.length_append,HJ.out];rfl
          ·rw [HF.out,Hh.out,List.length_append,HJ.out];refine hid ⟨?_,by rw [List.length_set];exact hLn,?_⟩
           ·rw [setCell_eq_setRow wr _ J L.toArray _ _ _ Hrow.out,setRow_heap wr _ _ _ _ _ Hrow.out];simp
           ·rw [show J+[s[k]].length=J+1 from rfl,List.take_succ_eq_append_getElem (by rw [List.length_set];exact hJL),List.take_set_of_le (Nat.le_refl J),HLt.out,List.getElem_set_self];simp [Lib.byteCells]
          ·exact hid (HB.out.setCell (p:=⟨w.heap.size,J,none⟩) (Nat.le_refl _) _)
       ·obtain rfl:k=s.length:=by omega
        obtain ⟨hrow,hLn,hLt⟩:=HL.out;rw [List.take_length] at hLt;have hcv:(convert 41 9 (.slice (some ⟨w.heap.size,0,none⟩) N N)).run Tryz.prog wr=.ok (.string (bs (s.flatMap escB))) wr:=by
         refine run_conv_at (n:=N) ⟨by rw [byteCells_len,HN.out];omega,_,N,rfl,Nat.le_refl _,by unfold maxLen;omega,fun e=>(by cases e),fun _=>⟨w.heap.size,0,rfl,(Array.getElem?_eq_some_iff.1 hrow).1,fun j u hj=>?_⟩⟩;have hjl:=(List.getElem?_eq_some_iff.1 hj).1;rw [byteCells_len,HN.out] at hjl;rw [← hLt,List.getElem?_take,if_pos (by rw [HN.out];exact hjl)] at hj;simpa [World.cell?,hrow] using hj
        clear hrow hLn hLt;go_wp2_with fail;go_ret;exact ⟨rfl,HB.out⟩
set_option maxHeartbeats 1000000 in
theorem repl_any (s:List UInt8) (hs:s.length≤1000000000) (b:Nat) (w:World) (hu:Unbuilt w b) :
  Calls Tryz.prog 32 #[.pointer (some ⟨b,0,none⟩),.string (bs s)] w fun e w'=>e=.returned (.string (bs (s.flatMap escB)))∧Below b w w':=by
 obtain ⟨v,w1,hr,hsl,hw1,hb1⟩:=hu;obtain ⟨b1,o1,c1,rfl,_,_,h6⟩:=six_open hsl;have hne:b1≠b:=by have:=h6.lt;omega
 have H6:=hid (h6.past hb1 hw1);have Hr:=hid hr;have hlt:b<w.heap.size:=World.block_lt_of_cell? w _ hr.c0;clear hr h6 hsl hb1;have hmeth:∀ (n r:Nat) (W:World),(method (n+1) 161 (.pointer (some ⟨r,0,none⟩)) "Replace").run Tryz.prog W=.ok (229,.pointer (some ⟨r,0,none⟩)) W:=fun n r W=>by kernel_rfl
 have hmeth':=hmeth 290;go_enter Tryz.func32,Tryz.ntmps32
 go_wp2_with (first
  | (go_at_call 59;refine (do_any b b1 o1 c1 _ _ Hr.out H6.out hne).mono ?_;rintro e w2 ⟨rfl,⟨r,hR,lo,hlo,hB⟩,hb2⟩;have q3:=hR.c3;have HB:=hid hB;clear hB)
  | (go_at_call 229;refine (run_any s hs lo r _ HB.out).mono ?_;rintro e w3 ⟨rfl,hb3⟩))
 go_ret;exact ⟨rfl,hb2.trans (hb3.mono (nT (Nat.le_of_lt hlt) hb2.size))⟩
theorem six_new (w:World):SliceAt (w.alloc (.cells #[.string ⟨#[34]⟩,.string ⟨#[92,34]⟩,.string ⟨#[92]⟩,.string ⟨#[92,92]⟩,.string ⟨#[10]⟩,.string ⟨#[92,110]⟩] 9)) 1 (.slice (some ⟨w.heap.size,0,none⟩) 6 6) 6 (strCells sixT) :=
 ⟨rfl,some ⟨w.heap.size,0,none⟩,6,rfl,Nat.le_refl _,by decide,fun e=>(by cases e),fun _=>⟨w.heap.size,0,rfl,by simp,fun j u hj=>by
  have:=new_cells w #[.string ⟨#[34]⟩,.string ⟨#[92,34]⟩,.string ⟨#[92]⟩,.string ⟨#[92,92]⟩,.string ⟨#[10]⟩,.string ⟨#[92,110]⟩] 9 (0,0) j u hj;have hadd:(⟨w.heap.size,0,none⟩:Addr).add j=⟨w.heap.size,0+j,none⟩:=by unfold Addr.add;split <;> simp_all
  rwa [hadd] at this⟩⟩
set_option maxHeartbeats 2000000 in
theorem quote_any (s:List UInt8) (hs:s.length≤1000000000) (q:List UInt8) (hq:quoteL s=q) (w:World) :
  Calls Tryz.prog 17 #[.string (bs s)] w fun e w'=>e=.returned (.string (bs q))∧Below w.heap.size w w':=by
 have HQ:=hid hq;clear hq;go_enter Tryz.func17,Tryz.ntmps17
 go_wp2_with fail
 go_loop [6] (fun i=>∃ k:Nat,k≤s.length∧i=.int .i64 k∧Hid ((s.take k).any badQ=false)) (fun i=>s.length - (intOf i).toNat)
 case atStart=>exact ⟨0,by omega,rfl,hid (by simp)⟩
 case round =>
  obtain ⟨k,hk,rfl,HA⟩:=hrel;by_cases hlt:k<s.length
  ·have HS:Hid (badQ s[k]=false→(s.take (k+1)).any badQ=false):=hid (fun h=>by rw [take_at s k hlt,List.any_append,HA.out,Bool.false_or];simp [h]);by_cases c1:s[k].toNat<32
   ·have c1':(s[k].toNat:Int)<32:=by omega
    by_cases c2:s[k].toNat=10
    ·have q2:((s[k].toNat:Int) != 10)=false:=neF (by omega);have q3:((s[k].toNat:Int) == 127)=false:=eqF (by omega);have HN:=hid (HS.out (bad_ten c2));clear c1 c2;go_wp2_with fail
     go_round
     case rel=>exact ⟨k+1,by omega,by go_num,HN⟩
     case measure=>simp [intOf];omega
    ·have q2:((s[k].toNat:Int) != 10)=true:=neT (by omega);have HE:Hid (q=[]):=hid (by rw [← HQ.out,quote_bad hlt (bad_yes c2 (.inl c1))]);clear c1 c2;go_wp2_with fail;go_ret;exact ⟨by rw [HE.out];rfl,Below.refl _ _⟩
   ·have c1':¬ (s[k].toNat:Int)<32:=by omega
    by_cases c2:s[k].toNat=127
    ·have q3:((s[k].toNat:Int) == 127)=true:=eqT (by omega);have HE:Hid (q=[]):=hid (by rw [← HQ.out,quote_bad hlt (bad_yes (by omega) (.inr c2))]);clear c1 c2;go_wp2_with fail;go_ret;exact ⟨by rw [HE.out];rfl,Below.refl _ _⟩
    ·have q3:((s[k].toNat:Int) == 127)=false:=eqF (by omega);have HN:=hid (HS.out (bad_not (fun h=>h.elim c1 c2)));clear c1 c2;go_wp2_with fail
     go_round
     case rel=>exact ⟨k+1,by omega,by go_num,HN⟩
     case measure=>simp [intOf];omega
  ·obtain rfl:k=s.length:=by omega
   have hno:=HA.out;rw [List.take_length] at hno;have HE:Hid (q=34::(s.flatMap escB++[34])):=hid (by rw [← HQ.out,quote_flat hno]);have hNl:(s.flatMap escB).length≤2 * s.length:=by have:=sizeB_le s s.length;rwa [sizeB_end] at this
   obtain ⟨t,ht⟩:∃ t,s.flatMap escB=t:=⟨_,rfl⟩;have hrep:=fun b w=>repl_any s hs b w
   rw [ht] at HE hNl hrep;clear hno HA ht;go_wp2_with (first
    | (go_at_call 31;refine (new_any _ _ (six_new w)).mono ?_;rintro e w1 ⟨b,rfl,hun,hb0,hbl,hb1⟩)
    | (go_at_call 32;refine (hrep b _ hun).mono ?_;rintro e w2 ⟨rfl,hb2⟩))
   go_ret;refine ⟨by rw [HE.out];rfl,(((Below.refl w.heap.size w).alloc (Nat.le_refl _) _).trans (hb1.mono (by simp))).trans (hb2.mono ?_)⟩;simpa using nT (Nat.le_succ _) (by simpa using hb0)
end Go.Proofs.YtfgiihpopngbkaaGreatDoor
