/- Lemmas for TopFoundUpto: ShaTake, OwnAt, ShaWhole. -/
import Derived.Test.YtlbipokkdiiaiaaGreatDoorF08
import Derived.ChangeKeysEq
import Derived.Test.YtlbipokkdiiaiaaGreatDoorF01
import Derived.Lib.AppendStr
open List renaming setIfInBounds_toArray → sA, set_cons_zero → sB, set_cons_succ → sC
namespace Go.Proofs.YtlbipokkdiiaiaaGreatDoor
set_option maxRecDepth 100000
open Go.RowKit
structure iA (g:Nat) (w w':World):Prop where
 os:w'.os=w.os
 tape:w'.tape=w.tape
 output:w'.output=w.output
 size:w.heap.size≤w'.heap.size
 block:∀k,k<w.heap.size→k≠g→w'.heap[k]?=w.heap[k]?
theorem iA.of_below {g:Nat} {w w':World} (h:Below w.heap.size w w'):iA g w w':=⟨h.os,h.tape,h.output,h.size,fun k hk _=>h.block k hk⟩
theorem iA.below {g:Nat} {w w1 w2:World} (h:iA g w w1) (hb:Below w1.heap.size w1 w2):iA g w w2:=
 ⟨hb.os.trans h.os,hb.tape.trans h.tape,hb.output.trans h.output,Nat.le_trans h.size hb.size,fun k hk hne=>(hb.block k (Nat.lt_of_lt_of_le hk h.size)).trans (h.block k hk hne)⟩
theorem iA.set {g:Nat} {w w1:World} (h:iA g w w1) (j:Nat) (v:Value):iA g w (w1.setCell ⟨g,j,none⟩ v):=
 ⟨h.os,h.tape,h.output,Nat.le_trans h.size (by simp[World.setCell]),fun k hk hne=>(heap_setCell_other w1 ⟨g,j,none⟩ k v hne).trans (h.block k hk hne)⟩
theorem rK (x n:Int) (h1:0<n) (h2:n<32) (w:World):Calls Tryz.prog 175 #[.int .u32 x,.int .i64 n] w fun e w'=>e=.returned (.int .u32 (j8 x n))∧Below w.heap.size w w':=
 (oV x n h1 h2 w).mono (fun _ _ h=>⟨h.1,by rw[h.2];exact Below.refl _ _⟩)
theorem uM (c:Array Value) (k:Nat) (x:Int) (hk:k<64) (hx:c[k]?=some (.int .u32 x)) (w:World):(Instr.index 298 (.agg c) (.int .i64 (k:Int))).run Tryz.prog w=.ok (.int .u32 x) w:=by
 have hp:=run_part_plain (P:=Tryz.prog) (e:=250) w (by kernel_rfl) hx
 have hsz:(sizeOf 250).run Tryz.prog w=.ok 1 w:=by kernel_rfl
 simp[Instr.index,asIntOf,run_underlying Tryz.underlying298,hk,hsz,hp]
theorem tw (c:Array Value) (k:Nat) (x:Int) (hk:k<8) (hx:c[k]?=some (.int .u32 x)) (w:World):(Instr.index 252 (.agg c) (.int .i64 (k:Int))).run Tryz.prog w=.ok (.int .u32 x) w:=by
 have hp:=run_part_plain (P:=Tryz.prog) (e:=250) w (by kernel_rfl) hx
 have hsz:(sizeOf 250).run Tryz.prog w=.ok 1 w:=by kernel_rfl
 simp[Instr.index,asIntOf,run_underlying Tryz.underlying252,hk,hsz,hp]
theorem cF {W:World} {b c:Nat} {o o':Array Value} {t t':TypeId} (x:Array Value) (_:W.heap[b]?=some (.cells o t (0,0))) (h:W.heap[c]?=some (.cells o' t' (0,0))) (hne:c≠b):(W.setRow b x).heap[c]?=some (.cells o' t' (0,0)):=(setRow_other W b c x hne).trans h
theorem aP {w W:World} {b:Nat} {o:Array Value} {t:TypeId} (x:Array Value) (_:W.heap[b]?=some (.cells o t (0,0))) (h:Below w.heap.size w W) (hb:w.heap.size≤b):Below w.heap.size w (W.setRow b x):=
 ⟨h.os,h.tape,h.output,by rw[setRow_size];exact h.size,fun k hk=>by rw[setRow_other _ _ _ _ (by omega)];exact h.block k hk⟩
set_option maxHeartbeats 4000000 in
theorem sy (g:Nat) (h:List Int) (hl8:h.length=8) (rest:List Value) (t:TypeId) (bv:Value) (b:List UInt8) (w:World) (hg:w.heap[g]?=some (.cells (af h++rest).toArray t (0,0))) (jW:am w 1 bv 64 (Lib.byteCells b)):
 Calls Tryz.prog 124 #[.pointer (some ⟨g,0,none⟩),bv] w fun e w'=>e=.returned (.tuple #[])∧w'.heap[g]?=some (.cells (af (cy br h b)++rest).toArray t (0,0))∧iA g w w':=by
 go_enter Tryz.func124,Tryz.ntmps124
 have hgl:g<w.heap.size:=(Array.getElem?_eq_some_iff.1 hg).1
 have HR:Hid (∀W:World,Below w.heap.size w W→W.rangeAt g 0 (af h)):=hid (fun W hW j u hu=>by
  have hj:j<8:=by have:=(List.getElem?_eq_some_iff.1 hu).1;rw[aF] at this;omega
  rw[Nat.zero_add,cell_of_row W g j _ _ _ ((hW.block g hgl).trans hg)]
  rw[List.getElem?_toArray,List.getElem?_append_left (by rw[aF];omega)]
  exact hu)
 have HI:Hid ((Tryz.prog.info? 252).map (·.size)=some (af h).toArray.size∧(#[.int .u32 0,.int .u32 0,.int .u32 0,.int .u32 0,.int .u32 0,.int .u32 0,.int .u32 0,.int .u32 0]:Array Value).size=(af h).toArray.size∧(af h).toArray.all (·.oneCell')=true):=hid (by
  have e:(af h).toArray.size=8:=by simp[aF,hl8]
  exact⟨by rw[e];kernel_rfl,by rw[e];rfl,all_oneCell_toArray (jM h)⟩)
 go_upto_region 0 with fail
 go_cut [4,5] from 14 (fun p q wx=>∃b4 b5,p=.pointer (some ⟨b4,0,none⟩)∧q=.pointer (some ⟨b5,0,none⟩)∧b4≠b5∧w.heap.size≤b4∧w.heap.size≤b5∧wx.heap[b4]?=some (.cells (af h).toArray 252 (0,0))∧wx.heap[b5]?=some (.cells kA 298 (0,0))∧Below w.heap.size w wx)
 case first=>
  refine kS (S:=fun W=>Below w.heap.size w W) (by kernel_rfl) ?_
  have hS:Below w.heap.size w w.drew:=eP.below ⟨1,rfl⟩
  refine WH.take 0 (some 14) rfl rfl (by kernel_rfl) (by kernel_rfl) (by kernel_rfl) (fun _ _ _ _ h=>h) hS ⟨.pointer (some ⟨g,0,none⟩),⟨by kernel_rfl,fun W _=>rfl⟩,?_⟩
  try simp only[Act.put,sA,sB,sC]
  refine WH.take 1 (some 15) rfl rfl (by kernel_rfl) (by kernel_rfl) (by kernel_rfl) (fun _ _ _ _ h=>h) hS ⟨.pointer (some ⟨g,0,none⟩),⟨by kernel_rfl,fun W _=>rfl⟩,?_⟩
  try simp only[Act.put,sA,sB,sC]
  refine zfm 2 (some 16) rfl rfl (by kernel_rfl) (by kernel_rfl) (by kernel_rfl) (fun _ _ _ _ h=>h) hS (by kernel_rfl) 252 _ rfl g 0 rfl (af h) _ HR.out Tryz.underlying252 rfl (by rw[aF,hl8];kernel_rfl) ?_
  try simp only[Act.put,sA,sB,sC]
  obtain⟨W0,hW0⟩:∃x,x=w.drew:=⟨_,rfl⟩
  rw[←hW0] at hS ⊢
  have hS0:=hS
  have hz0:Hid (W0.heap.size=w.heap.size):=hid (by rw[hW0];rfl)
  clear hS hW0
  refine zf4 3 4 5 (by kernel_rfl) rfl rfl rfl (by kernel_rfl) (by kernel_rfl) (by kernel_rfl) ?_ ?_ ?_
  ·intro K hK
   go_simp
   refine(fN _).mono ?_
   rintro e W1 ⟨rfl,hbc⟩
   go_wp2_with fail
   have hS1:=Below.chain hS0 hbc
   have hz1:=hid hbc.size
   refine hK.out _ _ hS1 ?_
   clear hK K hbc
   try simp only[Act.put,sA,sB,sC]
   refine zfP 4 5 (by kernel_rfl) rfl (by kernel_rfl) rfl (by kernel_rfl) ?_ ?_
   ·intro K hK
    go_simp
    obtain⟨W2,hW2⟩:∃x,x=W1.alloc (.cells #[.int .u32 0,.int .u32 0,.int .u32 0,.int .u32 0,.int .u32 0,.int .u32 0,.int .u32 0,.int .u32 0] 252):=⟨_,rfl⟩
    rw[←hW2]
    have hS2:Below w.heap.size w W2:=by rw[hW2];exact hS1.alloc hS1.size _
    have hz2:Hid (W2.heap.size=W1.heap.size+1):=hid (by rw[hW2];simp)
    have f4:W2.heap[W1.heap.size]?=some (.cells #[.int .u32 0,.int .u32 0,.int .u32 0,.int .u32 0,.int .u32 0,.int .u32 0,.int .u32 0,.int .u32 0] 252 (0,0)):=by rw[hW2];exact heap_alloc_new _ _
    refine hK.out _ _ hS2 ?_
    clear hK K hW2
    try simp only[Act.put,sA,sB,sC]
    refine WH.one 5 (by kernel_rfl) rfl (by kernel_rfl) ?_
    intro K hK
    go_simp
    obtain⟨W3,hW3⟩:∃x,x=W2.alloc (.cells #[.int .u32 0,.int .u32 0,.int .u32 0,.int .u32 0,.int .u32 0,.int .u32 0,.int .u32 0,.int .u32 0,.int .u32 0,.int .u32 0,.int .u32 0,.int .u32 0,.int .u32 0,.int .u32 0,.int .u32 0,.int .u32 0,.int .u32 0,.int .u32 0,.int .u32 0,.int .u32 0,.int .u32 0,.int .u32 0,.int .u32 0,.int .u32 0,.int .u32 0,.int .u32 0,.int .u32 0,.int .u32 0,.int .u32 0,.int .u32 0,.int .u32 0,.int .u32 0,.int .u32 0,.int .u32 0,.int .u32 0,.int .u32 0,.int .u32 0,.int .u32 0,.int .u32 0,.int .u32 0,.int .u32 0,.int .u32 0,.int .u32 0,.int .u32 0,.int .u32 0,.int .u32 0,.int .u32 0,.int .u32 0,.int .u32 0,.int .u32 0,.int .u32 0,.int .u32 0,.int .u32 0,.int .u32 0,.int .u32 0,.int .u32 0,.int .u32 0,.int .u32 0,.int .u32 0,.int .u32 0,.int .u32 0,.int .u32 0,.int .u32 0,.int .u32 0] 298):=⟨_,rfl⟩
    rw[←hW3]
    have hS3:Below w.heap.size w W3:=by rw[hW3];exact hS2.alloc hS2.size _
    have hz3:Hid (W3.heap.size=W2.heap.size+1):=hid (by rw[hW3];simp)
    have f4:=(show W3.heap[W1.heap.size]?=W2.heap[W1.heap.size]? by rw[hW3];exact Below.heap_alloc _ _ _ (Array.getElem?_eq_some_iff.1 f4).1).trans f4
    have f5:W3.heap[W2.heap.size]?=some (.cells #[.int .u32 0,.int .u32 0,.int .u32 0,.int .u32 0,.int .u32 0,.int .u32 0,.int .u32 0,.int .u32 0,.int .u32 0,.int .u32 0,.int .u32 0,.int .u32 0,.int .u32 0,.int .u32 0,.int .u32 0,.int .u32 0,.int .u32 0,.int .u32 0,.int .u32 0,.int .u32 0,.int .u32 0,.int .u32 0,.int .u32 0,.int .u32 0,.int .u32 0,.int .u32 0,.int .u32 0,.int .u32 0,.int .u32 0,.int .u32 0,.int .u32 0,.int .u32 0,.int .u32 0,.int .u32 0,.int .u32 0,.int .u32 0,.int .u32 0,.int .u32 0,.int .u32 0,.int .u32 0,.int .u32 0,.int .u32 0,.int .u32 0,.int .u32 0,.int .u32 0,.int .u32 0,.int .u32 0,.int .u32 0,.int .u32 0,.int .u32 0,.int .u32 0,.int .u32 0,.int .u32 0,.int .u32 0,.int .u32 0,.int .u32 0,.int .u32 0,.int .u32 0,.int .u32 0,.int .u32 0,.int .u32 0,.int .u32 0,.int .u32 0,.int .u32 0] 298 (0,0)):=by rw[hW3];exact heap_alloc_new _ _
    refine hK.out _ _ hS3 ?_
    clear hK K hW3
    try simp only[Act.put,sA,sB,sC]
    have hh:W1.heap.size≠W2.heap.size∧w.heap.size≤W1.heap.size∧w.heap.size≤W2.heap.size:=by have z0:=hz0.out;have z1:=hz1.out;have z2:=hz2.out;have z3:=hz3.out;exact⟨by omega,by omega,by omega⟩
    obtain⟨hne,h4,h5⟩:=hh
    refine WH.one 6 (by kernel_rfl) rfl (by kernel_rfl) ?_
    intro K hK
    refine wp_store_row 252 _ _ rfl _ (af h).toArray rfl rfl 252 _ f4 HI.out.1 HI.out.2.1 HI.out.2.2 ?_
    refine hK.out _ _ (aP _ f4 hS3 h4) ?_
    try simp only[Act.put,sA]
    have g4:=setRow_heap _ _ _ (af h).toArray _ _ f4
    have g5:=cF (af h).toArray f4 f5 hne.symm
    have hSr:=aP (af h).toArray f4 hS3 h4
    clear hK K f4 f5
    refine WH.one 7 (by kernel_rfl) rfl (by kernel_rfl) ?_
    intro K hK
    refine wp_store_row 298 _ _ rfl _ kA rfl rfl 298 _ g5 (by rw[gh];exact cv) rfl jU ?_
    refine hK.out _ _ (aP _ g5 hSr h5) ?_
    try simp only[Act.put]
    have r5:=setRow_heap _ _ _ kA _ _ g5
    have r4:=cF kA g5 g4 hne
    have hSq:=aP kA g5 hSr h5
    clear hK K g4 g5 hSr
    refine WH.done (by kernel_rfl) ?_
    go_wp2_with fail
    go_meet
    case rel=>exact⟨_,_,rfl,rfl,hne,h4,h5,r4,r5,hSq⟩
   ·intro K hK
    go_simp
    obtain⟨W2,hW2⟩:∃x,x=W1.alloc (.cells #[.int .u32 0,.int .u32 0,.int .u32 0,.int .u32 0,.int .u32 0,.int .u32 0,.int .u32 0,.int .u32 0,.int .u32 0,.int .u32 0,.int .u32 0,.int .u32 0,.int .u32 0,.int .u32 0,.int .u32 0,.int .u32 0,.int .u32 0,.int .u32 0,.int .u32 0,.int .u32 0,.int .u32 0,.int .u32 0,.int .u32 0,.int .u32 0,.int .u32 0,.int .u32 0,.int .u32 0,.int .u32 0,.int .u32 0,.int .u32 0,.int .u32 0,.int .u32 0,.int .u32 0,.int .u32 0,.int .u32 0,.int .u32 0,.int .u32 0,.int .u32 0,.int .u32 0,.int .u32 0,.int .u32 0,.int .u32 0,.int .u32 0,.int .u32 0,.int .u32 0,.int .u32 0,.int .u32 0,.int .u32 0,.int .u32 0,.int .u32 0,.int .u32 0,.int .u32 0,.int .u32 0,.int .u32 0,.int .u32 0,.int .u32 0,.int .u32 0,.int .u32 0,.int .u32 0,.int .u32 0,.int .u32 0,.int .u32 0,.int .u32 0,.int .u32 0] 298):=⟨_,rfl⟩
    rw[←hW2]
    have hS2:Below w.heap.size w W2:=by rw[hW2];exact hS1.alloc hS1.size _
    have hz2:Hid (W2.heap.size=W1.heap.size+1):=hid (by rw[hW2];simp)
    have f5:W2.heap[W1.heap.size]?=some (.cells #[.int .u32 0,.int .u32 0,.int .u32 0,.int .u32 0,.int .u32 0,.int .u32 0,.int .u32 0,.int .u32 0,.int .u32 0,.int .u32 0,.int .u32 0,.int .u32 0,.int .u32 0,.int .u32 0,.int .u32 0,.int .u32 0,.int .u32 0,.int .u32 0,.int .u32 0,.int .u32 0,.int .u32 0,.int .u32 0,.int .u32 0,.int .u32 0,.int .u32 0,.int .u32 0,.int .u32 0,.int .u32 0,.int .u32 0,.int .u32 0,.int .u32 0,.int .u32 0,.int .u32 0,.int .u32 0,.int .u32 0,.int .u32 0,.int .u32 0,.int .u32 0,.int .u32 0,.int .u32 0,.int .u32 0,.int .u32 0,.int .u32 0,.int .u32 0,.int .u32 0,.int .u32 0,.int .u32 0,.int .u32 0,.int .u32 0,.int .u32 0,.int .u32 0,.int .u32 0,.int .u32 0,.int .u32 0,.int .u32 0,.int .u32 0,.int .u32 0,.int .u32 0,.int .u32 0,.int .u32 0,.int .u32 0,.int .u32 0,.int .u32 0,.int .u32 0] 298 (0,0)):=by rw[hW2];exact heap_alloc_new _ _
    refine hK.out _ _ hS2 ?_
    clear hK K hW2
    try simp only[Act.put,sA,sB,sC]
    refine WH.one 4 (by kernel_rfl) rfl (by kernel_rfl) ?_
    intro K hK
    go_simp
    obtain⟨W3,hW3⟩:∃x,x=W2.alloc (.cells #[.int .u32 0,.int .u32 0,.int .u32 0,.int .u32 0,.int .u32 0,.int .u32 0,.int .u32 0,.int .u32 0] 252):=⟨_,rfl⟩
    rw[←hW3]
    have hS3:Below w.heap.size w W3:=by rw[hW3];exact hS2.alloc hS2.size _
    have hz3:Hid (W3.heap.size=W2.heap.size+1):=hid (by rw[hW3];simp)
    have f5:=(show W3.heap[W1.heap.size]?=W2.heap[W1.heap.size]? by rw[hW3];exact Below.heap_alloc _ _ _ (Array.getElem?_eq_some_iff.1 f5).1).trans f5
    have f4:W3.heap[W2.heap.size]?=some (.cells #[.int .u32 0,.int .u32 0,.int .u32 0,.int .u32 0,.int .u32 0,.int .u32 0,.int .u32 0,.int .u32 0] 252 (0,0)):=by rw[hW3];exact heap_alloc_new _ _
    refine hK.out _ _ hS3 ?_
    clear hK K hW3
    try simp only[Act.put,sA,sB,sC]
    have hh:W2.heap.size≠W1.heap.size∧w.heap.size≤W2.heap.size∧w.heap.size≤W1.heap.size:=by have z0:=hz0.out;have z1:=hz1.out;have z2:=hz2.out;have z3:=hz3.out;exact⟨by omega,by omega,by omega⟩
    obtain⟨hne,h4,h5⟩:=hh
    refine WH.one 6 (by kernel_rfl) rfl (by kernel_rfl) ?_
    intro K hK
    refine wp_store_row 252 _ _ rfl _ (af h).toArray rfl rfl 252 _ f4 HI.out.1 HI.out.2.1 HI.out.2.2 ?_
    refine hK.out _ _ (aP _ f4 hS3 h4) ?_
    try simp only[Act.put,sA]
    have g4:=setRow_heap _ _ _ (af h).toArray _ _ f4
    have g5:=cF (af h).toArray f4 f5 hne.symm
    have hSr:=aP (af h).toArray f4 hS3 h4
    clear hK K f4 f5
    refine WH.one 7 (by kernel_rfl) rfl (by kernel_rfl) ?_
    intro K hK
    refine wp_store_row 298 _ _ rfl _ kA rfl rfl 298 _ g5 (by rw[gh];exact cv) rfl jU ?_
    refine hK.out _ _ (aP _ g5 hSr h5) ?_
    try simp only[Act.put]
    have r5:=setRow_heap _ _ _ kA _ _ g5
    have r4:=cF kA g5 g4 hne
    have hSq:=aP kA g5 hSr h5
    clear hK K g4 g5 hSr
    refine WH.done (by kernel_rfl) ?_
    go_wp2_with fail
    go_meet
    case rel=>exact⟨_,_,rfl,rfl,hne,h4,h5,r4,r5,hSq⟩
  ·intro K hK
   go_simp
   obtain⟨W1,hW1⟩:∃x,x=W0.alloc (.cells #[.int .u32 0,.int .u32 0,.int .u32 0,.int .u32 0,.int .u32 0,.int .u32 0,.int .u32 0,.int .u32 0] 252):=⟨_,rfl⟩
   rw[←hW1]
   have hS1:Below w.heap.size w W1:=by rw[hW1];exact hS0.alloc hS0.size _
   have hz1:Hid (W1.heap.size=W0.heap.size+1):=hid (by rw[hW1];simp)
   have f4:W1.heap[W0.heap.size]?=some (.cells #[.int .u32 0,.int .u32 0,.int .u32 0,.int .u32 0,.int .u32 0,.int .u32 0,.int .u32 0,.int .u32 0] 252 (0,0)):=by rw[hW1];exact heap_alloc_new _ _
   refine hK.out _ _ hS1 ?_
   clear hK K hW1
   try simp only[Act.put,sA,sB,sC]
   refine zfP 3 5 (by kernel_rfl) rfl (by kernel_rfl) rfl (by kernel_rfl) ?_ ?_
   ·intro K hK
    go_simp
    refine(fN _).mono ?_
    rintro e W2 ⟨rfl,hbc⟩
    go_wp2_with fail
    have hS2:=Below.chain hS1 hbc
    have hz2:=hid hbc.size
    have f4:=(hbc.block _ (Array.getElem?_eq_some_iff.1 f4).1).trans f4
    refine hK.out _ _ hS2 ?_
    clear hK K hbc
    try simp only[Act.put,sA,sB,sC]
    refine WH.one 5 (by kernel_rfl) rfl (by kernel_rfl) ?_
    intro K hK
    go_simp
    obtain⟨W3,hW3⟩:∃x,x=W2.alloc (.cells #[.int .u32 0,.int .u32 0,.int .u32 0,.int .u32 0,.int .u32 0,.int .u32 0,.int .u32 0,.int .u32 0,.int .u32 0,.int .u32 0,.int .u32 0,.int .u32 0,.int .u32 0,.int .u32 0,.int .u32 0,.int .u32 0,.int .u32 0,.int .u32 0,.int .u32 0,.int .u32 0,.int .u32 0,.int .u32 0,.int .u32 0,.int .u32 0,.int .u32 0,.int .u32 0,.int .u32 0,.int .u32 0,.int .u32 0,.int .u32 0,.int .u32 0,.int .u32 0,.int .u32 0,.int .u32 0,.int .u32 0,.int .u32 0,.int .u32 0,.int .u32 0,.int .u32 0,.int .u32 0,.int .u32 0,.int .u32 0,.int .u32 0,.int .u32 0,.int .u32 0,.int .u32 0,.int .u32 0,.int .u32 0,.int .u32 0,.int .u32 0,.int .u32 0,.int .u32 0,.int .u32 0,.int .u32 0,.int .u32 0,.int .u32 0,.int .u32 0,.int .u32 0,.int .u32 0,.int .u32 0,.int .u32 0,.int .u32 0,.int .u32 0,.int .u32 0] 298):=⟨_,rfl⟩
    rw[←hW3]
    have hS3:Below w.heap.size w W3:=by rw[hW3];exact hS2.alloc hS2.size _
    have hz3:Hid (W3.heap.size=W2.heap.size+1):=hid (by rw[hW3];simp)
    have f4:=(show W3.heap[W0.heap.size]?=W2.heap[W0.heap.size]? by rw[hW3];exact Below.heap_alloc _ _ _ (Array.getElem?_eq_some_iff.1 f4).1).trans f4
    have f5:W3.heap[W2.heap.size]?=some (.cells #[.int .u32 0,.int .u32 0,.int .u32 0,.int .u32 0,.int .u32 0,.int .u32 0,.int .u32 0,.int .u32 0,.int .u32 0,.int .u32 0,.int .u32 0,.int .u32 0,.int .u32 0,.int .u32 0,.int .u32 0,.int .u32 0,.int .u32 0,.int .u32 0,.int .u32 0,.int .u32 0,.int .u32 0,.int .u32 0,.int .u32 0,.int .u32 0,.int .u32 0,.int .u32 0,.int .u32 0,.int .u32 0,.int .u32 0,.int .u32 0,.int .u32 0,.int .u32 0,.int .u32 0,.int .u32 0,.int .u32 0,.int .u32 0,.int .u32 0,.int .u32 0,.int .u32 0,.int .u32 0,.int .u32 0,.int .u32 0,.int .u32 0,.int .u32 0,.int .u32 0,.int .u32 0,.int .u32 0,.int .u32 0,.int .u32 0,.int .u32 0,.int .u32 0,.int .u32 0,.int .u32 0,.int .u32 0,.int .u32 0,.int .u32 0,.int .u32 0,.int .u32 0,.int .u32 0,.int .u32 0,.int .u32 0,.int .u32 0,.int .u32 0,.int .u32 0] 298 (0,0)):=by rw[hW3];exact heap_alloc_new _ _
    refine hK.out _ _ hS3 ?_
    clear hK K hW3
    try simp only[Act.put,sA,sB,sC]
    have hh:W0.heap.size≠W2.heap.size∧w.heap.size≤W0.heap.size∧w.heap.size≤W2.heap.size:=by have z0:=hz0.out;have z1:=hz1.out;have z2:=hz2.out;have z3:=hz3.out;exact⟨by omega,by omega,by omega⟩
    obtain⟨hne,h4,h5⟩:=hh
    refine WH.one 6 (by kernel_rfl) rfl (by kernel_rfl) ?_
    intro K hK
    refine wp_store_row 252 _ _ rfl _ (af h).toArray rfl rfl 252 _ f4 HI.out.1 HI.out.2.1 HI.out.2.2 ?_
    refine hK.out _ _ (aP _ f4 hS3 h4) ?_
    try simp only[Act.put,sA]
    have g4:=setRow_heap _ _ _ (af h).toArray _ _ f4
    have g5:=cF (af h).toArray f4 f5 hne.symm
    have hSr:=aP (af h).toArray f4 hS3 h4
    clear hK K f4 f5
    refine WH.one 7 (by kernel_rfl) rfl (by kernel_rfl) ?_
    intro K hK
    refine wp_store_row 298 _ _ rfl _ kA rfl rfl 298 _ g5 (by rw[gh];exact cv) rfl jU ?_
    refine hK.out _ _ (aP _ g5 hSr h5) ?_
    try simp only[Act.put]
    have r5:=setRow_heap _ _ _ kA _ _ g5
    have r4:=cF kA g5 g4 hne
    have hSq:=aP kA g5 hSr h5
    clear hK K g4 g5 hSr
    refine WH.done (by kernel_rfl) ?_
    go_wp2_with fail
    go_meet
    case rel=>exact⟨_,_,rfl,rfl,hne,h4,h5,r4,r5,hSq⟩
   ·intro K hK
    go_simp
    obtain⟨W2,hW2⟩:∃x,x=W1.alloc (.cells #[.int .u32 0,.int .u32 0,.int .u32 0,.int .u32 0,.int .u32 0,.int .u32 0,.int .u32 0,.int .u32 0,.int .u32 0,.int .u32 0,.int .u32 0,.int .u32 0,.int .u32 0,.int .u32 0,.int .u32 0,.int .u32 0,.int .u32 0,.int .u32 0,.int .u32 0,.int .u32 0,.int .u32 0,.int .u32 0,.int .u32 0,.int .u32 0,.int .u32 0,.int .u32 0,.int .u32 0,.int .u32 0,.int .u32 0,.int .u32 0,.int .u32 0,.int .u32 0,.int .u32 0,.int .u32 0,.int .u32 0,.int .u32 0,.int .u32 0,.int .u32 0,.int .u32 0,.int .u32 0,.int .u32 0,.int .u32 0,.int .u32 0,.int .u32 0,.int .u32 0,.int .u32 0,.int .u32 0,.int .u32 0,.int .u32 0,.int .u32 0,.int .u32 0,.int .u32 0,.int .u32 0,.int .u32 0,.int .u32 0,.int .u32 0,.int .u32 0,.int .u32 0,.int .u32 0,.int .u32 0,.int .u32 0,.int .u32 0,.int .u32 0,.int .u32 0] 298):=⟨_,rfl⟩
    rw[←hW2]
    have hS2:Below w.heap.size w W2:=by rw[hW2];exact hS1.alloc hS1.size _
    have hz2:Hid (W2.heap.size=W1.heap.size+1):=hid (by rw[hW2];simp)
    have f4:=(show W2.heap[W0.heap.size]?=W1.heap[W0.heap.size]? by rw[hW2];exact Below.heap_alloc _ _ _ (Array.getElem?_eq_some_iff.1 f4).1).trans f4
    have f5:W2.heap[W1.heap.size]?=some (.cells #[.int .u32 0,.int .u32 0,.int .u32 0,.int .u32 0,.int .u32 0,.int .u32 0,.int .u32 0,.int .u32 0,.int .u32 0,.int .u32 0,.int .u32 0,.int .u32 0,.int .u32 0,.int .u32 0,.int .u32 0,.int .u32 0,.int .u32 0,.int .u32 0,.int .u32 0,.int .u32 0,.int .u32 0,.int .u32 0,.int .u32 0,.int .u32 0,.int .u32 0,.int .u32 0,.int .u32 0,.int .u32 0,.int .u32 0,.int .u32 0,.int .u32 0,.int .u32 0,.int .u32 0,.int .u32 0,.int .u32 0,.int .u32 0,.int .u32 0,.int .u32 0,.int .u32 0,.int .u32 0,.int .u32 0,.int .u32 0,.int .u32 0,.int .u32 0,.int .u32 0,.int .u32 0,.int .u32 0,.int .u32 0,.int .u32 0,.int .u32 0,.int .u32 0,.int .u32 0,.int .u32 0,.int .u32 0,.int .u32 0,.int .u32 0,.int .u32 0,.int .u32 0,.int .u32 0,.int .u32 0,.int .u32 0,.int .u32 0,.int .u32 0,.int .u32 0] 298 (0,0)):=by rw[hW2];exact heap_alloc_new _ _
    refine hK.out _ _ hS2 ?_
    clear hK K hW2
    try simp only[Act.put,sA,sB,sC]
    refine WH.one 3 (by kernel_rfl) rfl (by kernel_rfl) ?_
    intro K hK
    go_simp
    refine(fN _).mono ?_
    rintro e W3 ⟨rfl,hbc⟩
    go_wp2_with fail
    have hS3:=Below.chain hS2 hbc
    have hz3:=hid hbc.size
    have f4:=(hbc.block _ (Array.getElem?_eq_some_iff.1 f4).1).trans f4
    have f5:=(hbc.block _ (Array.getElem?_eq_some_iff.1 f5).1).trans f5
    refine hK.out _ _ hS3 ?_
    clear hK K hbc
    try simp only[Act.put,sA,sB,sC]
    have hh:W0.heap.size≠W1.heap.size∧w.heap.size≤W0.heap.size∧w.heap.size≤W1.heap.size:=by have z0:=hz0.out;have z1:=hz1.out;have z2:=hz2.out;have z3:=hz3.out;exact⟨by omega,by omega,by omega⟩
    obtain⟨hne,h4,h5⟩:=hh
    refine WH.one 6 (by kernel_rfl) rfl (by kernel_rfl) ?_
    intro K hK
    refine wp_store_row 252 _ _ rfl _ (af h).toArray rfl rfl 252 _ f4 HI.out.1 HI.out.2.1 HI.out.2.2 ?_
    refine hK.out _ _ (aP _ f4 hS3 h4) ?_
    try simp only[Act.put,sA]
    have g4:=setRow_heap _ _ _ (af h).toArray _ _ f4
    have g5:=cF (af h).toArray f4 f5 hne.symm
    have hSr:=aP (af h).toArray f4 hS3 h4
    clear hK K f4 f5
    refine WH.one 7 (by kernel_rfl) rfl (by kernel_rfl) ?_
    intro K hK
    refine wp_store_row 298 _ _ rfl _ kA rfl rfl 298 _ g5 (by rw[gh];exact cv) rfl jU ?_
    refine hK.out _ _ (aP _ g5 hSr h5) ?_
    try simp only[Act.put]
    have r5:=setRow_heap _ _ _ kA _ _ g5
    have r4:=cF kA g5 g4 hne
    have hSq:=aP kA g5 hSr h5
    clear hK K g4 g5 hSr
    refine WH.done (by kernel_rfl) ?_
    go_wp2_with fail
    go_meet
    case rel=>exact⟨_,_,rfl,rfl,hne,h4,h5,r4,r5,hSq⟩
  ·intro K hK
   go_simp
   obtain⟨W1,hW1⟩:∃x,x=W0.alloc (.cells #[.int .u32 0,.int .u32 0,.int .u32 0,.int .u32 0,.int .u32 0,.int .u32 0,.int .u32 0,.int .u32 0,.int .u32 0,.int .u32 0,.int .u32 0,.int .u32 0,.int .u32 0,.int .u32 0,.int .u32 0,.int .u32 0,.int .u32 0,.int .u32 0,.int .u32 0,.int .u32 0,.int .u32 0,.int .u32 0,.int .u32 0,.int .u32 0,.int .u32 0,.int .u32 0,.int .u32 0,.int .u32 0,.int .u32 0,.int .u32 0,.int .u32 0,.int .u32 0,.int .u32 0,.int .u32 0,.int .u32 0,.int .u32 0,.int .u32 0,.int .u32 0,.int .u32 0,.int .u32 0,.int .u32 0,.int .u32 0,.int .u32 0,.int .u32 0,.int .u32 0,.int .u32 0,.int .u32 0,.int .u32 0,.int .u32 0,.int .u32 0,.int .u32 0,.int .u32 0,.int .u32 0,.int .u32 0,.int .u32 0,.int .u32 0,.int .u32 0,.int .u32 0,.int .u32 0,.int .u32 0,.int .u32 0,.int .u32 0,.int .u32 0,.int .u32 0] 298):=⟨_,rfl⟩
   rw[←hW1]
   have hS1:Below w.heap.size w W1:=by rw[hW1];exact hS0.alloc hS0.size _
   have hz1:Hid (W1.heap.size=W0.heap.size+1):=hid (by rw[hW1];simp)
   have f5:W1.heap[W0.heap.size]?=some (.cells #[.int .u32 0,.int .u32 0,.int .u32 0,.int .u32 0,.int .u32 0,.int .u32 0,.int .u32 0,.int .u32 0,.int .u32 0,.int .u32 0,.int .u32 0,.int .u32 0,.int .u32 0,.int .u32 0,.int .u32 0,.int .u32 0,.int .u32 0,.int .u32 0,.int .u32 0,.int .u32 0,.int .u32 0,.int .u32 0,.int .u32 0,.int .u32 0,.int .u32 0,.int .u32 0,.int .u32 0,.int .u32 0,.int .u32 0,.int .u32 0,.int .u32 0,.int .u32 0,.int .u32 0,.int .u32 0,.int .u32 0,.int .u32 0,.int .u32 0,.int .u32 0,.int .u32 0,.int .u32 0,.int .u32 0,.int .u32 0,.int .u32 0,.int .u32 0,.int .u32 0,.int .u32 0,.int .u32 0,.int .u32 0,.int .u32 0,.int .u32 0,.int .u32 0,.int .u32 0,.int .u32 0,.int .u32 0,.int .u32 0,.int .u32 0,.int .u32 0,.int .u32 0,.int .u32 0,.int .u32 0,.int .u32 0,.int .u32 0,.int .u32 0,.int .u32 0] 298 (0,0)):=by rw[hW1];exact heap_alloc_new _ _
   refine hK.out _ _ hS1 ?_
   clear hK K hW1
   try simp only[Act.put,sA,sB,sC]
   refine zfP 3 4 (by kernel_rfl) rfl (by kernel_rfl) rfl (by kernel_rfl) ?_ ?_
   ·intro K hK
    go_simp
    refine(fN _).mono ?_
    rintro e W2 ⟨rfl,hbc⟩
    go_wp2_with fail
    have hS2:=Below.chain hS1 hbc
    have hz2:=hid hbc.size
    have f5:=(hbc.block _ (Array.getElem?_eq_some_iff.1 f5).1).trans f5
    refine hK.out _ _ hS2 ?_
    clear hK K hbc
    try simp only[Act.put,sA,sB,sC]
    refine WH.one 4 (by kernel_rfl) rfl (by kernel_rfl) ?_
    intro K hK
    go_simp
    obtain⟨W3,hW3⟩:∃x,x=W2.alloc (.cells #[.int .u32 0,.int .u32 0,.int .u32 0,.int .u32 0,.int .u32 0,.int .u32 0,.int .u32 0,.int .u32 0] 252):=⟨_,rfl⟩
    rw[←hW3]
    have hS3:Below w.heap.size w W3:=by rw[hW3];exact hS2.alloc hS2.size _
    have hz3:Hid (W3.heap.size=W2.heap.size+1):=hid (by rw[hW3];simp)
    have f5:=(show W3.heap[W0.heap.size]?=W2.heap[W0.heap.size]? by rw[hW3];exact Below.heap_alloc _ _ _ (Array.getElem?_eq_some_iff.1 f5).1).trans f5
    have f4:W3.heap[W2.heap.size]?=some (.cells #[.int .u32 0,.int .u32 0,.int .u32 0,.int .u32 0,.int .u32 0,.int .u32 0,.int .u32 0,.int .u32 0] 252 (0,0)):=by rw[hW3];exact heap_alloc_new _ _
    refine hK.out _ _ hS3 ?_
    clear hK K hW3
    try simp only[Act.put,sA,sB,sC]
    have hh:W2.heap.size≠W0.heap.size∧w.heap.size≤W2.heap.size∧w.heap.size≤W0.heap.size:=by have z0:=hz0.out;have z1:=hz1.out;have z2:=hz2.out;have z3:=hz3.out;exact⟨by omega,by omega,by omega⟩
    obtain⟨hne,h4,h5⟩:=hh
    refine WH.one 6 (by kernel_rfl) rfl (by kernel_rfl) ?_
    intro K hK
    refine wp_store_row 252 _ _ rfl _ (af h).toArray rfl rfl 252 _ f4 HI.out.1 HI.out.2.1 HI.out.2.2 ?_
    refine hK.out _ _ (aP _ f4 hS3 h4) ?_
    try simp only[Act.put,sA]
    have g4:=setRow_heap _ _ _ (af h).toArray _ _ f4
    have g5:=cF (af h).toArray f4 f5 hne.symm
    have hSr:=aP (af h).toArray f4 hS3 h4
    clear hK K f4 f5
    refine WH.one 7 (by kernel_rfl) rfl (by kernel_rfl) ?_
    intro K hK
    refine wp_store_row 298 _ _ rfl _ kA rfl rfl 298 _ g5 (by rw[gh];exact cv) rfl jU ?_
    refine hK.out _ _ (aP _ g5 hSr h5) ?_
    try simp only[Act.put]
    have r5:=setRow_heap _ _ _ kA _ _ g5
    have r4:=cF kA g5 g4 hne
    have hSq:=aP kA g5 hSr h5
    clear hK K g4 g5 hSr
    refine WH.done (by kernel_rfl) ?_
    go_wp2_with fail
    go_meet
    case rel=>exact⟨_,_,rfl,rfl,hne,h4,h5,r4,r5,hSq⟩
   ·intro K hK
    go_simp
    obtain⟨W2,hW2⟩:∃x,x=W1.alloc (.cells #[.int .u32 0,.int .u32 0,.int .u32 0,.int .u32 0,.int .u32 0,.int .u32 0,.int .u32 0,.int .u32 0] 252):=⟨_,rfl⟩
    rw[←hW2]
    have hS2:Below w.heap.size w W2:=by rw[hW2];exact hS1.alloc hS1.size _
    have hz2:Hid (W2.heap.size=W1.heap.size+1):=hid (by rw[hW2];simp)
    have f5:=(show W2.heap[W0.heap.size]?=W1.heap[W0.heap.size]? by rw[hW2];exact Below.heap_alloc _ _ _ (Array.getElem?_eq_some_iff.1 f5).1).trans f5
    have f4:W2.heap[W1.heap.size]?=some (.cells #[.int .u32 0,.int .u32 0,.int .u32 0,.int .u32 0,.int .u32 0,.int .u32 0,.int .u32 0,.int .u32 0] 252 (0,0)):=by rw[hW2];exact heap_alloc_new _ _
    refine hK.out _ _ hS2 ?_
    clear hK K hW2
    try simp only[Act.put,sA,sB,sC]
    refine WH.one 3 (by kernel_rfl) rfl (by kernel_rfl) ?_
    intro K hK
    go_simp
    refine(fN _).mono ?_
    rintro e W3 ⟨rfl,hbc⟩
    go_wp2_with fail
    have hS3:=Below.chain hS2 hbc
    have hz3:=hid hbc.size
    have f5:=(hbc.block _ (Array.getElem?_eq_some_iff.1 f5).1).trans f5
    have f4:=(hbc.block _ (Array.getElem?_eq_some_iff.1 f4).1).trans f4
    refine hK.out _ _ hS3 ?_
    clear hK K hbc
    try simp only[Act.put,sA,sB,sC]
    have hh:W1.heap.size≠W0.heap.size∧w.heap.size≤W1.heap.size∧w.heap.size≤W0.heap.size:=by have z0:=hz0.out;have z1:=hz1.out;have z2:=hz2.out;have z3:=hz3.out;exact⟨by omega,by omega,by omega⟩
    obtain⟨hne,h4,h5⟩:=hh
    refine WH.one 6 (by kernel_rfl) rfl (by kernel_rfl) ?_
    intro K hK
    refine wp_store_row 252 _ _ rfl _ (af h).toArray rfl rfl 252 _ f4 HI.out.1 HI.out.2.1 HI.out.2.2 ?_
    refine hK.out _ _ (aP _ f4 hS3 h4) ?_
    try simp only[Act.put,sA]
    have g4:=setRow_heap _ _ _ (af h).toArray _ _ f4
    have g5:=cF (af h).toArray f4 f5 hne.symm
    have hSr:=aP (af h).toArray f4 hS3 h4
    clear hK K f4 f5
    refine WH.one 7 (by kernel_rfl) rfl (by kernel_rfl) ?_
    intro K hK
    refine wp_store_row 298 _ _ rfl _ kA rfl rfl 298 _ g5 (by rw[gh];exact cv) rfl jU ?_
    refine hK.out _ _ (aP _ g5 hSr h5) ?_
    try simp only[Act.put]
    have r5:=setRow_heap _ _ _ kA _ _ g5
    have r4:=cF kA g5 g4 hne
    have hSq:=aP kA g5 hSr h5
    clear hK K g4 g5 hSr
    refine WH.done (by kernel_rfl) ?_
    go_wp2_with fail
    go_meet
    case rel=>exact⟨_,_,rfl,rfl,hne,h4,h5,r4,r5,hSq⟩
 case rest=>
  obtain⟨b4,b5,rfl,rfl,hne,h4,h5,f4,f5,hb1⟩:=hcut
  have HSl:=hid (jW.below hb1 (Nat.le_refl _))
  have hl4:=(Array.getElem?_eq_some_iff.1 f4).1
  have hl5:=(Array.getElem?_eq_some_iff.1 f5).1
  have HF4:=hid f4
  have HF5:=hid f5
  have HB1:=hid hb1
  have HN:=hid (show b4≠b5∧w.heap.size≤b4∧w.heap.size≤b5∧b4<wc.heap.size∧b5<wc.heap.size from⟨hne,h4,h5,hl4,hl5⟩)
  have HG:=hid hg
  have HL8:=hid hl8
  clear jW hne h4 h5 f4 f5 hb1 hl4 hl5 hg hl8 HI HR
  go_wp2_with (go_at_call 174;refine(uU _ b _ HSl.out).mono ?_;rintro e w2 ⟨rfl,hb2⟩)
  have HB2:=hid (Below.chain HB1.out hb2)
  have HG4:=hid ((hb2.block _ HN.out.2.2.2.1).trans HF4.out)
  have HG5:=hid ((hb2.block _ HN.out.2.2.2.2).trans HF5.out)
  have HZ2:=hid hb2.size
  clear hb2 HSl
  generalize hsch:j5 b=ws at *
  have HWS:Hid (ws.length=64):=hid (by rw[←hsch];exact dY b 64)
  have HCP:Hid (cy br h b=nR h (bJ br ws h 64) 8):=hid (by rw[←hsch];rfl)
  clear hsch
  go_loopw [20] (fun i wr=>∃(k:Nat),k≤64∧i=.int .i64 k∧wr.heap[b4]?=some (.cells (af (bJ br ws h k)).toArray 252 (0,0))∧wr.heap[b5]?=some (.cells kA 298 (0,0))∧Below w.heap.size w wr) (fun i _=>64-(intOf i).toNat)
  case atStart=>exact⟨0,by omega,rfl,HG4.out,HG5.out,HB2.out⟩
  case round=>
   obtain⟨k,hk,rfl,g4,g5,hbr⟩:=hrel
   clear HG4 HG5 HB2 HF4 HF5 HB1
   have HV8:=hid (si (ks:=br) (ws:=ws) HL8.out k)
   by_cases h64:k<64
   ·have HS:Hid (bJ br ws h (k+1)=jk (bJ br ws h k) (br.getD k 0) (ws.getD k 0)):=hid rfl
    have cell:=fun j (hj:j<8)=>(cell_of_row wr b4 j _ _ _ g4).trans (List.getElem?_toArray.trans (cI (bJ br ws h k) j (by rw[HV8.out];exact hj)))
    have l0:=cell 0 (by omega)
    have l1:=cell 1 (by omega)
    have l2:=cell 2 (by omega)
    have l3:=cell 3 (by omega)
    have l4:=cell 4 (by omega)
    have l5:=cell 5 (by omega)
    have l6:=cell 6 (by omega)
    have l7:=cell 7 (by omega)
    have ck:wr.cell? ⟨b5,k,none⟩=some (.int .u32 (br.getD k 0)):=(cell_of_row wr b5 k _ _ _ g5).trans (show kA[k]?=_ from List.getElem?_toArray.trans (cI br k h64))
    have HW:=hid (cI ws k (by rw[HWS.out];exact h64))
    have HWA:Hid ((af ws).toArray.size=64):=hid (by simp[aF,HWS.out])
    have HWG:Hid ((af ws).toArray[k]?=some (.int .u32 (ws.getD k 0))):=hid (by rw[List.getElem?_toArray];exact HW.out)
    have HRG4:=hid g4
    have HRG5:=hid g5
    generalize hWA:(af ws).toArray=WA at *
    unfold jk at HS
    generalize ws.getD k 0=xs at *
    generalize br.getD k 0=xk at *
    generalize (bJ br ws h k).getD 0 0=x0 at *
    generalize (bJ br ws h k).getD 1 0=x1 at *
    generalize (bJ br ws h k).getD 2 0=x2 at *
    generalize (bJ br ws h k).getD 3 0=x3 at *
    generalize (bJ br ws h k).getD 4 0=x4 at *
    generalize (bJ br ws h k).getD 5 0=x5 at *
    generalize (bJ br ws h k).getD 6 0=x6 at *
    generalize (bJ br ws h k).getD 7 0=x7 at *
    have hix:=uM WA k xs h64 HWG.out
    clear cell g4 g5 HW
    have HT:=hid rK
    have k64:(k:Int)<64:=by omega
    go_upto_region 4 with fail
    go_quiet (fail)
    go_upto_region 5 with fail
    obtain⟨W1,hW1⟩:∃W1,W1=wr.drewN nq:=⟨_,rfl⟩
    have hd1:Below wr.heap.size wr W1:=by rw[hW1];exact eP.below ⟨nq,rfl⟩
    have ck1:=bA hd1 ck
    have m1:=bA hd1 l1
    have m2:=bA hd1 l2
    have m3:=bA hd1 l3
    have m5:=bA hd1 l5
    have m6:=bA hd1 l6
    have m7:=bA hd1 l7
    rw[←hW1]
    clear hW1 ck l0 l1 l2 l3 l4 l5 l6 l7 hix
    refine aC (by kernel_rfl) (by kernel_rfl) ?_
    repeat(refine WQ.step (fun K hK=>?_);go_simp;first|(refine hK _ ?_;clear hK K)|(apply Exists.intro;refine⟨fun W hW=>?_,hK _ ?_⟩;(first|(go_at_call_of 175 (Value.int .i64 6);exact ze1 hW (HT.out _ 6 (by decide) (by decide) _))|(go_at_call_of 175 (Value.int .i64 11);exact ze1 hW (HT.out _ 11 (by decide) (by decide) _))|(go_at_call_of 175 (Value.int .i64 25);exact ze1 hW (HT.out _ 25 (by decide) (by decide) _))|(first|with_reducible rfl|(have zz0:=Below.keeps hW ck1;have zz1:=Below.keeps hW m5;have zz2:=Below.keeps hW m6;have zz3:=Below.keeps hW m7;go_simp;first|rfl|exact⟨rfl,rfl⟩|(rw[if_neg (by omega)];exact⟨rfl,rfl⟩))));clear hK K))
    refine WQ.nil ?_
    intro wu hwu
    have n1:=bA hwu m1
    have n2:=bA hwu m2
    have n3:=bA hwu m3
    have n5:=bA hwu m5
    have n6:=bA hwu m6
    have hd2:=Below.chain hd1 hwu
    clear ck1 m1 m2 m3 m5 m6 m7 hwu hd1
    go_upto_region 6 with fail
    refine aC (by kernel_rfl) (by kernel_rfl) ?_
    repeat(refine WQ.step (fun K hK=>?_);go_simp;first|(refine hK _ ?_;clear hK K)|(apply Exists.intro;refine⟨fun W hW=>?_,hK _ ?_⟩;(first|(go_at_call_of 175 (Value.int .i64 2);exact ze1 hW (HT.out _ 2 (by decide) (by decide) _))|(go_at_call_of 175 (Value.int .i64 13);exact ze1 hW (HT.out _ 13 (by decide) (by decide) _))|(go_at_call_of 175 (Value.int .i64 22);exact ze1 hW (HT.out _ 22 (by decide) (by decide) _))|(first|with_reducible rfl|(have zz0:=Below.keeps hW n1;have zz1:=Below.keeps hW n2;go_simp;first|rfl|exact⟨rfl,rfl⟩|(rw[if_neg (by omega)];exact⟨rfl,rfl⟩))));clear hK K))
    refine WQ.nil ?_
    intro wx hwx
    have p1:=bA hwx n1
    have p2:=bA hwx n2
    have p3:=bA hwx n3
    have p5:=bA hwx n5
    have p6:=bA hwx n6
    have hd3:=Below.chain hd2 hwx
    have l4w:=(Array.getElem?_eq_some_iff.1 HRG4.out).1
    have l5w:=(Array.getElem?_eq_some_iff.1 HRG5.out).1
    have q4:=(hd3.block _ l4w).trans HRG4.out
    have q5:=(hd3.block _ l5w).trans HRG5.out
    have hq:=Below.chain hbr hd3
    clear n1 n2 n3 n5 n6 hwx hd2 hd3 l4w l5w
    have hZ8:(af (bJ br ws h k)).toArray.size=8:=by simp[aF,HV8.out]
    have HQ4:=hid q4
    have HQ5:=hid q5
    have HQ:=hid hq
    have HZ8:=hid hZ8
    clear q4 q5 hq hZ8
    go_wp2_with (refine wpList_store_row rfl 252 _ _ rfl b4 _ rfl rfl 252 _ HQ4.out (by kernel_rfl) HZ8.out (by kernel_rfl) ?_)
    refine⟨?_,by simp[intOf];omega⟩
    (first|exact⟨k+1,by omega,by go_num,by rw[HS.out];exact setRow_heap _ _ _ _ _ _ HQ4.out,cF _ HQ4.out HQ5.out HN.out.1.symm,aP _ HQ4.out HQ.out HN.out.2.1⟩|((repeat apply Exists.intro);exact⟨⟨k+1,by omega,by go_num,by rw[HS.out];exact setRow_heap _ _ _ _ _ _ HQ4.out,cF _ HQ4.out HQ5.out HN.out.1.symm,aP _ HQ4.out HQ.out HN.out.2.1⟩,rfl⟩))
   ·obtain rfl:k=64:=by omega
    obtain⟨wo,rfl⟩:∃wo:World,wo=wr:=⟨_,rfl⟩
    have HBR:=hid hbr
    have G4:=hid g4
    have HG0:Hid (wo.heap[g]?=some (.cells (((ie h (bJ br ws h 64) 0).map (Value.int .u32))++rest).toArray t (0,0))):=hid (by rw[w8 _ HL8.out,hbr.block _ hgl];exact HG.out)
    have HV:Hid (∀k,k<8→(af (bJ br ws h 64)).toArray[k]?=some (.int .u32 ((bJ br ws h 64).getD k 0))):=hid (fun k hk=>List.getElem?_toArray.trans (cI _ k (by rw[HV8.out];exact hk)))
    have HZ8:Hid ((af (bJ br ws h 64)).toArray.size=8):=hid (by simp[aF,HV8.out])
    generalize hV:bJ br ws h 64=v at *
    clear g4 g5 hbr h64 hV
    go_wp2_with (refine wpList_load_row rfl 252 _ rfl b4 rfl _ _ _ _ G4.out Tryz.underlying252 rfl (by rw[HZ8.out];kernel_rfl) ?_)
    generalize (af v).toArray=VA at *
    go_loopw [100] (fun i wr=>∃(k:Nat),k≤8∧i=.int .i64 k∧wr.heap[g]?=some (.cells (((ie h v k).map (Value.int .u32))++rest).toArray t (0,0))∧iA g w wr) (fun i _=>8-(intOf i).toNat)
    case atStart=>exact⟨0,by omega,rfl,HG0.out,iA.of_below HBR.out⟩
    case round=>
     obtain⟨k,hk,rfl,hg,hbr⟩:=hrel
     have hgr:g<wr.heap.size:=(Array.getElem?_eq_some_iff.1 hg).1
     clear HG0
     by_cases h8:k<8
     ·have hix:=tw VA k _ h8 (HV.out k h8)
      have cg:wr.cell? ⟨g,k,none⟩=some (.int .u32 (h.getD k 0)):=(cell_of_row wr g k _ _ _ hg).trans (List.getElem?_toArray.trans ((List.getElem?_append_left (by simp[tQ,h8])).trans (by rw[show((ie h v k).map (Value.int .u32))[k]?=some (.int .u32 ((ie h v k).getD k 0)) from cI _ k (by rw[tQ];exact h8),zi h v k h8])))
      have HM:=hid (xq h v rest k h8)
      have HGR:=hid hg
      have HBT:=hid hbr
      have k8:(k:Int)<8:=by omega
      generalize h.getD k 0=xh at *
      generalize v.getD k 0=xv at *
      clear hg hbr
      go_upto_region 12 with fail
      refine ar 9 (by kernel_rfl) (by kernel_rfl) ?_
      simp only[List.take_succ_cons,List.take_zero,List.drop_succ_cons,List.drop_zero]
      repeat(refine WQ.step (fun K hK=>?_);go_simp;first|(refine hK _ ?_;clear hK K)|(apply Exists.intro;refine⟨fun W hW=>?_,hK _ ?_⟩;(first|(first|with_reducible rfl|(have zz0:=Below.keeps hW cg;go_simp;first|rfl|exact⟨rfl,rfl⟩|(rw[if_neg (by omega)];exact⟨rfl,rfl⟩))));clear hK K))
      refine WQ.nil ?_
      intro wz hwz
      have hgz:=(hwz.block _ hgr).trans HGR.out
      have cz:=bA hwz cg
      have fz:wz.frozen? ⟨g,k,none⟩=false:=frozen_of_row wz _ k _ _ hgz
      have HNZ:=hid ((heap_setCell_same wz g k _ t (.int .u32 ((xh+xv)%4294967296)) hgz).trans (by rw[HM.out]))
      have HBZ:=hid (iA.below HBT.out hwz)
      clear hgz hwz
      go_wp2_with fail
      refine⟨?_,by simp[intOf];omega⟩
      (first|exact⟨k+1,by omega,by go_num,HNZ.out,HBZ.out.set _ _⟩|((repeat apply Exists.intro);exact⟨⟨k+1,by omega,by go_num,HNZ.out,HBZ.out.set _ _⟩,rfl⟩))
     ·obtain rfl:k=8:=by omega
      go_wp2_with fail
      (first|go_end0|(simp only[Exit.inBlock,Exit.then];refine bodyPost_ret (results_none rfl _ _ _) rfl ?_)|refine bodyPost_ret (results_none rfl _ _ _) rfl ?_)
      refine⟨rfl,?_,hbr⟩
      rw[HCP.out,←zaV]
      exact hg
def aT (w:World) (base:Nat) (e:TypeId) (v:Value) (n:Nat) (xs:List Value):Prop:=
 xs.length=n∧((v=.slice none 0 0∧n=0)∨∃g off cap cur fz,v=.slice (some ⟨g,off,none⟩) n cap∧base≤g∧w.heap[g]?=some (.cells cur e fz)∧
  (∀j,j<cur.size→¬(fz.1≤j∧j<fz.2))∧n≤cap∧cap≤maxLen∧off+cap≤cur.size∧(cur.toList.drop off).take n=xs)
section
variable {w w':World} {base:Nat} {e:TypeId} {v:Value} {n:Nat} {xs:List Value}
theorem aT.nil (w:World) (base:Nat) (e:TypeId):aT w base e (.slice none 0 0) 0 []:=⟨rfl,.inl ⟨rfl,rfl⟩⟩
theorem aT.of_owns (h:w.ownsRow base e 1 v n xs):aT w base e v n xs:=by
 refine⟨by have:=h.1;omega,?_⟩
 rcases h.2 with hn|⟨g,cap,cur,hv,hb,hg,h1,h2,h3,h4⟩
 ·exact .inl hn
 ·exact .inr ⟨g,0,cap,cur,(0,0),hv,hb,hg,fun j _ h=>by have:=h.2;omega,h1,h2,by omega,by rw[Nat.mul_one] at h4;exact h4⟩
theorem aT.lt (h:aT w base e v n xs):∀k,v.ownBlock=some k→base≤k∧k<w.heap.size:=by
 intro k hk
 rcases h.2 with⟨rfl,_⟩|⟨g,off,cap,cur,fz,rfl,hb,hg,_⟩
 ·simp[Value.ownBlock] at hk
 ·simp[Value.ownBlock] at hk
  subst hk
  exact⟨hb,(Array.getElem?_eq_some_iff.1 hg).1⟩
theorem aT.kept {row:Option Nat} (h:aT w base e v n xs) (hg:w.grownBy w' row) (hne:v.ownBlock=none∨v.ownBlock≠row):aT w' base e v n xs:=by
 refine⟨h.1,?_⟩
 rcases h.2 with hn|⟨g,off,cap,cur,fz,rfl,hb,hgg,rest⟩
 ·exact .inl hn
 ·refine .inr ⟨g,off,cap,cur,fz,rfl,hb,?_,rest⟩
  rw[hg.block g (Array.getElem?_eq_some_iff.1 hgg).1 (by simpa[Value.ownBlock] using hne)]
  exact hgg
theorem aT.same (h:aT w base e v n xs) (hk:∀k,v.ownBlock=some k→w'.heap[k]?=w.heap[k]?):aT w' base e v n xs:=by
 refine⟨h.1,?_⟩
 rcases h.2 with hn|⟨g,off,cap,cur,fz,rfl,hb,hgg,rest⟩
 ·exact .inl hn
 ·exact .inr ⟨g,off,cap,cur,fz,rfl,hb,by rw[hk g rfl];exact hgg,rest⟩
theorem aT.below (h:aT w base e v n xs) (hb:Below w.heap.size w w'):aT w' base e v n xs:=h.same fun k hk=>hb.block k (h.lt k hk).2
theorem aT.alloc (h:aT w base e v n xs) (o:Obj):aT (w.alloc o) base e v n xs:=h.below (ab w o)
theorem aT.form (h:aT w base e v n xs):∃a c,v=.slice a n c∧n≤c∧c≤maxLen:=by
 rcases h.2 with⟨rfl,rfl⟩|⟨g,off,cap,cur,fz,rfl,_,_,_,h1,h2,_⟩
 ·exact⟨none,0,rfl,Nat.le_refl _,Nat.zero_le _⟩
 ·exact⟨_,cap,rfl,h1,h2⟩
theorem aT.cells {g off cap:Nat} (h:aT w base e (.slice (some ⟨g,off,none⟩) n cap) n xs):∀j u,xs[j]?=some u→w.cell? ⟨g,off+j,none⟩=some u:=by
 intro j u hu
 rcases h.2 with⟨h1,_⟩|⟨g',off',cap',cur,fz,hv,_,hgg,_,_,_,_,ht⟩
 ·cases h1
 ·injection hv with h1 h2 h3
  injection h1 with h1
  injection h1 with h1 h4 h5
  subst h1 h4 h3
  rw[cell_of_row w g (off+j) cur e fz hgg]
  rw[←ht,List.getElem?_take] at hu
  split at hu
  ·rw[List.getElem?_drop] at hu;simpa using hu
  ·cases hu
theorem aT.sliceAt (h:aT w base e v n xs):am w 1 v n xs:=by
 refine⟨by rw[h.1];omega,?_⟩
 rcases h.2 with⟨rfl,rfl⟩|⟨g,off,cap,cur,fz,rfl,hb,hgg,hf,h1,h2,h3,ht⟩
 ·exact⟨none,0,rfl,Nat.le_refl _,Nat.zero_le _,fun _=>rfl,fun hne=>absurd (List.eq_nil_of_length_eq_zero h.1) hne⟩
 ·exact⟨_,cap,rfl,h1,h2,fun h=>(by cases h),fun _=>⟨g,off,rfl,(Array.getElem?_eq_some_iff.1 hgg).1,h.cells⟩⟩
theorem aT.cut {a:Option Addr} {cap:Nat} (h:aT w base e (.slice a n cap) n xs) {k:Nat} (hk:k≤n):
 aT w base e (.slice (if cap=k then a else a.map (·.add k)) (n-k) (cap-k)) (n-k) (xs.drop k):=by
 refine⟨by rw[List.length_drop,h.1],?_⟩
 rcases h.2 with⟨hv,rfl⟩|⟨g,off,cap',cur,fz,hv,hb,hgg,hf,h1,h2,h3,ht⟩
 ·injection hv with h1 h2 h3
  subst h1 h3
  obtain rfl:k=0:=by omega
  exact .inl ⟨by simp,by omega⟩
 ·injection hv with e1 e2 e3
  subst e1 e3
  refine .inr ?_
  by_cases hck:cap=k
  ·rw[if_pos hck]
   refine⟨g,off,cap-k,cur,fz,rfl,hb,hgg,hf,by omega,by omega,by omega,?_⟩
   rw[show n-k=0 by omega,List.take_zero]
   rw[List.drop_eq_nil_of_le (by rw[h.1];omega)]
  ·rw[if_neg hck]
   have hadd:(⟨g,off,none⟩:Addr).add k=⟨g,off+k,none⟩:=by unfold Addr.add;split<;>simp_all
   refine⟨g,off+k,cap-k,cur,fz,by simp[hadd],hb,hgg,hf,by omega,by omega,by omega,?_⟩
   rw[←ht,List.drop_take,List.drop_drop]
end
theorem dI (P:Program) (g o:Nat) (t:TypeId) (fz:Nat×Nat):∀(vs:List Value) (i:Nat) (cur:Array Value) (w:World),w.heap[g]?=some (.cells cur t fz)→(∀j,j<cur.size→¬(fz.1≤j∧j<fz.2))→o+i+vs.length≤cur.size→(∀v∈vs,v.oneCell'=true)→
 (storeCells ⟨g,o,none⟩ vs i).run P w=.ok () (w.setRow g (cur.toList.take (o+i)++vs++cur.toList.drop (o+i+vs.length)).toArray)
 |[],i,cur,w,hg,_,_,_=>by
  simp only[storeCells,List.append_nil,List.length_nil,Nat.add_zero,List.take_append_drop,Array.toArray_toList]
  rw[setRow_self w g cur t fz hg]
  rfl
 |v::rest,i,cur,w,hg,hfz,hl,h1=>by
  have hi:o+i<cur.size:=by simp at hl;omega
  have hadd:(⟨g,o,none⟩:Addr).add i=⟨g,o+i,none⟩:=by unfold Addr.add;split<;>simp_all
  have hcell:w.cell? ⟨g,o+i,none⟩=some cur[o+i]:=by simp[World.cell?,hg,hi]
  have hfro:w.frozen? ⟨g,o+i,none⟩=false:=by
   obtain⟨lo,hi'⟩:=fz
   have:=hfz (o+i) hi
   simp only[World.frozen?,hg,Bool.and_eq_false_iff,decide_eq_false_iff_not]
   simp only at this
   omega
  have hst:(store ((⟨g,o,none⟩:Addr).add i) v).run P w=.ok () (w.setRow g (cur.setIfInBounds (o+i) v)):=by
   rw[hadd,run_store P w _ v _ (h1 v (by simp)),hcell]
   simp[hfro,setCell_eq_setRow w g (o+i) cur t fz v hg]
  have ih:=dI P g o t fz rest (i+1) (cur.setIfInBounds (o+i) v) (w.setRow g (cur.setIfInBounds (o+i) v)) (setRow_heap w g cur _ t _ hg) (by simpa using hfz) (by simp at hl ⊢;omega) (fun x hx=>h1 x (by simp[hx]))
  simp only[storeCells,Sem.run_bind,hst,Result.andThen_ok,ih,setRow_setRow]
  congr 3
  have e:=list_seg_step cur.toList (o+i) v rest (by simp at hl ⊢;omega)
  simpa[Array.toList_setIfInBounds,Nat.add_assoc] using e
section
variable {P:Program} (w:World)
theorem aT.room {base:Nat} {e:TypeId} {n:Nat} {xs:List Value} {g off cap:Nat} {cur:Array Value} {fz:Nat×Nat} (hl:xs.length=n) (hb:base≤g) (hg:w.heap[g]?=some (.cells cur e fz)) (hf:∀j,j<cur.size→¬(fz.1≤j∧j<fz.2))
 (hcm:cap≤maxLen) (hoc:off+cap≤cur.size) (ht:(cur.toList.drop off).take n=xs) (news:List Value) (hroom:n+news.length≤cap):
 aT (w.setRow g (cur.toList.take (off+n)++news++cur.toList.drop (off+n+news.length)).toArray) base e (.slice (some ⟨g,off,none⟩) (n+news.length) cap) (n+news.length) (xs++news)∧
  w.grownBy (w.setRow g (cur.toList.take (off+n)++news++cur.toList.drop (off+n+news.length)).toArray) (some g):=by
 have hz:(cur.toList.take (off+n)++news++cur.toList.drop (off+n+news.length)).toArray.size=cur.size:=by
  simp only[List.size_toArray,List.length_append,List.length_take,List.length_drop,Array.length_toList];omega
 refine⟨⟨by rw[List.length_append,hl],.inr ⟨g,off,cap,_,fz,rfl,hb,setRow_heap w g cur _ e _ hg,by rw[hz];exact hf,hroom,hcm,by rw[hz];exact hoc,?_⟩⟩,⟨rfl,rfl,rfl,by simp,fun k _ hk=>setRow_other w g k _ (fun e=>hk (by rw[e]))⟩⟩
 rw[List.append_assoc,List.drop_append_of_le_length (by simp;omega),List.drop_take,show off+n-off=n by omega,ht,←List.append_assoc]
 exact List.take_left' (by rw[List.length_append,hl])
theorem aT.grown {base:Nat} {e:TypeId} {n:Nat} {xs:List Value} (hl:xs.length=n) (news:List Value) (z:Value) (hz:z.cells.size=1) (h63:n+news.length≤maxLen) (hbase:base≤w.heap.size) (old:Nat) (row:Option Nat):
 aT (w.drew.alloc (.cells (xs.toArray++news.toArray++Builtin.zeroCells z.cells (grownCap w (n+news.length) old e-(n+news.length))) e)) base e
  (.slice (some ⟨w.heap.size,0,none⟩) (n+news.length) (grownCap w (n+news.length) old e)) (n+news.length) (xs++news)∧
  w.grownBy (w.drew.alloc (.cells (xs.toArray++news.toArray++Builtin.zeroCells z.cells (grownCap w (n+news.length) old e-(n+news.length))) e)) row:=by
 have hge:=grownCap_ge w (n+news.length) old e
 have hcm:grownCap w (n+news.length) old e≤maxLen:=grownCap_le_maxLen w (n+news.length) old e h63
 refine⟨⟨by rw[List.length_append,hl],.inr ⟨w.heap.size,0,_,_,(0,0),rfl,hbase,heap_alloc_new w.drew _,fun j _ h=>by have:=h.2;omega,hge,hcm,?_,?_⟩⟩,⟨rfl,rfl,rfl,by simp,fun k hk _=>Below.heap_alloc w.drew _ k hk⟩⟩
 ·simp only[Array.size_append,List.size_toArray,size_zeroCells,hz,hl];omega
 ·simp only[List.drop_zero,Array.toList_append,List.append_assoc]
  rw[←List.append_assoc]
  exact List.take_left' (by rw[List.length_append,hl])
theorem pW (base:Nat) (t ty e:TypeId) (i:TypeInfo) (z:Value) (bytes:Nat) (ht:P.underlying t=some (.slice e)) (hi:P.info? e=some i) (hz:i.zero=some z)
 (hsize:i.size=1) (hby:i.bytes=bytes) (hzs:z.cells.size=1)
 (v:Value) (n:Nat) (xs:List Value) (hown:aT w base e v n xs)
 (a:Addr) (m c:Nat) (news:List Value) (hl:news.length=m) (hnews:∀j u,news[j]?=some u→w.cell? (a.add j)=some u) (h1:∀u∈news,u.oneCell'=true)
 (h63:n+m≤maxLen) (hbytes:(n+m)*bytes≤140737488355328) (hbase:base≤w.heap.size):
 ∃v' w',(Builtin.append_ #[t,t] ty #[v,.slice (some a) m c]).run P w=.ok v' w'∧aT w' base e v' (n+m) (xs++news)∧w.grownBy w' v.ownBlock:=by
 subst hl
 have hsmall:n+news.length≤9223372036854775807:=by simp only[maxLen] at h63;omega
 rcases hown.2 with⟨rfl,rfl⟩|⟨g,off,cap,cur,fz,rfl,hbg,hg,hf,hnc,hcm,hcs,htake⟩
 ·have hx:xs=[]:=List.eq_nil_of_length_eq_zero hown.1
  subst hx
  obtain⟨v',w',r1,r2,r3,_⟩:=run_append_own (P:=P) w base t ty e i z 1 bytes ht hi hz hsize hby hzs (by decide) (.slice none 0 0) 0 [] (World.ownsRow_nil w _ e 1) a news.length c news (by omega) hnews h1 h63 hbytes hbase
  exact⟨v',w',r1,aT.of_owns r2,r3⟩
 ·by_cases hroom:n+news.length≤cap
  ·have hfc:=run_firstCells_some (P:=P) w 1 news.length a news.length c news (by omega) hnews
   have hst:=dI P g (off+n) e fz news 0 cur w hg hf (by omega) h1
   simp only[Nat.add_zero] at hst
   have hadd:(⟨g,off,none⟩:Addr).add n=⟨g,off+n,none⟩:=by unfold Addr.add;split<;>simp_all
   have hr:(Builtin.append_ #[t,t] ty #[.slice (some ⟨g,off,none⟩) n cap,.slice (some a) news.length c]).run P w=
    .ok (.slice (some ⟨g,off,none⟩) (n+news.length) cap) (w.setRow g (cur.toList.take (off+n)++news++cur.toList.drop (off+n+news.length)).toArray):=by
    simp[Builtin.append_,run_underlying ht,sizeOf,typeInfo,hi,hsize,Builtin.lenOf,hroom,hfc,hadd,hst]
   have:=aT.room w hown.1 hbg hg hf hcm hcs htake news hroom
   exact⟨_,_,hr,this.1,this.2⟩
  ·have holds:∀j u,xs[j]?=some u→w.cell? ((⟨g,off,none⟩:Addr).add j)=some u:=fun j u hu=>by
    have hadd:(⟨g,off,none⟩:Addr).add j=⟨g,off+j,none⟩:=by unfold Addr.add;split<;>simp_all
    rw[hadd];exact hown.cells j u hu
   have hr:=run_append_grow (P:=P) w t ty e i z ht hi hz ⟨g,off,none⟩ n cap xs (by rw[hsize,hown.1];omega) holds a news.length c news (by rw[hsize];omega) hnews (by omega) (by omega) (growslice_fits (by omega) (by rw[hby];exact hbytes))
   have:=aT.grown (e:=e) w hown.1 news z hzs h63 hbase cap (Value.ownBlock (.slice (some ⟨g,off,none⟩) n cap))
   exact⟨_,_,hr,this.1,this.2⟩
theorem i6 (base:Nat) (t u ty e:TypeId) (i:TypeInfo) (ht:P.underlying t=some (.slice e)) (hu:P.underlying u=some .string) (hi:P.info? e=some i) (hz:i.zero=some (.int .u8 0))
 (hsize:i.size=1) (hby:i.bytes=1)
 (v:Value) (n:Nat) (xs:List Value) (hown:aT w base e v n xs) (s:ByteArray)
 (h63:n+s.size≤maxLen) (hbytes:n+s.size≤140737488355328) (hbase:base≤w.heap.size):
 ∃v' w',(Builtin.append_ #[t,u] ty #[v,.string s]).run P w=.ok v' w'∧aT w' base e v' (n+s.size) (xs++Lib.strCells s)∧w.grownBy w' v.ownBlock:=by
 have hsmall:n+s.size≤9223372036854775807:=by simp only[maxLen] at h63;omega
 have hsl:=Lib.strCells_length s
 rcases hown.2 with⟨rfl,rfl⟩|⟨g,off,cap,cur,fz,rfl,hbg,hg,hf,hnc,hcm,hcs,htake⟩
 ·have hx:xs=[]:=List.eq_nil_of_length_eq_zero hown.1
  subst hx
  obtain⟨v',w',r1,r2,r3,_⟩:=Lib.run_append_own_string (P:=P) w base t u ty e i ht hu hi hz hsize hby (.slice none 0 0) 0 [] (World.ownsRow_nil w _ e 1) s h63 hbytes hbase
  exact⟨v',w',r1,aT.of_owns r2,r3⟩
 ·by_cases hroom:n+s.size≤cap
  ·have hfc:=Lib.run_firstCells_string (P:=P) w 1 s
   have hst:=dI P g (off+n) e fz (Lib.strCells s) 0 cur w hg hf (by omega) (Lib.strCells_oneCell s)
   simp only[Nat.add_zero] at hst
   have hadd:(⟨g,off,none⟩:Addr).add n=⟨g,off+n,none⟩:=by unfold Addr.add;split<;>simp_all
   have hr:(Builtin.append_ #[t,u] ty #[.slice (some ⟨g,off,none⟩) n cap,.string s]).run P w=
    .ok (.slice (some ⟨g,off,none⟩) (n+s.size) cap) (w.setRow g (cur.toList.take (off+n)++Lib.strCells s++cur.toList.drop (off+n+(Lib.strCells s).length)).toArray):=by
    simp[Builtin.append_,run_underlying ht,run_underlying hu,sizeOf,typeInfo,hi,hsize,Builtin.lenOf,hroom,hfc,hadd,hst]
   have:=aT.room w hown.1 hbg hg hf hcm hcs htake (Lib.strCells s) (by omega)
   rw[hsl] at this
   rw[hsl] at hr
   exact⟨_,_,hr,this.1,this.2⟩
  ·have holds:∀j u,xs[j]?=some u→w.cell? ((⟨g,off,none⟩:Addr).add j)=some u:=fun j u hu=>by
    have hadd:(⟨g,off,none⟩:Addr).add j=⟨g,off+j,none⟩:=by unfold Addr.add;split<;>simp_all
    rw[hadd];exact hown.cells j u hu
   have hr:=Lib.run_append_grow_string (P:=P) w t u ty e i (.int .u8 0) ht hu hi hz ⟨g,off,none⟩ n cap xs (by rw[hsize,hown.1];omega) holds s (by omega) (by omega) (by rw[hby];exact growslice_fits (by omega) (by omega))
   have:=aT.grown (e:=e) w hown.1 (Lib.strCells s) (.int .u8 0) rfl (by omega) hbase cap (Value.ownBlock (.slice (some ⟨g,off,none⟩) n cap))
   rw[hsl] at this
   exact⟨_,_,hr,this.1,this.2⟩
theorem eW {ops:Array Oper} {rest:List Oper} {o:Oper} {a:Act} {Q:Exit→Act→World→Prop} (hgd:o.guard=none) (s x:Operand) (t:TypeId)
 (ho:o.op=.call {callee:=.builtin .append,args:=#[s,x],argTypes:=#[t,t]})
 (base:Nat) (e:TypeId) (i:TypeInfo) (z:Value) (bytes:Nat) (ht:P.underlying t=some (.slice e)) (hi:P.info? e=some i) (hz:i.zero=some z)
 (hsize:i.size=1) (hby:i.bytes=bytes) (hzs:z.cells.size=1)
 (v:Value) (n:Nat) (xs:List Value) (hs:a.eval s=v) (hown:aT w base e v n xs)
 (ad:Addr) (m c:Nat) (news:List Value) (hx:a.eval x=.slice (some ad) m c) (hl:news.length=m) (hnews:∀j u,news[j]?=some u→w.cell? (ad.add j)=some u) (h1:∀u∈news,u.oneCell'=true)
 (h63:n+m≤maxLen) (hbytes:(n+m)*bytes≤140737488355328) (hbase:base≤w.heap.size)
 (h:∀v' w',aT w' base e v' (n+m) (xs++news)→w.grownBy w' v.ownBlock→wpList P ops Q rest (a.put o.dst v') w'):wpList P ops Q (o::rest) a w:=by
 refine wpList_plain hgd fun K hK=>?_
 obtain⟨v',w',hr,h2,h3⟩:=pW (P:=P) w base t o.type e i z bytes ht hi hz hsize hby hzs v n xs hown ad m c news hl hnews h1 h63 hbytes hbase
 unfold Oper.wp execOp
 simp only[ho,resolve,invoke,builtin,Sem.run_bind,Sem.run_pure,Result.andThen_ok,List.map_toArray,List.map_cons,List.map_nil,hs,hx,hr]
 exact hK _ _ (h v' w' h2 h3)
theorem gI {ops:Array Oper} {rest:List Oper} {o:Oper} {a:Act} {Q:Exit→Act→World→Prop} (hgd:o.guard=none) (s x:Operand) (t u:TypeId)
 (ho:o.op=.call {callee:=.builtin .append,args:=#[s,x],argTypes:=#[t,u]})
 (base:Nat) (e:TypeId) (i:TypeInfo) (ht:P.underlying t=some (.slice e)) (hu:P.underlying u=some .string) (hi:P.info? e=some i) (hz:i.zero=some (.int .u8 0))
 (hsize:i.size=1) (hby:i.bytes=1)
 (v:Value) (n:Nat) (xs:List Value) (hs:a.eval s=v) (hown:aT w base e v n xs) (str:ByteArray) (hx:a.eval x=.string str)
 (h63:n+str.size≤maxLen) (hbytes:n+str.size≤140737488355328) (hbase:base≤w.heap.size)
 (h:∀v' w',aT w' base e v' (n+str.size) (xs++Lib.strCells str)→w.grownBy w' v.ownBlock→wpList P ops Q rest (a.put o.dst v') w'):wpList P ops Q (o::rest) a w:=by
 refine wpList_plain hgd fun K hK=>?_
 obtain⟨v',w',hr,h2,h3⟩:=i6 (P:=P) w base t u o.type e i ht hu hi hz hsize hby v n xs hown str h63 hbytes hbase
 unfold Oper.wp execOp
 simp only[ho,resolve,invoke,builtin,Sem.run_bind,Sem.run_pure,Result.andThen_ok,List.map_toArray,List.map_cons,List.map_nil,hs,hx,hr]
 exact hK _ _ (h v' w' h2 h3)
end
theorem mO {w:World} {ops:Array Oper} {rest:List Oper} {o:Oper} {a:Act} {Q:Exit→Act→World→Prop} (hg:o.guard=none) (x:Operand)
 (ho:o.op=.convert 9 49 x) (l:List UInt8) (hl:l.length≤1000000000000000) (hx:a.eval x=.string (bs l))
 (h:∀(v:Value) (w':World),aT w' w.heap.size 5 v l.length (Lib.byteCells l)→Below w.heap.size w w'→w.heap.size<w'.heap.size→wpList Tryz.prog ops Q rest (a.put o.dst v) w'):wpList Tryz.prog ops Q (o::rest) a w:=by
 refine wpList_plain hg fun K hK=>?_
 have hrun:=run_bytes_of_string (P:=Tryz.prog) w 9 49 5 (bs l) Tryz.underlying9 Tryz.underlying49 Tryz.underlying5
 have hk1:=grownCap_ge w (bs l).size 0 5
 have hk2:=grownCap_le_maxLen w (bs l).size 0 5 (by rw[bf];unfold maxLen;omega)
 generalize hk:grownCap w (bs l).size 0 5=k at hrun hk1 hk2
 rw[bf] at hk1
 have hsz:(bytesRow (bs l) k).size=k:=by
  have e:(bs l).data.size=l.length:=rfl
  simp[bytesRow,e,bf];omega
 have hown:aT (w.drew.alloc (.cells (bytesRow (bs l) k) 5 ((bytesRow (bs l) k).size,(bytesRow (bs l) k).size+1))) w.heap.size 5 (.slice (some ⟨w.heap.size,0,none⟩) l.length k) l.length (Lib.byteCells l):=by
  refine⟨aW l,.inr ⟨w.heap.size,0,k,_,_,rfl,Nat.le_refl _,heap_alloc_new w.drew _,fun j hj h=>?_,hk1,hk2,by omega,?_⟩⟩
  ·have:=h.1;simp only at this;omega
  ·rw[List.drop_zero]
   have e:(bytesRow (bs l) k).toList=Lib.byteCells l++List.replicate (k-l.length) (.int .u8 0):=by
    simp[bytesRow,Lib.byteCells,bf];rfl
   rw[e]
   exact List.take_left' (aW l)
 unfold Oper.wp
 simp only[execOp,ho,hx,Sem.run_bind,hrun,Result.andThen_ok]
 refine hK _ _ (h _ _ hown ((Below.refl _ w).drew.alloc (Nat.le_refl _) _) ?_)
 show w.heap.size<(w.heap.push _).size
 simp
theorem tx (l:List UInt8) (k:Nat):l++128::List.replicate (k+1) 0=(l++128::List.replicate k 0)++[0]:=by
 rw[List.replicate_succ',List.append_assoc,List.cons_append]
theorem fK (l:List UInt8) (c:UInt8):Lib.byteCells (l++[c])=Lib.byteCells l++[.int .u8 c.toNat]:=by simp[Lib.byteCells]
end Go.Proofs.YtlbipokkdiiaiaaGreatDoor
