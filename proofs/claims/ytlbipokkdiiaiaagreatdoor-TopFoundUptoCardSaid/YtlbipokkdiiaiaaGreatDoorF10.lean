/- Lemmas for TopFoundUpto: ShaAdd, ShaDig, ShaHSum, ShaTop, W29, W39, W10, W20, W21, W22, W24, W30, W31, W18, W19, W32, W33, W34, W40, W41. -/
import Derived.Test.YtlbipokkdiiaiaaGreatDoorF09
import Derived.Test.YtlbipokkdiiaiaaGreatDoorF07
import Derived.Test.YtlbipokkdiiaiaaGreatDoorChecked
import Derived.Laws.Tables
import Derived.Laws.Rows
import Derived.Test.YtlbipokkdiiaiaaGreatDoorF08
import Derived.Test.YtlbipokkdiiaiaaGreatDoorF06
import Derived.Deep.LoopGhost
namespace Go.Proofs.YtlbipokkdiiaiaaGreatDoor
set_option maxRecDepth 100000
open Go.RowKit
def fB (H:List Int) (v n:Value):Array Value:=(af H++[v,n]).toArray
section
variable {H:List Int} {v n:Value}
theorem js (hl:H.length=8):(fB H v n)[8]?=some v:=by
 unfold fB;rw[List.getElem?_toArray,List.getElem?_append_right (by rw[aF];omega),aF,hl];rfl
theorem wH (hl:H.length=8):(fB H v n)[9]?=some n:=by
 unfold fB;rw[List.getElem?_toArray,List.getElem?_append_right (by rw[aF];omega),aF,hl];rfl
theorem nO (hl:H.length=8) (u:Value):(fB H v n).setIfInBounds 8 u=fB H u n:=by
 simp[fB,aF,hl]
theorem un (hl:H.length=8) (u:Value):(fB H v n).setIfInBounds 9 u=fB H v u:=by
 simp[fB,aF,hl]
end
theorem jq {h:List Int} (_hl:h.length=8) (k:Nat):∀(h:List Int) (b:List UInt8),h.length=8→b.length≤k→(aY br h b).length=8:=by
 induction k with
 |zero=>intro h b _hl hb;rw[ct (by omega)];exact _hl
 |succ k ih=>
  intro h b _hl hb
  by_cases hs:b.length<64
  ·rw[ct hs];exact _hl
  ·rw[eT (by omega)]
   exact ih _ _ (jN _ _ _) (by rw[List.length_drop];omega)
theorem qE (b:List UInt8):(aY br cQ b).length=8:=jq (h:=cQ) rfl b.length cQ b rfl (Nat.le_refl _)
def lI (w:World) (base b:Nat) (T:List UInt8):Prop:=
 base≤b∧∃v,w.heap[b]?=some (.cells (fB (aY br cQ T) v (.int .u64 (T.length:Int))) 255 (0,0))∧aT w (b+1) 5 v (bS T).length (Lib.byteCells (bS T))
set_option maxHeartbeats 1000000 in
theorem yS (w:World):Calls Tryz.prog 123 #[] w fun e w'=>e=.returned (.agg (af cQ).toArray)∧Below w.heap.size w w':=by
 go_enter Tryz.func123,Tryz.ntmps123
 go_wp2_with (refine wpList_store_row rfl 252 _ _ rfl w.heap.size (af cQ).toArray rfl rfl 252 _ (heap_alloc_new w _) (by kernel_rfl) rfl (by kernel_rfl) ?_)
 refine bodyPost_ret (results_cell_row rfl _ _ w.heap.size _ _ _ _ rfl (setRow_heap _ _ _ _ _ _ (heap_alloc_new w _)) Tryz.underlying252 rfl (by kernel_rfl)) rfl ⟨rfl,?_⟩
 exact⟨rfl,rfl,rfl,by simp,fun k hk=>by rw[setRow_other _ _ _ _ (by omega),Below.heap_alloc _ _ _ hk]⟩
set_option maxHeartbeats 1000000 in
theorem zaJ (w:World):Calls Tryz.prog 81 #[] w fun e w'=>∃b,e=.returned (.pointer (some ⟨b,0,none⟩))∧lI w' w.heap.size b []∧Below w.heap.size w w':=by
 go_enter Tryz.func81,Tryz.ntmps81
 go_wp2_with (refine(yS _).mono ?_;rintro e w1 ⟨rfl,hb1⟩)
 go_ret
 refine⟨_,rfl,⟨hb1.size,.slice none 0 0,?_,aT.nil _ _ _⟩,hb1.alloc hb1.size _⟩
 rw[ct (by decide)]
 exact heap_alloc_new w1 _
theorem vo (T l:List UInt8) (k:Nat) (hk:(bS T++l).length/64=k):aY br (aY br cQ T) ((bS T++l).take (64*k))=aY br cQ (T++l)∧(bS T++l).drop (64*k)=bS (T++l):=by
 subst hk
 rw[Nat.mul_comm,my,qv]
 refine⟨rfl,?_⟩
 rw[←xO];rfl
set_option maxHeartbeats 4000000 in
theorem zcd (base b:Nat) (T l:List UInt8) (hT:(T++l).length≤140737488351232) (w:World) (hh:lI w base b T):
 Calls Tryz.prog 82 #[.pointer (some ⟨b,0,none⟩),.string (bs l)] w fun e w'=>e=.returned (.tuple #[])∧lI w' base b (T++l)∧Below base w w':=by
 obtain⟨hbase,v,hb,hown⟩:=hh
 obtain⟨i0,hi,hz0,hz1,hz2⟩:=info_parts wL
 have hTl:T.length+l.length≤140737488351232:=by rw[List.length_append] at hT;exact hT
 have hF8:=hid (qE T)
 have hOT:=uk T
 have c8:w.cell? ⟨b,8,none⟩=some v:=(cell_of_row w b 8 _ _ _ hb).trans (js hF8.out)
 have c9:w.cell? ⟨b,9,none⟩=some (.int .u64 (T.length:Int)):=(cell_of_row w b 9 _ _ _ hb).trans (wH hF8.out)
 have f9:w.frozen? ⟨b,9,none⟩=false:=frozen_of_row w b 9 _ _ hb
 have q1:((T.length:Int)+(l.length:Int))%18446744073709551616=(T.length:Int)+(l.length:Int):=by omega
 have q2:(l.length:Int)%18446744073709551616=(l.length:Int):=by omega
 have hblt:=(Array.getElem?_eq_some_iff.1 hb).1
 have G1:=hid ((heap_setCell_same w b 9 _ _ (.int .u64 ((T.length:Int)+(l.length:Int))) hb).trans (by rw[un hF8.out]))
 have HO:=hid hown
 clear hb hown hT
 go_enter Tryz.func82,Tryz.ntmps82
 go_upto_region 2 with fail
 clear c8 c9 f9 q1 q2
 obtain⟨W1,hW1⟩:∃x,x=w.setCell ⟨b,9,none⟩ (.int .u64 ((T.length:Int)+(l.length:Int))):=⟨_,rfl⟩
 have hz1w:W1.heap.size=w.heap.size:=by rw[hW1];simp[World.setCell]
 have HO1:=hid ((HO.out.same (w':=W1) (fun k hk=>by rw[hW1];exact heap_setCell_other w ⟨b,9,none⟩ k _ (by have:=(HO.out.lt k hk).1;show k≠b;omega))))
 have G2:W1.heap[b]?=some (.cells (fB (aY br cQ T) v (.int .u64 ((T.length:Int)+(l.length:Int)))) 255 (0,0)):=by rw[hW1];exact G1.out
 have hB1:Below base w W1:=by rw[hW1];exact(Below.refl base w).setCell (p:=⟨b,9,none⟩) hbase _
 rw[←hW1]
 have c8:W1.cell? ⟨b,8,none⟩=some v:=(cell_of_row W1 b 8 _ _ _ G2).trans (js hF8.out)
 have HG2:=hid G2
 have HB1:=hid hB1
 have hbW:b+1≤W1.heap.size:=by omega
 clear hW1 G1 HO G2 hB1
 go_wp2_with (at_builtin;go_must (refine gI _ rfl _ _ 49 9 rfl (b+1) 5 i0 Tryz.underlying49 Tryz.underlying9 hi hz0 hz1 hz2 _ _ _ rfl HO1.out (bs l) rfl ?c1 ?c2 hbW ?_))
 case c1=>unfold maxLen;rw[bf];omega
 case c2=>rw[bf];omega
 intro v2 w2 hown2 hgrow2
 have HO2:Hid (aT w2 (b+1) 5 v2 (bS T++l).length (Lib.byteCells (bS T++l))):=hid (by rw[pQ,List.length_append];exact hown2)
 have hbk:∀k,v.ownBlock=some k→b+1≤k:=fun k hk=>(HO1.out.lt k hk).1
 have G3:w2.heap[b]?=some (.cells (fB (aY br cQ T) v (.int .u64 ((T.length:Int)+(l.length:Int)))) 255 (0,0)):=by
  rw[hgrow2.block b (by omega) (fun e=>by have:=hbk b e.symm;omega)];exact HG2.out
 have hB2:Below base w w2:=HB1.out.grown hgrow2 (by omega) (fun k hk=>by have:=hbk k hk;omega)
 have f8:w2.frozen? ⟨b,8,none⟩=false:=frozen_of_row w2 b 8 _ _ G3
 have d8:w2.cell? ⟨b,8,none⟩=some v:=(cell_of_row w2 b 8 _ _ _ G3).trans (js hF8.out)
 have G4:=hid ((heap_setCell_same w2 b 8 _ _ v2 G3).trans (by rw[nO hF8.out]))
 have HO3:=hid ((HO2.out.same (w':=w2.setCell ⟨b,8,none⟩ v2) (fun k hk=>heap_setCell_other w2 ⟨b,8,none⟩ k _ (by have:=(HO2.out.lt k hk).1;show k≠b;omega))))
 have HB3:=hid (hB2.setCell (p:=⟨b,8,none⟩) hbase v2)
 have hz2w:b<w2.heap.size:=(Array.getElem?_eq_some_iff.1 G3).1
 obtain⟨va,vc,hv2,hvc,hvm⟩:=HO2.out.form
 subst hv2
 obtain⟨A,hA⟩:∃A,A=bS T++l:=⟨_,rfl⟩
 have HA:=hid hA
 rw[←hA] at HO3 hvc G4 HB3 ⊢
 have hAl:A.length≤140737488351332:=by rw[hA,List.length_append];omega
 clear hA hgrow2 hown2 HO2 HO1 hB2 G3 HG2 HB1 hbk c8
 go_wp2_with fail
 obtain⟨W3,hW3⟩:∃x,x=w2.setCell ⟨b,8,none⟩ (.slice va A.length vc):=⟨_,rfl⟩
 rw[←hW3] at G4 HO3 HB3 ⊢
 have HF:Hid ((aY br cQ T).length=8):=hF8
 generalize hH0:aY br cQ T=H0 at *
 have HH0:=hid hH0
 clear hW3 d8 f8 hz2w hH0 hF8
 obtain⟨NN,hNN⟩:∃x,x=(T.length:Int)+(l.length:Int):=⟨_,rfl⟩
 rw[←hNN] at G4
 have HNN:=hid hNN
 clear hNN
 go_loopw [] (fun wr=>∃(k N:Nat) (a:Option Addr) (c:Nat),64*k≤A.length∧N+64*k≤A.length∧A.length≤N+64*k∧wr.heap[b]?=some (.cells (fB (aY br H0 (A.take (64*k))) (.slice a N c) (.int .u64 NN)) 255 (0,0))∧aT wr (b+1) 5 (.slice a N c) N (Lib.byteCells (A.drop (64*k)))∧Below base w wr) (fun wr=>match wr.cell? ⟨b,8,none⟩ with|some (.slice _ n _)=>n|_=>0)
 case atStart=>exact⟨0,A.length,va,vc,by omega,by omega,by omega,by rw[Nat.mul_zero,List.take_zero,ct (by simp)];exact G4.out,HO3.out,HB3.out⟩
 case round=>
  obtain⟨k,N,a,c,hk,hN1,hN2,hb,hown,hbr⟩:=hrel
  clear G4 HO3 HB3
  have hF8:=hid (jq HF.out A.length H0 (A.take (64*k)) HF.out (by rw[List.length_take];omega))
  have c8:wr.cell? ⟨b,8,none⟩=some (.slice a N c):=(cell_of_row wr b 8 _ _ _ hb).trans (js hF8.out)
  have hblr:=(Array.getElem?_eq_some_iff.1 hb).1
  by_cases h64:64≤N
  ·obtain⟨-,a',c',hv,hNc,hcm, -,hx⟩:=hown.sliceAt
   injection hv with e1 e2 e3
   subst e1 e3
   obtain⟨g,o,rfl,hgl,aO⟩:=hx (by intro e;have:=aW (A.drop (64*k));rw[e,List.length_drop] at this;simp at this;omega)
   unfold maxLen at hcm
   have HNext:=hid (oE br H0 A k (by omega))
   generalize aY br H0 (A.take (64*k))=F at *
   have h64i:(64:Int)≤(N:Int):=by omega
   have h64c:(64:Int)≤(c:Int):=by omega
   have h64n:64≤c:=by omega
   have HB:=hid hb
   have HOW:=hid hown
   have HBR:=hid hbr
   clear hb hown hbr hx aO
   go_upto_region 4 with fail
   refine ar 8 (by kernel_rfl) (by kernel_rfl) ?_
   simp only[List.take_succ_cons,List.take_zero,List.drop_succ_cons,List.drop_zero]
   repeat(refine WQ.step (fun K hK=>?_);go_simp;first|(refine hK _ ?_;clear hK K)|(apply Exists.intro;refine⟨fun W hW=>?_,hK _ ?_⟩;(first|(first|with_reducible rfl|(have zz0:=Below.keeps hW c8;go_simp;first|rfl|exact⟨rfl,rfl⟩|(rw[if_neg (by omega)];exact⟨rfl,rfl⟩))));clear hK K))
   refine WQ.nil ?_
   intro wz hwz
   have hbz:wz.heap[b]?=some (.cells (af F++[Value.slice (some ⟨g,o,none⟩) N c,Value.int .u64 NN]).toArray 255 (0,0)):=(hwz.block _ hblr).trans HB.out
   have jW:am wz 1 (.slice (some ⟨g,o,none⟩) 64 c) 64 (Lib.byteCells ((A.drop (64*k)).take 64)):=by
    have hl:((A.drop (64*k)).take 64).length=64:=by rw[List.length_take,List.length_drop];omega
    refine⟨by rw[aW,hl],_,c,rfl,h64n,by unfold maxLen;omega,fun h=>(by cases h),fun _=>⟨g,o,rfl,by have:=hwz.size;omega,fun j u hu=>?_⟩⟩
    have hj:j<64:=by have:=(List.getElem?_eq_some_iff.1 hu).1;rwa [aW,hl] at this
    refine bA hwz (HOW.out.cells j u ?_)
    rw[←hu]
    simp[Lib.byteCells,hj]
   have HOZ:=hid (HOW.out.below hwz)
   have HBZ:=hid (HBR.out.trans (hwz.mono (by have:=(HOW.out.lt g rfl).1;omega)))
   have hblz:b<wz.heap.size:=(Array.getElem?_eq_some_iff.1 hbz).1
   have HTK:=hid (sy b F hF8.out _ 255 _ _ wz hbz jW)
   have HC8:=hid c8
   clear hbz jW hwz c8
   go_upto_region 5 with(go_at_call 124;refine(HTK.out).mono ?_;rintro e w4 ⟨rfl,g4,hbut⟩)
   have g4':w4.heap[b]?=some (.cells (fB (cy br F ((A.drop (64*k)).take 64)) (.slice (some ⟨g,o,none⟩) N c) (.int .u64 NN)) 255 (0,0)):=g4
   have hF9:=jN br F ((A.drop (64*k)).take 64)
   have e8:w4.cell? ⟨b,8,none⟩=some (.slice (some ⟨g,o,none⟩) N c):=(cell_of_row w4 b 8 _ _ _ g4').trans (js hF9)
   have x8:w4.frozen? ⟨b,8,none⟩=false:=frozen_of_row w4 b 8 _ _ g4'
   have HOX:=hid (HOZ.out.same (w':=w4) (fun k hk=>by have:=HOZ.out.lt k hk;exact hbut.block k this.2 (by omega)))
   have HBX:Hid (Below base w w4):=hid ⟨hbut.os.trans HBZ.out.os,hbut.tape.trans HBZ.out.tape,hbut.output.trans HBZ.out.output,Nat.le_trans HBZ.out.size hbut.size,fun j hj=>(hbut.block j (by omega) (by omega)).trans (HBZ.out.block j hj)⟩
   obtain⟨sa,hsa⟩:∃x,x=(if c=64 then some (⟨g,o,none⟩:Addr) else some ⟨g,o+64,none⟩):=⟨_,rfl⟩
   have HOC:Hid (aT w4 (b+1) 5 (.slice sa (N-64) (c-64)) (N-64) (Lib.byteCells (A.drop (64*(k+1))))):=hid (by
    have h:=HOX.out.cut h64
    have e1:(if c=64 then some (⟨g,o,none⟩:Addr) else(some ⟨g,o,none⟩:Option Addr).map (·.add 64))=sa:=by rw[hsa];simp[Addr.add]
    have e2:(Lib.byteCells (A.drop (64*k))).drop 64=Lib.byteCells (A.drop (64*(k+1))):=by
     simp only[Lib.byteCells,←List.map_drop,List.drop_drop,show 64*(k+1)=64*k+64 by omega]
    rw[e1,e2] at h
    exact h)
   have G8:=hid (fun u=>(heap_setCell_same w4 b 8 _ _ u g4').trans (by rw[nO hF9]))
   have HN9:Hid (aY br H0 (A.take (64*(k+1)))=cy br F ((A.drop (64*k)).take 64)):=hid (by rw[show 64*(k+1)=64*k+64 by omega];exact HNext.out)
   clear g4 g4' hF9 hbut HOX HOZ
   go_wp2_with fail
   rw[←hsa]
   refine⟨⟨k+1,N-64,sa,c-64,by omega,by omega,by omega,by rw[HN9.out];exact G8.out _,HOC.out.same (fun j hj=>heap_setCell_other w4 ⟨b,8,none⟩ j _ (by have:=(HOC.out.lt j hj).1;show j≠b;omega)),HBX.out.setCell (p:=⟨b,8,none⟩) hbase _⟩,?_⟩
   rw[World.cell?_setCell_same' _ _ _ (by rw[e8];rfl),HC8.out]
   show N-64<N
   omega
  ·have hkA:A.length/64=k:=by omega
   have hEnd:=vo T l k (by rw[←HA.out];exact hkA)
   rw[←HA.out,HH0.out] at hEnd
   rw[hEnd.1,HNN.out] at hb
   rw[hEnd.2] at hown
   have hlT:(((T++l).length:Nat):Int)=(T.length:Int)+(l.length:Int):=by rw[List.length_append];omega
   have hNl:N=(bS (T++l)).length:=by rw[←hEnd.2,List.length_drop];omega
   have HFin:Hid (lI wr base b (T++l)∧Below base w wr):=hid ⟨⟨hbase,.slice a N c,by rw[hlT];exact hb,by rw[←hNl];exact hown⟩,hbr⟩
   clear hb hown hbr hEnd hlT hNl hkA
   go_wp2_with fail
   (first|go_end0|(simp only[Exit.inBlock,Exit.then];refine bodyPost_ret (results_none rfl _ _ _) rfl ?_)|refine bodyPost_ret (results_none rfl _ _ _) rfl ?_)
   exact⟨rfl,HFin.out⟩
theorem lq:(Tryz.prog.info? 31).map (·.size)=some 32:=by kernel_rfl
theorem zy (v:List Int) (k:Nat):(dA v k).all (·.oneCell')=true:=by
 rw[Array.all_eq_true_iff_forall_mem]
 intro x hx
 simp only[dA,List.mem_toArray,List.mem_map] at hx
 obtain⟨i,_,rfl⟩:=hx
 rfl
theorem gF {ops:Array Oper} {rest:List Oper} {o:Oper} {a:Act} {w:World} {Q:Exit→Act→World→Prop} (hgd:o.guard=none) (x y:Operand) (ho:o.op=.store 31 x y)
 (g:Nat) (v:List Int) (k:Nat) (hx:a.eval x=.pointer (some ⟨g,0,none⟩)) (hy:a.eval y=.agg (dA v k))
 (old:Array Value) (hg:w.heap[g]?=some (.cells old 31 (0,0))) (hold:old.size=32)
 (h:∀w',w'.heap[g]?=some (.cells (dA v k) 31 (0,0))→w'.heap.size=w.heap.size→(∀j,j≠g→w'.heap[j]?=w.heap[j]?)→w'.os=w.os→w'.tape=w.tape→w'.output=w.output→wpList Tryz.prog ops Q rest (a.put o.dst undef) w'):wpList Tryz.prog ops Q (o::rest) a w:=
 wpList_store_row hgd 31 x y ho g (dA v k) hx hy 31 old hg (by rw[dZ];exact lq) (by rw[hold,dZ]) (zy v k)
  (h _ (setRow_heap w g old _ _ _ hg) (setRow_size w g _) (fun j hj=>setRow_other w g j _ hj) rfl rfl rfl)
def zeH:Value→Nat
 |.slice _ n _=>n
 |_=>0
set_option maxHeartbeats 2000000 in
theorem zaX (base b:Nat) (T:List UInt8) (hT:T.length≤140737488351232) (w:World) (hh:lI w base b T):
 Calls Tryz.prog 83 #[.pointer (some ⟨b,0,none⟩)] w fun e w'=>e=.returned (.agg ((zd1 T).map (Value.int .u8)).toArray)∧Below w.heap.size w w':=by
 obtain⟨hbase,v,hb,hown⟩:=hh
 obtain⟨i0,hi,hz0,hz1,hz2⟩:=info_parts wL
 have hF8:=hid (qE T)
 have hOT:=uk T
 have hblt:=(Array.getElem?_eq_some_iff.1 hb).1
 have HR:Hid (∀W:World,Below w.heap.size w W→W.rangeAt b 0 (af (aY br cQ T))):=hid (fun W hW j u hu=>by
  have hj:j<8:=by have:=(List.getElem?_eq_some_iff.1 hu).1;rw[aF,hF8.out] at this;omega
  rw[Nat.zero_add,cell_of_row W b j _ _ _ ((hW.block b hblt).trans hb)]
  unfold fB
  rw[List.getElem?_toArray,List.getElem?_append_left (by rw[aF,hF8.out];omega)]
  exact hu)
 have HC8:Hid (∀W:World,Below w.heap.size w W→W.cell? ⟨b,8,none⟩=some v):=hid (fun W hW=>(cell_of_row W b 8 _ _ _ ((hW.block b hblt).trans hb)).trans (js hF8.out))
 have HC9:Hid (∀W:World,Below w.heap.size w W→W.cell? ⟨b,9,none⟩=some (.int .u64 (T.length:Int))):=hid (fun W hW=>(cell_of_row W b 9 _ _ _ ((hW.block b hblt).trans hb)).trans (wH hF8.out))
 have HOW:=hid hown
 have HZF:Hid ((af (aY br cQ T)).length=8):=hid (by rw[aF,hF8.out])
 generalize hF:aY br cQ T=F at *
 have HF:=hid hF
 clear hb hown hF
 have HI:Hid ((Tryz.prog.info? 252).map (·.size)=some (af F).toArray.size∧(#[.int .u32 0,.int .u32 0,.int .u32 0,.int .u32 0,.int .u32 0,.int .u32 0,.int .u32 0,.int .u32 0]:Array Value).size=(af F).toArray.size∧(af F).toArray.all (·.oneCell')=true∧(Tryz.prog.info? 252).map (·.size)=some (af F).length):=hid (by
  have e:(af F).toArray.size=8:=by rw[List.size_toArray,HZF.out]
  exact⟨by rw[e];kernel_rfl,by rw[e];rfl,all_oneCell_toArray (jM F),by rw[HZF.out];kernel_rfl⟩)
 go_enter Tryz.func83,Tryz.ntmps83
 go_upto_region 4 with first
  |(refine wpList_load_mid rfl 252 _ rfl b 0 rfl (af F) _ (HR.out _ (ab _ _)) Tryz.underlying252 rfl HI.out.2.2.2 ?_)
  |(refine wpList_store_row rfl 252 _ _ rfl (w.heap.size+1) (af F).toArray rfl rfl 252 _ (heap_alloc2_new w _ _) HI.out.1 HI.out.2.1 HI.out.2.2.1 ?_)
 obtain⟨Z,hZ⟩:∃Z:Obj,Z=(Obj.cells (dA [] 0) 31):=⟨_,rfl⟩
 rw[show(Obj.cells #[.int .u8 0,.int .u8 0,.int .u8 0,.int .u8 0,.int .u8 0,.int .u8 0,.int .u8 0,.int .u8 0,.int .u8 0,.int .u8 0,.int .u8 0,.int .u8 0,.int .u8 0,.int .u8 0,.int .u8 0,.int .u8 0,.int .u8 0,.int .u8 0,.int .u8 0,.int .u8 0,.int .u8 0,.int .u8 0,.int .u8 0,.int .u8 0,.int .u8 0,.int .u8 0,.int .u8 0,.int .u8 0,.int .u8 0,.int .u8 0,.int .u8 0,.int .u8 0] 31)=Z by rw[hZ];rfl]
 obtain⟨Y,hY⟩:∃Y:Obj,Y=(Obj.cells #[.int .u32 0,.int .u32 0,.int .u32 0,.int .u32 0,.int .u32 0,.int .u32 0,.int .u32 0,.int .u32 0] 252):=⟨_,rfl⟩
 rw[←hY]
 obtain⟨W1,hW1⟩:∃x,x=((w.alloc Z).alloc Y).setRow (w.heap.size+1) (af F).toArray:=⟨_,rfl⟩
 have hb1:Below w.heap.size w W1:=by
  rw[hW1]
  have h:=((ab w Z).alloc (by simp) Y)
  exact⟨h.os,h.tape,h.output,by rw[setRow_size];exact h.size,fun k hk=>by rw[setRow_other _ _ _ _ (by omega)];exact h.block k hk⟩
 have hR26:W1.heap[w.heap.size]?=some (.cells (dA [] 0) 31 (0,0)):=by rw[hW1,setRow_other _ _ _ _ (by omega),←hZ];exact heap_alloc2_old w Z Y
 have hR63:W1.heap[w.heap.size+1]?=some (.cells (af F).toArray 252 (0,0)):=by rw[hW1];exact setRow_heap _ _ _ _ _ _ (by rw[hY];exact heap_alloc2_new w Z _)
 have hs1:W1.heap.size=w.heap.size+2:=by rw[hW1,setRow_size];simp
 rw[←hW1]
 have HB1:=hid hb1
 have HR26:=hid hR26
 have HR63:=hid hR63
 have HS1:=hid hs1
 have c8:=HC8.out W1 hb1
 have hcv:=sS ((HOW.out.sliceAt).below hb1 (Nat.le_refl _))
 have hOl:(bS T).length≤1000000000000000:=by omega
 clear hW1 hZ hY hb1 hR26 hR63 hs1 HI HR HC8
 go_wp2_with first
  |(refine mO rfl _ rfl (bS T) hOl rfl ?_;intro v1 w1 hown1 hb1 hlt1;have hs1:=hb1.size;clear hlt1)
  |(at_builtin;go_must (refine eW _ rfl _ _ 49 rfl W1.heap.size 5 i0 (.int .u8 0) 1 Tryz.underlying49 hi hz0 hz1 hz2 rfl _ _ _ rfl (aT.alloc hown1 _) ⟨w1.heap.size,0,none⟩ 1 1 [.int .u8 (128)] rfl rfl ?c1 ?c2 ?c3 ?c4 ?c5 ?_))
 case c1=>exact lR _ #[_] _ _
 case c2=>intro u hu;simp at hu;subst hu;rfl
 case c3=>unfold maxLen;omega
 case c4=>omega
 case c5=>simp;omega
 intro v2 w2 hown2 hgrow2
 have hb2:Below W1.heap.size W1 w2:=(hb1.alloc (by omega) _).grown hgrow2 (by simp;omega) (fun k hk=>(hown1.lt k hk).1)
 have hOm:(bS T).length=T.length%64:=by unfold bS;rw[List.length_drop];omega
 generalize hO:bS T=O at *
 have HO:=hid hO
 have HO2:Hid (aT w2 W1.heap.size 5 v2 (O.length+1) (Lib.byteCells (O++128::List.replicate 0 0))):=hid (by simpa[Lib.byteCells] using hown2)
 clear hown1 hown2 hgrow2 hb1 hs1 hcv c8 hO hOl
 obtain⟨Z2,hZ2⟩:∃Z2,Z2=(119-T.length%64)%64:=⟨_,rfl⟩
 have HZ:=hid hZ2
 have HOM:=hid hOm
 have hZ64:Z2<64:=by omega
 clear hZ2 hOm
 go_wp2_with fail
 go_loopw [4] (fun o wr=>∃(k N:Nat),k≤Z2∧N≤O.length+1+k∧O.length+1+k≤N∧aT wr W1.heap.size 5 o N (Lib.byteCells (O++128::List.replicate k 0))∧Below W1.heap.size W1 wr) (fun o _=>Z2+O.length+1-(match o with|.slice _ n _=>n|_=>0))
 case atStart=>exact⟨0,O.length+1,by omega,by omega,by omega,HO2.out,hb2⟩
 case round=>
  obtain⟨k,N,hk,hN1,hN2,hown,hbr⟩:=hrel
  obtain⟨oa,oc,rfl,hnc,hcm⟩:=hown.form
  have hwr:=hbr.size
  clear HO2
  unfold maxLen at hcm
  by_cases hkz:k<Z2
  ·have q1:(((N:Int)%64) !=56)=true:=neT (by have:=HZ.out;have:=HOM.out;omega)
   have q2:((Int.tmod (N:Int) 64) !=56)=true:=neT (by have:=HZ.out;have:=HOM.out;rw[Int.tmod_eq_emod_of_nonneg (by omega)];omega)
   go_wp2_with (at_builtin;go_must (refine eW _ rfl _ _ 49 rfl W1.heap.size 5 i0 (.int .u8 0) 1 Tryz.underlying49 hi hz0 hz1 hz2 rfl _ _ _ rfl (aT.alloc hown _) ⟨wr.heap.size,0,none⟩ 1 1 [.int .u8 (0)] rfl rfl ?d1 ?d2 ?d3 ?d4 ?d5 ?_))
   case d1=>exact lR _ #[_] _ _
   case d2=>intro u hu;simp at hu;subst hu;rfl
   case d3=>unfold maxLen;omega
   case d4=>omega
   case d5=>simp;omega
   intro v3 w3 hown3 hgrow3
   have hb3:Below W1.heap.size W1 w3:=(hbr.alloc (by omega) _).grown hgrow3 (by simp;omega) (fun k hk=>(hown.lt k hk).1)
   clear hgrow3
   obtain⟨a3,c3,rfl, -, -⟩:=hown3.form
   go_wp2_with fail
   refine⟨?_,by simp;omega⟩
   (first|exact⟨k+1,N+1,by omega,by omega,by omega,by rw[tx,fK];exact hown3,hb3⟩|((repeat apply Exists.intro);exact⟨⟨k+1,N+1,by omega,by omega,by omega,by rw[tx,fK];exact hown3,hb3⟩,rfl⟩))
  ·obtain rfl:Z2=k:=by omega
   have q1:(((N:Int)%64) !=56)=false:=neF (by have:=HZ.out;have:=HOM.out;omega)
   have q2:((Int.tmod (N:Int) 64) !=56)=false:=neF (by have:=HZ.out;have:=HOM.out;rw[Int.tmod_eq_emod_of_nonneg (by omega)];omega)
   have HOw:=hid hown
   have HQ:=hid hnc
   have q3:(8*(T.length:Int))%18446744073709551616=8*(T.length:Int):=by omega
   go_wp2_with fail
   obtain⟨wo,rfl⟩:∃wo:World,wo=wr:=⟨_,rfl⟩
   clear hown hnc q1 q2
   go_loopw [4,5] (fun o i wr=>∃(k M:Nat),k≤8∧i=.int .i64 (56-8*(k:Int))∧M≤N+k∧N+k≤M∧aT wr W1.heap.size 5 o M (Lib.byteCells (O++128::(List.replicate Z2 0++mC T.length k)))∧Below W1.heap.size W1 wr) (fun _ i _=>(intOf i+8).toNat)
   case atStart=>exact⟨0,N,by omega,rfl,by omega,by omega,by rw[mC,List.append_nil];exact HOw.out,hbr⟩
   case round=>
    obtain⟨k,M,hk,rfl,hM1,hM2,hown,hbr2⟩:=hrel
    obtain⟨oa2,oc2,rfl,hnc,hcm2⟩:=hown.form
    have hwr2:=hbr2.size
    unfold maxLen at hcm2
    clear HOw
    by_cases h8:k<8
    ·obtain⟨j,hj⟩:∃j,j=7-k:=⟨_,rfl⟩
     have hij:56-8*(k:Int)=8*(j:Int):=by omega
     have hij2:8*(j:Int)-8=56-8*((k+1:Nat):Int):=by omega
     have hj7:j≤7:=by omega
     have HN:Hid (Lib.byteCells (O++128::(List.replicate Z2 0++mC T.length (k+1)))=Lib.byteCells (O++128::(List.replicate Z2 0++mC T.length k))++[.int .u8 ((8*(T.length:Int))/2^(8*j)%256)]):=hid (by rw[mC,←List.append_assoc,←List.cons_append,←List.append_assoc,fK,zbE,←hj,show(((8*T.length/2^(8*j):Nat)):Int)=8*(T.length:Int)/2^(8*j) by rw[Int.natCast_ediv];simp])
     rw[hij]
     have HJ:=hid hij2
     have c9:=HC9.out wr (HB1.out.trans (hbr2.mono HB1.out.size))
     clear hij hij2 hj
     go_wp2_with (at_builtin;go_must (refine eW _ rfl _ _ 49 rfl W1.heap.size 5 i0 (.int .u8 0) 1 Tryz.underlying49 hi hz0 hz1 hz2 rfl _ _ _ rfl (aT.alloc hown _) ⟨wr.heap.size,0,none⟩ 1 1 [.int .u8 (8*(T.length:Int)/2^(8*j)%256)] rfl rfl ?e1 ?e2 ?e3 ?e4 ?e5 ?_))
     case e1=>exact lR _ #[_] _ _
     case e2=>intro u hu;simp at hu;subst hu;rfl
     case e3=>unfold maxLen;omega
     case e4=>omega
     case e5=>simp;omega
     intro v3 w3 hown3 hgrow3
     have hb3:Below W1.heap.size W1 w3:=(hbr2.alloc (by omega) _).grown hgrow3 (by simp;omega) (fun k hk=>(hown.lt k hk).1)
     clear hgrow3 c9
     go_wp2_with fail
     refine⟨?_,by simp[intOf];omega⟩
     (first|exact⟨k+1,M+1,by omega,by rw[←HJ.out],by omega,by omega,by rw[HN.out];exact hown3,hb3⟩|((repeat apply Exists.intro);exact⟨⟨k+1,M+1,by omega,by rw[←HJ.out],by omega,by omega,by rw[HN.out];exact hown3,hb3⟩,rfl⟩))
    ·obtain rfl:k=8:=by omega
     obtain⟨i5,hi5⟩:∃x:Int,x=56-8*((8:Nat):Int):=⟨_,rfl⟩
     rw[←hi5]
     have hi50:¬(0≤i5):=by omega
     have hi51:i5<0:=by omega
     clear hi5
     obtain⟨wp,rfl⟩:∃wp:World,wp=wr:=⟨_,rfl⟩
     obtain⟨P,hP⟩:∃P,P=O++128::(List.replicate Z2 0++mC T.length 8):=⟨_,rfl⟩
     have hMl:M=P.length:=by have:=hown.1;rw[aW,←hP] at this;omega
     have hPm:P.length%64=0:=by rw[←hMl];have:=HZ.out;have:=HOM.out;omega
     have HPF:Hid (aY br F P=aY br cQ (fP T)):=hid (by
      rw[hP,←HF.out,←HO.out,←yZ]
      unfold u5 zdy
      rw[←HZ.out];rfl)
     rw[←hP] at hown
     have HOP:=hid hown
     have hPl:P.length≤2000000000:=by rw[←hMl];omega
     have HPM:=hid hPm
     subst hMl
     have R63:=hid ((hbr2.block (w.heap.size+1) (by have:=HS1.out;omega)).trans HR63.out)
     have R26:=hid ((hbr2.block w.heap.size (by have:=HS1.out;omega)).trans HR26.out)
     have HBP:=hid (HB1.out.trans (hbr2.mono HB1.out.size))
     have hF8':Hid (F.length=8):=hid (by have:=HZF.out;rwa [aF] at this)
     have hwps:w.heap.size+2≤wp.heap.size:=by have:=HS1.out;have:=hbr2.size;omega
     clear hown hP hnc hcm2 hPm HQ HR63 HR26 HC9 h8 hk hM1 hM2 hbr hbr2 hwr2 hwr hN1 hN2 hkz q3
     go_wp2_with fail
     go_loopw [4] (fun ov wr=>∃(k N:Nat) (a:Option Addr) (c:Nat),64*k≤P.length∧N+64*k≤P.length∧P.length≤N+64*k∧ov=.slice a N c∧wr.heap[w.heap.size+1]?=some (.cells (af (aY br F (P.take (64*k)))).toArray 252 (0,0))∧aT wr W1.heap.size 5 (.slice a N c) N (Lib.byteCells (P.drop (64*k)))∧Below (w.heap.size+1) wp wr) (fun ov _=>zeH ov)
     case atStart=>exact⟨0,P.length,oa2,oc2,by omega,by omega,by omega,rfl,by rw[Nat.mul_zero,List.take_zero,ct (by simp)];exact R63.out,HOP.out,Below.refl _ _⟩
     case round=>
      obtain⟨k,N3,a,c,hk,hN1,hN2,rfl,hb,hown,hbr⟩:=hrel
      clear HOP
      have hPm:=HPM.out
      have hwrs:=hbr.size
      by_cases h0:0<N3
      ·have h64:64≤N3:=by omega
       have hF9:=hid (jq hF8'.out P.length F (P.take (64*k)) hF8'.out (by rw[List.length_take];omega))
       obtain⟨-,a',c',hv,hNc,hcm3, -,hx⟩:=hown.sliceAt
       injection hv with e1 e2 e3
       subst e1 e3
       obtain⟨g,o,rfl,hgl,aO⟩:=hx (by intro e;have:=aW (P.drop (64*k));rw[e,List.length_drop] at this;simp at this;omega)
       unfold maxLen at hcm3
       have hg2:w.heap.size+2≤g:=by have:=(hown.lt g rfl).1;have:=HS1.out;omega
       have HNext:=hid (oE br F P k (by omega))
       have jW:am wr 1 (.slice (some ⟨g,o,none⟩) 64 c) 64 (Lib.byteCells ((P.drop (64*k)).take 64)):=by
        have hl:((P.drop (64*k)).take 64).length=64:=by rw[List.length_take,List.length_drop];omega
        refine⟨by rw[aW,hl],_,c,rfl,by omega,by unfold maxLen;omega,fun h=>(by cases h),fun _=>⟨g,o,rfl,hgl,fun j u hu=>?_⟩⟩
        have hj:j<64:=by have:=(List.getElem?_eq_some_iff.1 hu).1;rwa [aW,hl] at this
        refine hown.cells j u ?_
        rw[←hu]
        simp[Lib.byteCells,hj]
       generalize aY br F (P.take (64*k))=F3 at *
       have h64i:(64:Int)≤(N3:Int):=by omega
       have h64c:(64:Int)≤(c:Int):=by omega
       have h64n:64≤c:=by omega
       have HTK:=hid (sy (w.heap.size+1) F3 hF9.out [] 252 _ _ wr (by rw[List.append_nil];exact hb) jW)
       have HOW:=hid hown
       have HBR:=hid hbr
       clear hb hown hbr hx aO jW hPm
       go_upto_region 12 with(go_at_call 124;refine(HTK.out).mono ?_;rintro e w4 ⟨rfl,g4,hbut⟩)
       rw[List.append_nil] at g4
       have HG4:=hid g4
       have HOX:=hid (HOW.out.same (w':=w4) (fun k hk=>by have h1:=HOW.out.lt k hk;have h2:=HS1.out;exact hbut.block k h1.2 (by omega)))
       have HBX:Hid (Below (w.heap.size+1) wp w4):=hid ⟨hbut.os.trans HBR.out.os,hbut.tape.trans HBR.out.tape,hbut.output.trans HBR.out.output,Nat.le_trans HBR.out.size hbut.size,fun j hj=>(hbut.block j (by omega) (by omega)).trans (HBR.out.block j hj)⟩
       obtain⟨sa,hsa⟩:∃x,x=(if c=64 then some (⟨g,o,none⟩:Addr) else some ⟨g,o+64,none⟩):=⟨_,rfl⟩
       have HOC:Hid (aT w4 W1.heap.size 5 (.slice sa (N3-64) (c-64)) (N3-64) (Lib.byteCells (P.drop (64*(k+1))))):=hid (by
        have h:=HOX.out.cut h64
        have e1:(if c=64 then some (⟨g,o,none⟩:Addr) else(some ⟨g,o,none⟩:Option Addr).map (·.add 64))=sa:=by rw[hsa];simp[Addr.add]
        have e2:(Lib.byteCells (P.drop (64*k))).drop 64=Lib.byteCells (P.drop (64*(k+1))):=by
         simp only[Lib.byteCells,←List.map_drop,List.drop_drop,show 64*(k+1)=64*k+64 by omega]
        rw[e1,e2] at h
        exact h)
       have HN9:Hid (aY br F (P.take (64*(k+1)))=cy br F3 ((P.drop (64*k)).take 64)):=hid (by rw[show 64*(k+1)=64*k+64 by omega];exact HNext.out)
       clear g4 hbut HOX HOW
       by_cases hc64:c=64
       ·subst hc64
        obtain rfl:N3=64:=by omega
        rw[if_pos rfl] at hsa
        subst hsa
        go_wp2_with fail
        refine⟨?_,by show 0<64;omega⟩
        (first|exact⟨k+1,0,_,_,by omega,by omega,by omega,rfl,by rw[HN9.out];exact HG4.out,HOC.out,HBX.out⟩|((repeat apply Exists.intro);exact⟨⟨k+1,0,_,_,by omega,by omega,by omega,rfl,by rw[HN9.out];exact HG4.out,HOC.out,HBX.out⟩,rfl⟩))
       ·rw[if_neg hc64] at hsa
        subst hsa
        go_wp2_with fail
        refine⟨?_,by show N3-64<N3;omega⟩
        (first|exact⟨k+1,N3-64,_,_,by omega,by omega,by omega,rfl,by rw[HN9.out];exact HG4.out,HOC.out,HBX.out⟩|((repeat apply Exists.intro);exact⟨⟨k+1,N3-64,_,_,by omega,by omega,by omega,rfl,by rw[HN9.out];exact HG4.out,HOC.out,HBX.out⟩,rfl⟩))
      ·obtain rfl:N3=0:=by omega
       have HFP:Hid (aY br F (P.take (64*k))=aY br cQ (fP T)):=hid (by rw[List.take_of_length_le (by omega)];exact HPF.out)
       rw[HFP.out] at hb
       obtain⟨wo,rfl⟩:∃wo:World,wo=wr:=⟨_,rfl⟩
       have hfl:=jq (h:=cQ) rfl (fP T).length cQ (fP T) rfl (Nat.le_refl _)
       have HSum:Hid (zd1 T=nz (aY br cQ (fP T))):=hid rfl
       generalize aY br cQ (fP T)=G at *
       have HFL:=hid hfl
       have HGW:Hid (∀W:World,Below wo.heap.size wo W→∀q,q<8→W.cell? ⟨w.heap.size+1,q,none⟩=some (.int .u32 (G.getD q 0))):=hid (fun W hW q hq=>(cell_of_row W _ q _ _ _ ((hW.block _ (Array.getElem?_eq_some_iff.1 hb).1).trans hb)).trans (List.getElem?_toArray.trans (cI G q (by rw[HFL.out];exact hq))))
       have HBO:=hid hbr
       have R26o:=hid ((hbr.block w.heap.size (by omega)).trans R26.out)
       have HB0:=hid (HBP.out.trans (hbr.mono (by omega)))
       clear hb hown hbr hPm hfl HFP R26 R63
       go_upto_region 15 with fail
       obtain⟨Z9,hZ9⟩:∃Z:Obj,Z=(Obj.cells (dA G 0) 31):=⟨_,rfl⟩
       rw[show(Obj.cells #[.int .u8 0,.int .u8 0,.int .u8 0,.int .u8 0,.int .u8 0,.int .u8 0,.int .u8 0,.int .u8 0,.int .u8 0,.int .u8 0,.int .u8 0,.int .u8 0,.int .u8 0,.int .u8 0,.int .u8 0,.int .u8 0,.int .u8 0,.int .u8 0,.int .u8 0,.int .u8 0,.int .u8 0,.int .u8 0,.int .u8 0,.int .u8 0,.int .u8 0,.int .u8 0,.int .u8 0,.int .u8 0,.int .u8 0,.int .u8 0,.int .u8 0,.int .u8 0] 31)=Z9 by rw[hZ9];rfl]
       obtain⟨w5,hw5⟩:∃x,x=wo.alloc Z9:=⟨_,rfl⟩
       have hg5:w5.heap[wo.heap.size]?=some (.cells (dA G 0) 31 (0,0)):=by rw[hw5,←hZ9];exact heap_alloc_new wo Z9
       have hb5:Below wo.heap.size wo w5:=by rw[hw5];exact ab wo Z9
       rw[←hw5]
       have HG5:=hid hg5
       have HB5:=hid hb5
       clear hw5 hZ9 hg5 hb5
       go_wp2_with fail
       go_loopw [54] (fun i wr=>∃(k:Nat),k≤32∧i=.int .i64 k∧wr.heap[wo.heap.size]?=some (.cells (dA G k) 31 (0,0))∧Below wo.heap.size wo wr) (fun i _=>32-(intOf i).toNat)
       case atStart=>exact⟨0,by omega,rfl,HG5.out,HB5.out⟩
       case round=>
        obtain⟨k5,hk5,rfl,hg,hbr2⟩:=hrel
        clear HG5 HB5
        by_cases h32:k5<32
        ·obtain⟨q,hq⟩:∃q,q=k5/4:=⟨_,rfl⟩
         obtain⟨r,hr⟩:∃r,r=k5%4:=⟨_,rfl⟩
         have HN:=hid (heap_setCell_same wr wo.heap.size k5 (dA G k5) 31 (.int .u8 (G.getD q 0/2^(24-8*r)%256)) hg)
         have ck:wr.cell? ⟨wo.heap.size,k5,none⟩=(dA G k5)[k5]?:=cell_of_row wr _ k5 _ _ _ hg
         rw[Array.getElem?_eq_getElem (by rw[dZ];exact h32)] at ck
         have fk:wr.frozen? ⟨wo.heap.size,k5,none⟩=false:=frozen_of_row wr _ k5 _ _ hg
         have cq:=HGW.out wr hbr2 q (by omega)
         have HD:Hid ((dA G k5).setIfInBounds k5 (.int .u8 (G.getD q 0/2^(24-8*r)%256))=dA G (k5+1)):=hid (by rw[hq,hr];exact xf G k5)
         have q1:Int.tdiv (k5:Int) 4=(q:Int):=by rw[Int.tdiv_eq_ediv_of_nonneg (by omega)];omega
         have q2:Int.tmod (k5:Int) 4=(r:Int):=by rw[Int.tmod_eq_emod_of_nonneg (by omega)];omega
         have q3:(k5:Int)/4=(q:Int):=by omega
         have q4:(k5:Int)%4=(r:Int):=by omega
         have hr4:r<4:=by omega
         have hq8:q<8:=by omega
         clear hq hr
         generalize G.getD q 0=x at *
         generalize (dA G k5)[k5]'_=y at ck
         go_wp2_with fail
         refine⟨?_,by simp[intOf];omega⟩
         (first|exact⟨k5+1,by omega,by go_num,by rw[←HD.out];exact HN.out,hbr2.setCell (p:=⟨wo.heap.size,k5,none⟩) (Nat.le_refl _) _⟩|((repeat apply Exists.intro);exact⟨⟨k5+1,by omega,by go_num,by rw[←HD.out];exact HN.out,hbr2.setCell (p:=⟨wo.heap.size,k5,none⟩) (Nat.le_refl _) _⟩,rfl⟩))
        ·obtain rfl:k5=32:=by omega
         have hgr:wr.heap[w.heap.size]?=some (.cells (dA [] 0) 31 (0,0)):=(hbr2.block _ (by omega)).trans R26o.out
         have hne:wo.heap.size≠w.heap.size:=by omega
         have HBo:=hid (HB0.out.trans (hbr2.mono (by omega)))
         go_wp2_with first
          |(refine wpList_load_row rfl 31 _ rfl wo.heap.size rfl _ _ _ _ hg Tryz.underlying31 rfl (by rw[dZ];exact lq) ?_)
          |(refine gF rfl _ _ rfl w.heap.size G 32 rfl rfl _ hgr rfl ?_;intro w3 hg3 hs3 ho3 z1 z2 z3)
         refine bodyPost_ret (results_cell_row rfl _ _ w.heap.size _ _ _ _ rfl hg3 Tryz.underlying31 rfl (by rw[dZ];exact lq)) rfl ⟨?_,?_⟩
         ·rw[tq,HSum.out]
         ·exact⟨z1.trans HBo.out.os,z2.trans HBo.out.tape,z3.trans HBo.out.output,by rw[hs3];exact HBo.out.size,fun k hk=>by rw[ho3 k (by omega)];exact HBo.out.block k hk⟩
theorem zdE (ss:List (List UInt8)) (k:Nat) (h:k<ss.length):(ss.take (k+1)).flatten=(ss.take k).flatten++ss[k]:=by
 rw[List.take_succ_eq_append_getElem h,List.flatten_append];simp
theorem zcL (ss:List (List UInt8)) (k:Nat):(ss.take k).flatten.length≤ss.flatten.length:=by
 have:ss.flatten=(ss.take k).flatten++(ss.drop k).flatten:=by rw[←List.flatten_append,List.take_append_drop]
 rw[this,List.length_append];omega
set_option maxHeartbeats 1000000 in
theorem sQ (vs:Value) (n0:Nat) (ss:List (List UInt8)) (w:World) (hs:am w 1 vs n0 (ac ss)) (hn:ss.flatten.length≤140737488351232):
 Calls Tryz.prog 36 #[vs] w fun e w'=>e=.returned (.agg (dA (aY br cQ (fP ss.flatten)) 32))∧Below w.heap.size w w':=by
 obtain⟨rfl,va,vc,rfl,hvc,hvm,hx⟩:=hs.str
 have HX:=hid hx
 unfold maxLen at hvm
 clear hs hx
 go_enter Tryz.func36,Tryz.ntmps36
 go_upto_region 1 with fail
 obtain⟨Z,hZ⟩:∃Z:Obj,Z=(Obj.cells (dA [] 0) 31):=⟨_,rfl⟩
 rw[show(Obj.cells #[.int .u8 0,.int .u8 0,.int .u8 0,.int .u8 0,.int .u8 0,.int .u8 0,.int .u8 0,.int .u8 0,.int .u8 0,.int .u8 0,.int .u8 0,.int .u8 0,.int .u8 0,.int .u8 0,.int .u8 0,.int .u8 0,.int .u8 0,.int .u8 0,.int .u8 0,.int .u8 0,.int .u8 0,.int .u8 0,.int .u8 0,.int .u8 0,.int .u8 0,.int .u8 0,.int .u8 0,.int .u8 0,.int .u8 0,.int .u8 0,.int .u8 0,.int .u8 0] 31)=Z by rw[hZ];rfl]
 obtain⟨W0,hW0⟩:∃x,x=w.alloc Z:=⟨_,rfl⟩
 have hb0:Below w.heap.size w W0:=by rw[hW0];exact ab w Z
 have hR0:W0.heap[w.heap.size]?=some (.cells (dA [] 0) 31 (0,0)):=by rw[hW0,←hZ];exact heap_alloc_new w Z
 have hs0:W0.heap.size=w.heap.size+1:=by rw[hW0];simp
 rw[←hW0]
 have HB0:=hid hb0
 have HR0:=hid hR0
 have HS0:=hid hs0
 clear hW0 hZ hb0 hR0 hs0
 go_wp2_with (go_at_call 81;refine(zaJ _).mono ?_;rintro e w1 ⟨hb,rfl,hh,hb1⟩)
 have HH:=hid hh
 have HB1:=hid hb1
 clear hh hb1
 go_loopw [9] (fun i wr=>∃(k:Nat),k≤ss.length∧i=.int .i64 k∧lI wr W0.heap.size hb (ss.take k).flatten∧Below W0.heap.size W0 wr) (fun i _=>ss.length-(intOf i).toNat)
 case atStart=>exact⟨0,by omega,rfl,HH.out,HB1.out⟩
 case round=>
  obtain⟨k,hk,rfl,hh,hbr⟩:=hrel
  have HHr:=hid hh
  have HBr:=hid hbr
  clear HH hh hbr
  by_cases aK:k<ss.length
  ·obtain⟨g,o,rfl,hgl,aO⟩:=HX.out k aK
   have ck:=bA HBr.out (bA HB0.out (aO k aK)) |>fun h=>h
   have HJ:=hid (zdE ss k aK)
   have hle:=zcL ss (k+1)
   have HA:=hid (zcd W0.heap.size hb (ss.take k).flatten ss[k] (by rw[←HJ.out];omega) wr HHr.out)
   rw[←HJ.out] at HA
   generalize ss[k]=s at *
   clear aO
   go_wp2_with (go_at_call 82;refine(HA.out).mono ?_;rintro e w2 ⟨rfl,hh2,hb2⟩)
   refine⟨?_,by simp[intOf];omega⟩
   (first|exact⟨k+1,by omega,by go_num,hh2,HBr.out.trans hb2⟩|((repeat apply Exists.intro);exact⟨⟨k+1,by omega,by go_num,hh2,HBr.out.trans hb2⟩,rfl⟩))
  ·obtain rfl:k=ss.length:=by omega
   rw[List.take_length] at HHr
   have HF:=hid (zaX W0.heap.size hb ss.flatten hn wr HHr.out)
   have e9:((zd1 ss.flatten).map (Value.int .u8)).toArray=dA (aY br cQ (fP ss.flatten)) 32:=(tq _).symm
   rw[e9] at HF
   generalize hG:aY br cQ (fP ss.flatten)=G at *
   have HGq:=hid hG
   clear e9 hG
   obtain⟨wo,rfl⟩:∃wo:World,wo=wr:=⟨_,rfl⟩
   go_wp2_with first
    |(go_at_call 83;refine(HF.out).mono ?_;rintro e w5 ⟨rfl,hb5⟩;have hg5:=((Below.chain HBr.out hb5).block w.heap.size (by have:=HS0.out;omega)).trans HR0.out)
    |(refine gF rfl _ _ rfl w.heap.size G 32 rfl rfl _ hg5 rfl ?_;intro w6 hg6 hs6 ho6 z1 z2 z3)
   have hB:Below w.heap.size w w5:=HB0.out.trans ((Below.chain HBr.out hb5).mono (by have:=HS0.out;omega))
   refine bodyPost_ret (results_cell_row rfl _ _ w.heap.size _ _ _ _ rfl hg6 Tryz.underlying31 rfl (by rw[dZ];exact lq)) rfl ⟨by rw[HGq.out],?_⟩
   exact⟨z1.trans hB.os,z2.trans hB.tape,z3.trans hB.output,by rw[hs6];exact hB.size,fun k hk=>by rw[ho6 k (by omega)];exact hB.block k hk⟩
open Exec
def za2 (s:List UInt8):Dg:=⟨(List.range 32).map fun i=>UInt8.ofNat (pw (aY br cQ (fP s)) i).toNat,by simp⟩
theorem u6 (s:List UInt8):dA (aY br cQ (fP s)) 32=(dgc (za2 s)).toArray:=by
 unfold dA dgc za2 Lib.byteCells
 congr 1
 rw[List.map_map]
 refine List.map_congr_left fun i hi=>?_
 have aK:i<32:=List.mem_range.1 hi
 simp only[if_pos aK,Function.comp,Value.int.injEq,true_and]
 have h0:0≤pw (aY br cQ (fP s)) i∧pw (aY br cQ (fP s)) i<256:=by
  unfold pw
  exact⟨Int.emod_nonneg _ (by omega),Int.emod_lt_of_pos _ (by omega)⟩
 rw[ub (by omega)]
 omega
theorem zcy (s:List UInt8) (vs:Value) (n0:Nat) (w:World) (hs:am w 1 vs n0 (ac [s])) (hn:s.length≤140737488351232):
 Calls Tryz.prog 36 #[vs] w fun e w'=>e=.returned (.agg (dgc (za2 s)).toArray)∧Below w.heap.size w w':=by
 have:=sQ vs n0 [s] w hs (by simpa using hn)
 simp only[List.flatten_cons,List.flatten_nil,List.append_nil] at this
 rw[u6] at this
 exact this
theorem zbh {w:World} {b:Nat} {s:List UInt8} {t:TypeId} {fr:Nat×Nat} (h:w.heap[b]?=some (.cells #[.string (bs s)] t fr)):am w 1 (.slice (some ⟨b,0,none⟩) 1 1) 1 (ac [s]):=
 ⟨rfl,_,1,rfl,Nat.le_refl _,by unfold maxLen;omega,fun e=>(by cases e),fun _=>⟨b,0,rfl,(Array.getElem?_eq_some_iff.1 h).1,fun j u hu=>by
  rw[cell_of_row _ _ _ _ _ _ h,Nat.zero_add];simpa[ac] using hu⟩⟩
theorem am.empty (w:World) (x:Addr) {c:Nat} (hc:c≤1):am w 1 (.slice (some x) 0 c) 0 (ac []):=
 ⟨rfl,_,_,rfl,Nat.zero_le _,by unfold maxLen;omega,fun e=>(by cases e),fun h=>absurd rfl h⟩
abbrev Plc:=Nat×Nat
def Plc.ad (x:Plc):Addr:=⟨x.1,x.2,none⟩
def ptr (x:Plc):Value:=.pointer (some ⟨x.1,x.2,none⟩)
def rI (x:Plc):Addr:=⟨x.1,x.2+33,none⟩
def rq (x:Plc):Addr:=⟨x.1,x.2+34,none⟩
structure zcv (w:World) (x y:Plc):Prop where
 nw:w.cell? (rq x)=some (ptr y)
 ol:w.cell? (rI y)=some (ptr x)
def bG (w:World):Plc→List Plc→Plc→Prop
 |x,[],z=>zcv w x z
 |x,y::l,z=>zcv w x y∧bG w y l z
theorem qp {w:World}:∀{l:List Plc} {x y z:Plc} {r:List Plc},bG w x (l++y::r) z↔bG w x l y∧bG w y r z
 |[],x,y,z,r=>Iff.rfl
 |a::l,x,y,z,r=>by
  simp only[List.cons_append,bG,qp (l:=l),and_assoc]
theorem bG.keep {w w':World}:∀{l:List Plc} {x z:Plc},(∀a∈x::l,w'.cell? (rq a)=w.cell? (rq a))→(∀a∈l++[z],w'.cell? (rI a)=w.cell? (rI a))→bG w x l z→bG w' x l z
 |[],x,z,h1,h2,h=>⟨(h1 x (by simp)).trans h.nw,(h2 z (by simp)).trans h.ol⟩
 |y::l,x,z,h1,h2,h=>⟨⟨(h1 x (by simp)).trans h.1.nw,(h2 y (by simp)).trans h.1.ol⟩,bG.keep (fun a ha=>h1 a (by simp only[List.mem_cons] at ha ⊢;exact .inr ha)) (fun a ha=>h2 a (by simp only[List.cons_append,List.mem_cons];exact .inr ha)) h.2⟩
theorem bG.last {w:World} {l:List Plc} {x z:Plc} (h:bG w x l z):∃p,zcv w p z∧((l=[]∧p=x)∨∃l',l=l'++[p]∧bG w x l' p):=by
 rcases List.eq_nil_or_concat l with rfl|⟨l',p,rfl⟩
 ·exact⟨x,h,.inl ⟨rfl,rfl⟩⟩
 ·rw[List.concat_eq_append] at h ⊢
  obtain⟨h1,h2⟩:=qp.1 h
  exact⟨p,h2,.inr ⟨l',rfl,h1⟩⟩
theorem bG.first {w:World} {l:List Plc} {x z:Plc} (h:bG w x l z):∃q,zcv w x q∧((l=[]∧q=z)∨∃l',l=q::l'∧bG w q l' z):=by
 cases l with
 |nil=>exact⟨z,h,.inl ⟨rfl,rfl⟩⟩
 |cons q l'=>exact⟨q,h.1,.inr ⟨l',rfl,h.2⟩⟩
abbrev Rw:=Nat×Dg×List UInt8
def zfQ (r:Rw):Plc:=(r.1,0)
def zc4 (l:List Rw):Nat:=(l.map fun r=>r.2.2.length).sum
structure wR (w:World) (r:Rw):Prop where
 ob:∃cur,w.heap[r.1]?=some (.cells cur 113 (0,0))∧cur.size=35
 sum:w.rangeAt r.1 0 (dgc r.2.1)
 data:w.cell? ⟨r.1,32,none⟩=some (.string (bs r.2.2))
structure fI (B:Nat) (R:Nat→Prop) (w:World) (cb rb dp most:Nat) (l:List Rw):Prop where
 ob:∃cur,w.heap[cb]?=some (.cells cur 115 (0,0))∧cur.size=39
 cm:w.cell? ⟨cb,0,none⟩=some (.int .i64 most)
 cs:w.cell? ⟨cb,1,none⟩=some (.int .i64 (zc4 l))
 cd:w.cell? ⟨cb,2,none⟩=some (.pointer (some ⟨dp,0,none⟩))
 cr:w.cell? ⟨cb,3,none⟩=some (.map (some rb))
 row:∀r∈l,wR w r
 ch:bG w (cb,4) (l.map zfQ) (cb,4)
 mp:∃o M,w.heap[rb]?=some o∧fT dgv M o∧∀d v,M d=some v↔∃r∈l,r.2.1=d∧v=ptr (zfQ r)
 dist:(l.map (·.2.1)).Nodup
 bl:(cb::rb::l.map (·.1)).Nodup
 fit:zc4 l≤most
 mx:most≤1073741824
 sm:∀r∈l,r.2.2.length≤1000
 rc:R cb
 rr:R rb
 rl:∀r∈l,R r.1
 bd:∀k,R k→B≤k∧k<w.heap.size
theorem wR.keep {w w':World} {r:Rw} (h:wR w r) (hk:w'.heap[r.1]?=w.heap[r.1]?):wR w' r:=by
 obtain⟨cur,hc,hs⟩:=h.ob
 exact⟨⟨cur,hk.trans hc,hs⟩,fun j v hv=>(World.cell?_of_block hk).trans (h.sum j v hv),(World.cell?_of_block hk).trans h.data⟩
theorem bG.same {w w':World} {l:List Plc} {x z:Plc} (h:bG w x l z) (hk:∀a∈x::(l++[z]),w'.heap[a.1]?=w.heap[a.1]?):bG w' x l z:=by
 refine bG.keep (fun a ha=>World.cell?_of_block (hk a ?_)) (fun a ha=>World.cell?_of_block (hk a ?_)) h
 ·simp only[List.mem_cons,List.mem_append] at ha ⊢
  rcases ha with ha|ha
  ·exact .inl ha
  ·exact .inr (.inl ha)
 ·exact List.mem_cons_of_mem _ ha
theorem fI.keep {B:Nat} {R F:Nat→Prop} {w w':World} {cb rb dp most:Nat} {l:List Rw} (h:fI B R w cb rb dp most l) (hf:aw F w w') (hF:∀k,R k→¬F k):fI B R w' cb rb dp most l:=by
 have hk:∀k,R k→w'.heap[k]?=w.heap[k]?:=fun k hk=>hf.block k (h.bd k hk).2 (hF k hk)
 obtain⟨cur,hc,hs⟩:=h.ob
 obtain⟨o,M,ho,hM,hMl⟩:=h.mp
 refine⟨⟨cur,(hk cb h.rc).trans hc,hs⟩,(World.cell?_of_block (hk cb h.rc)).trans h.cm,(World.cell?_of_block (hk cb h.rc)).trans h.cs,(World.cell?_of_block (hk cb h.rc)).trans h.cd,(World.cell?_of_block (hk cb h.rc)).trans h.cr,
  fun r hr=>(h.row r hr).keep (hk _ (h.rl r hr)),h.ch.same fun a ha=>?_,⟨o,M,(hk rb h.rr).trans ho,hM,hMl⟩,h.dist,h.bl,h.fit,h.mx,h.sm,h.rc,h.rr,h.rl,fun k hr=>⟨(h.bd k hr).1,Nat.lt_of_lt_of_le (h.bd k hr).2 hf.size⟩⟩
 simp only[List.mem_cons,List.mem_append,List.mem_map,List.not_mem_nil,or_false] at ha
 rcases ha with rfl|⟨r,hr,rfl⟩|rfl
 ·exact hk cb h.rc
 ·exact hk _ (h.rl r hr)
 ·exact hk cb h.rc
theorem fI.below {B:Nat} {R:Nat→Prop} {w w':World} {cb rb dp most:Nat} {l:List Rw} (h:fI B R w cb rb dp most l) (hb:Below w.heap.size w w'):fI B R w' cb rb dp most l:=
 h.keep (aw.of_below (D:=fun _=>False) hb) fun _ _ e=>e
theorem fI.free {B:Nat} {R:Nat→Prop} {w:World} {cb rb dp most:Nat} {l:List Rw} (h:fI B R w cb rb dp most l) (x:Plc) (hx:x=(cb,4)∨x∈l.map zfQ) (j:Nat):w.frozen? ⟨x.1,j,none⟩=false:=by
 rcases hx with rfl|hx
 ·obtain⟨cur,hc,_⟩:=h.ob
  exact Lib.frozen_of_heap hc j
 ·obtain⟨r,hr,rfl⟩:=List.mem_map.1 hx
  obtain⟨cur,hc,_⟩:=(h.row r hr).ob
  exact Lib.frozen_of_heap hc j
theorem dW {w:World} {b o b' o':Nat} (v:Value) (h:¬(b=b'∧o=o')):(w.setCell ⟨b,o,none⟩ v).cell? ⟨b',o',none⟩=w.cell? ⟨b',o',none⟩:=
 World.cell?_setCell_other _ _ _ _ (fun e=>h ⟨congrArg Addr.block e,congrArg Addr.off e⟩)
def zeM (d:Dg) (l:List (Dg×List UInt8)):List (Dg×List UInt8):=l.filter fun r=>!decide (r.1=d)
def zdl (l:List Rw):List (Dg×List UInt8):=l.map (·.2)
theorem fI.look {B:Nat} {R:Nat→Prop} {w:World} {cb rb dp most:Nat} {l:List Rw} (h:fI B R w cb rb dp most l) (d:Dg):
 ∃o,w.heap[rb]?=some o∧((∀r∈l,r.2.1≠d)∧(∀W,W.heap[rb]?=some o→(Instr.lookup 110 (.map (some rb)) (.agg (dgc d).toArray) true).run Tryz.prog W=.ok (.tuple #[.pointer none,.bool false]) W)∨
  ∃l1 r l2,l=l1++r::l2∧r.2.1=d∧∀W,W.heap[rb]?=some o→(Instr.lookup 110 (.map (some rb)) (.agg (dgc d).toArray) true).run Tryz.prog W=.ok (.tuple #[.pointer (some ⟨r.1,0,none⟩),.bool true]) W):=by
 obtain⟨o,M,ho,hM,hMl⟩:=h.mp
 have ht:Tryz.prog.underlying 110=some (.map 31 111):=by kernel_rfl
 have hz:∀W,(zeroValue 111).run Tryz.prog W=.ok (.pointer none) W:=fun W=>rfl
 refine⟨o,ho,?_⟩
 cases hd:M d with
 |none=>
  refine .inl ⟨fun r hr e=>?_,fun W hW=>?_⟩
  ·have:=(hMl d (ptr (zfQ r))).2 ⟨r,hr,e,rfl⟩
   rw[hd] at this
   cases this
  ·have:=hM.look zc8 hW ht (hz W) d true
   simpa[hd,dgv] using this
 |some v=>
  obtain⟨r,hr,hrd,rfl⟩:=(hMl d v).1 hd
  obtain⟨l1,l2,rfl⟩:=List.append_of_mem hr
  refine .inr ⟨l1,r,l2,rfl,hrd,fun W hW=>?_⟩
  have:=hM.look zc8 hW ht (hz W) d true
  simpa[hd,dgv,ptr,zfQ] using this
structure CaL where
 most:Nat
 rows:List (Dg×List UInt8)
 db:Dg→List TcL
def gp (B:Nat) (F:Nat→Prop) (w:World) (cb:Nat) (c:CaL):Prop:=
 ∃(R D I:Nat→Prop) (rb dp mb:Nat) (M:Dg→Option Value) (l:List Rw) (L:Dg→List TcM),(∀k,F k↔R k∨D k∨I k)∧fI B R w cb rb dp c.most l∧zdl l=c.rows∧vH B D I w dp mb M L∧(∀d,(L d).map (·.t)=c.db d)∧(∀k,R k→¬D k∧¬I k)∧∀k,I k→B≤k
theorem gp.bd {B:Nat} {F:Nat→Prop} {w:World} {cb:Nat} {c:CaL} (h:gp B F w cb c):∀k,F k→B≤k∧k<w.heap.size:=by
 obtain⟨R,D,I,rb,dp,mb,M,l,L,hF,hR, -,hD, -, -,hIB⟩:=h
 intro k hk
 rcases(hF k).1 hk with h|h|h
 ·exact hR.bd k h
 ·exact hD.db_ k h
 ·exact⟨hIB k h,hD.ib k h⟩
theorem gp.keep {B:Nat} {F G:Nat→Prop} {w w':World} {cb:Nat} {c:CaL} (h:gp B F w cb c) (hf:aw G w w') (hG:∀k,F k→¬G k):gp B F w' cb c:=by
 obtain⟨R,D,I,rb,dp,mb,M,l,L,hF,hR,h1,hD,h2,h3⟩:=h
 exact⟨R,D,I,rb,dp,mb,M,l,L,hF,hR.keep hf fun k hk=>hG k ((hF k).2 (.inl hk)),h1,hD.keep hf fun k hk=>hG k ((hF k).2 (.inr hk)),h2,h3⟩
theorem gp.below {B:Nat} {F:Nat→Prop} {w w':World} {cb:Nat} {c:CaL} (h:gp B F w cb c) (hb:Below w.heap.size w w'):gp B F w' cb c:=by
 obtain⟨R,D,I,rb,dp,mb,M,l,L,hF,hR,h1,hD,h2,h3⟩:=h
 exact⟨R,D,I,rb,dp,mb,M,l,L,hF,hR.below hb,h1,hD.below hb,h2,h3⟩
structure zdB (N:Nat→Prop) (w:World) (x:iO):Prop where
 held:lz w x
 k0: -9223372036854775808≤x.kind
 k1:x.kind≤9223372036854775807
 nd:x.data.length≤1000
 sm:∀t∈x.ts,zdQ t.t
 lo:∀t∈x.ts,InE (fun k=>¬N k) t
 tl:x.ts≠[]→∀k,x.tv.ownBlock=some k→¬N k∧k<w.heap.size
theorem zdB.keep {N:Nat→Prop} {w W:World} {x:iO} (h:zdB N w x) (hb:Below w.heap.size w W):zdB N W x:=⟨h.held.keep hb,h.k0,h.k1,h.nd,h.sm,h.lo,fun hne k hk=>⟨(h.tl hne k hk).1,Nat.lt_of_lt_of_le (h.tl hne k hk).2 hb.size⟩⟩
def zcC (P:Nat→Prop) (y:iO):Prop:=(∀k,y.tv.ownBlock=some k→P k)∧∀t∈y.ts,InT P t
theorem zcC.mono {P Q:Nat→Prop} {y:iO} (h:zcC P y) (hs:∀k,P k→Q k):zcC Q y:=⟨fun k hk=>hs k (h.1 k hk),fun t ht=>⟨fun k hk=>hs k ((h.2 t ht).1 k hk),fun k hk=>hs k ((h.2 t ht).2 k hk)⟩⟩
theorem lz.stay {w w':World} {x:iO} (h:lz w x) (hs:w.heap.size≤w'.heap.size) {P:Nat→Prop} (ho:zcC P x) (hk:∀k,P k→k<w.heap.size→w'.heap[k]?=w.heap[k]?):lz w' x:=
 ⟨de h.1 hs fun k h1 h2=>hk k (ho.1 k h1) h2,fun t ht=>(h.2 t ht).stay hs fun k h1 h2=>hk k (by rcases h1 with h1|h1;exact(ho.2 t ht).1 k h1;exact(ho.2 t ht).2 k h1) h2⟩
theorem br1 {ty:TypeId} {d:TypeDesc} (hu:Tryz.prog.underlying ty=some d) {fn:Func} {p:Tmp} {R:Ending→World→Prop} {a:Act} {w:World} (g:Nat) {t:TypeId} {cs:Array Value} {fr:Nat×Nat} (hg:w.heap[g]?=some (.cells cs t fr)) (hR:R (.returned (.agg cs)) w) (h:fn.results=#[.cell p ty]:=by rfl) (hp:a.tmps.getD p undef=.pointer (some ⟨g,0,none⟩):=by rfl)
 (hd:(match d with|.struct _|.array _ _=>true|_=>false)=true:=by rfl) (hi:(Tryz.prog.info? ty).map (·.size)=some cs.size:=by kernel_rfl) (hf:a.defers=[]:=by rfl):bodyPost Tryz.prog fn R .ret a w:=by
 refine bodyPost_ret (v:=.agg cs) ?_ hf hR
 have hp':a.tmps[p]?.getD undef=.pointer (some ⟨g,0,none⟩):=by simpa using hp
 cases d<;>simp at hd<;>simp[results,h,hp',asAddr,run_loadVar_row w g t ty cs fr _ hg hu rfl hi]
structure iy (P:Nat→Prop) (ty:TypeId) (g:Nat) (w0:World) (ss:List (List UInt8)) (w:World):Prop where
 b:Below w0.heap.size w0 w
 lo:w0.heap.size≤g
 v:∃v,am w0 1 v ss.length (ac ss)∧w.heap[g]?=some (.cells #[v,.bool false] ty (0,0))∧∀k,v.ownBlock=some k→P k
theorem iy.keep {P:Nat→Prop} {ty:TypeId} {g:Nat} {w0:World} {ss:List (List UInt8)} {w w':World} (h:iy P ty g w0 ss w) (hb:Below w.heap.size w w'):iy P ty g w0 ss w':=by
 obtain⟨v,h1,h2,h9⟩:=h.v
 exact⟨h.b.trans (hb.mono h.b.size),h.lo,v,h1,(hb.block g (lx (hid h2))).trans h2,h9⟩
theorem iy.other {P:Nat→Prop} {ty:TypeId} {g r:Nat} {w0:World} {ss:List (List UInt8)} {w w':World} (h:iy P ty g w0 ss w) (ht:aX r w w') (hr:w0.heap.size≤r) (hg:g≠r):iy P ty g w0 ss w':=by
 obtain⟨v,h1,h2,h9⟩:=h.v
 exact⟨h.b.trans (ht.below hr),h.lo,v,h1,(ht.foot.block g (lx (hid h2)) hg).trans h2,h9⟩
theorem iy.lt {P:Nat→Prop} {ty:TypeId} {g:Nat} {w0:World} {ss:List (List UInt8)} {w:World} (h:iy P ty g w0 ss w):g<w.heap.size:=by
 obtain⟨v,h1,h2,h9⟩:=h.v
 exact lx (hid h2)
theorem iy.cells {P:Nat→Prop} {ty:TypeId} {g:Nat} {w0:World} {ss:List (List UInt8)} {w:World} (h:iy P ty g w0 ss w):
 ∃v,am w0 1 v ss.length (ac ss)∧w.cell? ⟨g,0,none⟩=some v∧w.cell? ⟨g,1,none⟩=some (.bool false)∧w.frozen? ⟨g,1,none⟩=false∧w.heap[g]?=some (.cells #[v,.bool false] ty (0,0)):=by
 obtain⟨v,h1,h2,h9⟩:=h.v
 exact⟨v,h1,(cell_of_row w g 0 _ _ _ h2).trans rfl,(cell_of_row w g 1 _ _ _ h2).trans rfl,Lib.frozen_of_heap h2 1,h2⟩
theorem zdk {ops:Array Oper} {Q:Exit→Act→World→Prop} {rest:List Oper} {o:Oper} {a:Act} {w:World} {ty n r:Nat} (A old xs C:List Value) {x y:Operand} {t:TypeId} (rt:cZ ty n) (hr:w.heap[r]?=some (.cells (A++old++C).toArray t (0,0))) (hold:old.length=n) (hs:xs.length=n) (h1:∀u∈xs,u.oneCell'=true)
 (h:∀W1,aX r w W1→W1.heap[r]?=some (.cells (A++xs++C).toArray t (0,0))→W1.heap.size=w.heap.size→wpList Tryz.prog ops Q rest (a.put o.dst undef) W1)
 (ho:o.op=.store ty x y:=by rfl) (hx:a.eval x=.pointer (some ⟨r,A.length,none⟩):=by rfl) (hy:a.eval y=.agg xs.toArray:=by rfl) (hw:Region.wanted o (yielded ops a.tmps)=true:=by rfl):
 wpList Tryz.prog ops Q (o::rest) a w:=by
 obtain⟨d,_,_,h3⟩:=rt.out
 have aK:r<w.heap.size:=(Array.getElem?_eq_some_iff.1 hr).1
 have hst:=run_storeCells_at Tryz.prog r A.length t xs 0 _ w hr (by rw[List.size_toArray,List.length_append,List.length_append];omega) h1
 have e1:(A++old++C).toArray.toList.take (A.length+0)=A:=by rw[List.append_assoc];simp
 have e2:(A++old++C).toArray.toList.drop (A.length+0+xs.length)=C:=by
  rw[hs,←hold]
  show List.drop _ (A++old++C)=C
  exact List.drop_left' (by rw[List.length_append];omega)
 rw[e1,e2] at hst
 have hsv:(storeVar ty ⟨r,A.length,none⟩ (.agg xs.toArray)).run Tryz.prog w=.ok () (w.setRow r (A++xs++C).toArray):=by
  cases hq:Tryz.prog.info? ty with
  |none=>rw[hq] at h3;cases h3
  |some i=>
   have hi:i.size=n:=by rw[hq] at h3;simpa using h3
   simp[storeVar,sizeOf,typeInfo,hq,Value.cells,hi,hs]
   simpa using hst
 refine rm (w':=w.setRow r (A++xs++C).toArray) ?_ (h _ ⟨aK,rfl,rfl,rfl,by simp,fun k _ hne=>setRow_other _ _ _ _ hne⟩ (setRow_heap _ _ _ _ _ _ hr) (by simp)) hw
 unfold execOp
 simp only[ho,hx,hy,Instr.storeAt,Instr.sureAddr,Sem.run_bind,Sem.run_pure,Result.andThen_ok,hsv]
theorem zck:lM 100=some ((RdL.cells ⟨[],false,dg0⟩).toArray,[(0,1),(1,1),(2,32)]):=by kernel_rfl
end Go.Proofs.YtlbipokkdiiaiaaGreatDoor
