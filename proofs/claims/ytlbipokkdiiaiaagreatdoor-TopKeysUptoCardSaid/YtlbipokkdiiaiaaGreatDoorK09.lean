/- Lemmas for TopKeysUpto: ShaProg, ShaSpread, ShaTake. -/
import Derived.Test.YtlbipokkdiiaiaaGreatDoorK08
import Derived.Laws.Tables
import Derived.Laws.Rows
import Derived.ChangeKeysEq
open List renaming setIfInBounds_toArray → sA, set_cons_zero → sB, set_cons_succ → sC
namespace Go.Proofs.YtlbipokkdiiaiaaGreatDoor
set_option maxRecDepth 100000
open Go.RowKit
set_option maxHeartbeats 400000 in
theorem py (x n:Int) (h1:0<n) (h2:n<32) (w:World):Calls Tryz.prog 175 #[.int .u32 x,.int .i64 n] w fun e w'=>e=.returned (.int .u32 (jW x n))∧w'=w:=by
 have H:=hid (zbK x (32-n) (by omega) (by omega) w)
 have e1:32-(32-n)=n:=by omega
 rw[e1] at H
 have hw:wrap64 (32-n)=32-n:=by unfold wrap64;omega
 clear e1
 go_enter Tryz.func175,Tryz.ntmps175
 go_wp2_with (refine(H.out).mono ?_;rintro e w1 ⟨rfl,rfl⟩)
 go_ret
 exact⟨rfl,rfl⟩
def kA:Array Value:=(aj bq).toArray
theorem fZ:kA.size=64:=rfl
theorem cx:(Tryz.prog.info? 298).map (·.size)=some 64:=by kernel_rfl
theorem jU:kA.all (·.oneCell')=true:=by kernel_rfl
set_option maxHeartbeats 1000000 in
theorem fE (w:World):Calls Tryz.prog 173 #[] w fun e w'=>e=.returned (.agg kA)∧Below w.heap.size w w':=by
 go_enter Tryz.func173,Tryz.ntmps173
 go_wp2_with first
  |(refine wpList_build rfl 298 _ rfl (by kernel_rfl) ?_)
  |(refine wpList_store_row rfl 298 _ _ rfl w.heap.size kA rfl (by kernel_rfl) 298 _ (heap_alloc_new w _) (by rw[fZ];exact cx) rfl jU ?_)
 refine bodyPost_ret (results_cell_row rfl _ _ w.heap.size _ _ _ _ rfl (setRow_heap _ _ _ _ _ _ (heap_alloc_new w _)) Tryz.underlying298 rfl (by rw[fZ];exact cx)) rfl ⟨rfl,?_⟩
 exact⟨rfl,rfl,rfl,by simp,fun k hk=>by rw[setRow_other _ _ _ _ (by omega),Below.heap_alloc _ _ _ hk]⟩
theorem zaX (ws:List Int):(ff ws).all (·.oneCell')=true:=by
 rw[Array.all_eq_true_iff_forall_mem]
 intro x hx
 simp only[ff,List.mem_toArray,List.mem_map] at hx
 obtain⟨i,_,rfl⟩:=hx
 rfl
set_option maxHeartbeats 4000000 in
theorem uH (bv:Value) (b:List UInt8) (w:World) (lS:ap w 1 bv 64 (Lib.byteCells b)):Calls Tryz.prog 174 #[bv] w fun e w'=>e=.returned (.agg (aj (jS b)).toArray)∧Below w.heap.size w w':=by
 have hl64:b.length=64:=by have:=lS.1;rw[aU] at this;omega
 obtain⟨-,ba,bo,bc,rfl,hbc,hbm,hba,hbx⟩:=lS.bytes (by omega)
 rw[hl64] at hbc hbx
 have HBX:=hid hbx
 unfold maxLen at hbm
 rw[hl64]
 clear hl64 lS hbx
 go_enter Tryz.func174,Tryz.ntmps174
 go_upto_region 2 with fail
 obtain⟨Z,hZ⟩:∃Z:Obj,Z=(Obj.cells (gT [] 0) 298):=⟨_,rfl⟩
 rw[show(Obj.cells #[.int .u32 0,.int .u32 0,.int .u32 0,.int .u32 0,.int .u32 0,.int .u32 0,.int .u32 0,.int .u32 0,.int .u32 0,.int .u32 0,.int .u32 0,.int .u32 0,.int .u32 0,.int .u32 0,.int .u32 0,.int .u32 0,.int .u32 0,.int .u32 0,.int .u32 0,.int .u32 0,.int .u32 0,.int .u32 0,.int .u32 0,.int .u32 0,.int .u32 0,.int .u32 0,.int .u32 0,.int .u32 0,.int .u32 0,.int .u32 0,.int .u32 0,.int .u32 0,.int .u32 0,.int .u32 0,.int .u32 0,.int .u32 0,.int .u32 0,.int .u32 0,.int .u32 0,.int .u32 0,.int .u32 0,.int .u32 0,.int .u32 0,.int .u32 0,.int .u32 0,.int .u32 0,.int .u32 0,.int .u32 0,.int .u32 0,.int .u32 0,.int .u32 0,.int .u32 0,.int .u32 0,.int .u32 0,.int .u32 0,.int .u32 0,.int .u32 0,.int .u32 0,.int .u32 0,.int .u32 0,.int .u32 0,.int .u32 0,.int .u32 0,.int .u32 0] 298)=Z by rw[hZ];rfl]
 obtain⟨W0,hW0⟩:∃W0,W0=(w.alloc Z).alloc Z:=⟨_,rfl⟩
 have hR0:W0.heap[w.heap.size]?=some Z:=by
  rw[hW0,Below.heap_alloc _ _ _ (by simp)]
  exact heap_alloc_new w Z
 have hR1:W0.heap[w.heap.size+1]?=some (.cells (gT b 0) 298 (0,0)):=by
  have:(.cells (gT b 0) 298 (0,0))=Z:=by rw[hZ];unfold gT;rw[show((List.range 64).map fun j=>Value.int .u32 (kV b j (min 4 (0-4*j))))=((List.range 64).map fun j=>Value.int .u32 (kV [] j (min 4 (0-4*j)))) from by simp[kV]]
  rw[this,hW0]
  have e:w.heap.size+1=(w.alloc Z).heap.size:=by simp
  rw[e]
  exact heap_alloc_new _ Z
 have hb0:Below w.heap.size w W0:=by rw[hW0];exact((ab w Z).alloc (by simp) _)
 have hs0:W0.heap.size=w.heap.size+2:=by rw[hW0];simp
 rw[←hW0]
 have HR0:=hid hR0
 have HR1:=hid hR1
 have HSZ:=hid hs0
 clear hW0 hR0 hR1 hs0
 go_wp2_with fail
 go_loopw [13] (fun i wr=>∃(k:Nat),k≤64∧i=.int .i64 k∧wr.heap[w.heap.size+1]?=some (.cells (gT b k) 298 (0,0))∧Below (w.heap.size+1) W0 wr) (fun i _=>64-(intOf i).toNat)
 case atStart=>exact⟨0,by omega,rfl,HR1.out,Below.refl _ _⟩
 case round=>
  obtain⟨k,hk,rfl,hg,hbr⟩:=hrel
  by_cases h64:k<64
  ·obtain⟨q,hq⟩:∃q,q=k/4:=⟨_,rfl⟩
   have ck:wr.cell? ⟨w.heap.size+1,q,none⟩=(gT b k)[q]?:=cell_of_row wr _ q _ _ _ hg
   rw[hq,zc5 b k h64,←hq] at ck
   have fk:wr.frozen? ⟨w.heap.size+1,q,none⟩=false:=frozen_of_row wr _ q _ _ hg
   have hbk:=(hbr.cell (p:=⟨ba,bo+k,none⟩) (show ba<w.heap.size+1 by omega)).trans (bz hb0 (HBX.out k h64))
   have HD:Hid ((gT b k).setIfInBounds q (.int .u32 (bits .or .u32 (kV b q (k%4)*256%4294967296) (dn b k)))=gT b (k+1)):=hid (by rw[hq];exact yd b k)
   have HN:=hid (heap_setCell_same wr (w.heap.size+1) q (gT b k) 298 (.int .u32 (bits .or .u32 (kV b q (k%4)*256%4294967296) (dn b k))) hg)
   have q1:Int.tdiv (k:Int) 4=(q:Int):=by rw[Int.tdiv_eq_ediv_of_nonneg (by omega)];omega
   have q3:(k:Int)/4=(q:Int):=by omega
   have hq16:q<64:=by omega
   have hby:=ym b k
   generalize kV b q (k%4)=x at *
   generalize dn b k=y at *
   clear hq
   go_wp2_with fail
   refine⟨⟨k+1,by omega,by go_num,by rw[←HD.out];exact HN.out,hbr.setCell (p:=⟨w.heap.size+1,q,none⟩) (Nat.le_refl _) _⟩,by simp[intOf];omega⟩
  ·obtain rfl:k=64:=by omega
   obtain⟨wo,rfl⟩:∃wo:World,wo=wr:=⟨_,rfl⟩
   have hg':wo.heap[w.heap.size+1]?=some (.cells (ff (aR b 16)) 298 (0,0)):=by rw[hg,zbk]
   have HG:=hid hg'
   have HBO:=hid hbr
   clear hg hg' h64 HR1 hbr
   go_wp2_with fail
   go_loopw [6] (fun i wr=>∃(k:Nat),16≤k∧k≤64∧i=.int .i64 k∧wr.heap[w.heap.size+1]?=some (.cells (ff (aR b k)) 298 (0,0))∧Below (w.heap.size+1) wo wr) (fun i _=>64-(intOf i).toNat)
   case atStart=>exact⟨16,by omega,by omega,rfl,HG.out,Below.refl _ _⟩
   case round=>
    obtain⟨k,hk16,hk,rfl,hg,hbr⟩:=hrel
    have HSL:=hid (eo b k)
    clear HG
    by_cases h64:k<64
    ·obtain⟨p,hp⟩:∃p,k=p+16:=⟨k-16,by omega⟩
     obtain⟨p1,hp1⟩:∃q,q=p+1:=⟨_,rfl⟩
     obtain⟨p9,hp9⟩:∃q,q=p+9:=⟨_,rfl⟩
     obtain⟨p14,hp14⟩:∃q,q=p+14:=⟨_,rfl⟩
     have HX:Hid (aR b (k+1)=aR b k++[xz ((aR b k).getD p 0) ((aR b k).getD p1 0) ((aR b k).getD p9 0) ((aR b k).getD p14 0)]):=hid (by subst hp hp1 hp9 hp14;rw[aR,if_neg (by omega)];rfl)
     have cell:=fun j (hj:j<64)=>(cell_of_row wr (w.heap.size+1) j _ _ _ hg).trans (zdd (aR b k) j hj)
     have c0:=cell p (by omega)
     have c1:=cell p1 (by omega)
     have c9:=cell p9 (by omega)
     have c14:=cell p14 (by omega)
     have ck:=cell k (by omega)
     clear cell
     have HN:=hid (fun x=>(heap_setCell_same wr (w.heap.size+1) k (ff (aR b k)) 298 (.int .u32 x) hg).trans (by rw[qS (aR b k) x k HSL.out]))
     have fk:wr.frozen? ⟨w.heap.size+1,k,none⟩=false:=frozen_of_row wr _ k _ _ hg
     generalize (aR b k).getD p 0=x0 at *
     generalize (aR b k).getD p1 0=x1 at *
     generalize (aR b k).getD p9 0=x9 at *
     generalize (aR b k).getD p14 0=x14 at *
     generalize (aR b k).getD k 0=xk at *
     have e0:(k:Int)-16=(p:Int):=by omega
     have e1:(k:Int)-15=(p1:Int):=by omega
     have e9:(k:Int)-7=(p9:Int):=by omega
     have e14:(k:Int)-2=(p14:Int):=by omega
     have v0:IntKind.i64.wrap (p:Int)=(p:Int):=IntWalk.i64_in _ (by omega)
     have v1:IntKind.i64.wrap (p1:Int)=(p1:Int):=IntWalk.i64_in _ (by omega)
     have v9:IntKind.i64.wrap (p9:Int)=(p9:Int):=IntWalk.i64_in _ (by omega)
     have v14:IntKind.i64.wrap (p14:Int)=(p14:Int):=IntWalk.i64_in _ (by omega)
     have hpk0:p<64:=by omega
     have hpk1:p1<64:=by omega
     have hpk9:p9<64:=by omega
     have hpk14:p14<64:=by omega
     have hg2:Hid (wr.heap[w.heap.size+1]?=some (.cells (ff (aR b k)) 298 (0,0))):=hid hg
     clear hp hp1 hp9 hp14 hg
     go_upto_region 10 with fail
     go_quiet (fail)
     have HT:=hid (fun n (h1:0<n) (h2:n<32) x W=>py x n h1 h2 W)
     go_upto_region 13 with first
      |(go_at_call_of 175 (Value.int .i64 7);refine(HT.out 7 ?n7 ?m7 _ _).mono ?_;(decide);(decide);rintro e w3 ⟨rfl,rfl⟩)
      |(go_at_call_of 175 (Value.int .i64 18);refine(HT.out 18 ?n18 ?m18 _ _).mono ?_;(decide);(decide);rintro e w3 ⟨rfl,rfl⟩)
      |(go_at_call_of 175 (Value.int .i64 17);refine(HT.out 17 ?n17 ?m17 _ _).mono ?_;(decide);(decide);rintro e w3 ⟨rfl,rfl⟩)
      |(go_at_call_of 175 (Value.int .i64 19);refine(HT.out 19 ?n19 ?m19 _ _).mono ?_;(decide);(decide);rintro e w3 ⟨rfl,rfl⟩)
     obtain⟨W1,hW1⟩:∃W1,W1=wr.drewN nq:=⟨_,rfl⟩
     have d0:W1.cell? ⟨w.heap.size+1,p,none⟩=some (.int .u32 x0):=by rw[hW1];exact c0
     have d9:W1.cell? ⟨w.heap.size+1,p9,none⟩=some (.int .u32 x9):=by rw[hW1];exact c9
     have dk:W1.cell? ⟨w.heap.size+1,k,none⟩=some (.int .u32 xk):=by rw[hW1];exact ck
     have hb1:Below (w.heap.size+1) wo W1:=by rw[hW1];exact hbr.trans (kU.below ⟨nq,rfl⟩)
     have hz1:w.heap.size+1<W1.heap.size:=by have:=hb1.size;have:=HBO.out.size;have:=HSZ.out;omega
     have HG1:Hid (W1.heap[w.heap.size+1]?=some (.cells (ff (aR b k)) 298 (0,0))):=hid (by rw[hW1];exact hg2.out)
     rw[←hW1]
     have i0:(p:Int)<64:=by omega
     have i9:(p9:Int)<64:=by omega
     have ik:(k:Int)<64:=by omega
     clear hW1 c0 c1 c9 c14 ck fk hbr hg2 HN HT
     refine ar 15 (by kernel_rfl) (by kernel_rfl) ?_
     simp only[List.take_succ_cons,List.take_zero,List.drop_succ_cons,List.drop_zero]
     repeat(refine WQ.step (fun K hK=>?_);go_simp;first|(refine hK _ ?_;clear hK K)|(apply Exists.intro;refine⟨fun W hW=>?_,hK _ ?_⟩;(first|(first|with_reducible rfl|(have zz0:=Below.keeps hW d0;have zz1:=Below.keeps hW d9;go_simp;first|rfl|exact⟨rfl,rfl⟩|(rw[if_neg (by omega)];exact⟨rfl,rfl⟩))));clear hK K))
     refine WQ.nil ?_
     intro wq hwq
     have hgq:wq.heap[w.heap.size+1]?=some (.cells (ff (aR b k)) 298 (0,0)):=by rw[hwq.block _ hz1];exact HG1.out
     have ek:wq.cell? ⟨w.heap.size+1,k,none⟩=some (.int .u32 xk):=bz hwq dk
     have fk:wq.frozen? ⟨w.heap.size+1,k,none⟩=false:=frozen_of_row wq _ k _ _ hgq
     have HN:=hid ((heap_setCell_same wq (w.heap.size+1) k (ff (aR b k)) 298 (.int .u32 ((x0+zal x1+x9+zaA x14)%4294967296)) hgq).trans (by rw[qS (aR b k) _ k HSL.out]))
     have hbq:Below (w.heap.size+1) wo wq:=hb1.trans (hwq.mono (by omega))
     clear hgq hwq hb1 hz1
     go_wp2_with fail
     refine⟨?_,by simp[intOf];omega⟩
     (repeat apply Exists.intro)
     exact⟨⟨k+1,by omega,by omega,by go_num,by rw[HX.out,uL];exact HN.out,hbq.setCell (p:=⟨w.heap.size+1,k,none⟩) (Nat.le_refl _) _⟩,rfl⟩
    ·obtain rfl:k=64:=by omega
     have hz:w.heap.size+1≠w.heap.size:=by omega
     have hgr:wr.heap[w.heap.size]?=some Z:=by rw[hbr.block _ (by omega),HBO.out.block _ (by omega)];exact HR0.out
     rw[hZ] at hgr
     have HBo:=hid (hb0.trans ((HBO.out.trans hbr).mono (by omega)))
     have e64:aj (jS b)=(jS b).map (.int .u32):=rfl
     go_wp2_with first
      |(refine wpList_load_row rfl 298 _ rfl (w.heap.size+1) rfl _ _ _ _ hg Tryz.underlying298 rfl (by rw[fC];exact cx) ?_)
      |(refine wpList_store_row rfl 298 _ _ rfl w.heap.size (ff (aR b 64)) rfl rfl 298 _ hgr (by rw[fC];exact cx) (by rw[lX,fC]) (zaX _) ?_)
     refine bodyPost_ret (results_cell_row rfl _ _ w.heap.size _ _ _ _ rfl (setRow_heap _ _ _ _ _ _ hgr) Tryz.underlying298 rfl (by rw[fC];exact cx)) rfl ⟨?_,?_⟩
     ·rw[zak _ (eo b 64)];rfl
     ·exact⟨HBo.out.os,HBo.out.tape,HBo.out.output,by rw[setRow_size];exact HBo.out.size,fun k hk=>by rw[setRow_other _ _ _ _ (by omega)];exact HBo.out.block k hk⟩
structure iy (g:Nat) (w w':World):Prop where
 os:w'.os=w.os
 tape:w'.tape=w.tape
 output:w'.output=w.output
 size:w.heap.size≤w'.heap.size
 block:∀k,k<w.heap.size→k≠g→w'.heap[k]?=w.heap[k]?
theorem iy.of_below {g:Nat} {w w':World} (h:Below w.heap.size w w'):iy g w w':=⟨h.os,h.tape,h.output,h.size,fun k hk _=>h.block k hk⟩
theorem iy.below {g:Nat} {w w1 w2:World} (h:iy g w w1) (hb:Below w1.heap.size w1 w2):iy g w w2:=
 ⟨hb.os.trans h.os,hb.tape.trans h.tape,hb.output.trans h.output,Nat.le_trans h.size hb.size,fun k hk hne=>(hb.block k (Nat.lt_of_lt_of_le hk h.size)).trans (h.block k hk hne)⟩
theorem iy.set {g:Nat} {w w1:World} (h:iy g w w1) (j:Nat) (v:Value):iy g w (w1.setCell ⟨g,j,none⟩ v):=
 ⟨h.os,h.tape,h.output,Nat.le_trans h.size (by simp[World.setCell]),fun k hk hne=>(heap_setCell_other w1 ⟨g,j,none⟩ k v hne).trans (h.block k hk hne)⟩
theorem rK (x n:Int) (h1:0<n) (h2:n<32) (w:World):Calls Tryz.prog 175 #[.int .u32 x,.int .i64 n] w fun e w'=>e=.returned (.int .u32 (jW x n))∧Below w.heap.size w w':=
 (py x n h1 h2 w).mono (fun _ _ h=>⟨h.1,by rw[h.2];exact Below.refl _ _⟩)
theorem wj (c:Array Value) (k:Nat) (x:Int) (hk:k<64) (hx:c[k]?=some (.int .u32 x)) (w:World):(Instr.index 298 (.agg c) (.int .i64 (k:Int))).run Tryz.prog w=.ok (.int .u32 x) w:=by
 have hp:=run_part_plain (P:=Tryz.prog) (e:=250) w (by kernel_rfl) hx
 have hsz:(sizeOf 250).run Tryz.prog w=.ok 1 w:=by kernel_rfl
 simp[Instr.index,asIntOf,run_underlying Tryz.underlying298,hk,hsz,hp]
theorem uq (c:Array Value) (k:Nat) (x:Int) (hk:k<8) (hx:c[k]?=some (.int .u32 x)) (w:World):(Instr.index 252 (.agg c) (.int .i64 (k:Int))).run Tryz.prog w=.ok (.int .u32 x) w:=by
 have hp:=run_part_plain (P:=Tryz.prog) (e:=250) w (by kernel_rfl) hx
 have hsz:(sizeOf 250).run Tryz.prog w=.ok 1 w:=by kernel_rfl
 simp[Instr.index,asIntOf,run_underlying Tryz.underlying252,hk,hsz,hp]
theorem cD {W:World} {b c:Nat} {o o':Array Value} {t t':TypeId} (x:Array Value) (_:W.heap[b]?=some (.cells o t (0,0))) (h:W.heap[c]?=some (.cells o' t' (0,0))) (hne:c≠b):(W.setRow b x).heap[c]?=some (.cells o' t' (0,0)):=(setRow_other W b c x hne).trans h
theorem aQ {w W:World} {b:Nat} {o:Array Value} {t:TypeId} (x:Array Value) (_:W.heap[b]?=some (.cells o t (0,0))) (h:Below w.heap.size w W) (hb:w.heap.size≤b):Below w.heap.size w (W.setRow b x):=
 ⟨h.os,h.tape,h.output,by rw[setRow_size];exact h.size,fun k hk=>by rw[setRow_other _ _ _ _ (by omega)];exact h.block k hk⟩
set_option maxHeartbeats 4000000 in
theorem tM (g:Nat) (h:List Int) (hl8:h.length=8) (rest:List Value) (t:TypeId) (bv:Value) (b:List UInt8) (w:World) (hg:w.heap[g]?=some (.cells (aj h++rest).toArray t (0,0))) (lS:ap w 1 bv 64 (Lib.byteCells b)):
 Calls Tryz.prog 124 #[.pointer (some ⟨g,0,none⟩),bv] w fun e w'=>e=.returned (.tuple #[])∧w'.heap[g]?=some (.cells (aj (cA bq h b)++rest).toArray t (0,0))∧iy g w w':=by
 go_enter Tryz.func124,Tryz.ntmps124
 have hgl:g<w.heap.size:=(Array.getElem?_eq_some_iff.1 hg).1
 have HR:Hid (∀W:World,Below w.heap.size w W→W.rangeAt g 0 (aj h)):=hid (fun W hW j u hu=>by
  have hj:j<8:=by have:=(List.getElem?_eq_some_iff.1 hu).1;rw[aL] at this;omega
  rw[Nat.zero_add,cell_of_row W g j _ _ _ ((hW.block g hgl).trans hg)]
  rw[List.getElem?_toArray,List.getElem?_append_left (by rw[aL];omega)]
  exact hu)
 have HI:Hid ((Tryz.prog.info? 252).map (·.size)=some (aj h).toArray.size∧(#[.int .u32 0,.int .u32 0,.int .u32 0,.int .u32 0,.int .u32 0,.int .u32 0,.int .u32 0,.int .u32 0]:Array Value).size=(aj h).toArray.size∧(aj h).toArray.all (·.oneCell')=true):=hid (by
  have e:(aj h).toArray.size=8:=by simp[aL,hl8]
  exact⟨by rw[e];kernel_rfl,by rw[e];rfl,all_oneCell_toArray (jI h)⟩)
 go_upto_region 0 with fail
 go_cut [4,5] from 14 (fun p q wx=>∃b4 b5,p=.pointer (some ⟨b4,0,none⟩)∧q=.pointer (some ⟨b5,0,none⟩)∧b4≠b5∧w.heap.size≤b4∧w.heap.size≤b5∧wx.heap[b4]?=some (.cells (aj h).toArray 252 (0,0))∧wx.heap[b5]?=some (.cells kA 298 (0,0))∧Below w.heap.size w wx)
 case first=>
  refine ku (S:=fun W=>Below w.heap.size w W) (by kernel_rfl) ?_
  have hS:Below w.heap.size w w.drew:=kU.below ⟨1,rfl⟩
  refine WH.take 0 (some 14) rfl rfl (by kernel_rfl) (by kernel_rfl) (by kernel_rfl) (fun _ _ _ _ h=>h) hS ⟨.pointer (some ⟨g,0,none⟩),⟨by kernel_rfl,fun W _=>rfl⟩,?_⟩
  try simp only[Act.put,sA,sB,sC]
  refine WH.take 1 (some 15) rfl rfl (by kernel_rfl) (by kernel_rfl) (by kernel_rfl) (fun _ _ _ _ h=>h) hS ⟨.pointer (some ⟨g,0,none⟩),⟨by kernel_rfl,fun W _=>rfl⟩,?_⟩
  try simp only[Act.put,sA,sB,sC]
  refine zgh 2 (some 16) rfl rfl (by kernel_rfl) (by kernel_rfl) (by kernel_rfl) (fun _ _ _ _ h=>h) hS (by kernel_rfl) 252 _ rfl g 0 rfl (aj h) _ HR.out Tryz.underlying252 rfl (by rw[aL,hl8];kernel_rfl) ?_
  try simp only[Act.put,sA,sB,sC]
  obtain⟨W0,hW0⟩:∃x,x=w.drew:=⟨_,rfl⟩
  rw[←hW0] at hS ⊢
  have hS0:=hS
  have hz0:Hid (W0.heap.size=w.heap.size):=hid (by rw[hW0];rfl)
  clear hS hW0
  refine zgt 3 4 5 (by kernel_rfl) rfl rfl rfl (by kernel_rfl) (by kernel_rfl) (by kernel_rfl) ?_ ?_ ?_
  ·intro K hK
   go_simp
   refine(fE _).mono ?_
   rintro e W1 ⟨rfl,hbc⟩
   go_wp2_with fail
   have hS1:=Below.chain hS0 hbc
   have hz1:=hid hbc.size
   refine hK.out _ _ hS1 ?_
   clear hK K hbc
   try simp only[Act.put,sA,sB,sC]
   refine zgg 4 5 (by kernel_rfl) rfl (by kernel_rfl) rfl (by kernel_rfl) ?_ ?_
   ·intro K hK
    go_simp
    obtain⟨W2,hW2⟩:∃x,x=W1.alloc (.cells #[.int .u32 0,.int .u32 0,.int .u32 0,.int .u32 0,.int .u32 0,.int .u32 0,.int .u32 0,.int .u32 0] 252):=⟨_,rfl⟩
    rw[←hW2]
    have hS2:Below w.heap.size w W2:=by rw[hW2];exact hS1.alloc hS1.size _
    have hz2:Hid (W2.heap.size=W1.heap.size+1):=hid (by rw[hW2];simp)
    have f4:W2.heap[W1.heap.size]?=some (.cells #[.int .u32 0,.int .u32 0,.int .u32 0,.int .u32 0,.int .u32 0,.int .u32 0,.int .u32 0,.int .u32 0] 252 (0,0)):=by rw[hW2];exact heap_alloc_new _ _
    refine hK.out _ _ hS2 ?_
    clear hK K hW2
    try simp only[Act.put,sA,sB,sC]
    refine WH.one 5 (by kernel_rfl) rfl (by kernel_rfl) ?_
    intro K hK
    go_simp
    obtain⟨W3,hW3⟩:∃x,x=W2.alloc (.cells #[.int .u32 0,.int .u32 0,.int .u32 0,.int .u32 0,.int .u32 0,.int .u32 0,.int .u32 0,.int .u32 0,.int .u32 0,.int .u32 0,.int .u32 0,.int .u32 0,.int .u32 0,.int .u32 0,.int .u32 0,.int .u32 0,.int .u32 0,.int .u32 0,.int .u32 0,.int .u32 0,.int .u32 0,.int .u32 0,.int .u32 0,.int .u32 0,.int .u32 0,.int .u32 0,.int .u32 0,.int .u32 0,.int .u32 0,.int .u32 0,.int .u32 0,.int .u32 0,.int .u32 0,.int .u32 0,.int .u32 0,.int .u32 0,.int .u32 0,.int .u32 0,.int .u32 0,.int .u32 0,.int .u32 0,.int .u32 0,.int .u32 0,.int .u32 0,.int .u32 0,.int .u32 0,.int .u32 0,.int .u32 0,.int .u32 0,.int .u32 0,.int .u32 0,.int .u32 0,.int .u32 0,.int .u32 0,.int .u32 0,.int .u32 0,.int .u32 0,.int .u32 0,.int .u32 0,.int .u32 0,.int .u32 0,.int .u32 0,.int .u32 0,.int .u32 0] 298):=⟨_,rfl⟩
    rw[←hW3]
    have hS3:Below w.heap.size w W3:=by rw[hW3];exact hS2.alloc hS2.size _
    have hz3:Hid (W3.heap.size=W2.heap.size+1):=hid (by rw[hW3];simp)
    have f4:=(show W3.heap[W1.heap.size]?=W2.heap[W1.heap.size]? by rw[hW3];exact Below.heap_alloc _ _ _ (Array.getElem?_eq_some_iff.1 f4).1).trans f4
    have f5:W3.heap[W2.heap.size]?=some (.cells #[.int .u32 0,.int .u32 0,.int .u32 0,.int .u32 0,.int .u32 0,.int .u32 0,.int .u32 0,.int .u32 0,.int .u32 0,.int .u32 0,.int .u32 0,.int .u32 0,.int .u32 0,.int .u32 0,.int .u32 0,.int .u32 0,.int .u32 0,.int .u32 0,.int .u32 0,.int .u32 0,.int .u32 0,.int .u32 0,.int .u32 0,.int .u32 0,.int .u32 0,.int .u32 0,.int .u32 0,.int .u32 0,.int .u32 0,.int .u32 0,.int .u32 0,.int .u32 0,.int .u32 0,.int .u32 0,.int .u32 0,.int .u32 0,.int .u32 0,.int .u32 0,.int .u32 0,.int .u32 0,.int .u32 0,.int .u32 0,.int .u32 0,.int .u32 0,.int .u32 0,.int .u32 0,.int .u32 0,.int .u32 0,.int .u32 0,.int .u32 0,.int .u32 0,.int .u32 0,.int .u32 0,.int .u32 0,.int .u32 0,.int .u32 0,.int .u32 0,.int .u32 0,.int .u32 0,.int .u32 0,.int .u32 0,.int .u32 0,.int .u32 0,.int .u32 0] 298 (0,0)):=by rw[hW3];exact heap_alloc_new _ _
    refine hK.out _ _ hS3 ?_
    clear hK K hW3
    try simp only[Act.put,sA,sB,sC]
    have hh:W1.heap.size≠W2.heap.size∧w.heap.size≤W1.heap.size∧w.heap.size≤W2.heap.size:=by have z0:=hz0.out;have z1:=hz1.out;have z2:=hz2.out;have z3:=hz3.out;exact⟨by omega,by omega,by omega⟩
    obtain⟨hne,h4,h5⟩:=hh
    refine WH.one 6 (by kernel_rfl) rfl (by kernel_rfl) ?_
    intro K hK
    refine wp_store_row 252 _ _ rfl _ (aj h).toArray rfl rfl 252 _ f4 HI.out.1 HI.out.2.1 HI.out.2.2 ?_
    refine hK.out _ _ (aQ _ f4 hS3 h4) ?_
    try simp only[Act.put,sA]
    have g4:=setRow_heap _ _ _ (aj h).toArray _ _ f4
    have g5:=cD (aj h).toArray f4 f5 hne.symm
    have hSr:=aQ (aj h).toArray f4 hS3 h4
    clear hK K f4 f5
    refine WH.one 7 (by kernel_rfl) rfl (by kernel_rfl) ?_
    intro K hK
    refine wp_store_row 298 _ _ rfl _ kA rfl rfl 298 _ g5 (by rw[fZ];exact cx) rfl jU ?_
    refine hK.out _ _ (aQ _ g5 hSr h5) ?_
    try simp only[Act.put]
    have r5:=setRow_heap _ _ _ kA _ _ g5
    have r4:=cD kA g5 g4 hne
    have hSq:=aQ kA g5 hSr h5
    clear hK K g4 g5 hSr
    refine WH.done (by kernel_rfl) ?_
    go_wp2_with fail
    go_meet
    case rel=>exact⟨_,_,rfl,rfl,hne,h4,h5,r4,r5,hSq⟩
   ·intro K hK
    go_simp
    obtain⟨W2,hW2⟩:∃x,x=W1.alloc (.cells #[.int .u32 0,.int .u32 0,.int .u32 0,.int .u32 0,.int .u32 0,.int .u32 0,.int .u32 0,.int .u32 0,.int .u32 0,.int .u32 0,.int .u32 0,.int .u32 0,.int .u32 0,.int .u32 0,.int .u32 0,.int .u32 0,.int .u32 0,.int .u32 0,.int .u32 0,.int .u32 0,.int .u32 0,.int .u32 0,.int .u32 0,.int .u32 0,.int .u32 0,.int .u32 0,.int .u32 0,.int .u32 0,.int .u32 0,.int .u32 0,.int .u32 0,.int .u32 0,.int .u32 0,.int .u32 0,.int .u32 0,.int .u32 0,.int .u32 0,.int .u32 0,.int .u32 0,.int .u32 0,.int .u32 0,.int .u32 0,.int .u32 0,.int .u32 0,.int .u32 0,.int .u32 0,.int .u32 0,.int .u32 0,.int .u32 0,.int .u32 0,.int .u32 0,.int .u32 0,.int .u32 0,.int .u32 0,.int .u32 0,.int .u32 0,.int .u32 0,.int .u32 0,.int .u32 0,.int .u32 0,.int .u32 0,.int .u32 0,.int .u32 0,.int .u32 0] 298):=⟨_,rfl⟩
    rw[←hW2]
    have hS2:Below w.heap.size w W2:=by rw[hW2];exact hS1.alloc hS1.size _
    have hz2:Hid (W2.heap.size=W1.heap.size+1):=hid (by rw[hW2];simp)
    have f5:W2.heap[W1.heap.size]?=some (.cells #[.int .u32 0,.int .u32 0,.int .u32 0,.int .u32 0,.int .u32 0,.int .u32 0,.int .u32 0,.int .u32 0,.int .u32 0,.int .u32 0,.int .u32 0,.int .u32 0,.int .u32 0,.int .u32 0,.int .u32 0,.int .u32 0,.int .u32 0,.int .u32 0,.int .u32 0,.int .u32 0,.int .u32 0,.int .u32 0,.int .u32 0,.int .u32 0,.int .u32 0,.int .u32 0,.int .u32 0,.int .u32 0,.int .u32 0,.int .u32 0,.int .u32 0,.int .u32 0,.int .u32 0,.int .u32 0,.int .u32 0,.int .u32 0,.int .u32 0,.int .u32 0,.int .u32 0,.int .u32 0,.int .u32 0,.int .u32 0,.int .u32 0,.int .u32 0,.int .u32 0,.int .u32 0,.int .u32 0,.int .u32 0,.int .u32 0,.int .u32 0,.int .u32 0,.int .u32 0,.int .u32 0,.int .u32 0,.int .u32 0,.int .u32 0,.int .u32 0,.int .u32 0,.int .u32 0,.int .u32 0,.int .u32 0,.int .u32 0,.int .u32 0,.int .u32 0] 298 (0,0)):=by rw[hW2];exact heap_alloc_new _ _
    refine hK.out _ _ hS2 ?_
    clear hK K hW2
    try simp only[Act.put,sA,sB,sC]
    refine WH.one 4 (by kernel_rfl) rfl (by kernel_rfl) ?_
    intro K hK
    go_simp
    obtain⟨W3,hW3⟩:∃x,x=W2.alloc (.cells #[.int .u32 0,.int .u32 0,.int .u32 0,.int .u32 0,.int .u32 0,.int .u32 0,.int .u32 0,.int .u32 0] 252):=⟨_,rfl⟩
    rw[←hW3]
    have hS3:Below w.heap.size w W3:=by rw[hW3];exact hS2.alloc hS2.size _
    have hz3:Hid (W3.heap.size=W2.heap.size+1):=hid (by rw[hW3];simp)
    have f5:=(show W3.heap[W1.heap.size]?=W2.heap[W1.heap.size]? by rw[hW3];exact Below.heap_alloc _ _ _ (Array.getElem?_eq_some_iff.1 f5).1).trans f5
    have f4:W3.heap[W2.heap.size]?=some (.cells #[.int .u32 0,.int .u32 0,.int .u32 0,.int .u32 0,.int .u32 0,.int .u32 0,.int .u32 0,.int .u32 0] 252 (0,0)):=by rw[hW3];exact heap_alloc_new _ _
    refine hK.out _ _ hS3 ?_
    clear hK K hW3
    try simp only[Act.put,sA,sB,sC]
    have hh:W2.heap.size≠W1.heap.size∧w.heap.size≤W2.heap.size∧w.heap.size≤W1.heap.size:=by have z0:=hz0.out;have z1:=hz1.out;have z2:=hz2.out;have z3:=hz3.out;exact⟨by omega,by omega,by omega⟩
    obtain⟨hne,h4,h5⟩:=hh
    refine WH.one 6 (by kernel_rfl) rfl (by kernel_rfl) ?_
    intro K hK
    refine wp_store_row 252 _ _ rfl _ (aj h).toArray rfl rfl 252 _ f4 HI.out.1 HI.out.2.1 HI.out.2.2 ?_
    refine hK.out _ _ (aQ _ f4 hS3 h4) ?_
    try simp only[Act.put,sA]
    have g4:=setRow_heap _ _ _ (aj h).toArray _ _ f4
    have g5:=cD (aj h).toArray f4 f5 hne.symm
    have hSr:=aQ (aj h).toArray f4 hS3 h4
    clear hK K f4 f5
    refine WH.one 7 (by kernel_rfl) rfl (by kernel_rfl) ?_
    intro K hK
    refine wp_store_row 298 _ _ rfl _ kA rfl rfl 298 _ g5 (by rw[fZ];exact cx) rfl jU ?_
    refine hK.out _ _ (aQ _ g5 hSr h5) ?_
    try simp only[Act.put]
    have r5:=setRow_heap _ _ _ kA _ _ g5
    have r4:=cD kA g5 g4 hne
    have hSq:=aQ kA g5 hSr h5
    clear hK K g4 g5 hSr
    refine WH.done (by kernel_rfl) ?_
    go_wp2_with fail
    go_meet
    case rel=>exact⟨_,_,rfl,rfl,hne,h4,h5,r4,r5,hSq⟩
  ·intro K hK
   go_simp
   obtain⟨W1,hW1⟩:∃x,x=W0.alloc (.cells #[.int .u32 0,.int .u32 0,.int .u32 0,.int .u32 0,.int .u32 0,.int .u32 0,.int .u32 0,.int .u32 0] 252):=⟨_,rfl⟩
   rw[←hW1]
   have hS1:Below w.heap.size w W1:=by rw[hW1];exact hS0.alloc hS0.size _
   have hz1:Hid (W1.heap.size=W0.heap.size+1):=hid (by rw[hW1];simp)
   have f4:W1.heap[W0.heap.size]?=some (.cells #[.int .u32 0,.int .u32 0,.int .u32 0,.int .u32 0,.int .u32 0,.int .u32 0,.int .u32 0,.int .u32 0] 252 (0,0)):=by rw[hW1];exact heap_alloc_new _ _
   refine hK.out _ _ hS1 ?_
   clear hK K hW1
   try simp only[Act.put,sA,sB,sC]
   refine zgg 3 5 (by kernel_rfl) rfl (by kernel_rfl) rfl (by kernel_rfl) ?_ ?_
   ·intro K hK
    go_simp
    refine(fE _).mono ?_
    rintro e W2 ⟨rfl,hbc⟩
    go_wp2_with fail
    have hS2:=Below.chain hS1 hbc
    have hz2:=hid hbc.size
    have f4:=(hbc.block _ (Array.getElem?_eq_some_iff.1 f4).1).trans f4
    refine hK.out _ _ hS2 ?_
    clear hK K hbc
    try simp only[Act.put,sA,sB,sC]
    refine WH.one 5 (by kernel_rfl) rfl (by kernel_rfl) ?_
    intro K hK
    go_simp
    obtain⟨W3,hW3⟩:∃x,x=W2.alloc (.cells #[.int .u32 0,.int .u32 0,.int .u32 0,.int .u32 0,.int .u32 0,.int .u32 0,.int .u32 0,.int .u32 0,.int .u32 0,.int .u32 0,.int .u32 0,.int .u32 0,.int .u32 0,.int .u32 0,.int .u32 0,.int .u32 0,.int .u32 0,.int .u32 0,.int .u32 0,.int .u32 0,.int .u32 0,.int .u32 0,.int .u32 0,.int .u32 0,.int .u32 0,.int .u32 0,.int .u32 0,.int .u32 0,.int .u32 0,.int .u32 0,.int .u32 0,.int .u32 0,.int .u32 0,.int .u32 0,.int .u32 0,.int .u32 0,.int .u32 0,.int .u32 0,.int .u32 0,.int .u32 0,.int .u32 0,.int .u32 0,.int .u32 0,.int .u32 0,.int .u32 0,.int .u32 0,.int .u32 0,.int .u32 0,.int .u32 0,.int .u32 0,.int .u32 0,.int .u32 0,.int .u32 0,.int .u32 0,.int .u32 0,.int .u32 0,.int .u32 0,.int .u32 0,.int .u32 0,.int .u32 0,.int .u32 0,.int .u32 0,.int .u32 0,.int .u32 0] 298):=⟨_,rfl⟩
    rw[←hW3]
    have hS3:Below w.heap.size w W3:=by rw[hW3];exact hS2.alloc hS2.size _
    have hz3:Hid (W3.heap.size=W2.heap.size+1):=hid (by rw[hW3];simp)
    have f4:=(show W3.heap[W0.heap.size]?=W2.heap[W0.heap.size]? by rw[hW3];exact Below.heap_alloc _ _ _ (Array.getElem?_eq_some_iff.1 f4).1).trans f4
    have f5:W3.heap[W2.heap.size]?=some (.cells #[.int .u32 0,.int .u32 0,.int .u32 0,.int .u32 0,.int .u32 0,.int .u32 0,.int .u32 0,.int .u32 0,.int .u32 0,.int .u32 0,.int .u32 0,.int .u32 0,.int .u32 0,.int .u32 0,.int .u32 0,.int .u32 0,.int .u32 0,.int .u32 0,.int .u32 0,.int .u32 0,.int .u32 0,.int .u32 0,.int .u32 0,.int .u32 0,.int .u32 0,.int .u32 0,.int .u32 0,.int .u32 0,.int .u32 0,.int .u32 0,.int .u32 0,.int .u32 0,.int .u32 0,.int .u32 0,.int .u32 0,.int .u32 0,.int .u32 0,.int .u32 0,.int .u32 0,.int .u32 0,.int .u32 0,.int .u32 0,.int .u32 0,.int .u32 0,.int .u32 0,.int .u32 0,.int .u32 0,.int .u32 0,.int .u32 0,.int .u32 0,.int .u32 0,.int .u32 0,.int .u32 0,.int .u32 0,.int .u32 0,.int .u32 0,.int .u32 0,.int .u32 0,.int .u32 0,.int .u32 0,.int .u32 0,.int .u32 0,.int .u32 0,.int .u32 0] 298 (0,0)):=by rw[hW3];exact heap_alloc_new _ _
    refine hK.out _ _ hS3 ?_
    clear hK K hW3
    try simp only[Act.put,sA,sB,sC]
    have hh:W0.heap.size≠W2.heap.size∧w.heap.size≤W0.heap.size∧w.heap.size≤W2.heap.size:=by have z0:=hz0.out;have z1:=hz1.out;have z2:=hz2.out;have z3:=hz3.out;exact⟨by omega,by omega,by omega⟩
    obtain⟨hne,h4,h5⟩:=hh
    refine WH.one 6 (by kernel_rfl) rfl (by kernel_rfl) ?_
    intro K hK
    refine wp_store_row 252 _ _ rfl _ (aj h).toArray rfl rfl 252 _ f4 HI.out.1 HI.out.2.1 HI.out.2.2 ?_
    refine hK.out _ _ (aQ _ f4 hS3 h4) ?_
    try simp only[Act.put,sA]
    have g4:=setRow_heap _ _ _ (aj h).toArray _ _ f4
    have g5:=cD (aj h).toArray f4 f5 hne.symm
    have hSr:=aQ (aj h).toArray f4 hS3 h4
    clear hK K f4 f5
    refine WH.one 7 (by kernel_rfl) rfl (by kernel_rfl) ?_
    intro K hK
    refine wp_store_row 298 _ _ rfl _ kA rfl rfl 298 _ g5 (by rw[fZ];exact cx) rfl jU ?_
    refine hK.out _ _ (aQ _ g5 hSr h5) ?_
    try simp only[Act.put]
    have r5:=setRow_heap _ _ _ kA _ _ g5
    have r4:=cD kA g5 g4 hne
    have hSq:=aQ kA g5 hSr h5
    clear hK K g4 g5 hSr
    refine WH.done (by kernel_rfl) ?_
    go_wp2_with fail
    go_meet
    case rel=>exact⟨_,_,rfl,rfl,hne,h4,h5,r4,r5,hSq⟩
   ·intro K hK
    go_simp
    obtain⟨W2,hW2⟩:∃x,x=W1.alloc (.cells #[.int .u32 0,.int .u32 0,.int .u32 0,.int .u32 0,.int .u32 0,.int .u32 0,.int .u32 0,.int .u32 0,.int .u32 0,.int .u32 0,.int .u32 0,.int .u32 0,.int .u32 0,.int .u32 0,.int .u32 0,.int .u32 0,.int .u32 0,.int .u32 0,.int .u32 0,.int .u32 0,.int .u32 0,.int .u32 0,.int .u32 0,.int .u32 0,.int .u32 0,.int .u32 0,.int .u32 0,.int .u32 0,.int .u32 0,.int .u32 0,.int .u32 0,.int .u32 0,.int .u32 0,.int .u32 0,.int .u32 0,.int .u32 0,.int .u32 0,.int .u32 0,.int .u32 0,.int .u32 0,.int .u32 0,.int .u32 0,.int .u32 0,.int .u32 0,.int .u32 0,.int .u32 0,.int .u32 0,.int .u32 0,.int .u32 0,.int .u32 0,.int .u32 0,.int .u32 0,.int .u32 0,.int .u32 0,.int .u32 0,.int .u32 0,.int .u32 0,.int .u32 0,.int .u32 0,.int .u32 0,.int .u32 0,.int .u32 0,.int .u32 0,.int .u32 0] 298):=⟨_,rfl⟩
    rw[←hW2]
    have hS2:Below w.heap.size w W2:=by rw[hW2];exact hS1.alloc hS1.size _
    have hz2:Hid (W2.heap.size=W1.heap.size+1):=hid (by rw[hW2];simp)
    have f4:=(show W2.heap[W0.heap.size]?=W1.heap[W0.heap.size]? by rw[hW2];exact Below.heap_alloc _ _ _ (Array.getElem?_eq_some_iff.1 f4).1).trans f4
    have f5:W2.heap[W1.heap.size]?=some (.cells #[.int .u32 0,.int .u32 0,.int .u32 0,.int .u32 0,.int .u32 0,.int .u32 0,.int .u32 0,.int .u32 0,.int .u32 0,.int .u32 0,.int .u32 0,.int .u32 0,.int .u32 0,.int .u32 0,.int .u32 0,.int .u32 0,.int .u32 0,.int .u32 0,.int .u32 0,.int .u32 0,.int .u32 0,.int .u32 0,.int .u32 0,.int .u32 0,.int .u32 0,.int .u32 0,.int .u32 0,.int .u32 0,.int .u32 0,.int .u32 0,.int .u32 0,.int .u32 0,.int .u32 0,.int .u32 0,.int .u32 0,.int .u32 0,.int .u32 0,.int .u32 0,.int .u32 0,.int .u32 0,.int .u32 0,.int .u32 0,.int .u32 0,.int .u32 0,.int .u32 0,.int .u32 0,.int .u32 0,.int .u32 0,.int .u32 0,.int .u32 0,.int .u32 0,.int .u32 0,.int .u32 0,.int .u32 0,.int .u32 0,.int .u32 0,.int .u32 0,.int .u32 0,.int .u32 0,.int .u32 0,.int .u32 0,.int .u32 0,.int .u32 0,.int .u32 0] 298 (0,0)):=by rw[hW2];exact heap_alloc_new _ _
    refine hK.out _ _ hS2 ?_
    clear hK K hW2
    try simp only[Act.put,sA,sB,sC]
    refine WH.one 3 (by kernel_rfl) rfl (by kernel_rfl) ?_
    intro K hK
    go_simp
    refine(fE _).mono ?_
    rintro e W3 ⟨rfl,hbc⟩
    go_wp2_with fail
    have hS3:=Below.chain hS2 hbc
    have hz3:=hid hbc.size
    have f4:=(hbc.block _ (Array.getElem?_eq_some_iff.1 f4).1).trans f4
    have f5:=(hbc.block _ (Array.getElem?_eq_some_iff.1 f5).1).trans f5
    refine hK.out _ _ hS3 ?_
    clear hK K hbc
    try simp only[Act.put,sA,sB,sC]
    have hh:W0.heap.size≠W1.heap.size∧w.heap.size≤W0.heap.size∧w.heap.size≤W1.heap.size:=by have z0:=hz0.out;have z1:=hz1.out;have z2:=hz2.out;have z3:=hz3.out;exact⟨by omega,by omega,by omega⟩
    obtain⟨hne,h4,h5⟩:=hh
    refine WH.one 6 (by kernel_rfl) rfl (by kernel_rfl) ?_
    intro K hK
    refine wp_store_row 252 _ _ rfl _ (aj h).toArray rfl rfl 252 _ f4 HI.out.1 HI.out.2.1 HI.out.2.2 ?_
    refine hK.out _ _ (aQ _ f4 hS3 h4) ?_
    try simp only[Act.put,sA]
    have g4:=setRow_heap _ _ _ (aj h).toArray _ _ f4
    have g5:=cD (aj h).toArray f4 f5 hne.symm
    have hSr:=aQ (aj h).toArray f4 hS3 h4
    clear hK K f4 f5
    refine WH.one 7 (by kernel_rfl) rfl (by kernel_rfl) ?_
    intro K hK
    refine wp_store_row 298 _ _ rfl _ kA rfl rfl 298 _ g5 (by rw[fZ];exact cx) rfl jU ?_
    refine hK.out _ _ (aQ _ g5 hSr h5) ?_
    try simp only[Act.put]
    have r5:=setRow_heap _ _ _ kA _ _ g5
    have r4:=cD kA g5 g4 hne
    have hSq:=aQ kA g5 hSr h5
    clear hK K g4 g5 hSr
    refine WH.done (by kernel_rfl) ?_
    go_wp2_with fail
    go_meet
    case rel=>exact⟨_,_,rfl,rfl,hne,h4,h5,r4,r5,hSq⟩
  ·intro K hK
   go_simp
   obtain⟨W1,hW1⟩:∃x,x=W0.alloc (.cells #[.int .u32 0,.int .u32 0,.int .u32 0,.int .u32 0,.int .u32 0,.int .u32 0,.int .u32 0,.int .u32 0,.int .u32 0,.int .u32 0,.int .u32 0,.int .u32 0,.int .u32 0,.int .u32 0,.int .u32 0,.int .u32 0,.int .u32 0,.int .u32 0,.int .u32 0,.int .u32 0,.int .u32 0,.int .u32 0,.int .u32 0,.int .u32 0,.int .u32 0,.int .u32 0,.int .u32 0,.int .u32 0,.int .u32 0,.int .u32 0,.int .u32 0,.int .u32 0,.int .u32 0,.int .u32 0,.int .u32 0,.int .u32 0,.int .u32 0,.int .u32 0,.int .u32 0,.int .u32 0,.int .u32 0,.int .u32 0,.int .u32 0,.int .u32 0,.int .u32 0,.int .u32 0,.int .u32 0,.int .u32 0,.int .u32 0,.int .u32 0,.int .u32 0,.int .u32 0,.int .u32 0,.int .u32 0,.int .u32 0,.int .u32 0,.int .u32 0,.int .u32 0,.int .u32 0,.int .u32 0,.int .u32 0,.int .u32 0,.int .u32 0,.int .u32 0] 298):=⟨_,rfl⟩
   rw[←hW1]
   have hS1:Below w.heap.size w W1:=by rw[hW1];exact hS0.alloc hS0.size _
   have hz1:Hid (W1.heap.size=W0.heap.size+1):=hid (by rw[hW1];simp)
   have f5:W1.heap[W0.heap.size]?=some (.cells #[.int .u32 0,.int .u32 0,.int .u32 0,.int .u32 0,.int .u32 0,.int .u32 0,.int .u32 0,.int .u32 0,.int .u32 0,.int .u32 0,.int .u32 0,.int .u32 0,.int .u32 0,.int .u32 0,.int .u32 0,.int .u32 0,.int .u32 0,.int .u32 0,.int .u32 0,.int .u32 0,.int .u32 0,.int .u32 0,.int .u32 0,.int .u32 0,.int .u32 0,.int .u32 0,.int .u32 0,.int .u32 0,.int .u32 0,.int .u32 0,.int .u32 0,.int .u32 0,.int .u32 0,.int .u32 0,.int .u32 0,.int .u32 0,.int .u32 0,.int .u32 0,.int .u32 0,.int .u32 0,.int .u32 0,.int .u32 0,.int .u32 0,.int .u32 0,.int .u32 0,.int .u32 0,.int .u32 0,.int .u32 0,.int .u32 0,.int .u32 0,.int .u32 0,.int .u32 0,.int .u32 0,.int .u32 0,.int .u32 0,.int .u32 0,.int .u32 0,.int .u32 0,.int .u32 0,.int .u32 0,.int .u32 0,.int .u32 0,.int .u32 0,.int .u32 0] 298 (0,0)):=by rw[hW1];exact heap_alloc_new _ _
   refine hK.out _ _ hS1 ?_
   clear hK K hW1
   try simp only[Act.put,sA,sB,sC]
   refine zgg 3 4 (by kernel_rfl) rfl (by kernel_rfl) rfl (by kernel_rfl) ?_ ?_
   ·intro K hK
    go_simp
    refine(fE _).mono ?_
    rintro e W2 ⟨rfl,hbc⟩
    go_wp2_with fail
    have hS2:=Below.chain hS1 hbc
    have hz2:=hid hbc.size
    have f5:=(hbc.block _ (Array.getElem?_eq_some_iff.1 f5).1).trans f5
    refine hK.out _ _ hS2 ?_
    clear hK K hbc
    try simp only[Act.put,sA,sB,sC]
    refine WH.one 4 (by kernel_rfl) rfl (by kernel_rfl) ?_
    intro K hK
    go_simp
    obtain⟨W3,hW3⟩:∃x,x=W2.alloc (.cells #[.int .u32 0,.int .u32 0,.int .u32 0,.int .u32 0,.int .u32 0,.int .u32 0,.int .u32 0,.int .u32 0] 252):=⟨_,rfl⟩
    rw[←hW3]
    have hS3:Below w.heap.size w W3:=by rw[hW3];exact hS2.alloc hS2.size _
    have hz3:Hid (W3.heap.size=W2.heap.size+1):=hid (by rw[hW3];simp)
    have f5:=(show W3.heap[W0.heap.size]?=W2.heap[W0.heap.size]? by rw[hW3];exact Below.heap_alloc _ _ _ (Array.getElem?_eq_some_iff.1 f5).1).trans f5
    have f4:W3.heap[W2.heap.size]?=some (.cells #[.int .u32 0,.int .u32 0,.int .u32 0,.int .u32 0,.int .u32 0,.int .u32 0,.int .u32 0,.int .u32 0] 252 (0,0)):=by rw[hW3];exact heap_alloc_new _ _
    refine hK.out _ _ hS3 ?_
    clear hK K hW3
    try simp only[Act.put,sA,sB,sC]
    have hh:W2.heap.size≠W0.heap.size∧w.heap.size≤W2.heap.size∧w.heap.size≤W0.heap.size:=by have z0:=hz0.out;have z1:=hz1.out;have z2:=hz2.out;have z3:=hz3.out;exact⟨by omega,by omega,by omega⟩
    obtain⟨hne,h4,h5⟩:=hh
    refine WH.one 6 (by kernel_rfl) rfl (by kernel_rfl) ?_
    intro K hK
    refine wp_store_row 252 _ _ rfl _ (aj h).toArray rfl rfl 252 _ f4 HI.out.1 HI.out.2.1 HI.out.2.2 ?_
    refine hK.out _ _ (aQ _ f4 hS3 h4) ?_
    try simp only[Act.put,sA]
    have g4:=setRow_heap _ _ _ (aj h).toArray _ _ f4
    have g5:=cD (aj h).toArray f4 f5 hne.symm
    have hSr:=aQ (aj h).toArray f4 hS3 h4
    clear hK K f4 f5
    refine WH.one 7 (by kernel_rfl) rfl (by kernel_rfl) ?_
    intro K hK
    refine wp_store_row 298 _ _ rfl _ kA rfl rfl 298 _ g5 (by rw[fZ];exact cx) rfl jU ?_
    refine hK.out _ _ (aQ _ g5 hSr h5) ?_
    try simp only[Act.put]
    have r5:=setRow_heap _ _ _ kA _ _ g5
    have r4:=cD kA g5 g4 hne
    have hSq:=aQ kA g5 hSr h5
    clear hK K g4 g5 hSr
    refine WH.done (by kernel_rfl) ?_
    go_wp2_with fail
    go_meet
    case rel=>exact⟨_,_,rfl,rfl,hne,h4,h5,r4,r5,hSq⟩
   ·intro K hK
    go_simp
    obtain⟨W2,hW2⟩:∃x,x=W1.alloc (.cells #[.int .u32 0,.int .u32 0,.int .u32 0,.int .u32 0,.int .u32 0,.int .u32 0,.int .u32 0,.int .u32 0] 252):=⟨_,rfl⟩
    rw[←hW2]
    have hS2:Below w.heap.size w W2:=by rw[hW2];exact hS1.alloc hS1.size _
    have hz2:Hid (W2.heap.size=W1.heap.size+1):=hid (by rw[hW2];simp)
    have f5:=(show W2.heap[W0.heap.size]?=W1.heap[W0.heap.size]? by rw[hW2];exact Below.heap_alloc _ _ _ (Array.getElem?_eq_some_iff.1 f5).1).trans f5
    have f4:W2.heap[W1.heap.size]?=some (.cells #[.int .u32 0,.int .u32 0,.int .u32 0,.int .u32 0,.int .u32 0,.int .u32 0,.int .u32 0,.int .u32 0] 252 (0,0)):=by rw[hW2];exact heap_alloc_new _ _
    refine hK.out _ _ hS2 ?_
    clear hK K hW2
    try simp only[Act.put,sA,sB,sC]
    refine WH.one 3 (by kernel_rfl) rfl (by kernel_rfl) ?_
    intro K hK
    go_simp
    refine(fE _).mono ?_
    rintro e W3 ⟨rfl,hbc⟩
    go_wp2_with fail
    have hS3:=Below.chain hS2 hbc
    have hz3:=hid hbc.size
    have f5:=(hbc.block _ (Array.getElem?_eq_some_iff.1 f5).1).trans f5
    have f4:=(hbc.block _ (Array.getElem?_eq_some_iff.1 f4).1).trans f4
    refine hK.out _ _ hS3 ?_
    clear hK K hbc
    try simp only[Act.put,sA,sB,sC]
    have hh:W1.heap.size≠W0.heap.size∧w.heap.size≤W1.heap.size∧w.heap.size≤W0.heap.size:=by have z0:=hz0.out;have z1:=hz1.out;have z2:=hz2.out;have z3:=hz3.out;exact⟨by omega,by omega,by omega⟩
    obtain⟨hne,h4,h5⟩:=hh
    refine WH.one 6 (by kernel_rfl) rfl (by kernel_rfl) ?_
    intro K hK
    refine wp_store_row 252 _ _ rfl _ (aj h).toArray rfl rfl 252 _ f4 HI.out.1 HI.out.2.1 HI.out.2.2 ?_
    refine hK.out _ _ (aQ _ f4 hS3 h4) ?_
    try simp only[Act.put,sA]
    have g4:=setRow_heap _ _ _ (aj h).toArray _ _ f4
    have g5:=cD (aj h).toArray f4 f5 hne.symm
    have hSr:=aQ (aj h).toArray f4 hS3 h4
    clear hK K f4 f5
    refine WH.one 7 (by kernel_rfl) rfl (by kernel_rfl) ?_
    intro K hK
    refine wp_store_row 298 _ _ rfl _ kA rfl rfl 298 _ g5 (by rw[fZ];exact cx) rfl jU ?_
    refine hK.out _ _ (aQ _ g5 hSr h5) ?_
    try simp only[Act.put]
    have r5:=setRow_heap _ _ _ kA _ _ g5
    have r4:=cD kA g5 g4 hne
    have hSq:=aQ kA g5 hSr h5
    clear hK K g4 g5 hSr
    refine WH.done (by kernel_rfl) ?_
    go_wp2_with fail
    go_meet
    case rel=>exact⟨_,_,rfl,rfl,hne,h4,h5,r4,r5,hSq⟩
 case rest=>
  obtain⟨b4,b5,rfl,rfl,hne,h4,h5,f4,f5,hb1⟩:=hcut
  have HSl:=hid (lS.below hb1 (Nat.le_refl _))
  have hl4:=(Array.getElem?_eq_some_iff.1 f4).1
  have hl5:=(Array.getElem?_eq_some_iff.1 f5).1
  have HF4:=hid f4
  have HF5:=hid f5
  have HB1:=hid hb1
  have HN:=hid (show b4≠b5∧w.heap.size≤b4∧w.heap.size≤b5∧b4<wc.heap.size∧b5<wc.heap.size from⟨hne,h4,h5,hl4,hl5⟩)
  have HG:=hid hg
  have HL8:=hid hl8
  clear lS hne h4 h5 f4 f5 hb1 hl4 hl5 hg hl8 HI HR
  go_wp2_with (go_at_call 174;refine(uH _ b _ HSl.out).mono ?_;rintro e w2 ⟨rfl,hb2⟩)
  have HB2:=hid (Below.chain HB1.out hb2)
  have HG4:=hid ((hb2.block _ HN.out.2.2.2.1).trans HF4.out)
  have HG5:=hid ((hb2.block _ HN.out.2.2.2.2).trans HF5.out)
  have HZ2:=hid hb2.size
  clear hb2 HSl
  generalize hsch:jS b=ws at *
  have HWS:Hid (ws.length=64):=hid (by rw[←hsch];exact eo b 64)
  have HCP:Hid (cA bq h b=pD h (bM bq ws h 64) 8):=hid (by rw[←hsch];rfl)
  clear hsch
  go_loopw [20] (fun i wr=>∃(k:Nat),k≤64∧i=.int .i64 k∧wr.heap[b4]?=some (.cells (aj (bM bq ws h k)).toArray 252 (0,0))∧wr.heap[b5]?=some (.cells kA 298 (0,0))∧Below w.heap.size w wr) (fun i _=>64-(intOf i).toNat)
  case atStart=>exact⟨0,by omega,rfl,HG4.out,HG5.out,HB2.out⟩
  case round=>
   obtain⟨k,hk,rfl,g4,g5,hbr⟩:=hrel
   clear HG4 HG5 HB2 HF4 HF5 HB1
   have HV8:=hid (tJ (ks:=bq) (ws:=ws) HL8.out k)
   by_cases h64:k<64
   ·have HS:Hid (bM bq ws h (k+1)=jo (bM bq ws h k) (bq.getD k 0) (ws.getD k 0)):=hid rfl
    have cell:=fun j (hj:j<8)=>(cell_of_row wr b4 j _ _ _ g4).trans (List.getElem?_toArray.trans (dl (bM bq ws h k) j (by rw[HV8.out];exact hj)))
    have l0:=cell 0 (by omega)
    have l1:=cell 1 (by omega)
    have l2:=cell 2 (by omega)
    have l3:=cell 3 (by omega)
    have l4:=cell 4 (by omega)
    have l5:=cell 5 (by omega)
    have l6:=cell 6 (by omega)
    have l7:=cell 7 (by omega)
    have ck:wr.cell? ⟨b5,k,none⟩=some (.int .u32 (bq.getD k 0)):=(cell_of_row wr b5 k _ _ _ g5).trans (show kA[k]?=_ from List.getElem?_toArray.trans (dl bq k h64))
    have HW:=hid (dl ws k (by rw[HWS.out];exact h64))
    have HWA:Hid ((aj ws).toArray.size=64):=hid (by simp[aL,HWS.out])
    have HWG:Hid ((aj ws).toArray[k]?=some (.int .u32 (ws.getD k 0))):=hid (by rw[List.getElem?_toArray];exact HW.out)
    have HRG4:=hid g4
    have HRG5:=hid g5
    generalize hWA:(aj ws).toArray=WA at *
    unfold jo at HS
    generalize ws.getD k 0=xs at *
    generalize bq.getD k 0=xk at *
    generalize (bM bq ws h k).getD 0 0=x0 at *
    generalize (bM bq ws h k).getD 1 0=x1 at *
    generalize (bM bq ws h k).getD 2 0=x2 at *
    generalize (bM bq ws h k).getD 3 0=x3 at *
    generalize (bM bq ws h k).getD 4 0=x4 at *
    generalize (bM bq ws h k).getD 5 0=x5 at *
    generalize (bM bq ws h k).getD 6 0=x6 at *
    generalize (bM bq ws h k).getD 7 0=x7 at *
    have hix:=wj WA k xs h64 HWG.out
    clear cell g4 g5 HW
    have HT:=hid rK
    have k64:(k:Int)<64:=by omega
    go_upto_region 4 with fail
    go_quiet (fail)
    go_upto_region 5 with fail
    obtain⟨W1,hW1⟩:∃W1,W1=wr.drewN nq:=⟨_,rfl⟩
    have hd1:Below wr.heap.size wr W1:=by rw[hW1];exact kU.below ⟨nq,rfl⟩
    have ck1:=bz hd1 ck
    have m1:=bz hd1 l1
    have m2:=bz hd1 l2
    have m3:=bz hd1 l3
    have m5:=bz hd1 l5
    have m6:=bz hd1 l6
    have m7:=bz hd1 l7
    rw[←hW1]
    clear hW1 ck l0 l1 l2 l3 l4 l5 l6 l7 hix
    refine aC (by kernel_rfl) (by kernel_rfl) ?_
    repeat(refine WQ.step (fun K hK=>?_);go_simp;first|(refine hK _ ?_;clear hK K)|(apply Exists.intro;refine⟨fun W hW=>?_,hK _ ?_⟩;(first|(go_at_call_of 175 (Value.int .i64 6);exact zfr hW (HT.out _ 6 (by decide) (by decide) _))|(go_at_call_of 175 (Value.int .i64 11);exact zfr hW (HT.out _ 11 (by decide) (by decide) _))|(go_at_call_of 175 (Value.int .i64 25);exact zfr hW (HT.out _ 25 (by decide) (by decide) _))|(first|with_reducible rfl|(have zz0:=Below.keeps hW ck1;have zz1:=Below.keeps hW m5;have zz2:=Below.keeps hW m6;have zz3:=Below.keeps hW m7;go_simp;first|rfl|exact⟨rfl,rfl⟩|(rw[if_neg (by omega)];exact⟨rfl,rfl⟩))));clear hK K))
    refine WQ.nil ?_
    intro wu hwu
    have n1:=bz hwu m1
    have n2:=bz hwu m2
    have n3:=bz hwu m3
    have n5:=bz hwu m5
    have n6:=bz hwu m6
    have hd2:=Below.chain hd1 hwu
    clear ck1 m1 m2 m3 m5 m6 m7 hwu hd1
    go_upto_region 6 with fail
    refine aC (by kernel_rfl) (by kernel_rfl) ?_
    repeat(refine WQ.step (fun K hK=>?_);go_simp;first|(refine hK _ ?_;clear hK K)|(apply Exists.intro;refine⟨fun W hW=>?_,hK _ ?_⟩;(first|(go_at_call_of 175 (Value.int .i64 2);exact zfr hW (HT.out _ 2 (by decide) (by decide) _))|(go_at_call_of 175 (Value.int .i64 13);exact zfr hW (HT.out _ 13 (by decide) (by decide) _))|(go_at_call_of 175 (Value.int .i64 22);exact zfr hW (HT.out _ 22 (by decide) (by decide) _))|(first|with_reducible rfl|(have zz0:=Below.keeps hW n1;have zz1:=Below.keeps hW n2;go_simp;first|rfl|exact⟨rfl,rfl⟩|(rw[if_neg (by omega)];exact⟨rfl,rfl⟩))));clear hK K))
    refine WQ.nil ?_
    intro wx hwx
    have p1:=bz hwx n1
    have p2:=bz hwx n2
    have p3:=bz hwx n3
    have p5:=bz hwx n5
    have p6:=bz hwx n6
    have hd3:=Below.chain hd2 hwx
    have l4w:=(Array.getElem?_eq_some_iff.1 HRG4.out).1
    have l5w:=(Array.getElem?_eq_some_iff.1 HRG5.out).1
    have q4:=(hd3.block _ l4w).trans HRG4.out
    have q5:=(hd3.block _ l5w).trans HRG5.out
    have hq:=Below.chain hbr hd3
    clear n1 n2 n3 n5 n6 hwx hd2 hd3 l4w l5w
    have hZ8:(aj (bM bq ws h k)).toArray.size=8:=by simp[aL,HV8.out]
    have HQ4:=hid q4
    have HQ5:=hid q5
    have HQ:=hid hq
    have HZ8:=hid hZ8
    clear q4 q5 hq hZ8
    go_wp2_with (refine wpList_store_row rfl 252 _ _ rfl b4 _ rfl rfl 252 _ HQ4.out (by kernel_rfl) HZ8.out (by kernel_rfl) ?_)
    refine⟨?_,by simp[intOf];omega⟩
    (first|exact⟨k+1,by omega,by go_num,by rw[HS.out];exact setRow_heap _ _ _ _ _ _ HQ4.out,cD _ HQ4.out HQ5.out HN.out.1.symm,aQ _ HQ4.out HQ.out HN.out.2.1⟩|((repeat apply Exists.intro);exact⟨⟨k+1,by omega,by go_num,by rw[HS.out];exact setRow_heap _ _ _ _ _ _ HQ4.out,cD _ HQ4.out HQ5.out HN.out.1.symm,aQ _ HQ4.out HQ.out HN.out.2.1⟩,rfl⟩))
   ·obtain rfl:k=64:=by omega
    obtain⟨wo,rfl⟩:∃wo:World,wo=wr:=⟨_,rfl⟩
    have HBR:=hid hbr
    have G4:=hid g4
    have HG0:Hid (wo.heap[g]?=some (.cells (((gW h (bM bq ws h 64) 0).map (Value.int .u32))++rest).toArray t (0,0))):=hid (by rw[yY _ HL8.out,hbr.block _ hgl];exact HG.out)
    have HV:Hid (∀k,k<8→(aj (bM bq ws h 64)).toArray[k]?=some (.int .u32 ((bM bq ws h 64).getD k 0))):=hid (fun k hk=>List.getElem?_toArray.trans (dl _ k (by rw[HV8.out];exact hk)))
    have HZ8:Hid ((aj (bM bq ws h 64)).toArray.size=8):=hid (by simp[aL,HV8.out])
    generalize hV:bM bq ws h 64=v at *
    clear g4 g5 hbr h64 hV
    go_wp2_with (refine wpList_load_row rfl 252 _ rfl b4 rfl _ _ _ _ G4.out Tryz.underlying252 rfl (by rw[HZ8.out];kernel_rfl) ?_)
    generalize (aj v).toArray=VA at *
    go_loopw [100] (fun i wr=>∃(k:Nat),k≤8∧i=.int .i64 k∧wr.heap[g]?=some (.cells (((gW h v k).map (Value.int .u32))++rest).toArray t (0,0))∧iy g w wr) (fun i _=>8-(intOf i).toNat)
    case atStart=>exact⟨0,by omega,rfl,HG0.out,iy.of_below HBR.out⟩
    case round=>
     obtain⟨k,hk,rfl,hg,hbr⟩:=hrel
     have hgr:g<wr.heap.size:=(Array.getElem?_eq_some_iff.1 hg).1
     clear HG0
     by_cases h8:k<8
     ·have hix:=uq VA k _ h8 (HV.out k h8)
      have cg:wr.cell? ⟨g,k,none⟩=some (.int .u32 (h.getD k 0)):=(cell_of_row wr g k _ _ _ hg).trans (List.getElem?_toArray.trans ((List.getElem?_append_left (by simp[uE,h8])).trans (by rw[show((gW h v k).map (Value.int .u32))[k]?=some (.int .u32 ((gW h v k).getD k 0)) from dl _ k (by rw[uE];exact h8),zaC h v k h8])))
      have HM:=hid (zJ h v rest k h8)
      have HGR:=hid hg
      have HBT:=hid hbr
      have k8:(k:Int)<8:=by omega
      generalize h.getD k 0=xh at *
      generalize v.getD k 0=xv at *
      clear hg hbr
      go_upto_region 12 with fail
      refine ar 9 (by kernel_rfl) (by kernel_rfl) ?_
      simp only[List.take_succ_cons,List.take_zero,List.drop_succ_cons,List.drop_zero]
      repeat(refine WQ.step (fun K hK=>?_);go_simp;first|(refine hK _ ?_;clear hK K)|(apply Exists.intro;refine⟨fun W hW=>?_,hK _ ?_⟩;(first|(first|with_reducible rfl|(have zz0:=Below.keeps hW cg;go_simp;first|rfl|exact⟨rfl,rfl⟩|(rw[if_neg (by omega)];exact⟨rfl,rfl⟩))));clear hK K))
      refine WQ.nil ?_
      intro wz hwz
      have hgz:=(hwz.block _ hgr).trans HGR.out
      have cz:=bz hwz cg
      have fz:wz.frozen? ⟨g,k,none⟩=false:=frozen_of_row wz _ k _ _ hgz
      have HNZ:=hid ((heap_setCell_same wz g k _ t (.int .u32 ((xh+xv)%4294967296)) hgz).trans (by rw[HM.out]))
      have HBZ:=hid (iy.below HBT.out hwz)
      clear hgz hwz
      go_wp2_with fail
      refine⟨?_,by simp[intOf];omega⟩
      (first|exact⟨k+1,by omega,by go_num,HNZ.out,HBZ.out.set _ _⟩|((repeat apply Exists.intro);exact⟨⟨k+1,by omega,by go_num,HNZ.out,HBZ.out.set _ _⟩,rfl⟩))
     ·obtain rfl:k=8:=by omega
      go_wp2_with fail
      (first|go_end0|(simp only[Exit.inBlock,Exit.then];refine bodyPost_ret (results_none rfl _ _ _) rfl ?_)|refine bodyPost_ret (results_none rfl _ _ _) rfl ?_)
      refine⟨rfl,?_,hbr⟩
      rw[HCP.out,←zbw]
      exact hg
end Go.Proofs.YtlbipokkdiiaiaaGreatDoor
