/- Lemmas for TopKeysUpto: K2, K3, F76, F77, F75, F78, F79, F80. -/
import Derived.Test.YtlbipokkdiiaiaaGreatDoorK12
import Derived.Test.YtlbipokkdiiaiaaGreatDoorK21
import Derived.Test.YtlbipokkdiiaiaaGreatDoorK20
import Derived.Test.YtlbipokkdiiaiaaGreatDoorK05
open List renaming setIfInBounds_toArray → sA, set_cons_zero → sB, set_cons_succ → sC
namespace Go.Proofs.YtlbipokkdiiaiaaGreatDoor
open Go.RowKit Exec Go.Shelf
set_option maxRecDepth 100000
attribute [local go_sem] Oper.semAt_some
theorem zdv {ops:Array Oper} {rest:List Oper} {o:Oper} {a:Act} {w w':World} {Q:Exit→Act→World→Prop} {v:Value} {n l:Nat} (hr:(execOp a.eval o).run Tryz.prog w=.ok (.value v) w') (h:wpListIn (Fence.wide.inRound l) n Tryz.prog ops Q rest (a.put o.dst v) w')
 (hw:Region.wanted o (yielded ops a.tmps)=true:=by rfl) (hd:∀c,o.op≠.defer c:=by intro c h;cases h):wpListIn (Fence.wide.inRound l) n Tryz.prog ops Q (o::rest) a w:=by
 unfold wpListIn
 rw[if_pos hw]
 refine xB hd ?_
 unfold Oper.wp
 rw[hr]
 exact h
def vlC (s:Txt):Array Value:=#[.string (bs s)]
set_option maxHeartbeats 2000000 in
theorem zdi (n:Nat) (hn:1≤n) (l q:Nat) (E:Nat→Prop) (_hq:E q) (ls:List Txt) (a:Option Addr) (c N:Nat) (hN:ls.length≤N) (hl:ls.length≤2000000) (J Jx:List Txt→World→Prop) (W:World)
 (hY:∀pre x W1,J pre W1→pre.length<N→YieldAt Fence.wide (n-1) Tryz.prog l (vlC x) W1 fun e W'=>
  (e=.returned (.bool true)∧J (pre++[x]) W'∧ec E W1 W')∨(e=.returned (.bool false)∧Jx (pre++[x]) W'))
 (hc:W.cell? ⟨q,0,none⟩=some (.slice a ls.length c)) (hr:∀k,k<ls.length→∃b o,a=some ⟨b,o,none⟩∧E b∧∀j (hj:j<ls.length),W.cell? ⟨b,o+j,none⟩=some (.string (bs ls[j]))) (h0:J [] W):
 CallsIn Fence.wide n Tryz.prog 150 #[.func (.yield l) #[] #[],.pointer (some ⟨q,0,none⟩)] W fun e W'=>(∃v,e=.returned v)∧((∃ys,ys=ls∧J ys W')∨(∃pre,True∧Jx pre W')):=by
 have HR:=hid hr
 clear hr
 refine callsIn_of_wp Tryz.func150 rfl trivial ?_ rfl
 simp only[Tryz.ntmps150,List.size_toArray,List.length_cons,List.length_nil,Nat.reduceAdd,Nat.reduceSub,Array.replicate_succ,Array.replicate_zero,List.push_toArray,List.append_toArray,List.nil_append,List.cons_append]
 gi_wp2
 gi_loopw [7] (fun i wr=>∃k:Nat,k≤ls.length∧i=.int .i64 k∧J (ls.take k) wr∧ec E W wr) (fun i _=>ls.length-(intOf i).toNat)
 case atStart=>exact⟨0,Nat.zero_le _,rfl,h0,fun k _=>rfl⟩
 case round=>
  obtain⟨k,hk,rfl,hj,hke⟩:=hrel
  have HK:=hid hke
  clear hke
  by_cases aH:k<ls.length
  ·obtain⟨b,o,rfl,hb,aX⟩:=HR.out k aH
   have L0:wr.cell? ⟨b,o+k,none⟩=some (.string (bs ls[k])):=(World.cell?_of_block (HK.out b hb)).trans (aX k aH)
   have hst:ls.take (k+1)=ls.take k++[ls[k]]:=by rw[List.take_add_one,List.getElem?_eq_getElem aH];rfl
   have hpl:(ls.take k).length<N:=by rw[List.length_take];omega
   obtain⟨fn,tmps,assign,body,hy,hR⟩:=hY (ls.take k) ls[k] wr hj hpl
   unfold vlC at hy
   have HS:=hid hst
   clear aX hst
   generalize ls[k]=x at *
   gi_wp2_with fail
   refine hR.mono ?_
   rintro e W' (⟨rfl,hj',hk'⟩|⟨rfl,hjx⟩)
   ·have HE:=hid (show ec E W W' from fun j ej=>(hk' j ej).trans (HK.out j ej))
    clear hk'
    gi_wp2
    refine⟨⟨k+1,by omega,by go_num,?_,HE.out⟩,by simp[intOf];omega⟩
    rw[HS.out]
    exact hj'
   ·gi_wp2
    refine bodyPost_ret (results_none rfl _ _ _) rfl ?_
    exact⟨⟨_,rfl⟩,.inr ⟨_,trivial,hjx⟩⟩
  ·obtain rfl:k=ls.length:=by omega
   rw[List.take_length] at hj
   gi_wp2
   go_end0
   exact⟨⟨_,rfl⟩,.inl ⟨_,rfl,hj⟩⟩
theorem zbC (n:Nat) (hn:1≤n) (q:Nat) (E:Nat→Prop) (hq:E q) (ls:List Txt) (a:Option Addr) (c:Nat) (hl:ls.length≤2000000) (w:World)
 (hc:w.cell? ⟨q,0,none⟩=some (.slice a ls.length c)) (hr:∀k,k<ls.length→∃b o,a=some ⟨b,o,none⟩∧E b∧∀j (hj:j<ls.length),w.cell? ⟨b,o+j,none⟩=some (.string (bs ls[j]))):
 SeqStopsK Fence.wide n Tryz.prog 150 #[.pointer (some ⟨q,0,none⟩)] vlC (ec E) (fun xs=>xs=ls) (fun _=>True) ls.length w:=by
 intro l J Jx W hb _ _ hY h0
 refine(zdi n hn l q E hq ls a c ls.length (Nat.le_refl _) hl J Jx W hY ?_ ?_ h0).mono ?_
 ·exact Below.keeps hb hc
 ·intro k hk
  obtain⟨b,o,h1,h2,h3⟩:=hr k hk
  exact⟨b,o,h1,h2,fun j hj=>Below.keeps hb (h3 j hj)⟩
 ·rintro e W' ⟨h1,h2⟩
  exact⟨h1,h2⟩
theorem zcW (a:Option Addr) (n c:Nat) (w:World):Calls Tryz.prog 100 #[.slice a n c] w fun e w'=>e=.returned (.func (.func 150) #[] #[.pointer (some ⟨w.heap.size,0,none⟩)])∧w'=w.alloc (.cells #[.slice a n c] 46):=by
 go_enter Tryz.func100,Tryz.ntmps100
 go_wp2
 go_ret
 exact⟨rfl,rfl⟩
def txC (s:Txt):List Value:=[.string (bs s)]
def zh (q:Nat) (w:World) (pre:List Txt) (W:World):Prop:=∃v,W.heap[q]?=some (.cells #[v] 46 (0,0))∧W.ownsRow w.heap.size 9 1 v pre.length (pre.flatMap txC)∧Below w.heap.size w W
theorem zh.own {q B0:Nat} {w:World} (hB:w.heap.size≤B0):OwnFrom B0 (zh q w):=by
 rintro pre A W row ⟨v,hq,ho,hb⟩ hg hr
 have hne:∀k,(∃c t,A.heap[k]?=some (Obj.cells c t (0,0)))→W.heap[k]?=A.heap[k]?:=fun k ⟨c,t,hk⟩=>hg.block k (lx (hid hk)) fun e=>by
  obtain⟨-,o,ho,hc⟩:=hr k e.symm
  rw[hk] at ho
  cases ho
  cases hc
 refine⟨v,(hne q ⟨_,_,hq⟩).trans hq,aJ ho fun k hk=>?_,hb.grown hg hb.size fun k e=>Nat.le_trans hB (hr k e).1⟩
 obtain⟨-,c,hc⟩:=lE ho hk
 exact hne k ⟨_,_,hc⟩
theorem vl {o:Oper} {a:Act} {w w':World} {t:Nat} {v s v':Value} {x y:Operand} (h:∀ty,(Builtin.append_ #[t,t] ty #[v,s]).run Tryz.prog w=.ok v' w')
 (ho:o.op=.call {callee:=.builtin .append,args:=#[x,y],argTypes:=#[t,t]}:=by rfl) (hx:a.eval x=v:=by rfl) (hy:a.eval y=s:=by rfl):(execOp a.eval o).run Tryz.prog w=.ok (.value v') w':=by
 unfold execOp
 simp only[ho,resolve,invoke,builtin,Sem.run_bind,Sem.run_pure,Result.andThen_ok,List.map_toArray,List.map_cons,List.map_nil,hx,hy,h]
def zaZ (q q2:Nat) (x:Txt):Act:=
 {tmps:=#[.slice none 0 0,.func (.func 150) #[] #[.pointer (some ⟨q,0,none⟩)],.pointer (some ⟨q2,0,none⟩),undef,.slice none 0 0,.string (bs x),.func (.func 150) #[] #[.pointer (some ⟨q,0,none⟩)],.string (bs x),undef,undef,undef,undef,undef],defers:=[]}
set_option maxHeartbeats 8000000 in
theorem zgy (ls:List Txt) (a:Option Addr) (c q:Nat) (w:World) (hc:w.cell? ⟨q,0,none⟩=some (.slice a ls.length c)) (hqs:q<w.heap.size) (hl:ls.length≤100000)
 (hr:∀k,k<ls.length→∃b o,a=some ⟨b,o,none⟩∧b<w.heap.size∧∀j (hj:j<ls.length),w.cell? ⟨b,o+j,none⟩=some (.string (bs ls[j]))):
 Calls Tryz.prog 188 #[.slice none 0 0,.func (.func 150) #[] #[.pointer (some ⟨q,0,none⟩)]] w fun e w'=>∃v,e=.returned v∧w'.ownsRow w.heap.size 9 1 v ls.length (ls.flatMap txC)∧Below w.heap.size w w':=by
 have HR:=hid hr
 have HC:=hid hc
 clear hr hc
 refine(callsIn_wide (n:=5)).1 ?_
 refine callsIn_of_wp_marks Tryz.func188 rfl trivial ?_ rfl
 simp only[Tryz.ntmps188,List.size_toArray,List.length_cons,List.length_nil,Nat.reduceAdd,Nat.reduceSub,Array.replicate_succ,Array.replicate_zero,List.push_toArray,List.append_toArray,List.nil_append,List.cons_append]
 have hbA:=ab w (.cells #[.slice none 0 0] 46)
 have hnA:=heap_alloc_new w (.cells #[.slice none 0 0] 46)
 have hzA:(w.alloc (.cells #[.slice none 0 0] 46)).heap.size=w.heap.size+1:=World.size_alloc _ _
 gi_wp2_with fail
 generalize w.alloc (.cells #[.slice none 0 0] 46)=W0 at *
 refine eM (α:=Txt) rfl (by omega) (gf:=150) (lb:=#[.pointer (some ⟨q,0,none⟩)]) rfl trivial (enters_of Tryz.func150 (by kernel_rfl) rfl) (Kp:=ec (fun j=>j<w.heap.size)) (S:=fun xs=>xs=ls) (Sp:=fun _=>True) (N:=ls.length)
  (zbC _ (by omega) q (fun j=>j<w.heap.size) hqs ls a c (by omega) W0 (Below.keeps hbA HC.out) (fun k hk=>by
   obtain⟨b,o,h1,h2,h3⟩:=HR.out k hk
   exact⟨b,o,h1,h2,fun j hj=>Below.keeps hbA (h3 j hj)⟩))
  (fun h k j hj=>(k j hj).trans (h j hj)) (fun W l o' hl j hj=>World.putObj_heap_other (by omega)) (fun _=>rfl)
  (zh w.heap.size w) (fun _ _ _=>False) (fun pre x a' W=>a'=zaZ q w.heap.size x∧zh w.heap.size w pre W)
  (zh.own (by omega)) (fun _ _ _ _ _ h=>h.elim) (fun pre x a' _ A W' row h hg hr=>⟨h.1,zh.own (by omega) pre A W' row h.2 hg hr⟩) ?start ?assign ?body ?done (fun _ _ _ _ _ _ h=>h.elim)
 case start=>
  exact⟨_,hnA,⟨rfl,.inl ⟨rfl,rfl⟩⟩,hbA⟩
 case assign=>
  intro l pre x W hI hpl
  unfold vlC
  gi_wp2_with fail
  exact⟨KeepsOthers.refl W,fun j hj=>rfl,rfl,hI⟩
 case body=>
  rintro l pre x a' W ⟨rfl,v,hq,ho,hb⟩ hpl
  unfold zaZ
  have aH:=lx (hid hq)
  have hq0:W.cell? ⟨w.heap.size,0,none⟩=some v:=(cell_of_row _ _ 0 _ _ _ hq).trans rfl
  have hb1:=ab W (.cells #[.string (bs x)] 9)
  have hn1:=heap_alloc_new W (.cells #[.string (bs x)] 9)
  obtain⟨v4,W4,hr4,ho4,hb4,hg4,hat4⟩:=lg txC (t:=46) (by_:=16) (sz:=1) Tryz.underlying46 (by kernel_rfl) (fun _=>rfl) (by omega) (by omega) x (fun u hu=>by rw[List.mem_singleton.1 hu];rfl) (aS ho hb1 (Nat.le_refl _)) hn1 (by have:=hb.size;have:=hb1.size;omega) (by omega)
  have hne:=de ho hq (by decide)
  have hq4:W4.heap[w.heap.size]?=some (.cells #[v] 46 (0,0)):=(hg4.block _ (by have:=hb1.size;omega) (fun e=>hne e.symm)).trans ((hb1.block _ aH).trans hq)
  have hf4:W4.frozen? ⟨w.heap.size,0,none⟩=false:=Lib.frozen_of_heap hq4 0
  have hq5:W4.cell? ⟨w.heap.size,0,none⟩=some v:=(cell_of_row _ _ 0 _ _ _ hq4).trans rfl
  have H:=hid (And.intro ho (And.intro hb (And.intro hb1 (And.intro ho4 (And.intro hg4 (And.intro hq4 hb4))))))
  obtain⟨a5,c5,rfl⟩:=ax ho
  obtain⟨a6,c6,rfl⟩:=ax ho4
  clear hne ho hb hb1 hn1 ho4 hb4 hg4 hat4 hq4
  gi_wp2_with (gi_at_builtin;refine zdv (vl (t:=46) hr4) ?_;clear hr4)
  obtain⟨ho,hb,hb1,ho4,hg4,hq4,hb4⟩:=H.out
  obtain⟨n5,t5⟩:=au hq4 0 (.slice a6 (pre.length+1) c6)
  have hne4:=de ho4 hq4 (by decide)
  refine⟨((KeepsOthers.alloc W _).trans (KeepsOthers.of_grownBy hg4 fun j o hj hjo=>?_)).trans (KeepsOthers.setCell _ _ _),fun j hj=>?_,_,n5,?_,((hb.trans (hb1.mono hb.size)).trans hb4).trans (t5.below (Nat.le_refl _))⟩
  ·obtain⟨-,cu,hcu⟩:=lE (aS ho hb1 (Nat.le_refl _)) hj
   rw[hcu] at hjo
   cases hjo
   rfl
  ·have:=hb.size
   have:=hb1.size
   exact(t5.foot.block j (by have:=hb4.size;omega) (by omega)).trans ((hb4.block j hj).trans (hb1.block j (by omega)))
  ·have e:(pre++[x]).length=pre.length+1:=by simp
   rw[e]
   exact aJ ho4 fun k hk=>t5.foot.block k (ho4.lt k hk).2 fun e=>hne4 (e▸hk)
 case done=>
  rintro D xs W hD rfl ⟨v,hq,ho,hb⟩ hdef
  have hq0:W.cell? ⟨w.heap.size,0,none⟩=some v:=(cell_of_row _ _ 0 _ _ _ hq).trans rfl
  obtain⟨a5,c5,rfl⟩:=ax ho
  gi_wp2_with fail
  refine⟨by simp,.inl ⟨_,_,rfl,run_takeDeferred hdef,?_⟩⟩
  refine⟨.slice a5 xs.length c5,by simp[results,Tryz.f188,go_sem],_,rfl,aJ ho fun k hk=>World.putObj_heap_other fun e=>?_,hb.grown (grownBy_putObj' W D _) hb.size fun k e=>by cases e;omega⟩
  obtain⟨-,cu,hcu⟩:=lE ho hk
  subst e
  rw[hcu] at hdef
  cases hdef
theorem zem (a:Option Addr) (n c:Nat) (w:World):Calls Tryz.prog 96 #[.slice a n c] w fun e w'=>e=.returned (.func (.func 146) #[] #[.pointer (some ⟨w.heap.size,0,none⟩)])∧w'=w.alloc (.cells #[.slice a n c] 70):=by
 go_enter Tryz.func96,Tryz.ntmps96
 go_wp2
 go_ret
 exact⟨rfl,rfl⟩
def bkS (ls:List (Txt×Txt)) (k:Nat):Array Value:=#[.int .i64 (k:Int),.agg (fg (ls.getD k ([],[]))).toArray]
set_option maxHeartbeats 2000000 in
theorem zbY (n:Nat) (hn:1≤n) (l q:Nat) (E:Nat→Prop) (hq:E q) (ls:List (Txt×Txt)) (a:Option Addr) (c N:Nat) (hN:ls.length≤N) (hl:ls.length≤1000000) (J Jx:List Nat→World→Prop) (W:World)
 (hY:∀pre x W1,J pre W1→pre.length<N→YieldAt Fence.wide (n-1) Tryz.prog l (bkS ls x) W1 fun e W'=>
  (e=.returned (.bool true)∧J (pre++[x]) W'∧ec E W1 W')∨(e=.returned (.bool false)∧Jx (pre++[x]) W'))
 (hc:W.cell? ⟨q,0,none⟩=some (.slice a ls.length c)) (hr:∀k (hk:k<ls.length),∃b o,a=some ⟨b,o,none⟩∧E b∧W.cell? ⟨b,o+k*2,none⟩=some (.string (bs ls[k].1))∧W.cell? ⟨b,o+k*2+1,none⟩=some (.string (bs ls[k].2))) (h0:J [] W):
 CallsIn Fence.wide n Tryz.prog 146 #[.func (.yield l) #[] #[],.pointer (some ⟨q,0,none⟩)] W fun e W'=>(∃v,e=.returned v)∧((∃ys,ys=bk ls.length 0∧J ys W')∨(∃pre,True∧Jx pre W')):=by
 have HR:=hid hr
 clear hr
 refine callsIn_of_wp Tryz.func146 rfl trivial ?_ rfl
 simp only[Tryz.ntmps146,List.size_toArray,List.length_cons,List.length_nil,Nat.reduceAdd,Nat.reduceSub,Array.replicate_succ,Array.replicate_zero,List.push_toArray,List.append_toArray,List.nil_append,List.cons_append]
 gi_wp2
 gi_loopw [3] (fun i wr=>∃k:Nat,k≤ls.length∧i=.int .i64 ((k:Int)-1)∧J (bk ls.length k) wr∧ec E W wr) (fun i _=>(intOf i+1).toNat)
 case atStart=>exact⟨ls.length,Nat.le_refl _,rfl,by rw[vS];exact h0,fun k _=>rfl⟩
 case round=>
  obtain⟨k,hk,rfl,hj,hke⟩:=hrel
  have HK:=hid hke
  have hcq:wr.cell? ⟨q,0,none⟩=some (.slice a ls.length c):=(World.cell?_of_block (hke q hq)).trans hc
  clear hke
  match k,hk with
  |0,_=>
   gi_wp2
   go_end0
   exact⟨⟨_,rfl⟩,.inl ⟨_,rfl,hj⟩⟩
  |k+1,hk=>
   obtain⟨b,o,rfl,hb,hc0,hc1⟩:=HR.out k (by omega)
   have L0:wr.cell? ⟨b,o+k*2,none⟩=some (.string (bs ls[k].1)):=(World.cell?_of_block (HK.out b hb)).trans hc0
   have L1:wr.cell? ⟨b,o+k*2+1,none⟩=some (.string (bs ls[k].2)):=(World.cell?_of_block (HK.out b hb)).trans hc1
   have hst:=rL ls.length k (by omega)
   have hpl:(bk ls.length (k+1)).length<N:=by rw[zgB];omega
   obtain⟨fn,tmps,assign,body,hy,hR⟩:=hY (bk ls.length (k+1)) k wr hj hpl
   unfold bkS at hy
   rw[js ls ([],[]) k (by omega)] at hy
   have HS:=hid hst
   clear hc0 hc1 hst
   obtain⟨x,hx⟩:∃x,x=ls[k]:=⟨_,rfl⟩
   rw[←hx] at L0 L1 hy
   clear hx
   obtain⟨xn,xv⟩:=x
   unfold fg at hy
   simp only at L0 L1 hy
   gi_wp2_with fail
   refine hR.mono ?_
   rintro e W' (⟨rfl,hj',hk'⟩|⟨rfl,hjx⟩)
   ·have HE:=hid (show ec E W W' from fun j ej=>(hk' j ej).trans (HK.out j ej))
    clear hk'
    gi_wp2
    refine⟨⟨k,by omega,by go_num,?_,HE.out⟩,by simp[intOf]⟩
    rw[HS.out]
    exact hj'
   ·gi_wp2
    refine bodyPost_ret (results_none rfl _ _ _) rfl ?_
    exact⟨⟨_,rfl⟩,.inr ⟨_,trivial,hjx⟩⟩
theorem yA (n:Nat) (hn:1≤n) (q:Nat) (E:Nat→Prop) (hq:E q) (ls:List (Txt×Txt)) (a:Option Addr) (c:Nat) (hl:ls.length≤1000000) (w:World)
 (hc:w.cell? ⟨q,0,none⟩=some (.slice a ls.length c)) (hr:∀k (hk:k<ls.length),∃b o,a=some ⟨b,o,none⟩∧E b∧w.cell? ⟨b,o+k*2,none⟩=some (.string (bs ls[k].1))∧w.cell? ⟨b,o+k*2+1,none⟩=some (.string (bs ls[k].2))):
 SeqStopsK Fence.wide n Tryz.prog 146 #[.pointer (some ⟨q,0,none⟩)] (bkS ls) (ec E) (fun xs=>xs=bk ls.length 0) (fun _=>True) ls.length w:=by
 intro l J Jx W hb _ _ hY h0
 refine(zbY n hn l q E hq ls a c ls.length (Nat.le_refl _) hl J Jx W hY ?_ ?_ h0).mono ?_
 ·exact Below.keeps hb hc
 ·intro k hk
  obtain⟨b,o,h1,h2,h3,h4⟩:=hr k hk
  exact⟨b,o,h1,h2,Below.keeps hb h3,Below.keeps hb h4⟩
 ·rintro e W' ⟨h1,h2⟩
  exact⟨h1,h2⟩
theorem zea {w:World} {r:Nat} {l:List (Txt×Txt)} {o:Obj} (hm:w.heap[r]?=some o) (ho:pJ l o) (p d:Txt):
 ∃W o',(Instr.mapUpdate 204 (.map (some r)) (.string (bs p)) (.string (bs d))).run Tryz.prog w=.ok () W∧bg r w W∧W.heap[r]?=some o'∧pJ (iD l (p,d)) o':=by
 cases ha:l.any fun x=>decide (x.1=p) with
 |false=>
  obtain⟨W,o',h1,h2,h3,h4⟩:=zbQ hm ho p d ha
  refine⟨W,o',h1,h2,h3,?_⟩
  unfold iD
  rw[if_neg (by simp[ha])]
  exact h4
 |true=>
  obtain⟨rfl,hn⟩:=ho
  have ht:Tryz.prog.underlying 204=some (.map 9 9):=by kernel_rfl
  have hr:r<w.heap.size:=(Array.getElem?_eq_some_iff.1 hm).1
  unfold wrO at hm
  have hk:∀e∈wrE l,∃x,e.key=cL x:=fun e he=>by obtain⟨q,_,h,_⟩:=jl he;exact⟨q.1,h⟩
  have hc:=cn.check w false p
  have hst:=cn.stays w p
  rcases cn.find w p (wrE l) hk with⟨h1,h2⟩|⟨j,x,h1,h2,h3⟩
  ·obtain⟨y,hy,he⟩:=List.any_eq_true.1 ha
   obtain⟨e,he1,he2, -⟩:=wN hy
   exact absurd (by rw[he2,of_decide_eq_true he]) (h2 e he1)
  ·have hj:j<l.length:=by
    have:=(List.getElem?_eq_some_iff.1 h2).1
    simpa[wrE] using this
   have hx:x=⟨cL l[j].1,.string (bs l[j].2),j⟩:=by
    have:(wrE l)[j]?=some ⟨cL l[j].1,.string (bs l[j].2),j⟩:=by
     unfold wrE
     rw[List.getElem?_map,List.getElem?_zipIdx,List.getElem?_eq_getElem hj]
     simp
    rw[h2] at this
    exact Option.some.inj this
   have hp:l[j].1=p:=cn.inj _ _ (by rw[←h3,hx])
   have e:(wrE l).modify j (fun e=>{e with key:=.string (bs p),val:=.string (bs d)})=wrE (iD l (p,d)):=by
    unfold iD
    rw[if_pos ha]
    unfold wrE
    refine List.ext_getElem? fun i=>?_
    rw[List.getElem?_modify,List.getElem?_map,List.getElem?_map,List.getElem?_zipIdx,List.getElem?_zipIdx,List.getElem?_map]
    rcases Nat.lt_or_ge i l.length with hi|hi
    ·rw[List.getElem?_eq_getElem hi]
     by_cases hij:j=i
     ·subst hij
      simp[hp,cL]
     ·have hne:¬l[i].1=p:=fun h=>by
       have h6:=List.pairwise_iff_getElem.1 hn
       rcases Nat.lt_or_gt_of_ne hij with h7|h7
       ·exact h6 j i (by simpa using hj) (by simpa using hi) h7 (by rw[List.getElem_map,List.getElem_map,hp,h])
       ·exact h6 i j (by simpa using hi) (by simpa using hj) h7 (by rw[List.getElem_map,List.getElem_map,hp,h])
      simp[hij,hne]
    ·rw[List.getElem?_eq_none hi]
     simp
   have bI:(iD l (p,d)).length=l.length:=by
    unfold iD
    rw[if_pos ha,List.length_map]
   refine⟨cS w r (wrO (iD l (p,d))),_,?_,dj hr _,fA hr _,rfl,uV hn⟩
   have ew:wrO (iD l (p,d))=.map ((wrE l).toArray.modify j (fun e=>{e with key:=.string (bs p),val:=.string (bs d)})) l.length:=by
    unfold wrO
    rw[←e,bI,List.modify_toArray]
   rw[ew]
   unfold cL at hc h1 h3 hst
   have h2':(wrE l).toArray[j]?=some x:=by simpa using h2
   simp[Instr.mapUpdate,run_underlying ht,MapKept.run_getObj_map hm,hc,h1,h2,h3,hst,MapKept.run_setObj_map _ hm,Result.andThen,cS]
theorem zdO (k:KnL):(knC k).length=3:=rfl
theorem sn (k:KnL):∀u∈knC k,u.oneCell'=true:=by
 intro u hu
 simp only[knC,List.mem_cons,List.not_mem_nil,or_false] at hu
 rcases hu with rfl|rfl|rfl<;>rfl
def qx {α:Type} (ls:List α) (P:α→Bool) (i:Int):Prop:=(i= -1∧ls.find? P=none)∨∃(k:Nat) (hk:k<ls.length),i=k∧ls.find? P=some ls[k]
theorem qx.at {α:Type} {ls:List α} {P:α→Bool} {k:Nat} (hk:k<ls.length) (h:P ls[k]=true) (ha:∀j (hj:j<ls.length),j<k→P ls[j]=false):qx ls P k:=
 .inr ⟨k,hk,rfl,List.find?_eq_some_iff_getElem.2 ⟨h,k,hk,rfl,fun j hj=>by simp[ha j (by omega) hj]⟩⟩
theorem qx.no {α:Type} {ls:List α} {P:α→Bool} (ha:∀j (hj:j<ls.length),P ls[j]=false):qx ls P (-1):=
 .inl ⟨rfl,List.find?_eq_none.2 fun x hx=>by
  obtain⟨i,hi,rfl⟩:=List.getElem_of_mem hx
  rw[ha i hi]
  simp⟩
theorem zdt {α:Type} {ls:List α} {P:α→Bool} {i:Int} (h:qx ls P i):decide (0≤i)=ls.any P:=by
 rcases h with⟨rfl,h⟩|⟨k,hk,rfl,h⟩
 ·rw[List.find?_eq_none] at h
  exact(decide_eq_false (by omega)).trans (List.any_eq_false.2 h).symm
 ·exact(decide_eq_true (by omega)).trans (List.any_eq_true.2 ⟨_,List.mem_of_find?_eq_some h,List.find?_some h⟩).symm
set_option maxHeartbeats 4000000 in
theorem tC (v:Value) (ls:List (Txt×Txt)) (nf:Nat) (caps:Array Value) (eg:∀args w,(callFunc nf args).run Tryz.prog w=.ok (.enter nf args) w) (P:Txt×Txt→Bool) (w:World) (h:aE w 2 bL v ls) (hl:ls.length≤2000000)
 (hf:∀W,Below w.heap.size w W→∀x∈ls,Calls Tryz.prog nf (#[.agg (bL x).toArray]++caps) W fun e W'=>e=.returned (.bool (P x))∧Below W.heap.size W W'):
 Calls Tryz.prog 60 #[v,.func (.func nf) #[] caps] w fun e w'=>∃i:Int,e=.returned (.int .i64 i)∧qx ls P i∧Below w.heap.size w w':=by
 obtain⟨a,c,rfl,hc,hm, -,hx⟩:=h.out (fun x=>bF _) (by omega)
 have HX:=hid hx
 have HF:=hid hf
 clear h hx hf
 go_enter Tryz.func60,Tryz.ntmps60
 go_wp2_with fail
 go_loopw [8] (fun i wr=>∃k:Nat,k≤ls.length∧i=.int .i64 k∧(∀j (hj:j<ls.length),j<k→P ls[j]=false)∧Below w.heap.size w wr) (fun i _=>ls.length-(intOf i).toNat)
 case atStart=>exact⟨0,Nat.zero_le _,rfl,fun j _ h=>absurd h (Nat.not_lt_zero _),Below.refl _ _⟩
 case round=>
  obtain⟨k,hk,rfl,hall,hbw⟩:=hrel
  have HA:=hid hall
  have HB:=hid hbw
  clear hall
  by_cases aH:k<ls.length
  ·obtain⟨b,o,rfl,hb0,aX⟩:=HX.out k aH
   have L1:=ac hbw (aX k aH)
   have HC:=hid (HF.out wr HB.out _ (List.getElem_mem aH))
   clear hbw aX
   cases hq:P ls[k] with
   |true=>
    rw[hq] at HC
    have HQ:=hid hq
    clear hq
    generalize hxk:ls[k]=x at HC L1
    have HXK:=hid hxk
    clear hxk
    go_wp2_with first|(refine bC tb L1 (bF _) ?_)|(refine HC.out.mono ?_;rintro e W2 ⟨rfl,hb2⟩)
    go_ret
    exact⟨(k:Int),rfl,.at aH HQ.out HA.out,Below.chain HB.out hb2⟩
   |false=>
    rw[hq] at HC
    have HQ:=hid hq
    clear hq
    generalize hxk:ls[k]=x at HC L1
    have HXK:=hid hxk
    clear hxk
    go_wp2_with first|(refine bC tb L1 (bF _) ?_)|(refine HC.out.mono ?_;rintro e W2 ⟨rfl,hb2⟩)
    exact⟨⟨k+1,by omega,by go_num,fun j hj hjk=>by
     by_cases e:j=k
     ·subst e;exact HQ.out
     ·exact HA.out j hj (by omega),Below.chain HB.out hb2⟩,by simp[intOf];omega⟩
  ·obtain rfl:k=ls.length:=by omega
   go_wp2_with fail
   go_ret
   exact⟨-1,rfl,.no fun j hj=>HA.out j hj hj,HB.out⟩
theorem zby (v:Value) (ls:List (Txt×Txt)) (nf:Nat) (caps:Array Value) (eg:∀args w,(callFunc nf args).run Tryz.prog w=.ok (.enter nf args) w) (P:Txt×Txt→Bool) (w:World) (h:aE w 2 bL v ls) (hl:ls.length≤2000000)
 (hf:∀W,Below w.heap.size w W→∀x∈ls,Calls Tryz.prog nf (#[.agg (bL x).toArray]++caps) W fun e W'=>e=.returned (.bool (P x))∧Below W.heap.size W W'):
 Calls Tryz.prog 55 #[v,.func (.func nf) #[] caps] w fun e w'=>e=.returned (.bool (ls.any P))∧Below w.heap.size w w':=by
 have HI:=hid (tC v ls nf caps eg P w h hl hf)
 obtain⟨a,c,rfl, -, -, -, -⟩:=h.out (fun x=>bF _) (by omega)
 clear h hf eg
 go_enter Tryz.func55,Tryz.ntmps55
 go_wp2_with (go_at_call 60;refine HI.out.mono ?_;rintro e W2 ⟨i,rfl,hi,hb⟩)
 go_ret
 refine⟨?_,hb⟩
 rw[zdt hi]
 rfl
theorem yQ (x:Txt×Txt) (w:World):Calls Tryz.prog 56 #[.agg (bL x).toArray] w fun e w'=>e=.returned (.bool (decide (65536<x.2.length)))∧Below w.heap.size w w':=by
 go_enter Tryz.func56,Tryz.ntmps56
 go_upto_region 1 with(refine cI tb ?_;intro W1 hb1 hn1 hs1)
 have k0:W1.cell? ⟨w.heap.size,1,none⟩=some (.string (bs x.2)):=(cell_of_row _ _ 1 _ _ _ hn1).trans rfl
 have HB:=hid hb1
 clear hb1 hn1 hs1
 go_wp2_with fail
 go_ret
 refine⟨?_,HB.out⟩
 simp
 omega
theorem zck (x:Txt×Txt) (p:Txt) (c:Nat) (w:World) (hc:w.cell? ⟨c,0,none⟩=some (.string (bs p))):Calls Tryz.prog 61 #[.agg (bL x).toArray,.pointer (some ⟨c,0,none⟩)] w fun e w'=>e=.returned (.bool (decide (x.1=p)))∧Below w.heap.size w w':=by
 go_enter Tryz.func61,Tryz.ntmps61
 go_upto_region 1 with(refine cI tb ?_;intro W1 hb1 hn1 hs1)
 have k0:W1.cell? ⟨w.heap.size,0,none⟩=some (.string (bs (x.1))):=(cell_of_row _ _ 0 _ _ _ hn1).trans rfl
 have hc1:=Below.keeps hb1 hc
 have HB:=hid hb1
 clear hb1 hn1 hs1 hc
 go_wp2_with fail
 go_ret
 refine⟨?_,HB.out⟩
 simp
 by_cases h:x.1=p<;>simp[h]
def fo (fs:List (Txt×Txt)) (p:Txt):KnL:=match fs.find? (fun x=>decide (x.1=p)) with
 |some x=>⟨p,true,x.2⟩
 |none=>⟨p,false,[]⟩
def zdC (E:Nat→Prop) (nf:Nat) (caps:Array Value) (ans:Txt→Option KnL) (w:World):Prop:=∀W,az E w W→∀p:Txt,Calls Tryz.prog nf (#[.string (bs p)]++caps) W fun e W'=>(∃z,e=.returned (.tuple #[knV z,.bool (ans p).isSome])∧∀k,ans p=some k→z=k)∧Below W.heap.size W W'
set_option maxHeartbeats 4000000 in
theorem zbO (fs:List (Txt×Txt)) (v:Value) (c:Nat) (p:Txt) (w:World) (hc:w.cell? ⟨c,0,none⟩=some v) (h:aE w 2 bL v fs) (hl:fs.length≤2000000):
 Calls Tryz.prog 59 #[.string (bs p),.pointer (some ⟨c,0,none⟩)] w fun e w'=>e=.returned (.tuple #[knV (fo fs p),.bool true])∧Below w.heap.size w w':=by
 have hb0:=ab w (.cells #[.string (bs p)] 9)
 have hn0:=heap_alloc_new w (.cells #[.string (bs p)] 9)
 have hz0:(w.alloc (.cells #[.string (bs p)] 9)).heap.size=w.heap.size+1:=World.size_alloc _ _
 have hc0:=Below.keeps hb0 hc
 have h0:=h.below hb0 (Nat.le_refl _)
 have aX:c<w.heap.size:=lx0 hc
 clear hc h
 go_enter Tryz.func59,Tryz.ntmps59
 go_upto_region 1 with(refine iK iC ?_;intro zz W1 hz1 hb1 hn1 hs1)
 generalize w.alloc (.cells #[.string (bs p)] 9)=W0 at *
 rw[hz0] at hn1
 have k1:W1.cell? ⟨w.heap.size,0,none⟩=some (.string (bs p)):=Below.keeps hb1 ((cell_of_row _ _ 0 _ _ _ hn0).trans rfl)
 have kc:=Below.keeps hb1 hc0
 have HR:=hid (h0.below hb1 (Nat.le_refl _))
 have HB1:=hid (Below.chain hb0 hb1)
 have HN1:=hid hn1
 have HI:=hid (tC v fs 61 #[.pointer (some ⟨w.heap.size,0,none⟩)] (enters_of Tryz.func61 (by kernel_rfl) rfl) (fun x=>decide (x.1=p)) W1 HR.out hl fun W hW x hx=>zck x p _ W (Below.keeps hW k1))
 obtain⟨a,cc,rfl, -,hcm, -,hx⟩:=HR.out.out bF (by omega)
 have HX:=hid hx
 have HZ:=hid hz0
 clear hb0 hn0 hz0 hc0 h0 hb1 hn1 hs1 hx
 go_upto_region 2 with(go_at_call 60;refine HI.out.mono ?_;rintro e W2 ⟨i,rfl,hi,hb2⟩)
 have k2:=Below.keeps hb2 k1
 have kc2:=Below.keeps hb2 kc
 have HB2:=hid (Below.chain HB1.out hb2)
 have hn2:=(hb2.block _ (lx HN1)).trans HN1.out
 rcases hi with⟨rfl,hf⟩|⟨k,hk,rfl,hf⟩
 ·have HF:=hid (show fo fs p=⟨p,false,[]⟩ by unfold fo;rw[hf])
  clear hf
  go_wp2_with first|(refine fp (xs:=(knC ⟨p,false,[]⟩).toArray) iC hn2 hz1 rfl (sn _) ?_;intro W3 ht3 hn3 hs3)
  refine br2 Tryz.underlying98 _ hn3 ?_ (hi:=by kernel_rfl)
  rw[HF.out]
  exact⟨rfl,HB2.out.trans (ht3.below (by omega))⟩
 ·have HF:=hid (show fo fs p=⟨p,true,fs[k].2⟩ by unfold fo;rw[hf])
  clear hf
  obtain⟨b,o,rfl,hb0,hcl2⟩:=HX.out k hk
  obtain⟨-,l1⟩:=dT (ac hb2 (hcl2 k hk))
  have L1:=(dT l1).1
  clear l1 hcl2
  generalize fs[k].2=d at *
  have e0:decide ((k:Int)<0)=false:=decide_eq_false (by omega)
  go_upto_region 4 with fail
  refine ar 7 (by kernel_rfl) (by kernel_rfl) ?_
  simp only[List.take_succ_cons,List.take_zero,List.drop_succ_cons,List.drop_zero]
  repeat(refine WQ.step (fun K hK=>?_);go_simp;first|(refine hK _ ?_;clear hK K)|(apply Exists.intro;refine⟨fun W hW=>?_,hK _ ?_⟩;(first|with_reducible rfl|(have y0:=Below.keeps hW k2;have y1:=Below.keeps hW kc2;have y2:=Below.keeps hW L1;go_simp;first|rfl|exact⟨rfl,rfl⟩|(simp;done)));clear hK K))
  refine WQ.nil ?_
  intro wt hwt
  have hnt:=(hwt.block _ (lx (hid hn2))).trans hn2
  go_wp2_with first|(refine fp (xs:=(knC ⟨p,true,d⟩).toArray) iC hnt hz1 rfl (sn _) ?_;intro W3 ht3 hn3 hs3)
  refine br2 Tryz.underlying98 _ hn3 ?_ (hi:=by kernel_rfl)
  rw[HF.out]
  exact⟨rfl,(Below.chain HB2.out hwt).trans (ht3.below (by omega))⟩
set_option maxHeartbeats 4000000 in
theorem vn (x:dW) (w:World) (hx:fe w x) (hs:dU x.l) (ht:x.l.tool.length≤1000000) (hm:bE w) (hp:eG w) (l:List bS) (htl:cJ x.l.tool=.ok l):
 Calls Tryz.prog 57 #[.agg x.cells.toArray,.bool false] w fun e w'=>(∃(bb B:Nat) (E:Nat→Prop),e=.returned (.tuple #[.pointer (some ⟨bb,0,none⟩),.int .i64 0])∧w.heap.size≤B∧ep B E bb x.l.env (byA x.l) (pH (byA x.l) l) w'∧bW (pH (byA x.l) l).run)∧Below w.heap.size w w':=by
 have HX:=hid hx
 have HM:=hid (And.intro hm hp)
 clear hx hm hp
 go_enter Tryz.func57,Tryz.ntmps57
 go_upto_region 1 with(refine cI dc ?_;intro W1 hb1 hn1 hs1)
 have HN:=hid (za2 x W1 (HX.out.below hb1) hs ht (HM.out.1.below hb1) (HM.out.2.below hb1))
 have HB:=hid hb1
 have HS:=hid hs1
 have r1:=af hn1
 have HLEN:=hid (show x.cells.length=7 from rfl)
 clear hb1 hs1 hn1
 go_wp2_with first|(refine bC dc r1 HLEN.out ?_)|(go_at_call 105;refine HN.out.mono ?_;rintro e W2 ⟨im,hb2⟩;rw[htl] at im;obtain⟨bb,B,E,rfl,hB,hbx,hrk⟩:=im;have HR:=hid (And.intro hB (And.intro hbx hrk));clear hB hbx hrk)
 go_ret2
 obtain⟨hB,hbx,hrk⟩:=HR.out
 exact⟨⟨bb,B,E,rfl,by have:=HB.out.size;omega,hbx,hrk⟩,Below.chain HB.out hb2⟩
end Go.Proofs.YtlbipokkdiiaiaaGreatDoor
namespace Go.Proofs.YtlbipokkdiiaiaaGreatDoor
open Go.RowKit
structure WOk (y:ByL) (b:bG):Prop where
 sub:∀x∈b.wrote,x.1∈y.outs
 len:b.wrote.length+b.run.cmds.length≤400
theorem zM {y:ByL} {b b':bG} (hb:GoB b) (hw:WOk y b) (h:cv y b=some b'):WOk y b':=by
 unfold cv at h
 split at h
 ·cases h
 ·rename_i ho
  simp only[Bool.not_eq_true] at ho
  obtain⟨h1,h2⟩:=hb.go ho
  have hn:=mX y.env b.run h1 h2
  have hcm:=hn.cmds
  have hl:=hw.len
  have hfail:∀e,WOk y (ez {b with run:=(bP y.env b.run).2} e):=fun e=>⟨hw.sub,by show b.wrote.length+(bP y.env b.run).2.cmds.length≤400;omega⟩
  split at h
  ·split at h
   ·cases h
   ·simp only[Option.some.injEq] at h
    subst h
    exact hfail 13
  ·split at h
   ·rename_i hd
    simp only[Option.some.injEq] at h
    subst h
    obtain⟨h3, -, -⟩:=hn.wr hd
    unfold dx
    split
    ·exact hfail 14
    ·rename_i hc
     simp only[not_or,Decidable.not_not] at hc
     refine⟨fun x hx=>?_,?_⟩
     ·rcases List.mem_append.1 hx with e|e
      ·exact hw.sub x e
      ·rw[List.mem_singleton.1 e];exact hc.2
     ·show(b.wrote++[_]).length+(bP y.env b.run).2.cmds.length≤400
      rw[List.length_append]
      simp only[List.length_cons,List.length_nil]
      omega
   ·split at h
    ·simp only[Option.some.injEq] at h
     subst h
     split
     ·exact hfail 14
     ·exact⟨hw.sub,by show b.wrote.length+(bP y.env b.run).2.cmds.length≤400;omega⟩
    ·simp only[Option.some.injEq] at h
     subst h
     exact hfail _
theorem wX {y:ByL} {b:bG} (hb:GoB b) (hw:WOk y b):WOk y (goB y b):=by
 obtain⟨b',h1,h2,⟨h3,h4⟩⟩:=ni (f:=cv y) muB (fun x=>GoB x∧WOk y x) (fun a c ha h=>by
  obtain⟨k1,k2,k3⟩:=pw y a c ha.1 h
  exact⟨⟨k1,zM ha.1 ha.2 h⟩,k2⟩) (muB b) b ⟨hb,hw⟩ (Nat.le_refl _)
 unfold goB
 rw[fw h1 h2]
 unfold mG
 by_cases ho:b'.over=true
 ·rw[if_pos ho];exact h4
 ·rw[if_neg ho]
  have ho':b'.over=false:=by simpa using ho
  obtain⟨k1,k2⟩:=h3.go ho'
  have hn:=(mX y.env b'.run k1 k2).cmds
  have hl:=h4.len
  exact⟨h4.sub,by show b'.wrote.length+(bP y.env b'.run).2.cmds.length≤400;omega⟩
theorem zas (y:ByL) (l:List bS) (hl:l.length≤400):WOk y (pH y l):=wX ⟨rfl,fun _=>⟨rfl,rfl⟩⟩ ⟨fun x hx=>(List.not_mem_nil hx).elim,by show 0+l.length≤400;omega⟩
theorem yW {y:ByL} {b:bG} (k:KnL) (hb:uz y b) (ho:b.over=false) (hw:WOk y b):WOk y (fY y b k):=
 wX ⟨by simp[gD,hb.kn],fun _=>⟨rfl,(hb.ask ho).2.2.2.2.2⟩⟩ ⟨hw.sub,hw.len⟩
open Exec Go.Shelf
attribute [local go_sem] Oper.semAt_some
set_option maxRecDepth 100000
theorem zaY:cY 93 3:=⟨_,Tryz.underlying93,rfl,by kernel_rfl⟩
def mB (k:Int) (p:Txt):List Value:=[.int .i64 k,.string (bs p),.int .i64 0]
theorem oq (k:Int) (p:Txt):∀u∈mB k p,u.oneCell'=true:=by
 intro u hu
 simp only[mB,List.mem_cons,List.not_mem_nil,or_false] at hu
 rcases hu with rfl|rfl|rfl<;>rfl
def rV:Value:=.slice none 0 0
theorem zfc {ty ty2:TypeId} {d d2:TypeDesc} (hu:Tryz.prog.underlying ty=some d) (hu2:Tryz.prog.underlying ty2=some d2) {fn:Func} {p p2:Tmp} {R:Ending→World→Prop} {a:Act} {w:World} (g g2:Nat) {t t2:TypeId} {cs cs2:Array Value} {fr fr2:Nat×Nat} (hg:w.heap[g]?=some (.cells cs t fr)) (hg2:w.heap[g2]?=some (.cells cs2 t2 fr2)) (hR:R (.returned (.tuple #[.agg cs,.agg cs2])) w) (h:fn.results=#[.cell p ty,.cell p2 ty2]:=by rfl) (hp:a.tmps.getD p undef=.pointer (some ⟨g,0,none⟩):=by rfl) (hp2:a.tmps.getD p2 undef=.pointer (some ⟨g2,0,none⟩):=by rfl)
 (hd:(match d with|.struct _|.array _ _=>true|_=>false)=true:=by rfl) (hd2:(match d2 with|.struct _|.array _ _=>true|_=>false)=true:=by rfl) (hi:(Tryz.prog.info? ty).map (·.size)=some cs.size:=by kernel_rfl) (hi2:(Tryz.prog.info? ty2).map (·.size)=some cs2.size:=by kernel_rfl) (hf:a.defers=[]:=by rfl):bodyPost Tryz.prog fn R .ret a w:=by
 refine bodyPost_ret (v:=.tuple #[.agg cs,.agg cs2]) ?_ hf hR
 have hp':a.tmps[p]?.getD undef=.pointer (some ⟨g,0,none⟩):=by simpa using hp
 have hp2':a.tmps[p2]?.getD undef=.pointer (some ⟨g2,0,none⟩):=by simpa using hp2
 cases d<;>simp at hd<;>cases d2<;>simp at hd2<;>simp[results,h,hp',hp2',asAddr,run_loadVar_row w g t ty cs fr _ hg hu rfl hi,run_loadVar_row w g2 t2 ty2 cs2 fr2 _ hg2 hu2 rfl hi2]
theorem az.past {D:Nat→Prop} {a b c:World} (h:az D a b) (k:Below a.heap.size b c):az D a c:=
 ⟨k.os.trans h.os,k.tape.trans h.tape,k.output.trans h.output,Nat.le_trans h.size k.size,fun j hj hd=>(k.block j hj).trans (h.block j hj hd)⟩
def ze7 (B0:Nat) (b:bG) (w':World) (fv rv:Value):Prop:=(∃ss:List Txt,ss.Perm (strKeys (wrD b.wrote))∧w'.ownsRow B0 51 2 fv (eL b ss).length ((eL b ss).flatMap bL))∧w'.ownsRow B0 100 34 rv b.reads.length ((b.reads.map rdK).flatMap RdL.cells)
def fQ (B0:Nat) (b:bG) (w':World) (u v:Value):Prop:=
 if b.over=true then u=.agg (mB 0 []).toArray∧∃fv rv:Value,v=.agg (cT (jP b) b.why fv rv).toArray∧ze7 B0 b w' fv rv
 else u=.agg (mB 1 b.asks).toArray∧v=.agg (cT 0 0 rV rV).toArray
section
variable {B bb:Nat} {E:Nat→Prop} {env:List (Txt×Txt)} {y:ByL} {b:bG} {w:World}
theorem gB {w:World} {B e sz n:Nat} {v:Value} {xs:List Value} (h:w.ownsRow B e sz v n xs):v.oneCell'=true:=by
 obtain⟨a,c,rfl⟩:=ax h
 rfl
set_option maxHeartbeats 16000000 in
theorem zbN (h:ep B E bb env y b w) (hg:aM B w) (hf:uz y b) (hw:WOk y b) (hok:bW b.run) (hy:y.env=bH env) (hev:∀x∈env,x.2.length≤1000000000000000) (ho:y.outs.length≤2000000) (hol:∀p∈y.outs,p.length≤1000000000)
 (nf:Nat) (caps:Array Value) (eg:∀args w,(callFunc nf args).run Tryz.prog w=.ok (.enter nf args) w) (ans:Txt→Option KnL) (hans:zdC E nf caps ans w) (hak:∀p k,ans p=some k→k.path=p∧k.data.length≤65536):
 Calls Tryz.prog 58 #[.pointer (some ⟨bb,0,none⟩),.func (.func nf) #[] caps] w fun e w'=>(∃u v,e=.returned (.tuple #[u,v])∧fQ w.heap.size (pi (iw y ans) b) w' u v)∧az E w w':=by
 have HB:=hid h
 have HG:=hid hg
 have HI:=hid (And.intro hf (And.intro hw hok))
 have HA:=hid hans
 clear h hg hf hw hok hans
 go_enter Tryz.func58,Tryz.ntmps58
 go_upto_block 0 with first|(refine iK zaY ?_;intro z4 Wa hz4 hb4 hn4 hs4;have HS4:=hid hs4;clear hs4)|(refine iK dX ?_;intro z5 W0 hz5 hb5 hn5 hs5;have HS5:=hid hs5;clear hs5)
 try simp only[Act.put,sA,sB,sC]
 have HB0:=hid (Below.chain hb4 hb5)
 have hn40:=(hb5.block _ (lx (hid hn4))).trans hn4
 have hs4:=HS4.out
 have hs5:=HS5.out
 generalize Wa.heap.size=q5 at *
 have HN4:=hid hn40
 have HN5:=hid hn5
 clear hb4 hb5 hn4 hn40 hn5 HS4 HS5
 have HQ:=hid (And.intro hs4 hs5)
 clear hs4 hs5
 go_wp2_with fail
 go_loopg [] (501-b.reads.length) (fun gk wr=>∃(b1:bG) (E1:Nat→Prop),gk=501-b1.reads.length∧bY (iw y ans) b b1∧(uz y b1∧WOk y b1∧bW b1.run)∧(∀j,E1 j→E j∨W0.heap.size≤j)∧az E W0 wr∧ep B E1 bb env y b1 wr∧aM B wr)
 case atStart=>exact⟨b,E,rfl,.refl _,HI.out,fun j e=>.inl e,az.refl _ _,HB.out.below HB0.out,HG.out.below HB0.out⟩
 case round=>
  obtain⟨b1,E1,rfl,hst,hinv,hE1,hfo,hbx,hgl⟩:=hrel
  obtain⟨D1,g,wm,ov,mv,rv,hB⟩:=hbx
  have hq:=HQ.out
  have hEl:=HB.out.db
  have hn4r:wr.heap[w.heap.size]?=some (.cells z4 93 (0,0)):=(hfo.block w.heap.size (by omega) (fun e=>by have:=(hEl _ e).2;omega)).trans HN4.out
  have hn5r:wr.heap[q5]?=some (.cells z5 82 (0,0)):=(hfo.block q5 (by omega) (fun e=>by have:=(hEl _ e).2;omega)).trans HN5.out
  have hfw:az E w wr:=(az.of_below HB0.out).chain hfo
  have HK:=hid (zC hB)
  have HX:=hid hB
  have HST:=hid hst
  have HINV:=hid hinv
  have HGL:=hid hgl
  have HEF:=hid (And.intro hE1 (And.intro hfo hfw))
  have HN4r:=hid hn4r
  have HN5r:=hid hn5r
  clear hB hst hinv hgl hE1 hfo hfw hq hEl hn4r hn5r
  cases hov:b1.over with
  |true=>
   rw[if_pos hov] at HK
   have hend:pi (iw y ans) b=b1:=fw HST.out (by unfold iw;rw[if_pos hov])
   have HE:=hid hend
   have HO:=hid (un HX.out hov (by have:=HINV.out.2.2.kl;rw[HINV.out.1.kn] at this;omega) (by have:=HINV.out.2.1.len;omega) (fun x hx=>hol _ (HINV.out.2.1.sub x hx)))
   have HOV:=hid hov
   clear hend hov
   go_upto_region 4 with first|(go_at_call 106;refine HK.out.mono ?_;rintro e Wk ⟨rfl,hwk⟩;rw[hwk];clear hwk Wk)|(go_at_call 107;refine HO.out.mono ?_;rintro e W2 ⟨⟨fv,rv',ss,rfl,hpm,hfr,hrr⟩,hb2⟩;have HRO:=hid (And.intro hpm (And.intro hfr (And.intro hrr hb2)));have HOC:=hid (dR (jP b1) b1.why fv rv' (gB hfr) (gB hrr));clear hpm hfr hrr hb2)|(refine eB (xs:=(cT (jP b1) b1.why fv rv').toArray) dX rfl HOC.out ?_;intro W3 hb3 hn3 hs3)
   have HB3:=hid hb3
   have HN3:=hid hn3
   have HLT:=hid (show w.heap.size<wr.heap.size∧q5<wr.heap.size∧wr.heap.size≤W2.heap.size∧w.heap.size≤wr.heap.size from⟨lx HN4r,lx HN5r,HRO.out.2.2.2.size,by have:=lx HN4r;omega⟩)
   have hm4:=(hb3.block w.heap.size (by have:=HLT.out;omega)).trans ((HRO.out.2.2.2.block _ (lx HN4r)).trans HN4r.out)
   have hm5:=(hb3.block q5 (by have:=HLT.out;omega)).trans ((HRO.out.2.2.2.block _ (lx HN5r)).trans HN5r.out)
   clear hb3 hn3 hs3
   refine aG (fun W=>W.heap[W2.heap.size]?=some (.cells (cT (jP b1) b1.why fv rv').toArray 82 (0,0))) 3 (by kernel_rfl) ?_
   intro wd hwd
   have hS0:wd.heap[W2.heap.size]?=some (.cells (cT (jP b1) b1.why fv rv').toArray 82 (0,0)):=(hwd.block _ (lx HN3)).trans HN3.out
   refine zfq 0 (some 24) (hi:=rfl) (.inr hS0) ?_
   apply Exists.intro
   refine⟨fun W=>?_,?_⟩
   ·go_simp
    try rfl
   try simp only[Act.put,sA,sB,sC]
   refine WL.ld 1 (some 25) dX (fun W hW=>af hW) rfl (hi:=rfl) hS0 ?_
   try simp only[Act.put,sA,sB,sC]
   have hmd4:=(hwd.block _ (lx (hid hm4))).trans hm4
   have hmd5:=(hwd.block _ (lx (hid hm5))).trans hm5
   refine WL.o 2 (hi:=rfl) ?_
   intro K hK
   refine nG (xs:=(mB 0 []).toArray) zaY hmd4 hz4 rfl (oq _ _) ?_
   intro W5 ht5 hn5 hs5
   have hne:W2.heap.size≠w.heap.size∧q5≠w.heap.size∧W2.heap.size≠q5:=by have:=HLT.out;have:=HQ.out;omega
   refine hK.out _ _ (.inr ((ht5.foot.block _ (lx (hid hS0)) hne.1).trans hS0)) ?_
   clear hK K
   try simp only[Act.put,sA]
   have hme5:=(ht5.foot.block q5 (lx (hid hmd5)) hne.2.1).trans hmd5
   refine WL.o 3 (hi:=rfl) ?_
   intro K hK
   refine nG (xs:=(cT (jP b1) b1.why fv rv').toArray) dX hme5 hz5 rfl HOC.out ?_
   intro W6 ht6 hn6 hs6
   refine hK.out _ _ (.inl (by kernel_rfl)) ?_
   clear hK K
   try simp only[Act.put]
   refine WL.d ?_
   have hn56:=(ht6.foot.block w.heap.size (lx (hid hn5)) hne.2.1.symm).trans hn5
   have H6:=hid (And.intro hn56 (And.intro hn6 (And.intro hwd (And.intro ht5 (And.intro ht6 hne)))))
   clear hn56 hn6 hwd ht5 ht6 hne hme5 hmd4 hmd5 hS0 hm4 hm5 hs5 hs6 hn5
   go_wp2_with fail
   obtain⟨hn4,hn5,hwd,ht5,ht6,hne⟩:=H6.out
   obtain⟨hpm,hfr,hrr,hb2⟩:=HRO.out
   obtain⟨hE1,hfo,hfw⟩:=HEF.out
   have aH:=HLT.out
   have hall:∀{e sz n:Nat} {v:Value} {xs:List Value},W2.ownsRow wr.heap.size e sz v n xs→W6.ownsRow w.heap.size e sz v n xs:=fun{e sz n v xs} h=>aK (aJ h fun j hj=>by
    have hj2:=h.lt j hj
    exact(ht6.foot.block j (by have:=HB3.out.size;have:=hwd.size;have:=ht5.foot.size;omega) (by omega)).trans ((ht5.foot.block j (by have:=HB3.out.size;have:=hwd.size;omega) (by omega)).trans ((hwd.block j (by have:=HB3.out.size;omega)).trans (HB3.out.block j hj2.2)))) aH.2.2.2
   refine zfc Tryz.underlying93 Tryz.underlying82 _ _ hn4 hn5 ?_ (hi:=by kernel_rfl) (hi2:=by kernel_rfl)
   refine⟨⟨_,_,rfl,?_⟩,?_⟩
   ·unfold fQ
    rw[HE.out,if_pos HOV.out]
    exact⟨rfl,fv,rv',rfl,⟨ss,hpm,hall hfr⟩,hall hrr⟩
   ·exact((hfw.past (hb2.mono aH.2.2.2)).past (HB3.out.mono (by omega))).past ((hwd.mono (by have:=HB3.out.size;omega)).trans ((ht5.below (Nat.le_refl _)).trans (ht6.below (by have:=HQ.out;omega))))
  |false=>
   rw[if_neg (by rw[hov];decide)] at HK
   have HQA:=hid (HA.out wr HEF.out.2.2 b1.asks)
   have HOV:=hid hov
   have HLT:=hid (show w.heap.size<wr.heap.size∧q5<wr.heap.size from⟨lx HN4r,lx HN5r⟩)
   clear hov
   cases hq:ans b1.asks with
   |none=>
    have hend:pi (iw y ans) b=b1:=fw HST.out (by unfold iw;rw[if_neg (by rw[HOV.out];decide),hq];rfl)
    have HE:=hid hend
    rw[hq] at HQA
    clear hend hq
    go_upto_region 7 with first|(go_at_call 106;refine HK.out.mono ?_;rintro e Wk ⟨rfl,hwk⟩;rw[hwk];clear hwk Wk)|(refine HQA.out.mono ?_;rintro e W2 ⟨⟨z,rfl, -⟩,hb2⟩)|(refine eB (xs:=(knC z).toArray) iC rfl (sn _) ?_;intro W3 hb3 hn3 hs3)
    have hb23:=Below.chain hb2 hb3
    have hm4:=(hb23.block _ (lx HN4r)).trans HN4r.out
    have hm5:=(hb23.block _ (lx HN5r)).trans HN5r.out
    have HB23:=hid hb23
    have HM5:=hid hm5
    clear hb2 hb3 hn3 hs3 hb23 hm5
    go_wp2_with first|(refine fp (xs:=(mB 1 b1.asks).toArray) zaY hm4 hz4 rfl (oq _ _) ?_;intro W5 ht5 hn5 hs5;have HT5:=hid (And.intro ht5 hn5);clear ht5 hn5 hs5;have hm5:=(HT5.out.1.foot.block q5 (lx HM5) (by have:=HQ.out;omega)).trans HM5.out)|(refine fp (xs:=(cT 0 0 rV rV).toArray) dX hm5 hz5 rfl (dR _ _ _ _ rfl rfl) ?_;intro W6 ht6 hn6 hs6)
    have hq:=HQ.out
    obtain⟨ht5,hn5⟩:=HT5.out
    obtain⟨hE1,hfo,hfw⟩:=HEF.out
    have aH:=HLT.out
    have hn56:=(ht6.foot.block w.heap.size (lx (hid hn5)) (by omega)).trans hn5
    refine zfc Tryz.underlying93 Tryz.underlying82 _ _ hn56 hn6 ?_ (hi:=by kernel_rfl) (hi2:=by kernel_rfl)
    refine⟨⟨_,_,rfl,?_⟩,?_⟩
    ·unfold fQ
     rw[HE.out,if_neg (by rw[HOV.out];decide)]
     exact⟨rfl,rfl⟩
    ·exact(hfw.past (HB23.out.mono (by omega))).past ((ht5.below (Nat.le_refl _)).trans (ht6.below (by omega)))
   |some k=>
    have HSF:=hid (show iw y ans b1=some (fY y b1 k) by unfold iw;rw[if_neg (by rw[HOV.out];decide),hq];rfl)
    have HAK:=hid (hak _ _ hq)
    rw[hq] at HQA
    clear hq
    go_upto_region 6 with first|(go_at_call 106;refine HK.out.mono ?_;rintro e Wk ⟨rfl,hwk⟩;rw[hwk];clear hwk Wk)|(refine HQA.out.mono ?_;rintro e W2 ⟨⟨z,rfl,hz⟩,hb2⟩;obtain rfl:=hz k rfl)|(refine eB (xs:=(knC z).toArray) iC rfl (sn _) ?_;intro W3 hb3 hn3 hs3)
    try simp only[Act.put,sA,sB,sC]
    have hb23:=Below.chain hb2 hb3
    obtain⟨hE1,hfo,hfw⟩:=HEF.out
    have HBX:=hid ((show ep B E1 bb env y b1 wr from⟨_,_,_,_,_,_,HX.out⟩).below hb23)
    have HGV:=hid (yU HBX.out (HGL.out.below hb23) HINV.out.1 HOV.out HINV.out.2.2 hy hev ho z HAK.out.1 HAK.out.2)
    have r3:=af hn3
    have HB23:=hid hb23
    clear hb2 hb3 hn3 hs3 hb23 hE1 hfo hfw hz
    go_wp2_with first|(refine bC iC r3 (zdO _) ?_)|(go_at_call 108;refine HGV.out.mono ?_;rintro e W4 ⟨rfl,hrk,hgo⟩)
    obtain⟨h1,h2⟩:=xI y b1 z HINV.out.1 HOV.out
    have h3:=(HINV.out.1.ask HOV.out).2.2.2.1
    rw[HINV.out.1.kn] at h3
    have h4:(fY y b1 z).reads.length=b1.reads.length+1:=by rw[h2,List.length_append];rfl
    obtain⟨hE1,hfo,hfw⟩:=HEF.out
    obtain⟨E4,hE4,hf4,hb4⟩:=hgo
    have hf3:az E1 wr W4:=(az.of_below HB23.out).chain hf4
    have hz1:=hfo.size
    have hz2:=HB23.out.size
    go_roundg (501-(fY y b1 z).reads.length)
    case measure=>omega
    case rel=>
     refine⟨fY y b1 z,E4,rfl,HST.out.tail HSF.out,⟨h1,yW z HINV.out.1 HOV.out HINV.out.2.1,hrk⟩,fun j e=>?_,hfo.trans hf3 fun j hj e=>?_,hb4,?_⟩
     ·rcases hE4 j e with e|e
      ·exact hE1 j e
      ·exact .inr (by omega)
     ·rcases hE1 j e with e|e
      ·exact e
      ·omega
     ·exact HGL.out.go hf3 fun j e=>(HX.out.db j e).1
end
theorem fQ.form {B0:Nat} {b:bG} {w:World} {u v:Value} (h:fQ B0 b w u v):∃(k:Int) (p:Txt) (q r:Int) (fv rv:Value),u=.agg (mB k p).toArray∧v=.agg (cT q r fv rv).toArray∧fv.oneCell'=true∧rv.oneCell'=true:=by
 unfold fQ at h
 split at h
 ·obtain⟨h1,fv,rv,h2,⟨ss, -,h3⟩,h4⟩:=h
  exact⟨_,_,_,_,fv,rv,h1,h2,gB h3,gB h4⟩
 ·exact⟨_,_,_,_,rV,rV,h.1,h.2,rfl,rfl⟩
theorem fQ.keep {B0 B1:Nat} {b:bG} {w w2:World} {u v:Value} (h:fQ B0 b w u v) (hB:B1≤B0) (hk:∀k,B0≤k→k<w.heap.size→w2.heap[k]?=w.heap[k]?):fQ B1 b w2 u v:=by
 unfold fQ at h ⊢
 split at h
 ·rename_i ho
  rw[if_pos ho]
  obtain⟨h1,fv,rv,h2,⟨ss,h5,h3⟩,h4⟩:=h
  exact⟨h1,fv,rv,h2,⟨ss,h5,aK (aJ h3 fun j hj=>hk j (h3.lt j hj).1 (h3.lt j hj).2) hB⟩,aK (aJ h4 fun j hj=>hk j (h4.lt j hj).1 (h4.lt j hj).2) hB⟩
 ·rename_i ho
  rw[if_neg ho]
  exact h
theorem zcL {fs:List (Txt×Txt)} {v:Value} {c:Nat} {E:Nat→Prop} {w0 w:World} (hc:w0.cell? ⟨c,0,none⟩=some v) (h:aE w0 2 bL v fs) (hl:fs.length≤2000000) (hb:Below w0.heap.size w0 w) (hE:∀j,E j→w0.heap.size≤j):
 zdC E 59 #[.pointer (some ⟨c,0,none⟩)] (fun p=>some (fo fs p)) w:=fun W hW p=>by
 have hbw:Below w0.heap.size w0 W:=hb.trans (hW.below hb.size hE)
 refine(zbO fs v c p W (Below.keeps hbw hc) (h.below hbw (Nat.le_refl _)) hl).mono ?_
 rintro e w2 ⟨rfl,hb2⟩
 exact⟨⟨_,rfl,fun k hk=>Option.some.inj hk⟩,hb2⟩
theorem zH {x:fW} (hs:dU x):(∀z∈x.env,z.2.length≤1000000000000000):=fun z hz=>by have:=hs.el z hz;omega
set_option maxHeartbeats 8000000 in
theorem zbm (x:dW) (fv:Value) (fs:List (Txt×Txt)) (w:World) (hx:fe w x) (hs:dU x.l) (ht:x.l.tool.length≤1000000) (hm:bE w) (hp:eG w) (l:List bS) (htl:cJ x.l.tool=.ok l)
 (hf:aE w 2 bL fv fs) (hl:fs.length≤2000000) (hlong:fs.any (fun x=>(decide (65536<x.2.length)))=false) (hak:∀p k,(fun p=>some (fo fs p)) p=some k→k.path=p∧k.data.length≤65536):
 Calls Tryz.prog 26 #[.agg x.cells.toArray,fv] w fun e w'=>(∃u v,e=.returned (.tuple #[v,.int .i64 0])∧fQ w.heap.size (iT (byA x.l) (fun p=>some (fo fs p)) l) w' u v)∧Below w.heap.size w w':=by
 have HX:=hid hx
 have HM:=hid (And.intro hm hp)
 have HF:=hid hf
 have HLEN:=hid (show x.cells.length=7 from rfl)
 clear hx hm hp hf
 obtain⟨fa,fc,rfl, -, -, -, -⟩:=HF.out.out (fun x=>bF _) (by omega)
 go_enter Tryz.func26,Tryz.ntmps26
 go_upto_region 1 with first|(refine cI dc ?_;intro W1 hb1 hn1 hs1;have HS1:=hid hs1;clear hs1)|(refine iK dX ?_;intro z5 W3 hz5 hb5 hn5 hs5;have HS5:=hid hs5;clear hs5)
 try simp only[Act.put,sA,sB,sC]
 have hb2:=ab W1 (.cells #[.slice fa fs.length fc] 48)
 have hn2:=heap_alloc_new W1 (.cells #[.slice fa fs.length fc] 48)
 have hz2:(W1.alloc (.cells #[.slice fa fs.length fc] 48)).heap.size=W1.heap.size+1:=World.size_alloc _ _
 generalize W1.alloc (.cells #[.slice fa fs.length fc] 48)=Wb at *
 have hb23:=hb5
 have hnw5:=hn5
 rw[hz2] at hnw5
 have hzq:=HS5.out
 rw[hz2] at hzq
 have HN5:=hid hnw5
 clear hb5 hn5 HS5 hnw5
 have hs1:=HS1.out
 have HB3:=hid (Below.chain hb1 (Below.chain hb2 hb23))
 have r1:=ac (Below.chain hb2 hb23) (af hn1)
 have kc:W3.cell? ⟨W1.heap.size,0,none⟩=some (.slice fa fs.length fc):=Below.keeps hb23 ((cell_of_row _ _ 0 _ _ _ hn2).trans rfl)
 generalize W1.heap.size=q3 at *
 have HI:=hid (zby (.slice fa fs.length fc) fs 56 #[] (enters_of Tryz.func56 (by kernel_rfl) rfl) (fun x=>(decide (65536<x.2.length))) W3 (HF.out.below HB3.out (Nat.le_refl _)) hl fun W hW z hz=>yQ z W)
 rw[hlong] at HI
 have HBG:=hid (fun(W:World) (hb:Below w.heap.size w W)=>vn x W (HX.out.below hb) hs ht (HM.out.1.below hb) (HM.out.2.below hb) l htl)
 have HZ:=hid (And.intro hs1 hzq)
 clear hb1 hn1 hb2 hn2 hz2 hb23 HS1 hs1 hzq
 go_upto_region 2 with(go_at_call 55;refine HI.out.mono ?_;rintro e W4 ⟨rfl,hb4⟩)
 have r1:=ac hb4 r1
 have HB4:=hid (Below.chain HB3.out hb4)
 have HB34:=hid hb4
 have KC:=hid kc
 clear hb4 kc
 go_upto_region 5 with first|(refine bC dc r1 HLEN.out ?_)|(go_at_call 57;refine(HBG.out _ HB4.out).mono ?_;rintro e W5 ⟨⟨bb,B,E,rfl,hB,hbx,hrk⟩,hb5⟩;have HR:=hid (And.intro hB (And.intro hbx (And.intro hrk hb5)));clear hB hbx hrk hb5)
 obtain⟨hB,hbx,hrk,hb5⟩:=HR.out
 have hEB:∀j,E j→W4.heap.size≤j:=fun j e=>Nat.le_trans hB (hbx.db j e).1
 have HGO:=hid (zbN hbx (show aM B W5 from⟨w,by have:=HB4.out.size;omega,HM.out.1,HM.out.2,Below.chain HB4.out hb5⟩) (zbe _ _).1 (zas _ _ (rI htl).1) hrk rfl (zH hs) (by show x.l.outs.length≤_;have:=hs.outs;omega) (fun p hp=>by have:=hs.ol p hp;omega) 59 #[.pointer (some ⟨q3,0,none⟩)] (enters_of Tryz.func59 (by kernel_rfl) rfl) (fun p=>some (fo fs p)) (zcL KC.out (HF.out.below HB3.out (Nat.le_refl _)) hl (Below.chain HB34.out hb5) fun j e=>by have:=hEB j e;have:=HB34.out.size;omega) hak)
 have HEB:=hid (And.intro hEB hb5)
 clear hB hbx hrk hb5 hEB
 go_upto_region 6 with first|(go_at_call 58;refine HGO.out.mono ?_;rintro e W6 ⟨⟨u,v,rfl,im⟩,hf6⟩;obtain⟨ka,pa,qa,ra,fva,rva,rfl,rfl,o1,o2⟩:=im.form;have HRT:=hid (And.intro im hf6);have HOC:=hid (dR qa ra fva rva o1 o2);clear im hf6 o1 o2)|(refine iK zaY ?_;intro z9 W7 hz9 hb7 hn7 hs7;have HS7:=hid hs7;clear hs7)|(refine iK dX ?_;intro z10 W8 hz10 hb8 hn8 hs8;have HS8:=hid hs8;clear hs8;have hn78:=(hb8.block _ (lx (hid hn7))).trans hn7)|(refine fp (xs:=(mB ka pa).toArray) zaY hn78 hz9 rfl (oq _ _) ?_;intro W9 ht9 hn9 hs9;have hn89:=(ht9.foot.block W7.heap.size (lx (hid hn8)) (by have:=HS7.out;omega)).trans hn8;clear hs9)|(refine fp (xs:=(cT qa ra fva rva).toArray) dX hn89 hz10 rfl HOC.out ?_;intro W10 ht10 hn10 hs10;clear hs10)
 try simp only[Act.put,sA,sB,sC]
 obtain⟨hEB,hb5⟩:=HEB.out
 obtain⟨im,hf6⟩:=HRT.out
 have hb6:=hf6.below hb5.size hEB
 have hne:W7.heap.size≠W6.heap.size:=by have:=HS7.out;omega
 have hz7:=hb7.size
 have hb610:Below W6.heap.size W6 W10:=(hb7.trans (hb8.mono hb7.size)).trans ((ht9.below (Nat.le_refl _)).trans (ht10.below hb7.size))
 have hb410:Below W4.heap.size W4 W10:=(hb5.trans hb6).trans (hb610.mono (by have:=hb5.size;have:=hf6.size;omega))
 have hb310:Below W3.heap.size W3 W10:=HB34.out.trans (hb410.mono HB34.out.size)
 have hrt10:=fQ.keep (w2:=W10) (B1:=W5.heap.size) im (Nat.le_refl _) fun k hk1 hk2=>hb610.block k hk2
 have hzz:=HZ.out
 have h34:=HB34.out.size
 have h45:=hb5.size
 have H10:=hid (And.intro hrt10 (And.intro hb310 (And.intro hzz (And.intro h34 h45))))
 clear HRT HGO HEB hb7 hb8 hn7 hn8 hn78 hn89
 have hm5:=(hb310.block _ (lx HN5)).trans HN5.out
 clear im hf6 hb6 hb5 hEB hb610 hb410 hb310 hrt10 hz7 hne hzz h34 h45 ht9 ht10 hn9
 go_wp2_with first|(refine bC dX (af hn10) rfl ?_)|(refine fp (xs:=(cT qa ra fva rva).toArray) dX hm5 hz5 rfl HOC.out ?_;intro W11 ht11 hn11 hs11;clear hs11)
 obtain⟨hrt10,hb310,hzz,h34,h45⟩:=H10.out
 refine br2 Tryz.underlying82 _ hn11 ?_ (hi:=by kernel_rfl)
 refine⟨⟨_,_,rfl,fQ.keep hrt10 (by omega) fun k hk1 hk2=>ht11.foot.block k hk2 (by omega)⟩,(HB3.out.trans (hb310.mono (by omega))).trans (ht11.below (by omega))⟩
theorem zaW:cY 75 4:=⟨_,Tryz.underlying75,rfl,by kernel_rfl⟩
def qH (fv av:Value):List Value:=[fv,av,rV,.bool false]
theorem fi (x:dW):x.cells.length=7:=rfl
set_option maxHeartbeats 8000000 in
theorem yp (x:dW) (fs:List (Txt×Txt)) (fv av:Value) (w:World) (hf:aE w 2 bL fv fs) (ha:aE w 7 dW.cells av [x]) (hx:fe w x) (hs:dU x.l) (ht:x.l.tool.length≤1500000) (hl:fs.length≤1500000) (hfl:∀f∈fs,f.1.length≤1500000∧f.2.length≤1500000):
 Calls Tryz.prog 21 #[.agg (qH fv av).toArray] w fun e w'=>(∃q,e=.returned (.bool q)∧(q=false→x.l.tool.length≤8000∧x.l.env.length+x.l.ins.length+x.l.asks.length+x.l.outs.length≤120))∧Below w.heap.size w w':=by
 obtain⟨a,c,rfl,hc,hm, -,hxf⟩:=hf.out bF (by omega)
 obtain⟨a2,c2,rfl,hc2,hm2, -,hx2⟩:=ha.out fi (by omega)
 obtain⟨ae,ce,hev, -⟩:=aE.out (sz:=2) (f:=fg) (fun _=>rfl) (by omega) hx.env
 obtain⟨ai,ci,hiv, -⟩:=hx.ins.out
 obtain⟨aa,ca,hav, -⟩:=hx.asks.out
 obtain⟨ao,co,hov, -⟩:=hx.outs.out
 obtain⟨b2,o2,rfl,hb2,hcl2⟩:=hx2 0 (by simp)
 have R2:=hid (hcl2 0 (by simp))
 have HXF:=hid hxf
 have HONE:=hid (show ∀u∈x.cells,u.oneCell'=true by
  intro u hu
  simp only[dW.cells,hev,hiv,hav,hov,List.mem_cons,List.not_mem_nil,or_false] at hu
  rcases hu with rfl|rfl|rfl|rfl|rfl|rfl|rfl<;>rfl)
 clear hf ha hx hxf hx2 hcl2
 go_enter Tryz.func21,Tryz.ntmps21
 go_upto_region 1 with(refine cI zaW ?_;intro W1 hb1 hn1 hs1)
 have k0:W1.cell? ⟨w.heap.size,0,none⟩=some (.slice a fs.length c):=(cell_of_row _ _ 0 _ _ _ hn1).trans rfl
 have k1:W1.cell? ⟨w.heap.size,1,none⟩=some (.slice (some ⟨b2,o2,none⟩) 1 c2):=(cell_of_row _ _ 1 _ _ _ hn1).trans rfl
 have k2:W1.cell? ⟨w.heap.size,2,none⟩=some (.slice none 0 0):=(cell_of_row _ _ 2 _ _ _ hn1).trans rfl
 have HB:=hid hb1
 clear hb1 hn1 hs1
 have HK1:=hid k1
 have HK2:=hid k2
 clear k1 k2
 go_wp2_with fail
 go_loopw [3,11] (fun s i wr=>∃(k n:Nat),k≤fs.length∧i=.int .i64 k∧s=.int .i64 n∧n≤k*50000∧Below W1.heap.size W1 wr) (fun _ i _=>fs.length-(intOf i).toNat)
 case atStart=>exact⟨0,0,Nat.zero_le _,rfl,rfl,Nat.zero_le _,Below.refl _ _⟩
 case round=>
  obtain⟨k,n,hk,rfl,rfl,hn,hbe⟩:=hrel
  by_cases aH:k<fs.length
  ·obtain⟨b0,o0,rfl,hb0,hcl0⟩:=HXF.out k aH
   have L0:=ac (Below.chain HB.out hbe) (hcl0 k aH)
   obtain⟨hp,hd⟩:=hfl fs[k] (List.getElem_mem aH)
   generalize fs[k]=f at *
   have HBE:=hid hbe
   clear hcl0 hbe
   go_upto_region 5 with first|(refine bC tb L0 (bF _) ?_)|(refine eB (xs:=(bL f).toArray) tb rfl (ug _) ?_;intro W3 hb3 hn3 hs3)
   have f0:W3.cell? ⟨wr.heap.size,0,none⟩=some (.string (bs f.1)):=(cell_of_row _ _ 0 _ _ _ hn3).trans rfl
   have f1:W3.cell? ⟨wr.heap.size,1,none⟩=some (.string (bs f.2)):=(cell_of_row _ _ 1 _ _ _ hn3).trans rfl
   have HB3:=hid (Below.chain HBE.out hb3)
   clear hb3 hn3 hs3
   go_wp2_with fail
   exact⟨⟨k+1,n+(1+(f.1.length+f.2.length)/64),by omega,by go_num,by simp only[Value.int.injEq,true_and];omega,by omega,HB3.out⟩,by simp[intOf];omega⟩
  ·obtain rfl:k=fs.length:=by omega
   have HBE:=hid hbe
   have k1:=Below.keeps hbe HK1.out
   have R3:=ac (Below.chain HB.out hbe) R2.out
   have k2:=Below.keeps hbe HK2.out
   clear hbe
   go_wp2_with fail
   have R3:=hid R3
   have K1:=hid k1
   have K2:=hid k2
   clear k1 k2
   generalize wr=w1 at *
   go_loopw [3,30] (fun s i wq=>∃(k m:Nat),k≤1∧i=.int .i64 k∧s=.int .i64 m∧m≤10000000000000+k*10000000000∧(k=1→x.l.env.length+x.l.ins.length+x.l.asks.length+x.l.outs.length+x.l.tool.length/64≤m)∧Below w1.heap.size w1 wq) (fun _ i _=>1-(intOf i).toNat)
   case atStart=>exact⟨0,n,by omega,rfl,rfl,by omega,fun e=>by omega,Below.refl _ _⟩
   case round=>
    obtain⟨k,m,hk,rfl,rfl,hm3,hmt,hbq⟩:=hrel
    by_cases aH:k<1
    ·obtain rfl:k=0:=by omega
     have L0:wr.rangeAt b2 (o2+0*7) x.cells:=ac hbq R3.out
     have HBQ:=hid hbq
     clear hbq
     go_upto_region 10 with first|(refine bC dc L0 (fi _) ?_)|(refine eB (xs:=x.cells.toArray) dc rfl HONE.out ?_;intro W3 hb3 hn3 hs3)
     have g2:W3.cell? ⟨wr.heap.size,2,none⟩=some (.string (bs x.l.tool)):=(cell_of_row _ _ 2 _ _ _ hn3).trans rfl
     have g3:W3.cell? ⟨wr.heap.size,3,none⟩=some (.slice ae x.l.env.length ce):=(cell_of_row _ _ 3 _ _ _ hn3).trans (congrArg some hev)
     have g4:W3.cell? ⟨wr.heap.size,4,none⟩=some (.slice ai x.l.ins.length ci):=(cell_of_row _ _ 4 _ _ _ hn3).trans (congrArg some hiv)
     have g5:W3.cell? ⟨wr.heap.size,5,none⟩=some (.slice aa x.l.asks.length ca):=(cell_of_row _ _ 5 _ _ _ hn3).trans (congrArg some hav)
     have g6:W3.cell? ⟨wr.heap.size,6,none⟩=some (.slice ao x.l.outs.length co):=(cell_of_row _ _ 6 _ _ _ hn3).trans (congrArg some hov)
     have HB3:=hid (Below.chain HBQ.out hb3)
     clear hb3 hn3 hs3
     have hse:=hs.env
     have hsi:=hs.ins
     have hsa:=hs.asks
     have hso:=hs.outs
     go_wp2_with fail
     exact⟨⟨1,m+(x.l.env.length+x.l.ins.length+x.l.asks.length+x.l.outs.length+x.l.tool.length/64),by omega,by go_num,by simp only[Value.int.injEq,true_and];omega,by omega,fun _=>by omega,HB3.out⟩,by simp[intOf]⟩
    ·obtain rfl:k=1:=by omega
     have HMT:=hid (hmt rfl)
     have k1:=Below.keeps hbq K1.out
     have k2:=Below.keeps hbq K2.out
     have HBQ:=hid (Below.chain HB.out (Below.chain HBE.out hbq))
     clear hbq hmt
     by_cases h120:m≤120
     ·have e1:decide ((120:Int)<m)=false:=decide_eq_false (by omega)
      go_wp2_with fail
      go_ret
      exact⟨⟨_,rfl,fun _=>by have:=HMT.out;exact⟨by omega,by omega⟩⟩,HBQ.out⟩
     ·have e1:decide ((120:Int)<m)=true:=decide_eq_true (by omega)
      go_wp2_with fail
      go_ret
      exact⟨⟨_,rfl,fun h=>by cases h⟩,HBQ.out⟩
end Go.Proofs.YtlbipokkdiiaiaaGreatDoor
