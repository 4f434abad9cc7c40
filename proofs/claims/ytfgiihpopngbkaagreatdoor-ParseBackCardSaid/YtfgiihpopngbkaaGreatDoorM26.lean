/- Lemmas and walks that the statement needs: ParseCatch, ParseRead, Print, AlivePlain. -/
import Derived.Test.YtfgiihpopngbkaaGreatDoorM06
import Derived.Recover
import Derived.Defers
import Derived.Test.YtfgiihpopngbkaaGreatDoorM25
import Derived.Test.YtfgiihpopngbkaaGreatDoorM12
import Derived.Test.YtfgiihpopngbkaaGreatDoorM16
namespace Go.Proofs.YtfgiihpopngbkaaGreatDoor
set_option maxRecDepth 100000
open Go.RowKit
open List renaming setIfInBounds_toArray→sA,set_cons_zero→sB,set_cons_succ→sC
open Nat renaming lt_of_lt_of_le→nL,le_trans→nT
abbrev wrong0:Value:=.agg #[.int .i64 0,.int .i64 0,.int .i64 0]
theorem as_nil (w:World):(Instr.typeAssert .nilIface 20 51 true).run Tryz.prog w=.ok (.tuple #[wrong0,.bool false]) w:=by kernel_rfl
theorem as_wrong (v:Value) (w:World):(Instr.typeAssert (.iface 51 v) 20 51 true).run Tryz.prog w=.ok (.tuple #[v,.bool true]) w:=by kernel_rfl
structure Three (a b c:Nat) (w w':World):Prop where
 os:w'.os=w.os
 tape:w'.tape=w.tape
 output:w'.output=w.output
 size:w.heap.size≤w'.heap.size
 block:∀ k,k<w.heap.size→k≠a→k≠b→k≠c→w'.heap[k]? = w.heap[k]?
theorem set_os (w:World) (p:Addr) (v:Value):(w.setCell p v).os=w.os:=rfl
theorem set_tape (w:World) (p:Addr) (v:Value):(w.setCell p v).tape=w.tape:=rfl
theorem set_output (w:World) (p:Addr) (v:Value):(w.setCell p v).output=w.output:=rfl
theorem set_size (w:World) (p:Addr) (v:Value):(w.setCell p v).heap.size=w.heap.size:=by simp [World.setCell]
theorem put1 {w:World} {z:Nat} {x0:Value} {T:TypeId} (h:w.heap[z]? = some (.cells #[x0] T (0,0))) (y0:Value) :
  ∃ W,W=(w.setCell ⟨z,0,none⟩ y0)∧W.heap[z]? = some (.cells #[y0] T (0,0))∧(∀ k,k≠z→W.heap[k]? = w.heap[k]?)∧W.heap.size=w.heap.size∧W.os=w.os∧W.tape=w.tape∧W.output=w.output :=
 ⟨_,rfl,heap_setCell_same _ _ 0 _ _ _ h,fun k hk=>by rw [heap_setCell_other _ _ _ _ hk],by rw [set_size],by rw [set_os],by rw [set_tape],by rw [set_output]⟩
theorem put2 {w:World} {z:Nat} {x0 x1:Value} {T:TypeId} (h:w.heap[z]? = some (.cells #[x0,x1] T (0,0))) (y0 y1:Value) :
  ∃ W,W=((w.setCell ⟨z,0,none⟩ y0).setCell ⟨z,1,none⟩ y1)∧W.heap[z]? = some (.cells #[y0,y1] T (0,0))∧(∀ k,k≠z→W.heap[k]? = w.heap[k]?)∧W.heap.size=w.heap.size∧W.os=w.os∧W.tape=w.tape∧W.output=w.output :=
 ⟨_,rfl,heap_setCell_same _ _ 1 _ _ _ (heap_setCell_same _ _ 0 _ _ _ h),fun k hk=>by rw [heap_setCell_other _ _ _ _ hk,heap_setCell_other _ _ _ _ hk],by rw [set_size,set_size],by rw [set_os,set_os],by rw [set_tape,set_tape],by rw [set_output,set_output]⟩
theorem put5 {w:World} {z:Nat} {x0 x1 x2 x3 x4:Value} {T:TypeId} (h:w.heap[z]? = some (.cells #[x0,x1,x2,x3,x4] T (0,0))) (y0 y1 y2 y3 y4:Value) :
  ∃ W,W=(((((w.setCell ⟨z,0,none⟩ y0).setCell ⟨z,1,none⟩ y1).setCell ⟨z,2,none⟩ y2).setCell ⟨z,3,none⟩ y3).setCell ⟨z,4,none⟩ y4)∧W.heap[z]? = some (.cells #[y0,y1,y2,y3,y4] T (0,0))∧(∀ k,k≠z→W.heap[k]? = w.heap[k]?)∧W.heap.size=w.heap.size∧W.os=w.os∧W.tape=w.tape∧W.output=w.output :=
 ⟨_,rfl,heap_setCell_same _ _ 4 _ _ _ (heap_setCell_same _ _ 3 _ _ _ (heap_setCell_same _ _ 2 _ _ _ (heap_setCell_same _ _ 1 _ _ _ (heap_setCell_same _ _ 0 _ _ _ h)))),fun k hk=>by rw [heap_setCell_other _ _ _ _ hk,heap_setCell_other _ _ _ _ hk,heap_setCell_other _ _ _ _ hk,heap_setCell_other _ _ _ _ hk,heap_setCell_other _ _ _ _ hk],by rw [set_size,set_size,set_size,set_size,set_size],by rw [set_os,set_os,set_os,set_os,set_os],by rw [set_tape,set_tape,set_tape,set_tape,set_tape],by rw [set_output,set_output,set_output,set_output,set_output]⟩
set_option maxHeartbeats 1000000 in
theorem catch_idle (zn ze zp:Nat) (w:World) :
  CallsD Tryz.prog 18 #[.pointer (some ⟨zn,0,none⟩),.pointer (some ⟨ze,0,none⟩),.pointer (some ⟨zp,0,none⟩)] .returning w fun e u' w' =>
   e=.returned (.tuple #[])∧u'=.returning∧Below w.heap.size w w':=by
 have ha:=as_nil;refine callsD_of_wpS Tryz.func18 rfl fun c₀ cs hu=>?_
 change Code.wpS _ _ _ { tmps:=#[.pointer (some ⟨zn,0,none⟩),.pointer (some ⟨ze,0,none⟩),.pointer (some ⟨zp,0,none⟩),undef,undef,undef,undef,undef,undef,undef,undef,undef,undef,undef,undef,undef,undef,undef,undef,undef,undef],defers:=[] } _ _;apply wpS_seq;apply wpS_region;simp [wpOpsS,go_sem,recoverD,hu,Exit.thenS];refine wpS_of_wp ?_;go_wp2_with fail;exact ⟨rfl,.returning,by rw [← hu],.tuple #[],by kernel_rfl,rfl,rfl,below_new w _⟩
set_option maxHeartbeats 4000000 in
theorem catch_wrong (zn ze zp:Nat) (e l c:Int) (n0 n1 n2 n3 n4 x a b:Value) (older:List PanicEntry) (w:World) (h1:zn≠ze) (h2:zn≠zp) (h3:ze≠zp)
  (rn:w.heap[zn]? = some (.cells #[n0,n1,n2,n3,n4] 27 (0,0))) (re:w.heap[ze]? = some (.cells #[x] 28 (0,0))) (rp:w.heap[zp]? = some (.cells #[a,b] 24 (0,0))) :
  CallsD Tryz.prog 18 #[.pointer (some ⟨zn,0,none⟩),.pointer (some ⟨ze,0,none⟩),.pointer (some ⟨zp,0,none⟩)] (.panicking ({ v:=.iface 51 (.agg #[.int .i64 e,.int .i64 l,.int .i64 c]),recovered:=false }::older)) w fun E u' w' =>
   E=.returned (.tuple #[])∧u'=.panicking ({ v:=.iface 51 (.agg #[.int .i64 e,.int .i64 l,.int .i64 c]),recovered:=true }::older) ∧
   w'.heap[zn]? = some (.cells #[.int .i64 0,.string ⟨#[]⟩,.int .i64 0,.int .i64 0,.slice none 0 0] 27 (0,0))∧w'.heap[ze]? = some (.cells #[.int .i64 e] 28 (0,0))∧w'.heap[zp]? = some (.cells #[.int .i64 l,.int .i64 c] 24 (0,0))∧Three zn ze zp w w':=by
 have ha:=as_wrong;obtain ⟨w1,hw,r_w,lt,hB⟩:∃ W,Hid (W=w.alloc (.cells #[.int .i64 e,.int .i64 l,.int .i64 c] 51))∧W.heap[w.heap.size]? = some (.cells #[.int .i64 e,.int .i64 l,.int .i64 c] 51 (0,0))∧w.heap.size<W.heap.size∧Below w.heap.size w W:=⟨_,hid rfl,heap_alloc_new w _,by rw [World.size_alloc];omega,below_new w _⟩;have hn:=(Array.getElem?_eq_some_iff.1 rn).1;have he:=(Array.getElem?_eq_some_iff.1 re).1;have hp:=(Array.getElem?_eq_some_iff.1 rp).1;have rn1:=hid ((hB.block _ hn).trans rn);have re1:=hid ((hB.block _ he).trans re);have rp1:=hid ((hB.block _ hp).trans rp);have HB:=hid hB;have HR:=hid r_w;clear rn re rp hB r_w;refine callsD_of_wpS Tryz.func18 rfl fun c₀ cs hu=>?_
 change Code.wpS _ _ _ { tmps:=#[.pointer (some ⟨zn,0,none⟩),.pointer (some ⟨ze,0,none⟩),.pointer (some ⟨zp,0,none⟩),undef,undef,undef,undef,undef,undef,undef,undef,undef,undef,undef,undef,undef,undef,undef,undef,undef,undef],defers:=[] } _ _;apply wpS_seq;apply wpS_region;simp [wpOpsS,go_sem,recoverD,hu,Exit.thenS];refine wpS_of_wp ?_;go_wp2_with fail;rw [← hw.out];clear hw;refine wp_region_wh (S:=fun W=>W.heap[w.heap.size]? = some (.cells #[.int .i64 e,.int .i64 l,.int .i64 c] 51 (0,0))) (by kernel_rfl) ?_;obtain ⟨w2,hw,hbb⟩:∃ W,Hid (W=w1.drew)∧Below w1.heap.size w1 W:=⟨_,hid rfl,Drawn.below ⟨1,rfl⟩⟩;rw [← hw.out];clear hw;have rn2:=(hbb.block _ (by omega)).trans rn1.out;have re2:=(hbb.block _ (by omega)).trans re1.out;have rp2:=(hbb.block _ (by omega)).trans rp1.out;have rw2:=(hbb.block _ lt).trans HR.out;obtain ⟨w3,e3,a3,o3,s3,t3⟩:=put5 rn2 (.int .i64 0) (.string ⟨#[]⟩) (.int .i64 0) (.int .i64 0) (.slice none 0 0);have re3:=(o3 ze (Ne.symm h1)).trans re2;have rp3:=(o3 zp (Ne.symm h2)).trans rp2;have rw3:=(o3 w.heap.size (by omega)).trans rw2;obtain ⟨w4,e4,a4,o4,s4,t4⟩:=put1 re3 (.int .i64 e);have rp4:=(o4 zp (Ne.symm h3)).trans rp3;have rw4:=(o4 w.heap.size (by omega)).trans rw3;have rn4:=(o4 zn h1).trans a3;obtain ⟨w5,e5,a5,o5,s5,t5⟩:=put2 rp4 (.int .i64 l) (.int .i64 c);have rw5:=(o5 w.heap.size (by omega)).trans rw4;have rn5:=(o5 zn h2).trans rn4;have re5:=(o5 ze h3).trans a4;have HT:=hid (show w5.heap[zn]? = some (.cells #[.int .i64 0,.string ⟨#[]⟩,.int .i64 0,.int .i64 0,.slice none 0 0] 27 (0,0))∧w5.heap[ze]? = some (.cells #[.int .i64 e] 28 (0,0))∧w5.heap[zp]? = some (.cells #[.int .i64 l,.int .i64 c] 24 (0,0))∧Three zn ze zp w w5 from
  ⟨rn5,re5,a5,t5.1.trans (t4.1.trans (t3.1.trans (hbb.os.trans HB.out.os))),t5.2.1.trans (t4.2.1.trans (t3.2.1.trans (hbb.tape.trans HB.out.tape))),t5.2.2.trans (t4.2.2.trans (t3.2.2.trans (hbb.output.trans HB.out.output))),
   by have:=hbb.size;have:=HB.out.size;omega,fun k hk k1 k2 k3=>(o5 k k3).trans ((o4 k k2).trans ((o3 k k1).trans ((hbb.block k (by have:=HB.out.size;omega)).trans (HB.out.block k hk))))⟩)
 have E3:=hid e3;have E4:=hid e4;have E5:=hid e5;have Rn2:=hid rn2;have Re3:=hid re3;have Rp4:=hid rp4;have S3:=hid rw3;have S4:=hid rw4;have S5:=hid rw5;have hS:=rw2;clear rn5 re5 a5 o5 s5 t5 e5 rw5 rn4 a4 o4 s4 t4 e4 rw4 rp4 a3 o3 s3 t3 e3 rw3 re3 rp3 rn2 re2 rp2 rw2 rn1 re1 rp1 HB HR hbb;refine WH.take 0 (some 13) rfl rfl (by kernel_rfl) (by kernel_rfl) (by kernel_rfl) (fun _ _ _ _ h=>h) hS ⟨.agg #[.int .i64 0,.string ⟨#[]⟩,.int .i64 0,.int .i64 0,.slice none 0 0],⟨by kernel_rfl,fun W _=>by kernel_rfl⟩,?_⟩;(try simp only [Act.put,sA,sB,sC]);refine WH.tk 1 (some 14) (.pointer (some ⟨w.heap.size,0,none⟩)) hS ?_;(try simp only [Act.put,sA,sB,sC]);refine WH.take 2 (some 15) rfl rfl (by kernel_rfl) (by kernel_rfl) (by kernel_rfl) (fun _ _ _ _ h=>h) hS ⟨.int .i64 e,⟨by kernel_rfl,fun W hW=>by have q:W.cell? ⟨w.heap.size,0,none⟩=some (.int .i64 e):=cell_of_row W _ 0 _ _ _ hW;go_simp⟩,?_⟩;(try simp only [Act.put,sA,sB,sC]);refine WH.tk 3 (some 16) (.pointer (some ⟨w.heap.size,1,none⟩)) hS ?_;(try simp only [Act.put,sA,sB,sC]);refine WH.take 4 (some 17) rfl rfl (by kernel_rfl) (by kernel_rfl) (by kernel_rfl) (fun _ _ _ _ h=>h) hS ⟨.agg #[.int .i64 l,.int .i64 c],⟨by kernel_rfl,fun W hW=>by have q:W.cell? ⟨w.heap.size,1,none⟩=some (.int .i64 l):=cell_of_row W _ 1 _ _ _ hW;have q2:W.cell? ⟨w.heap.size,2,none⟩=some (.int .i64 c):=cell_of_row W _ 2 _ _ _ hW;go_simp⟩,?_⟩;(try simp only [Act.put,sA,sB,sC]);have q0:=cell_of_row _ zn 0 _ _ _ Rn2.out;have f0:=frozen_of_row Rn2.out 0;have q1:=cell_of_row _ zn 1 _ _ _ Rn2.out;have f1:=frozen_of_row Rn2.out 1;have q2:=cell_of_row _ zn 2 _ _ _ Rn2.out;have f2:=frozen_of_row Rn2.out 2;have q3:=cell_of_row _ zn 3 _ _ _ Rn2.out;have f3:=frozen_of_row Rn2.out 3;have q4:=cell_of_row _ zn 4 _ _ _ Rn2.out;have f4:=frozen_of_row Rn2.out 4;refine WH.one 5 (by kernel_rfl) rfl (by kernel_rfl) ?_;intro K hK;go_simp;clear q0 f0 q1 f1 q2 f2 q3 f3 q4 f4;rw [← E3.out];refine hK.out _ _ S3.out ?_;clear hK K;(try simp only [Act.put,sA,sB,sC]);have q0:=cell_of_row _ ze 0 _ _ _ Re3.out;have f0:=frozen_of_row Re3.out 0;refine WH.one 6 (by kernel_rfl) rfl (by kernel_rfl) ?_;intro K hK;go_simp;clear q0 f0;rw [← E4.out];refine hK.out _ _ S4.out ?_;clear hK K;(try simp only [Act.put,sA,sB,sC]);have q0:=cell_of_row _ zp 0 _ _ _ Rp4.out;have f0:=frozen_of_row Rp4.out 0;have q1:=cell_of_row _ zp 1 _ _ _ Rp4.out;have f1:=frozen_of_row Rp4.out 1;refine WH.one 7 (by kernel_rfl) rfl (by kernel_rfl) ?_;intro K hK;go_simp;clear q0 f0 q1 f1;rw [← E5.out];refine hK.out _ _ S5.out ?_;clear hK K;(try simp only [Act.put,sA,sB,sC]);refine WH.done (by kernel_rfl) ?_;go_wp2_with fail;exact ⟨rfl,_,rfl,.tuple #[],by kernel_rfl,rfl,rfl,HT.out⟩
def readL (s:List UInt8):PR (List Nd):=if (allT s).2.1=0 then pStmts (advs (1,1) s) (10 * (allT s).1.length+20) false (allT s).1 0 else .bad (allT s).2.1 (allT s).2.2
def ReadRet (x:PR (List Nd)) (w:World) (E:Ending) (w':World):Prop :=
 Below w.heap.size w w'∧match x with
 | .ok a _=>∃ ks ad cap,E=.returned (.tuple #[nodeV 1 [] 1 1 (.slice ad ks.length cap),.int .i64 0,.agg #[.int .i64 0,.int .i64 0]])∧NM.are ks a∧HeldN (w.heap.size≤·) w' (.mk 1 [] 1 1 ks ad cap)
 | .bad er p=>E=.returned (.tuple #[nodeV 0 [] 0 0 (.slice none 0 0),.int .i64 (er:Int),.agg #[.int .i64 (p.1:Int),.int .i64 (p.2:Int)]])
 | .oof=>False
theorem read_results {w:World} {tmps:Array Value} {zn ze zp:Nat} {k l c:Int} {t:List UInt8} {sl:Value} {e p q:Int} (h2:tmps[2]?.getD undef=.pointer (some ⟨zn,0,none⟩)) (h3:tmps[3]?.getD undef=.pointer (some ⟨ze,0,none⟩)) (h4:tmps[4]?.getD undef=.pointer (some ⟨zp,0,none⟩))
  (rn:w.heap[zn]? = some (.cells #[.int .i64 k,.string (bs t),.int .i64 l,.int .i64 c,sl] 27 (0,0))) (re:w.heap[ze]? = some (.cells #[.int .i64 e] 28 (0,0))) (rp:w.heap[zp]? = some (.cells #[.int .i64 p,.int .i64 q] 24 (0,0))) :
  (results Tryz.f9 tmps).run Tryz.prog w=.ok (.tuple #[nodeV k t l c sl,.int .i64 e,.agg #[.int .i64 p,.int .i64 q]]) w:=by
 have a0:=cell_of_row w zn 0 _ _ _ rn;have a1:=cell_of_row w zn 1 _ _ _ rn;have a2:=cell_of_row w zn 2 _ _ _ rn;have a3:=cell_of_row w zn 3 _ _ _ rn;have a4:=cell_of_row w zn 4 _ _ _ rn;have b0:=cell_of_row w ze 0 _ _ _ re;have c0:=cell_of_row w zp 0 _ _ _ rp;have c1:=cell_of_row w zp 1 _ _ _ rp;simp [results,Tryz.f9,go_sem,h2,h3,h4,a0,a1,a2,a3,a4,b0,c0,c1]
theorem res_put (tmps:Array Value) (i:Nat) (v:Value) (h:5≤i):results Tryz.f9 (tmps.setIfInBounds i v)=results Tryz.f9 tmps:=by
 simp [results,Tryz.f9,Array.getElem?_setIfInBounds,show ¬ i=2 by omega,show ¬ i=3 by omega,show ¬ i=4 by omega]
theorem leaves_put {R:Ending→World→Prop} (i:Nat) (v:Value) (h:5≤i):∀ (ds:List Deferred) (u:FrameMode) (w:World) (tmps:Array Value),Leaves Tryz.prog Tryz.f9 (tmps.setIfInBounds i v) R ds u w→Leaves Tryz.prog Tryz.f9 tmps R ds u w
 | [],.returning,w,tmps,hL=>by unfold Leaves at hL ⊢;rwa [res_put tmps i v h] at hL
 | [],.panicking c,w,tmps,hL=>by unfold Leaves at hL ⊢;exact hL
 | [],.run,w,tmps,hL=>by unfold Leaves at hL;exact hL.elim
 | d::ds,u,w,tmps,hL=>by
   unfold Leaves at hL ⊢;obtain ⟨hu,fv,cap,f,args,h1,h2,hc⟩:=hL;refine ⟨hu,fv,cap,f,args,h1,h2,hc.mono (fun e u' w' hr=>?_)⟩;cases e with
   | returned _=>exact leaves_put i v h ds _ _ _ hr
   | panicked _=>exact leaves_put i v h ds _ _ _ hr
   | outgrown=>exact hr
theorem post_put {R:Ending→World→Prop} (i:Nat) (h:5≤i) (v:Value) (c:List PanicEntry) (a:Act) (w:World) (hL:bodyPostD Tryz.prog Tryz.f9 R (.panic c) (a.put (some i) v) w):bodyPostD Tryz.prog Tryz.f9 R (.panic c) a w :=
 leaves_put i v h _ _ _ _ hL
theorem lex_count:∀ (k:Nat) (s:List UInt8) (p:Pl),s.length≤k→(lexL p s).1.length≤s.length
 | _,[],p,_=>Nat.le_refl _
 | 0,c::r,p,hk=>by simp at hk
 | k+1,c::r,p,hk=>by
   obtain ⟨kd,tx,n,e,hp⟩:∃ kd t n,∃ e,pieceL (c::r)=(kd,t,n,e):=⟨_,_,_,_,rfl⟩;by_cases he:e=0
   ·subst he;have hs:=piece_size hp;rw [lex_piece hp];have ih:=lex_count k ((c::r).drop n) (advs p ((c::r).take n)) (by simp at hk ⊢;omega);unfold finT;split
    ·rw [List.length_append];have hd:((c::r).drop n).length=(c::r).length - n:=List.length_drop;split
     ·show 0+_≤_;omega
     ·show 1+_≤_;omega
    ·simp
   ·rw [lex_bad hp he];simp
theorem all_lens {s:List UInt8} (h:(allT s).2.1=0):s.length≤65536∧(allT s).1.length≤65536:=by
 unfold allT at h ⊢;split at h
 ·simp at h
 ·rename_i hl;rw [if_neg hl];have:=lex_count s.length s (1,1) (Nat.le_refl _);exact ⟨by omega,by omega⟩
theorem toks_at {w w':World} {g b off:Nat} {a:Option Addr} {l:List Tok} (ha:a=some ⟨b,off,none⟩) (hb:b<w.heap.size) (hcell:∀ j u,(tokCells l)[j]? = some u→w.cell? ⟨b,off+j,none⟩=some u) (hg:b<g) (hs:w.heap.size≤w'.heap.size) (hk:w'.heap[b]? = w.heap[b]?):ToksAt w' g a l:=by
 intro _;have hget:∀ (l:List Tok) (j:Nat) (h:j<l.length),(tokCells l)[j * 4]? = some (.int .i64 l[j].1)∧(tokCells l)[j * 4+1]? = some (.string (bs l[j].2.1))∧(tokCells l)[j * 4+2]? = some (.int .i64 l[j].2.2.1)∧(tokCells l)[j * 4+3]? = some (.int .i64 l[j].2.2.2):=by
  intro l;induction l with
  | nil=>intro j h;simp at h
  | cons t r ih =>
    intro j h;cases j with
    | zero=>exact ⟨rfl,rfl,rfl,rfl⟩
    | succ j =>
      have hh:=ih j (by simpa using h);have e:∀ n,(tokCells (t::r))[n+4]? = (tokCells r)[n]?:=fun n=>rfl
      refine ⟨?_,?_,?_,?_⟩
      ·rw [show (j+1) * 4=j * 4+4 by omega,e];exact hh.1
      ·rw [show (j+1) * 4+1=(j * 4+1)+4 by omega,e];exact hh.2.1
      ·rw [show (j+1) * 4+2=(j * 4+2)+4 by omega,e];exact hh.2.2.1
      ·rw [show (j+1) * 4+3=(j * 4+3)+4 by omega,e];exact hh.2.2.2
 refine ⟨b,off,ha,hg,nL hb hs,fun j hj=>?_⟩;have h4:=hget l j hj;refine TokAt.same (w:=w) ⟨?_,?_,?_,?_⟩ hk
 ·exact hcell _ _ h4.1
 ·have:=hcell _ _ h4.2.1;rwa [← Nat.add_assoc] at this
 ·have:=hcell _ _ h4.2.2.1;rwa [← Nat.add_assoc] at this
 ·have:=hcell _ _ h4.2.2.2;rwa [← Nat.add_assoc] at this
theorem below_of {w w1 w2:World} {B g:Nat} (h:Below B w w1) (hb:ButAt g w1 w2) (_hs:w.heap.size≤w1.heap.size) (hB:B≤g) (hB2:B≤w1.heap.size):Below B w w2 :=
 ⟨hb.os.trans h.os,hb.tape.trans h.tape,hb.output.trans h.output,nT h.size hb.size,fun k hk=>(hb.block k (by omega) (by omega)).trans (h.block k hk)⟩
theorem below_three {w w1 w2:World} {B a b c:Nat} (h:Below B w w1) (hb:Three a b c w1 w2) (ha:B≤a) (hb':B≤b) (hc:B≤c) (hB2:B≤w1.heap.size):Below B w w2 :=
 ⟨hb.os.trans h.os,hb.tape.trans h.tape,hb.output.trans h.output,nT h.size hb.size,fun k hk=>(hb.block k (by omega) (by omega) (by omega) (by omega)).trans (h.block k hk)⟩
set_option maxHeartbeats 4000000 in
theorem read_bad (s:List UInt8) (hs:s.length≤140737488351232) (w:World) (hr:RangeAt w) {l:List Tok} {e p q:Nat} (hx:allT s=(l,e,(p,q))) (he:e≠0) :
  Calls Tryz.prog 9 #[.string (bs s)] w (ReadRet (readL s) w):=by
 have hmf:∀ (fn:Fn) (first cap:Array Value) (w:World),(Instr.makeFunc fn first cap).run Tryz.prog w=.ok (.func fn first cap) w:=fun _ _ _ _=>rfl
 obtain ⟨w1,hw,rn,re,rp,hB,hsz⟩:∃ W,Hid (W=((w.alloc (.cells #[.int .i64 0,.string ⟨#[]⟩,.int .i64 0,.int .i64 0,.slice none 0 0] 27)).alloc (.cells #[.int .i64 0] 28)).alloc (.cells #[.int .i64 0,.int .i64 0] 24))∧W.heap[w.heap.size]? = some (.cells #[.int .i64 0,.string ⟨#[]⟩,.int .i64 0,.int .i64 0,.slice none 0 0] 27 (0,0))∧W.heap[w.heap.size+1]? = some (.cells #[.int .i64 0] 28 (0,0))∧W.heap[w.heap.size+1+1]? = some (.cells #[.int .i64 0,.int .i64 0] 24 (0,0))∧Below w.heap.size w W∧W.heap.size=w.heap.size+3 :=
  ⟨_,hid rfl,alloc_row (alloc_row (heap_alloc_new w _) _) _,alloc_row (by have:=heap_alloc_new (w.alloc (.cells #[.int .i64 0,.string ⟨#[]⟩,.int .i64 0,.int .i64 0,.slice none 0 0] 27)) (.cells #[.int .i64 0] 28);rwa [World.size_alloc] at this) _,
   by have:=heap_alloc_new ((w.alloc (.cells #[.int .i64 0,.string ⟨#[]⟩,.int .i64 0,.int .i64 0,.slice none 0 0] 27)).alloc (.cells #[.int .i64 0] 28)) (.cells #[.int .i64 0,.int .i64 0] 24);rwa [World.size_alloc,World.size_alloc] at this,Below.chain (Below.chain (below_new w _) (below_new _ _)) (below_new _ _),by rw [World.size_alloc,World.size_alloc,World.size_alloc]⟩
 have HA:=hid (all_is s hs hx w1 (hr.below hB));have Rn:=hid rn;have Re:=hid re;have Rp:=hid rp;have HB:=hid hB;have Hsz:=hid hsz;clear rn re rp hB hr
 go_enter_defers Tryz.func9,Tryz.ntmps9
 go_wp2_with fail;rw [← hw.out];clear hw;refine HA.out.mono ?_;rintro E w2 ⟨v,rfl,hv,hb2⟩;clear HA;obtain ⟨hvl,a,c,rfl,hc,hm,hn,hxx⟩:=hv;have hz:=Hsz.out;have rn2:=(hb2.block _ (by omega)).trans Rn.out;have re2:=(hb2.block _ (by omega)).trans Re.out;have rp2:=(hb2.block _ (by omega)).trans Rp.out;obtain ⟨w3,e3,a3,o3,s3,t3⟩:=put1 re2 (.int .i64 e);have rn3:=(o3 w.heap.size (by omega)).trans rn2;have rp3:=(o3 (w.heap.size+1+1) (by omega)).trans rp2;obtain ⟨w4,e4,a4,o4,s4,t4⟩:=put2 rp3 (.int .i64 p) (.int .i64 q);have rn4:=(o4 w.heap.size (by omega)).trans rn3;have re4:=(o4 (w.heap.size+1) (by omega)).trans a3;have HB4:=hid (show Below w.heap.size w w4 from ⟨t4.1.trans (t3.1.trans (hb2.os.trans HB.out.os)),t4.2.1.trans (t3.2.1.trans (hb2.tape.trans HB.out.tape)),t4.2.2.trans (t3.2.2.trans (hb2.output.trans HB.out.output)),by have:=hb2.size;have:=HB.out.size;omega,
  fun k hk=>(o4 k (by omega)).trans ((o3 k (by omega)).trans ((hb2.block k (by omega)).trans (HB.out.block k hk)))⟩)
 have E3:=hid e3;have E4:=hid e4;have Rn4:=hid rn4;have Re4:=hid re4;have Rp4:=hid a4;have Hsz4:=hid (show w.heap.size+3≤w4.heap.size by have:=hb2.size;omega);have Hst:=hid (show ∀ k,k<w2.heap.size→k≠w.heap.size+1→k≠w.heap.size+1+1→w4.heap[k]? = w2.heap[k]? from fun k _ h1 h2=>(o4 k h2).trans (o3 k h1));have Hs24:=hid (show w4.heap.size=w2.heap.size by omega);have Hs12:=hid (show w.heap.size+3≤w2.heap.size by have:=hb2.size;omega);have q0:=cell_of_row _ _ 0 _ _ _ re2;have f0:=frozen_of_row re2 0;have q1:=cell_of_row _ _ 0 _ _ _ rp2;have q2:=cell_of_row _ _ 1 _ _ _ rp2;have f1:=frozen_of_row rp2 0;have f2:=frozen_of_row rp2 1;have Hxx:=hid hxx;have Hre2:=hid re2;have Hrp2:=hid rp2;have Hcm:=hid (And.intro hc hm);clear rn2 re2 rp2 e3 a3 o3 s3 t3 rn3 rp3 e4 a4 o4 s4 t4 rn4 re4 hb2 HB hvl hc hm hn hxx Rn Re Rp hz;have hne:((e:Int) != 0)=true:=by simp;omega
 go_wp2_with fail;clear q0 f0 q1 q2 f1 f2;rw [← E3.out,← E4.out];refine wp_region_wh (S:=fun W=>W.heap[w.heap.size]? = some (.cells #[.int .i64 0,.string ⟨#[]⟩,.int .i64 0,.int .i64 0,.slice none 0 0] 27 (0,0))∧W.heap[w.heap.size+1]? = some (.cells #[.int .i64 e] 28 (0,0))∧W.heap[w.heap.size+1+1]? = some (.cells #[.int .i64 p,.int .i64 q] 24 (0,0))) (by kernel_rfl) ?_;obtain ⟨w5,hw,hbb⟩:∃ W,Hid (W=w4.drew)∧Below w4.heap.size w4 W:=⟨_,hid rfl,Drawn.below ⟨1,rfl⟩⟩;rw [← hw.out];clear hw;have hz:=Hsz4.out;have rn5:=(hbb.block _ (by omega)).trans Rn4.out;have re5:=(hbb.block _ (by omega)).trans Re4.out;have rp5:=(hbb.block _ (by omega)).trans Rp4.out;obtain ⟨w6,e6,a6,o6,s6,t6⟩:=put5 rn5 (.int .i64 0) (.string ⟨#[]⟩) (.int .i64 0) (.int .i64 0) (.slice none 0 0);have re6:=(o6 (w.heap.size+1) (by omega)).trans re5;have rp6:=(o6 (w.heap.size+1+1) (by omega)).trans rp5;obtain ⟨w7,e7,a7,o7,s7,t7⟩:=put1 re6 (.int .i64 e);have rn7:=(o7 (w.heap.size) (by omega)).trans a6;have rp7:=(o7 (w.heap.size+1+1) (by omega)).trans rp6;obtain ⟨w8,e8,a8,o8,s8,t8⟩:=put2 rp7 (.int .i64 p) (.int .i64 q);have rn8:=(o8 (w.heap.size) (by omega)).trans rn7;have re8:=(o8 (w.heap.size+1) (by omega)).trans a7;have HF:=hid (show Below w.heap.size w w8 from ⟨t8.1.trans (t7.1.trans (t6.1.trans (hbb.os.trans HB4.out.os))),t8.2.1.trans (t7.2.1.trans (t6.2.1.trans (hbb.tape.trans HB4.out.tape))),t8.2.2.trans (t7.2.2.trans (t6.2.2.trans (hbb.output.trans HB4.out.output))),by have:=hbb.size;have:=HB4.out.size;omega,
  fun k hk=>(o8 k (by omega)).trans ((o7 k (by omega)).trans ((o6 k (by omega)).trans ((hbb.block k (by omega)).trans (HB4.out.block k hk))))⟩)
 have S5:=hid (And.intro rn5 (And.intro re5 rp5));have S6:=hid (And.intro a6 (And.intro re6 rp6));have S7:=hid (And.intro rn7 (And.intro a7 rp7));have S8:=hid (And.intro rn8 (And.intro re8 a8));have E6:=hid e6;have E7:=hid e7;have E8:=hid e8;have hS:=S5.out;clear rn5 re5 rp5 e6 a6 o6 s6 t6 re6 rp6 e7 a7 o7 s7 t7 rn7 rp7 e8 a8 o8 s8 t8 rn8 re8 hbb Hst Hxx HB4 Rn4 Re4 Rp4;refine WH.take_load 0 (some 16) rfl rfl (by kernel_rfl) (by kernel_rfl) (by kernel_rfl) (fun v c a w h=>post_put 16 (by decide) v c a w h) hS (by kernel_rfl) 27 _ rfl (w.heap.size) 0 rfl [.int .i64 0,.string ⟨#[]⟩,.int .i64 0,.int .i64 0,.slice none 0 0] _ (fun W hW=>range_of_row hW.1) Tryz.underlying27 rfl (by kernel_rfl) ?_;(try simp only [Act.put,sA,sB,sC]);refine WH.take 1 (some 17) rfl rfl (by kernel_rfl) (by kernel_rfl) (by kernel_rfl) (fun v c a w h=>post_put 17 (by decide) v c a w h) hS ⟨.int .i64 e,⟨by kernel_rfl,fun W hW=>by have q:W.cell? ⟨w.heap.size+1,0,none⟩=some (.int .i64 e):=cell_of_row W _ 0 _ _ _ hW.2.1;go_simp⟩,?_⟩;(try simp only [Act.put,sA,sB,sC]);refine WH.take_load 2 (some 18) rfl rfl (by kernel_rfl) (by kernel_rfl) (by kernel_rfl) (fun v c a w h=>post_put 18 (by decide) v c a w h) hS (by kernel_rfl) 24 _ rfl (w.heap.size+1+1) 0 rfl [.int .i64 p,.int .i64 q] _ (fun W hW=>range_of_row hW.2.2) Tryz.underlying24 rfl (by kernel_rfl) ?_;(try simp only [Act.put,sA,sB,sC]);have q0:=cell_of_row _ _ 0 _ _ _ S5.out.1;have f0:=frozen_of_row S5.out.1 0;have q1:=cell_of_row _ _ 1 _ _ _ S5.out.1;have f1:=frozen_of_row S5.out.1 1;have q2:=cell_of_row _ _ 2 _ _ _ S5.out.1;have f2:=frozen_of_row S5.out.1 2;have q3:=cell_of_row _ _ 3 _ _ _ S5.out.1;have f3:=frozen_of_row S5.out.1 3;have q4:=cell_of_row _ _ 4 _ _ _ S5.out.1;have f4:=frozen_of_row S5.out.1 4;refine WH.one 3 (by kernel_rfl) rfl (by kernel_rfl) ?_;intro K hK;go_simp;clear q0 f0 q1 f1 q2 f2 q3 f3 q4 f4;rw [← E6.out];refine hK.out _ _ S6.out ?_;clear hK K;(try simp only [Act.put,sA,sB,sC]);have q0:=cell_of_row _ _ 0 _ _ _ S6.out.2.1;have f0:=frozen_of_row S6.out.2.1 0;refine WH.one 4 (by kernel_rfl) rfl (by kernel_rfl) ?_;intro K hK;go_simp;clear q0 f0;rw [← E7.out];refine hK.out _ _ S7.out ?_;clear hK K;(try simp only [Act.put,sA,sB,sC]);have q0:=cell_of_row _ _ 0 _ _ _ S7.out.2.2;have f0:=frozen_of_row S7.out.2.2 0;have q1:=cell_of_row _ _ 1 _ _ _ S7.out.2.2;have f1:=frozen_of_row S7.out.2.2 1;refine WH.one 5 (by kernel_rfl) rfl (by kernel_rfl) ?_;intro K hK;go_simp;clear q0 f0 q1 f1;rw [← E8.out];refine hK.out _ _ S8.out ?_;clear hK K;(try simp only [Act.put,sA,sB,sC]);refine WH.done (by kernel_rfl) ?_;obtain ⟨k1,k2,k3⟩:=S8.out;clear S5 S6 S7 S8;go_wp2_with fail;exact ⟨_,read_results (t:=[]) rfl rfl rfl k1 k2 k3,HF.out,by unfold readL;rw [hx,if_neg (show ¬ (l,e,(p,q)).2.1=0 from he)]⟩
set_option maxHeartbeats 4000000 in
theorem read_good (s:List UInt8) (hs:s.length≤140737488351232) (w:World) (hr:RangeAt w) {l:List Tok} {p q:Nat} (hx:allT s=(l,0,(p,q))) :
  Calls Tryz.prog 9 #[.string (bs s)] w (ReadRet (readL s) w):=by
 have hmf:∀ (fn:Fn) (first cap:Array Value) (w:World),(Instr.makeFunc fn first cap).run Tryz.prog w=.ok (.func fn first cap) w:=fun _ _ _ _=>rfl
 obtain ⟨w1,hw,rn,re,rp,hB,hsz⟩:∃ W,Hid (W=((w.alloc (.cells #[.int .i64 0,.string ⟨#[]⟩,.int .i64 0,.int .i64 0,.slice none 0 0] 27)).alloc (.cells #[.int .i64 0] 28)).alloc (.cells #[.int .i64 0,.int .i64 0] 24))∧W.heap[w.heap.size]? = some (.cells #[.int .i64 0,.string ⟨#[]⟩,.int .i64 0,.int .i64 0,.slice none 0 0] 27 (0,0))∧W.heap[w.heap.size+1]? = some (.cells #[.int .i64 0] 28 (0,0))∧W.heap[w.heap.size+1+1]? = some (.cells #[.int .i64 0,.int .i64 0] 24 (0,0))∧Below w.heap.size w W∧W.heap.size=w.heap.size+3 :=
  ⟨_,hid rfl,alloc_row (alloc_row (heap_alloc_new w _) _) _,alloc_row (by have:=heap_alloc_new (w.alloc (.cells #[.int .i64 0,.string ⟨#[]⟩,.int .i64 0,.int .i64 0,.slice none 0 0] 27)) (.cells #[.int .i64 0] 28);rwa [World.size_alloc] at this) _,
   by have:=heap_alloc_new ((w.alloc (.cells #[.int .i64 0,.string ⟨#[]⟩,.int .i64 0,.int .i64 0,.slice none 0 0] 27)).alloc (.cells #[.int .i64 0] 28)) (.cells #[.int .i64 0,.int .i64 0] 24);rwa [World.size_alloc,World.size_alloc] at this,Below.chain (Below.chain (below_new w _) (below_new _ _)) (below_new _ _),by rw [World.size_alloc,World.size_alloc,World.size_alloc]⟩
 have HA:=hid (show Calls Tryz.prog 16 #[.string (bs s)] w1 (fun E w'=>∃ v,E=.returned (.tuple #[v,.int .i64 0,.agg #[.int .i64 p,.int .i64 q]])∧SliceAt w' 4 v l.length (tokCells l)∧Below w1.heap.size w1 w') from all_is s hs hx w1 (hr.below hB));have Rn:=hid rn;have Re:=hid re;have Rp:=hid rp;have HB:=hid hB;have Hsz:=hid hsz;clear rn re rp hB hr
 go_enter_defers Tryz.func9,Tryz.ntmps9
 go_wp2_with fail;rw [← hw.out];clear hw;refine HA.out.mono ?_;rintro E w2 ⟨v,rfl,hv,hb2⟩;clear HA;obtain ⟨hvl,a,c,rfl,hc,hm,hn,hxx⟩:=hv;have hz:=Hsz.out;have rn2:=(hb2.block _ (by omega)).trans Rn.out;have re2:=(hb2.block _ (by omega)).trans Re.out;have rp2:=(hb2.block _ (by omega)).trans Rp.out;obtain ⟨w3,e3,a3,o3,s3,t3⟩:=put1 re2 (.int .i64 0);have rn3:=(o3 w.heap.size (by omega)).trans rn2;have rp3:=(o3 (w.heap.size+1+1) (by omega)).trans rp2;obtain ⟨w4,e4,a4,o4,s4,t4⟩:=put2 rp3 (.int .i64 p) (.int .i64 q);have rn4:=(o4 w.heap.size (by omega)).trans rn3;have re4:=(o4 (w.heap.size+1) (by omega)).trans a3;have HB4:=hid (show Below w.heap.size w w4 from ⟨t4.1.trans (t3.1.trans (hb2.os.trans HB.out.os)),t4.2.1.trans (t3.2.1.trans (hb2.tape.trans HB.out.tape)),t4.2.2.trans (t3.2.2.trans (hb2.output.trans HB.out.output)),by have:=hb2.size;have:=HB.out.size;omega,
  fun k hk=>(o4 k (by omega)).trans ((o3 k (by omega)).trans ((hb2.block k (by omega)).trans (HB.out.block k hk)))⟩)
 have E3:=hid e3;have E4:=hid e4;have Rn4:=hid rn4;have Re4:=hid re4;have Rp4:=hid a4;have Hsz4:=hid (show w.heap.size+3≤w4.heap.size by have:=hb2.size;omega);have Hst:=hid (show ∀ k,k<w2.heap.size→k≠w.heap.size+1→k≠w.heap.size+1+1→w4.heap[k]? = w2.heap[k]? from fun k _ h1 h2=>(o4 k h2).trans (o3 k h1));have Hs24:=hid (show w4.heap.size=w2.heap.size by omega);have Hs12:=hid (show w.heap.size+3≤w2.heap.size by have:=hb2.size;omega);have q0:=cell_of_row _ _ 0 _ _ _ re2;have f0:=frozen_of_row re2 0;have q1:=cell_of_row _ _ 0 _ _ _ rp2;have q2:=cell_of_row _ _ 1 _ _ _ rp2;have f1:=frozen_of_row rp2 0;have f2:=frozen_of_row rp2 1;have Hxx:=hid hxx;have Hre2:=hid re2;have Hrp2:=hid rp2;have Hcm:=hid (And.intro hc hm);clear rn2 re2 rp2 e3 a3 o3 s3 t3 rn3 rp3 e4 a4 o4 s4 t4 rn4 re4 hb2 HB hvl hc hm hn hxx Rn Re Rp hz;obtain ⟨hl1,hl2⟩:=all_lens (s:=s) (by rw [hx]);have hl3:l.length≤65536:=by rw [hx] at hl2;exact hl2
 clear hl2;obtain ⟨X,hX⟩:∃ X,X=pStmts (advs (1,1) s) (10 * l.length+20) false l 0:=⟨_,rfl⟩;have hXr:readL s=X:=by rw [hX];unfold readL;rw [hx,if_pos rfl]
 have hne:X≠.oof:=by
  intro h0;have:=(stmt_fine (advs (1,1) s) (10 * l.length+20)).stmts false l 0 (by omega);rw [← hX,h0] at this;exact this
 have HR:=hid hXr;have HXr:=hid hX;clear hXr hX;go_wp2_with fail;clear q0 f0 q1 q2 f1 f2;rw [← E3.out,← E4.out];refine (end_any s (by omega) _).mono ?_;rintro E w5 ⟨rfl,hb5⟩;generalize hen:advs (1,1) s=en at *;go_wp2_with fail;obtain ⟨w7,hw,rg,rt,hb7,hs7⟩:∃ W,Hid (W=(w5.alloc (.cells #[.slice a l.length c,.int .i64 (en.1:Int),.int .i64 (en.2:Int),.int .i64 0] 56)).alloc (.cells #[.int .i64 0,.string ⟨#[]⟩,.int .i64 1,.int .i64 1] 46))∧W.heap[w5.heap.size]? = some (.cells #[.slice a l.length c,.int .i64 (en.1:Int),.int .i64 (en.2:Int),.int .i64 0] 56 (0,0))∧W.heap[w5.heap.size+1]? = some (.cells #[.int .i64 0,.string ⟨#[]⟩,.int .i64 1,.int .i64 1] 46 (0,0))∧Below w5.heap.size w5 W∧W.heap.size=w5.heap.size+2 :=
  ⟨_,hid rfl,alloc_row (heap_alloc_new w5 _) _,by have:=heap_alloc_new (w5.alloc (.cells #[.slice a l.length c,.int .i64 (en.1:Int),.int .i64 (en.2:Int),.int .i64 0] 56)) (.cells #[.int .i64 0,.string ⟨#[]⟩,.int .i64 1,.int .i64 1] 46);rwa [World.size_alloc] at this,Below.chain (below_new w5 _) (below_new _ _),by rw [World.size_alloc,World.size_alloc]⟩
 rw [← hw.out];clear hw;have hz4:=Hsz4.out;have h24:=Hs24.out;have h12:=Hs12.out;have h45:=hb5.size;have hp:PS w7 w5.heap.size en l 0:=by
  refine ⟨a,c,rg,Hcm.out.1,Hcm.out.2,?_,by omega,by omega⟩;intro hne;have hc:tokCells l≠[]:=by
   cases l with
   | nil=>exact absurd rfl hne
   | cons t r=>simp [tokCells]
  obtain ⟨b,off,ha,hb,hcell⟩:=Hxx.out hc;have hstr:(tokCells l)[1]? = some (.string (bs l.head!.2.1)):=by
   cases l with
   | nil=>exact absurd rfl hne
   | cons t r=>rfl
  have hs1:=hcell _ _ hstr;have n1:b≠w.heap.size+1:=by
   rintro rfl;rw [cell_of_row _ _ (off+1) _ _ _ Hre2.out] at hs1;cases off <;> simp at hs1
  have n2:b≠w.heap.size+1+1:=by
   rintro rfl;rw [cell_of_row _ _ (off+1) _ _ _ Hrp2.out] at hs1;cases off with
   | zero=>simp at hs1
   | succ off=>simp at hs1
  have hk4:=Hst.out b hb n1 n2;have hk:w7.heap[b]? = w2.heap[b]?:=(hb7.block b (by omega)).trans ((hb5.block b (by omega)).trans hk4);exact toks_at (w:=w2) (w':=w7) ha hb hcell (by omega) (by have:=hb7.size;omega) hk hne
 have Rn7:=hid ((hb7.block _ (by omega)).trans ((hb5.block _ (by omega)).trans Rn4.out));have Re7:=hid ((hb7.block _ (by omega)).trans ((hb5.block _ (by omega)).trans Re4.out));have Rp7:=hid ((hb7.block _ (by omega)).trans ((hb5.block _ (by omega)).trans Rp4.out));have HB7:=hid (show Below w.heap.size w w7 from (HB4.out.trans (hb5.mono (by omega))).trans (hb7.mono (by omega)));obtain ⟨G0,hG0⟩:∃ G0,G0=w5.heap.size:=⟨_,rfl⟩;rw [← hG0] at hp rg rt hb7 hs7 ⊢;have hg3:w.heap.size+3≤G0:=by omega
 have r_tk:=hid rt;clear rt rg hb7 hb5 h45 h24 h12 hz4 Rn4 Re4 Rp4 HB4 Hst Hxx Hre2 Hrp2 Hcm E3 E4 Hs24 Hs12 Hsz4 Hsz hG0 hs;refine wp_region_wh (S:=fun W=>W.heap[G0+1]? = some (.cells #[.int .i64 0,.string ⟨#[]⟩,.int .i64 1,.int .i64 1] 46 (0,0))) (by kernel_rfl) ?_;obtain ⟨w8,hw,hbb⟩:∃ W,Hid (W=w7.drew)∧Below w7.heap.size w7 W:=⟨_,hid rfl,Drawn.below ⟨1,rfl⟩⟩;rw [← hw.out];clear hw;have hz7:=hbb.size;have hp:=hp.keep hbb;have HB8:=hid (ButAt.of_below (g:=G0) hbb);have Rn8:=hid ((hbb.block _ (by omega)).trans Rn7.out);have Re8:=hid ((hbb.block _ (by omega)).trans Re7.out);have Rp8:=hid ((hbb.block _ (by omega)).trans Rp7.out);have S8:=hid ((hbb.block _ (by omega)).trans r_tk.out);have hS:=S8.out;clear Rn7 Re7 Rp7 r_tk hbb;refine WH.take_load 0 (some 27) rfl rfl (by kernel_rfl) (by kernel_rfl) (by kernel_rfl) (fun v c a w h=>post_put 27 (by decide) v c a w h) hS (by kernel_rfl) 46 _ rfl (G0+1) 0 rfl [.int .i64 0,.string ⟨#[]⟩,.int .i64 1,.int .i64 1] _ (fun W hW=>range_of_row hW) Tryz.underlying46 rfl (by kernel_rfl) ?_;(try simp only [Act.put,sA,sB,sC]);refine WH.take 1 (some 28) rfl rfl (by kernel_rfl) (by kernel_rfl) (by kernel_rfl) (fun v c a w h=>post_put 28 (by decide) v c a w h) hS ⟨.pointer (some ⟨G0,0,none⟩),⟨by kernel_rfl,fun W _=>rfl⟩,?_⟩;(try simp only [Act.put,sA,sB,sC]);refine WH.take 4 (some 31) rfl rfl (by kernel_rfl) (by kernel_rfl) (by kernel_rfl) (fun v c a w h=>post_put 31 (by decide) v c a w h) hS ⟨.agg #[.int .i64 0,.int .i64 0],⟨by kernel_rfl,fun W _=>by kernel_rfl⟩,?_⟩;(try simp only [Act.put,sA,sB,sC]);refine WH.one 2 (by kernel_rfl) rfl (by kernel_rfl) ?_;intro K hK;go_simp;have HD:=hid ((all_does G0 en (10 * l.length+20)).stmts0 l 0);cases hx2:X with
 | oof=>exact absurd hx2 hne
 | bad er pl =>
   refine (HD.out.bad (HXr.out.symm.trans hx2) hp).mono ?_;rintro e w9 ⟨rfl,hb9⟩;have rn9:=(hb9.block _ (by omega) (by omega)).trans Rn8.out;have re9:=(hb9.block _ (by omega) (by omega)).trans Re8.out;have rp9:=(hb9.block _ (by omega) (by omega)).trans Rp8.out;have HC:=hid (catch_wrong w.heap.size (w.heap.size+1) (w.heap.size+1+1) er pl.1 pl.2 _ _ _ _ _ _ _ _ [] w9 (by omega) (by omega) (by omega) rn9 re9 rp9);have HF:=hid (below_of (below_of HB7.out HB8.out (by omega) (by omega) (by omega)) hb9 (by omega) (by omega) (by omega));have hz9:=hb9.size;clear rn9 re9 rp9 hb9;go_wp2_with fail;refine leaves_cons (f:=18) (args:=#[.pointer (some ⟨w.heap.size,0,none⟩),.pointer (some ⟨w.heap.size+1,0,none⟩),.pointer (some ⟨w.heap.size+1+1,0,none⟩)]) (by simp) (by simp [go_sem]) ?_;refine HC.out.mono ?_;rintro E u w10 ⟨rfl,rfl,k1,k2,k3,hT⟩;refine ⟨_,read_results (t:=[]) rfl rfl rfl k1 k2 k3,below_three HF.out hT (by omega) (by omega) (by omega) (by omega),by rw [HR.out,hx2]⟩
 | ok a2 r2 =>
   refine (HD.out.ok (HXr.out.symm.trans hx2) hp).mono ?_;rintro e w9 ⟨_,rfl,⟨ns,hG,hA,hnl⟩,hp9,hb9⟩;obtain ⟨a_k,m_k,hv,-,-⟩:=hG.shape;subst hv;have Rn9:=hid ((hb9.block _ (by omega) (by omega)).trans Rn8.out);have Re9:=hid ((hb9.block _ (by omega) (by omega)).trans Re8.out);have Rp9:=hid ((hb9.block _ (by omega) (by omega)).trans Rp8.out);have S9:=hid ((hb9.block _ (by omega) (by omega)).trans S8.out);have HB9:=hid (below_of (below_of HB7.out HB8.out (by omega) (by omega) (by omega)) hb9 (by omega) (by omega) (by omega));have HG:=hid (hG.kids 1 1 1 []);have HA2:=hid hA;have hz9:=hb9.size;clear hp9 hb9 hG hA hp HD;go_wp2_with fail;refine hK.out _ _ S9.out ?_;clear hK K;(try simp only [Act.put,sA,sB,sC]);refine WH.one 3 (by kernel_rfl) rfl (by kernel_rfl) ?_;intro K hK;go_simp;refine (node_any 1 (0,[],(1,1)) [] a_k ns.length m_k _).mono ?_;rintro e w10 ⟨rfl,hb10⟩;have hz10:=hb10.size;have rn10:=(hb10.block _ (by omega)).trans Rn9.out;have re10:=(hb10.block _ (by omega)).trans Re9.out;have rp10:=(hb10.block _ (by omega)).trans Rp9.out;obtain ⟨w11,e6,a6,o6,s6,t6⟩:=put5 rn10 (.int .i64 1) (.string (bs [])) (.int .i64 1) (.int .i64 1) (.slice a_k ns.length m_k);have re6:=(o6 (w.heap.size+1) (by omega)).trans re10;have rp6:=(o6 (w.heap.size+1+1) (by omega)).trans rp10;obtain ⟨w12,e7,a7,o7,s7,t7⟩:=put1 re6 (.int .i64 0);have rn7:=(o7 (w.heap.size) (by omega)).trans a6;have rp7:=(o7 (w.heap.size+1+1) (by omega)).trans rp6;obtain ⟨w13,e8,a8,o8,s8,t8⟩:=put2 rp7 (.int .i64 0) (.int .i64 0);have rn8:=(o8 (w.heap.size) (by omega)).trans rn7;have re8:=(o8 (w.heap.size+1) (by omega)).trans a7;have HF:=hid (show Below w.heap.size w w13 from ⟨t8.1.trans (t7.1.trans (t6.1.trans (hb10.os.trans HB9.out.os))),t8.2.1.trans (t7.2.1.trans (t6.2.1.trans (hb10.tape.trans HB9.out.tape))),t8.2.2.trans (t7.2.2.trans (t6.2.2.trans (hb10.output.trans HB9.out.output))),by have:=HB9.out.size;omega,
    fun k hk=>(o8 k (by omega)).trans ((o7 k (by omega)).trans ((o6 k (by omega)).trans ((hb10.block k (by omega)).trans (HB9.out.block k hk))))⟩)
   have HH:=hid (show HeldN (w.heap.size≤·) w13 (.mk 1 [] 1 1 ns a_k m_k) from
    HeldN.less (P:=fun b=>G0+1<b) (fun b _ hb=>(show w.heap.size≤b by have:G0+1<b:=hb;omega)) (HeldN.keep (P:=fun b=>G0+1<b) ⟨by omega,fun k hk hP=>(o8 k (by omega)).trans ((o7 k (by omega)).trans ((o6 k (by omega)).trans (hb10.block k hk)))⟩ (HeldN.less (fun b _ (hb:w8.heap.size≤b)=>(show G0+1<b by omega)) HG.out)))
   have T10:=hid ((hb10.block _ (by omega)).trans S9.out);have T11:=hid ((o6 (G0+1) (by omega)).trans T10.out);have T12:=hid ((o7 (G0+1) (by omega)).trans T11.out);have T13:=hid ((o8 (G0+1) (by omega)).trans T12.out);have Q10:=hid rn10;have Q11:=hid re6;have Q12:=hid rp7;have Q13:=hid (And.intro rn8 (And.intro re8 a8));have E6:=hid e6;have E7:=hid e7;have E8:=hid e8;clear rn10 re10 rp10 e6 a6 o6 s6 t6 re6 rp6 e7 a7 o7 s7 t7 rn7 rp7 e8 a8 o8 s8 t8 rn8 re8 hb10 Rn9 Re9 Rp9 HG HB9 HB7 HB8 Rn8 Re8 Rp8 S8 S9;go_wp2_with fail;refine hK.out _ _ T10.out ?_;clear hK K;(try simp only [Act.put,sA,sB,sC]);have q0:=cell_of_row _ _ 0 _ _ _ Q10.out;have f0:=frozen_of_row Q10.out 0;have q1:=cell_of_row _ _ 1 _ _ _ Q10.out;have f1:=frozen_of_row Q10.out 1;have q2:=cell_of_row _ _ 2 _ _ _ Q10.out;have f2:=frozen_of_row Q10.out 2;have q3:=cell_of_row _ _ 3 _ _ _ Q10.out;have f3:=frozen_of_row Q10.out 3;have q4:=cell_of_row _ _ 4 _ _ _ Q10.out;have f4:=frozen_of_row Q10.out 4;refine WH.one 5 (by kernel_rfl) rfl (by kernel_rfl) ?_;intro K hK;go_simp;clear q0 f0 q1 f1 q2 f2 q3 f3 q4 f4;rw [← E6.out];refine hK.out _ _ T11.out ?_;clear hK K;(try simp only [Act.put,sA,sB,sC]);have q0:=cell_of_row _ _ 0 _ _ _ Q11.out;have f0:=frozen_of_row Q11.out 0;refine WH.one 6 (by kernel_rfl) rfl (by kernel_rfl) ?_;intro K hK;go_simp;clear q0 f0;rw [← E7.out];refine hK.out _ _ T12.out ?_;clear hK K;(try simp only [Act.put,sA,sB,sC]);have q0:=cell_of_row _ _ 0 _ _ _ Q12.out;have f0:=frozen_of_row Q12.out 0;have q1:=cell_of_row _ _ 1 _ _ _ Q12.out;have f1:=frozen_of_row Q12.out 1;refine WH.one 7 (by kernel_rfl) rfl (by kernel_rfl) ?_;intro K hK;go_simp;clear q0 f0 q1 f1;rw [← E8.out];refine hK.out _ _ T13.out ?_;clear hK K;(try simp only [Act.put,sA,sB,sC]);refine WH.done (by kernel_rfl) ?_;obtain ⟨k1,k2,k3⟩:=Q13.out;clear Q10 Q11 Q12 Q13 T10 T11 T12 T13;go_wp2_with fail;refine leaves_cons (f:=18) (args:=#[.pointer (some ⟨w.heap.size,0,none⟩),.pointer (some ⟨w.heap.size+1,0,none⟩),.pointer (some ⟨w.heap.size+1+1,0,none⟩)]) (by simp) (by simp [go_sem]) ?_;have hz13:=HF.out.size;refine (catch_idle _ _ _ w13).mono ?_;rintro E u w14 ⟨rfl,rfl,hb14⟩;have l1:=(Array.getElem?_eq_some_iff.1 k1).1;have l2:=(Array.getElem?_eq_some_iff.1 k2).1;have l3:=(Array.getElem?_eq_some_iff.1 k3).1;exact ⟨_,read_results (t:=[]) rfl rfl rfl ((hb14.block _ l1).trans k1) ((hb14.block _ l2).trans k2) ((hb14.block _ l3).trans k3),HF.out.trans (hb14.mono (by omega)),by rw [HR.out,hx2];exact ⟨ns,a_k,m_k,rfl,HA2.out,HeldN.keep (Same.of_below hb14) HH.out⟩⟩
theorem read_any (s:List UInt8) (hs:s.length≤140737488351232) (w:World) (hr:RangeAt w) :
  Calls Tryz.prog 9 #[.string (bs s)] w (ReadRet (readL s) w):=by
 obtain ⟨l,e,⟨p,q⟩,hx⟩:∃ l e pq,allT s=(l,e,pq):=⟨_,_,_,rfl⟩;by_cases he:e=0
 ·subst he;exact read_good s hs w hr hx
 ·exact read_bad s hs w hr hx he
def printL (x:Tr):List UInt8 × Nat :=
 if okFile x=true then (match readL (render (fileP x.kids)) with | .bad e _=>if e=0 then (render (fileP x.kids),0) else ([],e) | _=>(render (fileP x.kids),0)) else ([],3)
def PrintRet (r:List UInt8 × Nat) (w:World) (E:Ending) (w':World):Prop:=E=.returned (.tuple #[.string (bs r.1),.int .i64 (r.2:Int)])∧Below w.heap.size w w'
theorem file_ok (k:Int) (t:List UInt8) (l:List Tr):okFile (.mk k t l)=(decide (k=1) && (t.isEmpty && l.all mS)):=by
 show ((decide (k=1) && t.isEmpty && (tops l).all (fun x=>isS x.1)) && okTs l)=_;rw [show l.all mS=l.all (fun x=>isS x.kd && okT x) from rfl,← all_ok isS l,Bool.and_assoc,Bool.and_assoc]
set_option maxHeartbeats 1000000 in
theorem stmts_nil (pb:Nat) (a:Option Addr) (m:Nat) (w:World) :
  Calls Tryz.prog 24 #[.pointer (some ⟨pb,0,none⟩),.slice a 0 m] w fun e w'=>e=.returned (.tuple #[])∧w=w':=by
 go_enter Tryz.func24,Tryz.ntmps24
 go_wp2_with fail;go_loopw [8] (fun i wr=>i=.int .i64 0∧w=wr) (fun _ _=>0)
 case atStart=>exact ⟨rfl,rfl⟩
 case round =>
  obtain ⟨rfl,rfl⟩:=hrel;go_wp2_with fail
  go_end0
  exact ⟨rfl,rfl⟩
theorem lines_ne (n:Nat):∀ {s:List (List Piece)},s≠[]→render (linesJ n s)≠[]
 | [],h=>absurd rfl h
 | a::r,_=>by
   show render (tabsP n++(a++nl::linesJ n r))≠[];rw [tabs_render,render_app,render_cons];simp [nl,writ]
set_option maxHeartbeats 2000000 in
theorem print_no (k:Int) (t:List UInt8) (l c:Int) (ks:List NM) (a:Option Addr) (m:Nat) (w:World) (h:k≠1∨t≠[]) :
  Calls Tryz.prog 12 #[nodeV k t l c (.slice a ks.length m)] w (PrintRet ([],3) w):=by
 by_cases hk:k=1
 ·have ht:t≠[]:=h.resolve_left (fun e=>e hk);subst hk;have q:(t == ([]:List UInt8))=false:=by simpa using ht
  clear ht h;go_enter Tryz.func12,Tryz.ntmps12
  go_wp2_with fail
  go_ret2
  exact ⟨rfl,below_new w _⟩
 ·have q:(k == 1)=false:=by simpa using hk
  have q2:(k != 1)=true:=by simpa using hk
  clear h hk;go_enter Tryz.func12,Tryz.ntmps12
  go_wp2_with fail
  go_ret2
  exact ⟨rfl,below_new w _⟩
set_option maxHeartbeats 4000000 in
theorem print_file (l c:Int) (ks:List NM) (a:Option Addr) (m:Nat) (w:World) (hw:Laid w) (hh:HeldN AnyB w (.mk 1 [] l c ks a m)) (hf:(NM.mk 1 [] l c ks a m).fit) (hhi:(NM.mk 1 [] l c ks a m).hi≤90000)
  (hlen:okTs (NM.trs ks)=true→(render (fileP (NM.trs ks))).length≤140737488351232) :
  Calls Tryz.prog 12 #[nodeV 1 [] l c (.slice a ks.length m)] w (PrintRet (printL (NM.mk 1 [] l c ks a m).tr) w):=by
 obtain ⟨-,hk,hfs⟩:=fit_mk hf;rw [hi_mk] at hhi;have hsay:∀ j (hj:j<ks.length),MaySays ks[j]:=fun j hj=>may_says 90000 ks[j] (his_get (by omega) j hj) (fits_get hfs j hj)
 obtain ⟨w1,hwh,hb1,hr1,hlt1⟩:∃ W,Hid (W=w.alloc (.cells #[.int .i64 1,.string (bs []),.int .i64 l,.int .i64 c,.slice a ks.length m] 27))∧Below w.heap.size w W∧W.heap[w.heap.size]? = some (.cells #[.int .i64 1,.string (bs []),.int .i64 l,.int .i64 c,.slice a ks.length m] 27 (0,0))∧w.heap.size<W.heap.size :=
  ⟨_,hid rfl,below_new w _,heap_alloc_new w _,by rw [World.size_alloc];omega⟩
 have HA:=hid (all_mayStmt (fun x=>mS x.tr) _ ks _ (hh.kidsAt.below hb1) (by omega) (fun j hj W hW=>(hsay j hj).s W ((hw.below hb1).below hW) ((hh.kidsAt.below hb1).get j hj |>.below hW)));have hnot:∀ (x:Bool) (w:World),(Op.unary .not (.bool x)).run Tryz.prog w=.ok (.bool (!x)) w:=fun _ _=>rfl
 have HW1:=hid (hw.below hb1);have HK0:=hid (hh.kidsAt.below hb1);have HB1:=hid hb1;have HR1:=hid hr1;have HOK:Hid (okFile (NM.mk 1 [] l c ks a m).tr=ks.all (fun x=>mS x.tr)):=hid (by rw [ntr_mk,file_ok,all_tr];simp);have HPR:=hid (show printL (NM.mk 1 [] l c ks a m).tr=if okFile (NM.mk 1 [] l c ks a m).tr=true then (match readL (render (fileP (NM.trs ks))) with | .bad e _=>if e=0 then (render (fileP (NM.trs ks)),0) else ([],e) | _=>(render (fileP (NM.trs ks)),0)) else ([],3) by unfold printL;rw [ntr_mk];rfl);cases hall:ks.all (fun x=>mS x.tr) with
 | false =>
   rw [hall] at HA;have HF:=hid (show printL (NM.mk 1 [] l c ks a m).tr=([],3) by rw [HPR.out,HOK.out,hall];rfl);clear HPR HOK hsay hall hh hf hfs hw hb1 hr1;rw [HF.out];go_enter Tryz.func12,Tryz.ntmps12
   go_wp2_with fail;rw [← hwh.out];clear hwh;refine HA.out.mono ?_;rintro e w2 ⟨rfl,hb2⟩;go_wp2_with fail
   go_ret2
   exact ⟨rfl,Below.chain HB1.out hb2⟩
 | true =>
   rw [hall] at HA;replace hlen:=hlen (by
    rw [okTs_all,ntrs_map,List.all_map,List.all_eq_true];intro x hx;have:=List.all_eq_true.1 hall x hx;unfold mS at this;simp only [Bool.and_eq_true] at this;exact this.2)
   have HP:Hid (printL (NM.mk 1 [] l c ks a m).tr=(match readL (render (fileP (NM.trs ks))) with | .bad e _=>if e=0 then (render (fileP (NM.trs ks)),0) else ([],e) | _=>(render (fileP (NM.trs ks)),0))):=hid (by rw [HPR.out,HOK.out,hall];rfl);have HFP:Hid (render (fileP (NM.trs ks))=render (linesJ 0 (ks.map (fun (x:NM)=>oP 0 x.tr)))):=hid (by unfold fileP;rw [oPs_map,ntrs_map,List.map_map];rfl);obtain ⟨s,hs⟩:∃ s,s=render (fileP (NM.trs ks)):=⟨_,rfl⟩;rw [← hs] at hlen;obtain ⟨R,hR⟩:∃ R,R=printL (NM.mk 1 [] l c ks a m).tr:=⟨_,rfl⟩;rw [← hR];have HQ:Hid (R=match readL s with | .bad e _=>if e=0 then (s,0) else ([],e) | _=>(s,0)):=hid (by rw [hR,HP.out,hs]);have hs2:s=render (linesJ 0 (ks.map (fun (x:NM)=>oP 0 x.tr))):=hs.trans HFP.out;have HE:Hid (ks=[]→s=[]):=hid (fun e=>by rw [hs2,e];rfl);have HN:Hid (ks≠[]→s≠[]):=hid (fun e=>by rw [hs2];exact lines_ne 0 (by simpa using e));have HST:=hid (fun pb W (h:PageAt pb pb [] 0 W) (hl:KidsIn pb W (.slice a ks.length m) ks)=>(show Calls Tryz.prog 24 #[.pointer (some ⟨pb,0,none⟩),.slice a ks.length m] W fun e w'=>e=.returned (.tuple #[])∧PageAt pb pb s 0 w'∧PK pb W w' by
    have H:=stmts_any pb 0 ks hk (fun j hj acc tb w h hh htb hlen=>(puts_all pb 90000 ks[j] (his_get (by omega) j hj) (fits_get hfs j hj)).s (by
     have:=List.all_eq_true.1 hall ks[j] (List.getElem_mem hj);exact this) 0 (by omega) acc tb w h hh htb hlen) [] 0 W (.slice a ks.length m) h hl (Nat.le_refl _) (by omega) (by rw [← hs2];show 0+_≤_;omega)
    rw [← hs2] at H;exact H))
   have HRD:=hid (fun W (hW:RangeAt W)=>read_any s hlen W hW);clear HPR HP HOK hsay hall hh hf hfs hw hb1 hr1 HFP hs hs2 hR;go_enter Tryz.func12,Tryz.ntmps12
   go_wp2_with fail;rw [← hwh.out];clear hwh;refine HA.out.mono ?_;rintro e w2 ⟨rfl,hb2⟩;clear HA;have HB2:=hid (Below.chain HB1.out hb2);have HR2:=hid ((hb2.block _ hlt1).trans HR1.out);have HW2:=hid (HW1.out.below hb2);have HK2:=hid (HK0.out.below hb2);clear hb2;obtain ⟨z0,z1,z2,z3,z4,-,-,-,-,-⟩:=row5 HR2.out;have hlt2:w.heap.size<w2.heap.size:=(Array.getElem?_eq_some_iff.1 HR2.out).1;go_wp2_with fail;clear z0 z1 z2 z3 z4;obtain ⟨w3,hwh,hb3,hr3,hlt3,hpg⟩:∃ W,Hid (W=w2.alloc (.cells #[.pointer none,.slice none 0 0,.int .i64 0] 66))∧Below w2.heap.size w2 W∧W.heap[w2.heap.size]? = some (.cells #[.pointer none,.slice none 0 0,.int .i64 0] 66 (0,0))∧w2.heap.size<W.heap.size∧PageAt w2.heap.size w2.heap.size [] 0 W :=
    ⟨_,hid rfl,below_new w2 _,heap_alloc_new w2 _,by rw [World.size_alloc];omega,page_new w2 _ (Nat.le_refl _)⟩
   rw [← hwh.out];clear hwh;have HPG:=hid hpg;have HB3:=hid (Below.chain HB2.out hb3);have HW3:=hid (HW2.out.below hb3);have HKI:=hid (show KidsIn w2.heap.size w3 (.slice a ks.length m) ks from
    KidsIn.keep ⟨⟨HK2.out.row,fun b off n' c' e hne=>by
     obtain ⟨_,a',c'',e',_,_,_,hx⟩:=HK2.out.row;obtain ⟨b',o',rfl,hlt,_⟩:=hx hne;have:b'=b:=by rw [e] at e';simp at e';exact e'.1.1.symm
     subst this;exact hlt⟩,HeldNs.less (fun b hb _=>hb) HK2.out.held⟩ hb3)
   have HR3:=hid hr3;have HB23:=hid hb3;clear hb3 hpg hr3 HK2 HK0;by_cases h0:ks=[]
   ·have hs0:=HE.out h0;subst h0;subst hs0;refine (stmts_nil _ a m w3).mono ?_;rintro e w4 ⟨rfl,rfl⟩;go_wp2_with fail;refine (ptext_none _ 0 _ w3 HR3.out).mono ?_;rintro e w5 ⟨rfl,hb5⟩;have HB5:=hid (Below.chain HB3.out hb5);have HW5:=hid (HW3.out.below hb5);clear hb5;go_wp2_with fail;refine (HRD.out _ HW5.out.range).mono ?_;rintro e w6 ⟨hb6,hret⟩;have HB6:=hid (Below.chain HB5.out hb6);clear hb6;cases hx:readL [] with
    | oof=>rw [hx] at hret;exact hret.elim
    | ok n r =>
      rw [hx] at hret;obtain ⟨ks',ad,cap,rfl,-,-⟩:=hret;go_wp2_with fail
      go_ret2
      exact ⟨by rw [HQ.out,hx];rfl,Below.chain HB6.out (Below.chain (below_new _ _) (below_new _ _))⟩
    | bad er p =>
      rw [hx] at hret;subst hret;by_cases he:er=0
      ·have q:((er:Int) != 0)=false:=by subst he;rfl
       go_wp2_with fail
       go_ret2
       exact ⟨by rw [HQ.out,hx];simp only [if_pos he];rfl,Below.chain HB6.out (Below.chain (below_new _ _) (below_new _ _))⟩
      ·have q:((er:Int) != 0)=true:=by simp;omega
       go_wp2_with fail
       go_ret2
       exact ⟨by rw [HQ.out,hx];simp only [if_neg he];rfl,Below.chain HB6.out (Below.chain (below_new _ _) (below_new _ _))⟩
   ·have hs0:=HN.out h0;refine (HST.out _ w3 HPG.out HKI.out).mono ?_;rintro e w4 ⟨rfl,hp4,hk4⟩;have HB4:=hid (HB3.out.trans (hk4.below.mono (Nat.le_of_lt hlt2)));have HB24:=hid (HB23.out.trans hk4.below);have HW4:=hid (HW2.out.below HB24.out);have HP4:=hid hp4;have HS:=hid hs0;clear HKI HPG HST hk4 hp4 hs0 HN HE HR3;go_wp2_with fail;refine (ptext_any _ _ s 0 w4 HP4.out HS.out).mono ?_;rintro e w5 ⟨rfl,hb5⟩;have HB5:=hid (HB4.out.trans (hb5.mono (Nat.le_of_lt hlt2)));have HW5:=hid (HW2.out.below (HB24.out.trans hb5));clear hb5;go_wp2_with fail;refine (HRD.out _ HW5.out.range).mono ?_;rintro e w6 ⟨hb6,hret⟩;have HB6:=hid (Below.chain HB5.out hb6);clear hb6;cases hx:readL s with
    | oof=>rw [hx] at hret;exact hret.elim
    | ok n r =>
      rw [hx] at hret;obtain ⟨ks',ad,cap,rfl,-,-⟩:=hret;go_wp2_with fail
      go_ret2
      exact ⟨by rw [HQ.out,hx];rfl,Below.chain HB6.out (Below.chain (below_new _ _) (below_new _ _))⟩
    | bad er p =>
      rw [hx] at hret;subst hret;by_cases he:er=0
      ·have q:((er:Int) != 0)=false:=by subst he;rfl
       go_wp2_with fail
       go_ret2
       exact ⟨by rw [HQ.out,hx];simp only [if_pos he];rfl,Below.chain HB6.out (Below.chain (below_new _ _) (below_new _ _))⟩
      ·have q:((er:Int) != 0)=true:=by simp;omega
       go_wp2_with fail
       go_ret2
       exact ⟨by rw [HQ.out,hx];simp only [if_neg he];rfl,Below.chain HB6.out (Below.chain (below_new _ _) (below_new _ _))⟩
theorem print_any (k:Int) (t:List UInt8) (l c:Int) (ks:List NM) (a:Option Addr) (m:Nat) (w:World) (hw:Laid w) (hh:HeldN AnyB w (.mk k t l c ks a m)) (hf:(NM.mk k t l c ks a m).fit) (hhi:(NM.mk k t l c ks a m).hi≤90000)
  (hlen:okTs (NM.trs ks)=true→(render (fileP (NM.trs ks))).length≤140737488351232) :
  Calls Tryz.prog 12 #[nodeV k t l c (.slice a ks.length m)] w (PrintRet (printL (NM.mk k t l c ks a m).tr) w):=by
 by_cases h:k≠1∨t≠[]
 ·have e:printL (NM.mk k t l c ks a m).tr=([],3):=by
   unfold printL;rw [ntr_mk,file_ok];rcases h with h | h
   ·rw [decide_eq_false h];rfl
   ·have q:t.isEmpty=false:=by cases t with
     | nil=>exact absurd rfl h
     | cons _ _=>rfl
    rw [q];simp
  rw [e];exact print_no k t l c ks a m w h
 ·have hk:k=1:=Classical.byContradiction fun e=>h (.inl e)
  have ht:t=[]:=Classical.byContradiction fun e=>h (.inr e)
  subst hk;subst ht;exact print_file l c ks a m w hw hh hf hhi hlen
abbrev aliveS:List UInt8:=[120,61,91,49,44,50,93,43,121,59]
abbrev aliveT:Tr:=.mk 2 [120] [.mk 16 [43] [.mk 12 [] [.mk 10 [49] [],.mk 10 [50] []],.mk 9 [121] []]]
abbrev aliveW:List UInt8:=[120,32,61,32,91,49,44,32,50,93,32,43,32,121,59,10]
theorem alive_bad:readL [120,32,61,32,59]=.bad 3 (1,5):=by kernel_rfl
def okTrs:PR (List Nd)→List Tr
 | .ok a _=>Nd.trs a
 | _=>[]
def isOk:PR (List Nd)→Bool
 | .ok _ _=>true
 | _=>false
theorem alive_ok:isOk (readL aliveS)=true:=by kernel_rfl
theorem alive_trs:okTrs (readL aliveS)=[aliveT]:=by kernel_rfl
theorem alive_page:render (fileP [aliveT])=aliveW:=by kernel_rfl
theorem alive_may:okFile (.mk 1 [] [aliveT])=true:=by kernel_rfl
theorem alive_back:isOk (readL aliveW)=true:=by kernel_rfl
theorem alive_print:printL (.mk 1 [] [aliveT])=(aliveW,0):=by
 unfold printL;rw [if_pos alive_may];show (match readL (render (fileP [aliveT])) with | .bad e _=>if e=0 then (render (fileP [aliveT]),0) else ([],e) | _=>(render (fileP [aliveT]),0))=_;rw [alive_page];have h:=alive_back;revert h;cases readL aliveW with
 | ok a r=>intro _;rfl
 | bad e p=>intro h;cases h
 | oof=>intro h;cases h
end Go.Proofs.YtfgiihpopngbkaaGreatDoor
