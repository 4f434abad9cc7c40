/- Lemmas and walks that the statement needs: RowsLaw. -/
import Derived.Test.YtfgiihpopngbkaaGreatDoorM27
import Derived.Test.YtfgiihpopngbkaaGreatDoorM29
import Derived.Test.YtfgiihpopngbkaaGreatDoorM06
namespace Go.Proofs.YtfgiihpopngbkaaGreatDoor
set_option maxRecDepth 100000
open Go.RowKit
open List renaming setIfInBounds_toArray→sA,set_cons_zero→sB,set_cons_succ→sC
open Nat renaming lt_of_lt_of_le→nL,le_trans→nT
theorem oper_append_src {P:Program} {o:Oper} {a:Act} {w:World} {Q:Exit→Act→World→Prop} {K:Act→World→Prop} (s x:Operand) (t:TypeId)
  (ho:o.op=.call { callee:=.builtin .append,args:=#[s,x],argTypes:=#[t,t] })
  (base:Nat) (e:TypeId) (i:TypeInfo) (z:Value) (size bytes:Nat) (ht:P.underlying t=some (.slice e)) (hi:P.info? e=some i) (hz:i.zero=some z)
  (hsize:i.size=size) (hby:i.bytes=bytes) (hzs:z.cells.size=size) (hsz:0<size)
  (v:Value) (n:Nat) (xs:List Value) (hs:a.eval s=v) (hown:w.ownsRow base e size v n xs)
  (vx:Value) (m:Nat) (news:List Value) (hx:a.eval x=vx) (hsrc:SliceAt w size vx m news) (h1:∀ u ∈ news,u.oneCell'=true)
  (h63:n+m≤maxLen) (hbytes:(n+m) * bytes≤140737488355328) (hbase:base≤w.heap.size)
  (h:∀ v' w',w'.ownsRow base e size v' (n+m) (xs++news)→w.grownBy w' v.ownBlock→K (a.put o.dst v') w'):Oper.wp P o a w K Q:=by
 obtain ⟨hl,ad,c,rfl,hc,hm,hn,hcell⟩:=hsrc;cases ad with
 | none =>
   have h0:c=0:=hn rfl;subst h0;obtain rfl:m=0:=by omega
   have hnil:news=[]:=List.eq_nil_of_length_eq_zero (by simpa using hl);subst hnil;have hrun:=run_append_owned_none (P:=P) (w:=w) base t o.type e i size ht hi v n xs hown;unfold Oper.wp;simp [execOp,ho,resolve,invoke,builtin,hs,hx,hrun,Result.andThen];exact h v w (by simpa using hown) (World.grownBy.refl _ _)
 | some ad =>
   refine oper_append_own_at s x t ho base e i z size bytes ht hi hz hsize hby hzs hsz v n xs hs hown ad m c news hx hl ?_ h1 h63 hbytes hbase (fun v' w' a b _=>h v' w' a b);intro j u hu;by_cases hne:news=[]
   ·subst hne;simp at hu
   ·obtain ⟨b,off,hb,_,hcl⟩:=hcell hne;obtain rfl:=Option.some.inj hb;have hadd:(⟨b,off,none⟩:Addr).add j=⟨b,off+j,none⟩:=by unfold Addr.add;split <;> simp_all
    rw [hadd];exact hcl j u hu
structure Trio (x y z:Nat) (cx cy cz:Array Value) (W:World):Prop where
 bx:W.heap[x]? = some (.cells cx 27 (0,0))
 by':W.heap[y]? = some (.cells cy 27 (0,0))
 bz:W.heap[z]? = some (.cells cz 27 (0,0))
theorem row_keep {w w':World} {b:Nat} {o:Obj} (h:w.heap[b]? = some o) (hb:Below w.heap.size w w'):w'.heap[b]? = some o:=(hb.block _ (Array.getElem?_eq_some_iff.1 h).1).trans h
theorem Trio.keep {x y z:Nat} {cx cy cz:Array Value} {W W':World} (h:Trio x y z cx cy cz W) (hb:Below W.heap.size W W'):Trio x y z cx cy cz W':=⟨row_keep h.bx hb,row_keep h.by' hb,row_keep h.bz hb⟩
theorem ntrs_app:∀ a b:List NM,NM.trs (a++b)=NM.trs a++NM.trs b:=fun a b=>by rw [ntrs_map,ntrs_map,ntrs_map,List.map_append]
theorem read_shape {x:PR (List Nd)} {w w':World} {E:Ending} (h:match x with
 | .ok a _=>∃ ks ad cap,E=.returned (.tuple #[nodeV 1 [] 1 1 (.slice ad ks.length cap),.int .i64 0,.agg #[.int .i64 0,.int .i64 0]])∧NM.are ks a∧HeldN (w.heap.size≤·) w' (.mk 1 [] 1 1 ks ad cap)
 | .bad er p=>E=.returned (.tuple #[nodeV 0 [] 0 0 (.slice none 0 0),.int .i64 (er:Int),.agg #[.int .i64 (p.1:Int),.int .i64 (p.2:Int)]])
 | .oof=>False) (hn:x≠.oof):∃ (k er p q:Int) (a:Option Addr) (n c:Nat),E=.returned (.tuple #[nodeV k [] k k (.slice a n c),.int .i64 er,.agg #[.int .i64 p,.int .i64 q]]):=by
 cases x with
 | oof=>exact absurd rfl hn
 | ok a r=>obtain ⟨ks,ad,cap,rfl,-,-⟩:=h;exact ⟨1,0,0,0,ad,ks.length,cap,rfl⟩
 | bad er p=>exact ⟨0,er,p.1,p.2,none,0,0,h⟩
set_option maxHeartbeats 4000000 in
theorem rows_any (s t:List UInt8) (hs:s.length≤140737488351232) (ht:t.length≤140737488351232) (w:World) (hw:Laid w) :
  Calls Tryz.prog 3 #[.string (bs s),.string (bs t)] w fun e w'=>e=.returned (.bool true)∧Below w.heap.size w w':=by
 have Ha:=hid (alive_any w hw);have HW:=hid hw;by_cases hbig:1500<s.length
 ·go_enter Tryz.func3,Tryz.ntmps3
  go_wp2_with fail;refine Ha.out.mono ?_;rintro e w1 ⟨rfl,hb1⟩;go_wp2_with fail;go_ret;exact ⟨rfl,hb1⟩
 by_cases hbig2:1500<t.length
 ·go_enter Tryz.func3,Tryz.ntmps3
  go_wp2_with fail;refine Ha.out.mono ?_;rintro e w1 ⟨rfl,hb1⟩;go_wp2_with fail;go_ret;exact ⟨rfl,hb1⟩
 have HX:=hid (fun W (hW:RangeAt W)=>read_any s hs W hW);have HY:=hid (fun W (hW:RangeAt W)=>read_any t ht W hW);have HZ:=hid (fun W (hW:RangeAt W)=>read_any (s++10::t) (by rw [List.length_append,List.length_cons];omega) W hW);have HSZ:=hid (show bs s++ByteArray.mk #[10]++bs t=bs (s++10::t) by rw [bs_append_mk,bs_append];simp);go_enter Tryz.func3,Tryz.ntmps3
 go_wp2_with fail;refine Ha.out.mono ?_;rintro e w1 ⟨rfl,hb1⟩;have HB1:=hid hb1;have HW1:=hid (hw.below hb1);clear hb1 hw Ha;go_wp2_with fail;refine (HX.out _ HW1.out.range).mono ?_;rintro e w2 ⟨hb2,hret⟩;have HB2:=hid (Below.chain HB1.out hb2);have HW2:=hid (HW1.out.below hb2);clear hb2 HX;cases hx:readL s with
 | oof=>exact absurd hx (read_fine s)
 | bad er p =>
   rw [hx] at hret;subst hret;have hb4:=below_new2 w2 (.cells #[.int .i64 0,.string (bs []),.int .i64 0,.int .i64 0,.slice none 0 0] 27) (.cells #[.int .i64 (p.1:Int),.int .i64 (p.2:Int)] 24);have HB4:=hid (Below.chain HB2.out hb4);have HY2:=hid (HY.out _ (HW2.out.below hb4).range);clear hb4 HY HZ;go_wp2_with fail;refine HY2.out.mono ?_;rintro e w5 ⟨hb5,hret⟩;obtain ⟨kk,e5,p5,q5,a5,n5,c5,rfl⟩:=read_shape hret (read_fine t);have HB5:=hid (Below.chain HB4.out hb5);clear hb5 HY2 hret;have he:=read_code hx;have q:((er:Int) != 0)=true:=by simp;omega
   go_wp2_with fail;go_ret;exact ⟨rfl,Below.chain HB5.out (below_new2 _ _ _)⟩
 | ok x r =>
   rw [hx] at hret;obtain ⟨ks,ad,cap,rfl,hare,hheld⟩:=hret;have hb4:=below_new2 w2 (.cells #[.int .i64 1,.string (bs []),.int .i64 1,.int .i64 1,.slice ad ks.length cap] 27) (.cells #[.int .i64 0,.int .i64 0] 24);have HXB:=hid (alloc_row (heap_alloc_new w2 (.cells #[.int .i64 1,.string (bs []),.int .i64 1,.int .i64 1,.slice ad ks.length cap] 27)) (.cells #[.int .i64 0,.int .i64 0] 24));have HB4:=hid (Below.chain HB2.out hb4);have HW4:=hid (HW2.out.below hb4);have HX4:=hid ((HeldN.any hheld).below hb4);have HARE:=hid hare;have HY2:=hid (HY.out _ HW4.out.range);clear hb4 HY hheld hare;go_wp2_with fail;refine HY2.out.mono ?_;rintro e w5 ⟨hb5,hret⟩;have HB5:=hid (Below.chain HB4.out hb5);have HW5:=hid (HW4.out.below hb5);have HX5:=hid (HX4.out.below hb5);have HXB5:=hid (row_keep HXB.out hb5);clear HX4 HXB HB4 HW4 HY2 hb5;cases hy:readL t with
   | oof=>exact absurd hy (read_fine t)
   | bad er p =>
     rw [hy] at hret;subst hret;have he:=read_code hy;have q:((er:Int) != 0)=true:=by simp;omega
     clear HZ;go_wp2_with fail;go_ret;exact ⟨rfl,Below.chain HB5.out (below_new2 _ _ _)⟩
   | ok y r' =>
     rw [hy] at hret;obtain ⟨ks2,ad2,cap2,rfl,hare2,hheld2⟩:=hret;obtain ⟨z,rz,hz,htr⟩:=read_rows (by omega) hx hy;have hfx:=read_few (by omega) hx;have hfy:=read_few (by omega) hy;have hk1:ks.length≤120000:=by rw [are_len HARE.out];exact hfx
     have hk2:ks2.length≤120000:=by rw [are_len hare2];exact hfy
     clear hfx hfy;have HTR:=hid htr;have hb6:=below_new2 w5 (.cells #[.int .i64 1,.string (bs []),.int .i64 1,.int .i64 1,.slice ad2 ks2.length cap2] 27) (.cells #[.int .i64 0,.int .i64 0] 24);have HYB:=hid (alloc_row (heap_alloc_new w5 (.cells #[.int .i64 1,.string (bs []),.int .i64 1,.int .i64 1,.slice ad2 ks2.length cap2] 27)) (.cells #[.int .i64 0,.int .i64 0] 24));have HXB6:=hid (row_keep HXB5.out hb6);have HB6:=hid (Below.chain HB5.out hb6);have HW6:=hid (HW5.out.below hb6);have HX6:=hid (HX5.out.below hb6);have HY6:=hid ((HeldN.any hheld2).below hb6);have HARE2:=hid hare2;have HZ2:=hid (HZ.out _ HW6.out.range);rw [hz] at HZ2;clear hb6 HB5 HW5 HX5 HXB5 hheld2 hare2 HZ htr hx hy hz;go_wp2_with fail;refine HZ2.out.mono ?_;rintro e w7 ⟨hb7,ks3,ad3,cap3,rfl,hare3,hheld3⟩;have hb8:=below_new2 w7 (.cells #[.int .i64 1,.string (bs []),.int .i64 1,.int .i64 1,.slice ad3 ks3.length cap3] 27) (.cells #[.int .i64 0,.int .i64 0] 24);have HS:=hid (show Trio w2.heap.size w5.heap.size w7.heap.size #[.int .i64 1,.string (bs []),.int .i64 1,.int .i64 1,.slice ad ks.length cap] #[.int .i64 1,.string (bs []),.int .i64 1,.int .i64 1,.slice ad2 ks2.length cap2] #[.int .i64 1,.string (bs []),.int .i64 1,.int .i64 1,.slice ad3 ks3.length cap3] _ from
      ⟨row_keep (row_keep HXB6.out hb7) hb8,row_keep (row_keep HYB.out hb7) hb8,alloc_row (heap_alloc_new w7 (.cells #[.int .i64 1,.string (bs []),.int .i64 1,.int .i64 1,.slice ad3 ks3.length cap3] 27)) (.cells #[.int .i64 0,.int .i64 0] 24)⟩)
     have HB8:=hid (Below.chain (Below.chain HB6.out hb7) hb8);have HX8:=hid ((HX6.out.below hb7).below hb8);have HY8:=hid ((HY6.out.below hb7).below hb8);have HZ8:=hid ((HeldN.any hheld3).below hb8);have HARE3:=hid hare3;clear hb7 hb8 HXB6 HYB HB6 HW6 HX6 HY6 HZ2 hare3 hheld3;obtain ⟨i0,hi0,iz0,iz1,iz2⟩:=info_parts node_info;go_wp2_with fail;refine wp_region_wh (S:=Trio w2.heap.size w5.heap.size w7.heap.size #[.int .i64 1,.string (bs []),.int .i64 1,.int .i64 1,.slice ad ks.length cap] #[.int .i64 1,.string (bs []),.int .i64 1,.int .i64 1,.slice ad2 ks2.length cap2] #[.int .i64 1,.string (bs []),.int .i64 1,.int .i64 1,.slice ad3 ks3.length cap3]) (by kernel_rfl) ?_;obtain ⟨w9,hw,hb9⟩:∃ W,Hid (W=((w7.alloc (.cells #[.int .i64 1,.string (bs []),.int .i64 1,.int .i64 1,.slice ad3 ks3.length cap3] 27)).alloc (.cells #[.int .i64 0,.int .i64 0] 24)).drew)∧Below ((w7.alloc (.cells #[.int .i64 1,.string (bs []),.int .i64 1,.int .i64 1,.slice ad3 ks3.length cap3] 27)).alloc (.cells #[.int .i64 0,.int .i64 0] 24)).heap.size ((w7.alloc (.cells #[.int .i64 1,.string (bs []),.int .i64 1,.int .i64 1,.slice ad3 ks3.length cap3] 27)).alloc (.cells #[.int .i64 0,.int .i64 0] 24)) W:=⟨_,hid rfl,Drawn.below ⟨1,rfl⟩⟩;rw [← hw.out];clear hw;have hS:=HS.out.keep hb9;have HB9:=hid (Below.chain HB8.out hb9);have HX9:=hid (HX8.out.below hb9);have HY9:=hid (HY8.out.below hb9);have HZ9:=hid (HZ8.out.below hb9);clear hb9 HS HB8 HX8 HY8 HZ8;refine WH.tk 0 (some 51) (.int .i64 0) hS ?_;(try simp only [Act.put,sA,sB,sC]);refine WH.tk 1 (some 52) (.bool true) hS ?_;(try simp only [Act.put,sA,sB,sC]);refine WH.tk 2 (some 53) (.bool true) hS ?_;(try simp only [Act.put,sA,sB,sC]);refine WH.tl 3 (some 54) hS 27 w7.heap.size 0 [.int .i64 1,.string (bs []),.int .i64 1,.int .i64 1,.slice ad3 ks3.length cap3] (fun W hW=>range_of_row hW.bz) Tryz.underlying27 ?_;(try simp only [Act.put,sA,sB,sC]);refine WH.tk 5 (some 56) (.pointer (some ⟨w2.heap.size,4,none⟩)) hS ?_;(try simp only [Act.put,sA,sB,sC]);refine WH.tk 6 (some 57) (.slice ad ks.length cap) hS ?_ (hv:=fun W hW=>by
      have e0:=cell_of_row W w2.heap.size 4 _ _ _ hW.bx;go_simp
      try rfl)
     (try simp only [Act.put,sA,sB,sC]);refine WH.tk 8 (some 59) (.pointer (some ⟨w5.heap.size,4,none⟩)) hS ?_;(try simp only [Act.put,sA,sB,sC]);refine WH.tk 9 (some 60) (.slice ad2 ks2.length cap2) hS ?_ (hv:=fun W hW=>by
      have e0:=cell_of_row W w5.heap.size 4 _ _ _ hW.by';go_simp
      try rfl)
     (try simp only [Act.put,sA,sB,sC]);refine WH.one 4 (by kernel_rfl) rfl (by kernel_rfl) ?_;intro K hK;go_simp;have hb0:=below_new w9 (.cells #[] 27);have hS2:=hS.keep hb0;have hown0:(w9.alloc (.cells #[] 27)).ownsRow w9.heap.size 27 5 (.slice (some ⟨w9.heap.size,0,none⟩) 0 0) 0 []:=⟨rfl,.inr ⟨_,0,#[],rfl,Nat.le_refl _,heap_alloc_new w9 _,Nat.le_refl _,by simp,rfl,rfl⟩⟩;have HX10:=HX9.out.below hb0;have HY10:=HY9.out.below hb0;have HZ10:=HZ9.out.below hb0;refine hK.out _ _ hS2 ?_;have hS0:=hS;clear hK K hS;(try simp only [Act.put,sA,sB,sC]);refine WH.one 7 (by kernel_rfl) rfl (by kernel_rfl) ?_;intro K hK;refine oper_append_src _ _ 25 rfl w9.heap.size 27 i0 (.agg #[.int .i64 0,.string ⟨#[]⟩,.int .i64 0,.int .i64 0,.slice none 0 0]) 5 64 Tryz.underlying25 hi0 iz0 iz1 iz2 rfl (by decide) _ _ _ rfl hown0 _ ks.length (nmCells ks) rfl HX10.kidsAt.row (nmCells_one ks) (by unfold maxLen;omega) (by omega) (by simp) ?_;intro v11 w11 hown1 hg1;have hb11:Below w9.heap.size w9 w11:=hb0.grown hg1 (by simp) (fun k hk=>(hown0.lt k hk).1);have hs9:w9.heap.size≤w11.heap.size:=hb11.size;have hS3:=hS0.keep hb11;have HY11:=HY9.out.below hb11;refine hK.out _ _ hS3 ?_;clear hK K hg1 hown0 hS2 HX10 HY10 HZ10 hb0;(try simp only [Act.put,sA]);refine WH.one 10 (by kernel_rfl) rfl (by kernel_rfl) ?_;intro K hK;refine oper_append_src _ _ 25 rfl w9.heap.size 27 i0 (.agg #[.int .i64 0,.string ⟨#[]⟩,.int .i64 0,.int .i64 0,.slice none 0 0]) 5 64 Tryz.underlying25 hi0 iz0 iz1 iz2 rfl (by decide) _ _ _ rfl hown1 _ ks2.length (nmCells ks2) rfl HY11.kidsAt.row (nmCells_one ks2) (by unfold maxLen;omega) (by omega) hs9 ?_;intro v12 w12 hown2 hg2;have hb12:Below w9.heap.size w9 w12:=hb11.grown hg2 hs9 (fun k hk=>(hown1.lt k hk).1);have hS4:=hS0.keep hb12;have HX12:=HX9.out.below hb12;have HY12:=HY9.out.below hb12;have HZ12:=HZ9.out.below hb12;have hrow:SliceAt w12 5 v12 (ks++ks2).length (nmCells (ks++ks2)):=by
      have:=SliceAt.of_owns hown2 (by unfold maxLen;omega);rw [nmCells_app,List.length_append];simpa using this
     obtain ⟨av,mv,hv12⟩:∃ a m,v12=.slice a (ks++ks2).length m:=by
      obtain ⟨-,a,c,e,-⟩:=hrow;exact ⟨a,c,e⟩
     subst hv12;have HN:=hid (mk_heldN (P:=AnyB) (k:=1) (l:=0) (c:=0) (t:=[]) (ks:=ks++ks2) (a:=av) (cap:=mv) ⟨hrow,fun _ _ _ _ _ _=>trivial⟩ (heldNs_app (heldN_mk HX12).2 (heldN_mk HY12).2));have HSM:=hid (refsame_any 1 [] 1 1 ks3 ad3 cap3 1 [] 0 0 (ks++ks2) av mv w12 HZ12 HN.out);have HTT:Hid (sameN (NM.mk 1 [] 1 1 ks3 ad3 cap3).tr (NM.mk 1 [] 0 0 (ks++ks2) av mv).tr=true):=hid (by
      rw [ntr_mk,ntr_mk,are_trs HARE3.out,HTR.out,← are_trs HARE.out,← are_trs HARE2.out,← ntrs_app];exact sameN_eq.2 rfl)
     rw [HTT.out] at HSM;have HBz:=hid (Below.chain HB9.out hb12);refine hK.out _ _ hS4 ?_;clear hK K hg2 hown1 hown2 hS3 hb11 hb12 HX12 HY12 HZ12 HX9 HY9 HZ9 HB9 HY11 hS0 hrow HTT HN;(try simp only [Act.put]);refine WH.tk 11 (some 62) (nodeV 1 [] 0 0 (.slice av (ks++ks2).length mv)) hS4 ?_ (hv:=fun W hW=>by
      go_simp
      try rfl)
     (try simp only [Act.put]);refine WH.one 12 (by kernel_rfl) rfl (by kernel_rfl) ?_;intro K hK;go_simp;rw [List.length_append] at HSM;refine HSM.out.mono ?_;rintro e w13 ⟨rfl,hb13⟩;go_wp2_with fail;have hS5:=hS4.keep hb13;have HBy:=hid (Below.chain HBz.out hb13);refine hK.out _ _ hS5 ?_;clear hK K hb13 hS4 HBz HSM;(try simp only [Act.put,sA,sB,sC]);refine WH.tk 13 (some 64) (.bool true) hS5 ?_;(try simp only [Act.put,sA,sB,sC]);refine WH.tk 14 (some 4) (.bool true) hS5 ?_;(try simp only [Act.put,sA,sB,sC]);refine WH.done (by kernel_rfl) ?_;go_wp2_with fail;go_ret;exact ⟨rfl,HBy.out⟩
end Go.Proofs.YtfgiihpopngbkaaGreatDoor
