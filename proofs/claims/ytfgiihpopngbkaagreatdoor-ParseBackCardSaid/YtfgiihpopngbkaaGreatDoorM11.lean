/- Lemmas and walks that the statement needs: PageDict, PageBlock. -/
import Derived.Test.YtfgiihpopngbkaaGreatDoorM07
namespace Go.Proofs.YtfgiihpopngbkaaGreatDoor
set_option maxRecDepth 100000
open Go.RowKit
open List renaming setIfInBounds_toArray→sA,set_cons_zero→sB,set_cons_succ→sC
open Nat renaming lt_of_lt_of_le→nL,le_trans→nT
theorem dict_snoc (x:List Piece):∀ s:List (List Piece),dictJ (s++[x])=if s=[] then x else if s.length % 2=1 then dictJ s++sg 58::sp::x else dictJ s++sg 44::sp::x
 | []=>rfl
 | [a]=>rfl
 | [a,b]=>by
   rw [if_neg (by simp),if_neg (by simp)];show a++sg 58::sp::(b++sg 44::sp::x)=(a++sg 58::sp::b)++sg 44::sp::x;simp
 | a::b::c::r=>by
   have ih:=dict_snoc x (c::r);rw [if_neg (by simp)] at ih ⊢;have hl:(a::b::c::r).length % 2=(c::r).length % 2:=by simp only [List.length_cons];omega
   rw [hl];show a++sg 58::sp::(b++sg 44::sp::dictJ ((c::r)++[x]))=_;rw [ih];split
   ·show _=(a++sg 58::sp::(b++sg 44::sp::dictJ (c::r)))++sg 58::sp::x;simp
   ·show _=(a++sg 58::sp::(b++sg 44::sp::dictJ (c::r)))++sg 44::sp::x;simp
set_option maxHeartbeats 4000000 in
theorem expr_13 (pb:Nat) (t:List UInt8) (l c:Int) (ks:List NM) (a:Option Addr) (m:Nat) (hk0:ks.length≤1000000) (IH:∀ j (hj:j<ks.length),Puts 80 pb (fun n=>oP n ks[j].tr) ks[j]):Puts 80 pb (fun n=>oP n (NM.mk 13 t l c ks a m).tr) (NM.mk 13 t l c ks a m):=by
 intro acc tb w h hh htb hlen;change Calls _ _ #[_,nodeV 13 t l c (.slice a ks.length m)] _ _;have HKI:=hid (KidsIn.of hh);obtain ⟨la,lc,hv,hlc,hlm,-⟩:=HKI.out.at;obtain ⟨rfl,rfl⟩:a=la∧m=lc:=by simpa using hv
 unfold maxLen at hlm;clear hv;have HAcc:=hid (show acc++render (oP tb (NM.mk 13 t l c ks a m).tr)=acc++[123]++render (dictJ (ks.map (fun (x:NM)=>oP tb x.tr)))++[125] by
  have hm:∀ n,oPs n (NM.trs ks)=ks.map (fun (x:NM)=>oP n x.tr):=fun n=>by rw [oPs_map,ntrs_map,List.map_map];rfl
  rw [ntr_mk,oP_mk];show acc++render (putP tb 13 t _ _)=_;unfold putP;rw [hm];simp [render,writ,sg]
 )
 have HLn:=hid (show (acc++[123]++render (dictJ (ks.map (fun (x:NM)=>oP tb x.tr)))++[125]).length≤140737488355000 by rw [← HAcc.out,List.length_append];exact hlen);obtain ⟨w1,hw,hbb,hr,hlt1⟩:∃ W,Hid (W=w.alloc (.cells #[.int .i64 13,.string (bs t),.int .i64 l,.int .i64 c,.slice a ks.length m] 27))∧Below w.heap.size w W∧W.heap[w.heap.size]? = some (.cells #[.int .i64 13,.string (bs t),.int .i64 l,.int .i64 c,.slice a ks.length m] 27 (0,0))∧w.heap.size<W.heap.size :=
  ⟨_,hid rfl,below_new w _,heap_alloc_new w _,by rw [World.size_alloc];omega⟩
 have hlt0:=h.lt.2;have HP:=hid (h.below hbb);have HK:=hid (PK.of hbb (Nat.le_of_lt hlt0));have r_n:=hid hr;have n_n:w.heap.size≠pb:=by omega
 clear h hh hbb hr hlen;obtain ⟨out,hout⟩:∃ out:List (List Piece),out=ks.map (fun (x:NM)=>oP tb x.tr):=⟨_,rfl⟩;rw [← hout] at HAcc HLn;have hol:out.length=ks.length:=by rw [hout,List.length_map]
 have HI:=hid IH;have HL:=hid (fun j (hj:j≤ks.length)=>(show (acc++[123]++render (dictJ (out.take j))).length≤140737488355000 by
  have hstep:∀ (s:List (List Piece)) (x:List Piece),(render (dictJ s)).length≤(render (dictJ (s++[x]))).length:=by
   intro s x;rw [dict_snoc];split
   ·rename_i e;subst e;simp [dictJ,render]
   ·split <;> rw [render_app,List.length_append] <;> omega
  have hsuf:∀ (r s:List (List Piece)),(render (dictJ s)).length≤(render (dictJ (s++r))).length:=by
   intro r;induction r with
   | nil=>intro s;rw [List.append_nil];exact Nat.le_refl _
   | cons x r ih=>intro s;have h1:=hstep s x;have h2:=ih (s++[x]);rw [List.append_assoc] at h2;exact nT h1 h2
  have:=hsuf (out.drop j) (out.take j);rw [List.take_append_drop] at this;have h2:=HLn.out;simp only [List.length_append] at h2 ⊢;omega))
 have HO:=hid (fun j (hj:j<ks.length)=>(show dictJ (out.take (j+1))=if out.take j=[] then oP tb ks[j].tr else if j % 2=1 then dictJ (out.take j)++sg 58::sp::oP tb ks[j].tr else dictJ (out.take j)++sg 44::sp::oP tb ks[j].tr by
  have hlt:(out.take j).length=j:=by rw [List.length_take];omega
  rw [List.take_succ_eq_append_getElem (by omega),dict_snoc,hlt];have e:out[j]'(by omega)=oP tb ks[j].tr:=by simp only [hout,List.getElem_map]
  rw [e]))
 have HZ:=hid (fun j (hj:j<ks.length)=>(show out.take j=[] ↔ j=0 from ⟨fun e=>by have:=congrArg List.length e;simp at this;rcases this with h | h;exact h;(rw [h] at hol;simp at hol;omega),fun e=>by subst e;rfl⟩));have HE:=hid (show out.take ks.length=out from List.take_of_length_le (by omega));clear hout hol IH;go_enter Tryz.func80,Tryz.ntmps80
 go_wp2_with fail;rw [← hw.out];clear hw;refine (wbyte pb (acc) tb 123 _ HP.out (by have:=HLn.out;simp only [List.length_append,List.length_cons,List.length_nil] at this ⊢;omega)).mono ?_;rintro e w2 ⟨rfl,hp,hk⟩;replace HP:=hid hp;replace r_n:=hid (hk.row r_n.out n_n (by decide));replace HK:=hid (HK.out.trans hk);clear hp hk;obtain ⟨q_n0,q_n1,q_n2,q_n3,q_n4,-,-,-,-,-⟩:=row5 r_n.out;go_wp2_with fail;clear q_n0 q_n1 q_n2 q_n3 q_n4;go_loopw [50] (fun i wr=>∃ j:Nat,j≤ks.length∧i=.int .i64 j∧PageAt pb pb (acc++[123]++render (dictJ (out.take j))) tb wr∧PK pb w wr) (fun i _=>ks.length - (intOf i).toNat)
 case atStart=>exact ⟨0,by omega,rfl,by rw [List.take_zero];show PageAt pb pb (acc++[123]++[]) tb _;rw [List.append_nil];exact HP.out,HK.out⟩
 case round =>
  clear HP HK r_n;obtain ⟨j,hj,rfl,hp,hk2⟩:=hrel;have HP:=hid hp;have HK:=hid hk2;have hltw:pb<wr.heap.size:=hp.lt.2;by_cases hlt:j<ks.length
  ·skip
   have hd:decide (j<ks.length)=true:=decide_eq_true hlt;have HKJ:=hid (HKI.out.keep hk2.below);obtain ⟨la',lc',hv,-,-,hx⟩:=HKJ.out.at;obtain ⟨lb,lo,rfl,hlb,hcl⟩:=hx (by omega);obtain ⟨rfl,rfl⟩:a=some ⟨lb,lo,none⟩∧m=lc':=by simpa using hv
   have hfc:=hcl j hlt;have HIj:=hid (HI.out j hlt);have hheld:=hid (heldNs_get HKJ.out.held j hlt);have HT:=hid (HO.out j hlt);have HL1:=hid (HL.out (j+1) (by omega));have HZj:=hid (HZ.out j hlt);have HE0:=hid (show j=0→dictJ (out.take j)=[] from fun e=>by subst e;rfl);generalize dictJ (out.take j)=pre at *;generalize ks[j]=x at *;cases x with
   | mk kx tx lx cx kk ax mx =>
   obtain ⟨c0,c1,c2,c3,c4⟩:=five_of hfc;clear hcl hx hv hk2 hp HKJ;obtain ⟨wk,hw,hbb,hr,hltk⟩:∃ W,Hid (W=wr.alloc (.cells #[.int .i64 kx,.string (bs tx),.int .i64 lx,.int .i64 cx,.slice ax kk.length mx] 27))∧Below wr.heap.size wr W∧W.heap[wr.heap.size]? = some (.cells #[.int .i64 kx,.string (bs tx),.int .i64 lx,.int .i64 cx,.slice ax kk.length mx] 27 (0,0))∧wr.heap.size<W.heap.size :=
    ⟨_,hid rfl,below_new wr _,heap_alloc_new wr _,by rw [World.size_alloc];omega⟩
   have HP1:=hid (HP.out.below hbb);have HK1:=hid (HK.out.trans (PK.of hbb (Nat.le_of_lt hltw)));have Hx:=hid (HeldN.keep (low_keep (hbb.mono (Nat.le_of_lt hltw))) hheld.out);have r_k:=hid hr;have n_k:wr.heap.size≠pb:=by omega
   clear HP HK hheld hbb hr;by_cases h0:j=0
   ·skip
    have q0:¬ ((0:Int)<(j:Int)):=by omega
    have HT0:=hid (HT.out.trans (if_pos (HZj.out.2 h0)));have HE1:=hid (HE0.out h0);have HLx:=hid (show (acc++[123]++render pre).length+(render (oP tb (NM.mk kx tx lx cx kk ax mx).tr)).length≤140737488355000 by
     have:=HL1.out;rw [HT0.out] at this;rw [HE1.out,render_nil,List.append_nil];rw [List.length_append] at this;exact this)
    have HP2:=HP1;have HK2:=HK1;have Hx2:=Hx;clear HT HZj HE0 h0 HP1 HK1 Hx;go_wp2_with fail;rw [← hw.out];clear hw;obtain ⟨z0,z1,z2,z3,z4,-,-,-,-,-⟩:=row5 r_k.out;go_wp2_with fail;clear z0 z1 z2 z3 z4;refine (HIj.out _ tb _ HP2.out Hx2.out htb HLx.out).mono ?_;rintro e w9 ⟨rfl,hp9,hk9⟩;have HP9:=hid hp9;have HK9:=hid (HK2.out.trans hk9);clear hp9 hk9 HP2 HK2;go_wp2_with fail
    go_round
    case rel=>exact ⟨j+1,by omega,by go_num,by have:=HP9.out;rw [HE1.out,render_nil,List.append_nil] at this;rw [HT0.out];exact this,HK9.out⟩
    case measure=>simp [intOf];omega
   ·skip
    by_cases hpar:j % 2=1
    ·skip
     have q0:(0:Int)<(j:Int):=by omega
     have HT0:=hid (HT.out.trans ((if_neg (fun e=>h0 (HZj.out.1 e))).trans (if_pos hpar)));have HLx:=hid (show (acc++[123]++render pre++[58,32]).length+(render (oP tb (NM.mk kx tx lx cx kk ax mx).tr)).length≤140737488355000 by
      have:=HL1.out;rw [HT0.out,render_app,render_cons,render_cons] at this;simp [sg,sp,writ] at this ⊢;omega)
     have HEq:=hid (show acc++[123]++render (pre++sg 58::sp::oP tb (NM.mk kx tx lx cx kk ax mx).tr)=acc++[123]++render pre++[58,32]++render (oP tb (NM.mk kx tx lx cx kk ax mx).tr) by
      rw [render_app,render_cons,render_cons];simp [sg,sp,writ])
     have qpar:(j:Int) % 2=1:=by omega
     clear HT HZj HE0 h0 hpar;go_wp2_with fail;rw [← hw.out];clear hw;refine wp_region_wh (S:=fun W=>W.heap[wr.heap.size]? = some (.cells #[.int .i64 kx,.string (bs tx),.int .i64 lx,.int .i64 cx,.slice ax kk.length mx] 27 (0,0))) (by kernel_rfl) ?_;obtain ⟨wd,hw,hbb⟩:∃ W,Hid (W=wk.drew)∧Below wk.heap.size wk W:=⟨_,hid rfl,Drawn.below ⟨1,rfl⟩⟩;rw [← hw.out];clear hw;have hk0':=PK.of hbb (Nat.le_of_lt HP1.out.lt.2);replace HP1:=hid (HP1.out.below hbb);replace r_k:=hid (hk0'.row r_k.out n_k (by decide));replace HK1:=hid (HK1.out.trans hk0');replace Hx:=hid (HeldN.keep (low_keep hk0'.below) Hx.out);clear hk0' hbb;have hS:=r_k.out;refine WH.tk 0 (some 57) (.pointer (some ⟨pb,0,none⟩)) hS ?_;(try simp only [Act.put,sA,sB,sC]);refine WH.tk 1 (some 58) (.pointer (some ⟨pb,0,none⟩)) hS ?_;(try simp only [Act.put,sA,sB,sC]);refine WH.tk 2 (some 59) (.pointer (some ⟨pb,0,none⟩)) hS ?_;(try simp only [Act.put,sA,sB,sC]);refine WH.tk 4 (some 61) (.int .i64 (j:Int)) hS ?_;(try simp only [Act.put,sA,sB,sC]);refine WH.take 5 (some 62) rfl rfl (by kernel_rfl) (by kernel_rfl) (by kernel_rfl) (fun _ _ _ _ h=>h) hS ⟨.int .i64 1,⟨by kernel_rfl,fun W _=>by go_simp;rw [Int.tmod_eq_emod_of_nonneg (by omega)];omega⟩,?_⟩;(try simp only [Act.put,sA,sB,sC]);refine WH.one 3 (by kernel_rfl) rfl (by kernel_rfl) ?_;intro K hK;go_simp;obtain ⟨we,hw,hbb,hrs,hlts⟩:∃ W,Hid (W=wd.alloc (.cells #[.string ⟨#[44,32]⟩,.string ⟨#[58,32]⟩] 9))∧Below wd.heap.size wd W∧W.heap[wd.heap.size]? = some (.cells #[.string ⟨#[44,32]⟩,.string ⟨#[58,32]⟩] 9 (0,0))∧wd.heap.size<W.heap.size :=
      ⟨_,hid rfl,below_new wd _,heap_alloc_new wd _,by rw [World.size_alloc];omega⟩
     have hk0':=PK.of hbb (Nat.le_of_lt HP1.out.lt.2);replace HP1:=hid (HP1.out.below hbb);replace r_k:=hid (hk0'.row r_k.out n_k (by decide));replace HK1:=hid (HK1.out.trans hk0');replace Hx:=hid (HeldN.keep (low_keep hk0'.below) Hx.out);have hq:=cell_of_row _ _ 1 _ _ _ hrs;clear hk0' hbb hrs;rw [← hw.out];clear hw;clear hS;have hS:=r_k.out;refine hK.out _ _ hS ?_;clear hK K;(try simp only [Act.put,sA,sB,sC]);refine WH.one 6 (by kernel_rfl) rfl (by kernel_rfl) ?_;intro K hK;go_simp;refine hK.out _ _ hS ?_;clear hK K;(try simp only [Act.put,sA,sB,sC]);refine WH.one 7 (by kernel_rfl) rfl (by kernel_rfl) ?_;intro K hK;go_simp;refine hK.out _ _ hS ?_;clear hK K;(try simp only [Act.put,sA,sB,sC]);clear hq;refine WH.one 8 (by kernel_rfl) rfl (by kernel_rfl) ?_;intro K hK;go_simp;refine (wstr pb (acc++[123]++render pre) tb [58,32] we HP1.out (by have:=HLx.out;simp only [List.length_append,List.length_cons,List.length_nil] at this ⊢;omega)).mono ?_;rintro e w2 ⟨rfl,hp2,hk2⟩;have r_k2:=hid (hk2.row r_k.out n_k (by decide));have Hx2:=hid (HeldN.keep (low_keep hk2.below) Hx.out);have HP2:=hid hp2;have HK2:=hid (HK1.out.trans hk2);clear hp2 hk2 HP1 HK1 Hx r_k hS;go_wp2_with fail;refine hK.out _ _ r_k2.out ?_;clear hK K;(try simp only [Act.put,sA,sB,sC]);refine WH.done (by kernel_rfl) ?_;obtain ⟨z0,z1,z2,z3,z4,-,-,-,-,-⟩:=row5 r_k2.out;go_wp2_with fail;clear z0 z1 z2 z3 z4;refine (HIj.out _ tb _ HP2.out Hx2.out htb HLx.out).mono ?_;rintro e w9 ⟨rfl,hp9,hk9⟩;have HP9:=hid hp9;have HK9:=hid (HK2.out.trans hk9);clear hp9 hk9 HP2 HK2;go_wp2_with fail
     go_round
     case rel=>exact ⟨j+1,by omega,by go_num,by rw [HT0.out,HEq.out];exact HP9.out,HK9.out⟩
     case measure=>simp [intOf];omega
    ·skip
     have q0:(0:Int)<(j:Int):=by omega
     have HT0:=hid (HT.out.trans ((if_neg (fun e=>h0 (HZj.out.1 e))).trans (if_neg hpar)));have HLx:=hid (show (acc++[123]++render pre++[44,32]).length+(render (oP tb (NM.mk kx tx lx cx kk ax mx).tr)).length≤140737488355000 by
      have:=HL1.out;rw [HT0.out,render_app,render_cons,render_cons] at this;simp [sg,sp,writ] at this ⊢;omega)
     have HEq:=hid (show acc++[123]++render (pre++sg 44::sp::oP tb (NM.mk kx tx lx cx kk ax mx).tr)=acc++[123]++render pre++[44,32]++render (oP tb (NM.mk kx tx lx cx kk ax mx).tr) by
      rw [render_app,render_cons,render_cons];simp [sg,sp,writ])
     have qpar:(j:Int) % 2=0:=by omega
     clear HT HZj HE0 h0 hpar;go_wp2_with fail;rw [← hw.out];clear hw;refine wp_region_wh (S:=fun W=>W.heap[wr.heap.size]? = some (.cells #[.int .i64 kx,.string (bs tx),.int .i64 lx,.int .i64 cx,.slice ax kk.length mx] 27 (0,0))) (by kernel_rfl) ?_;obtain ⟨wd,hw,hbb⟩:∃ W,Hid (W=wk.drew)∧Below wk.heap.size wk W:=⟨_,hid rfl,Drawn.below ⟨1,rfl⟩⟩;rw [← hw.out];clear hw;have hk0':=PK.of hbb (Nat.le_of_lt HP1.out.lt.2);replace HP1:=hid (HP1.out.below hbb);replace r_k:=hid (hk0'.row r_k.out n_k (by decide));replace HK1:=hid (HK1.out.trans hk0');replace Hx:=hid (HeldN.keep (low_keep hk0'.below) Hx.out);clear hk0' hbb;have hS:=r_k.out;refine WH.tk 0 (some 57) (.pointer (some ⟨pb,0,none⟩)) hS ?_;(try simp only [Act.put,sA,sB,sC]);refine WH.tk 1 (some 58) (.pointer (some ⟨pb,0,none⟩)) hS ?_;(try simp only [Act.put,sA,sB,sC]);refine WH.tk 2 (some 59) (.pointer (some ⟨pb,0,none⟩)) hS ?_;(try simp only [Act.put,sA,sB,sC]);refine WH.tk 4 (some 61) (.int .i64 (j:Int)) hS ?_;(try simp only [Act.put,sA,sB,sC]);refine WH.take 5 (some 62) rfl rfl (by kernel_rfl) (by kernel_rfl) (by kernel_rfl) (fun _ _ _ _ h=>h) hS ⟨.int .i64 0,⟨by kernel_rfl,fun W _=>by go_simp;rw [Int.tmod_eq_emod_of_nonneg (by omega)];omega⟩,?_⟩;(try simp only [Act.put,sA,sB,sC]);refine WH.one 3 (by kernel_rfl) rfl (by kernel_rfl) ?_;intro K hK;go_simp;obtain ⟨we,hw,hbb,hrs,hlts⟩:∃ W,Hid (W=wd.alloc (.cells #[.string ⟨#[44,32]⟩,.string ⟨#[58,32]⟩] 9))∧Below wd.heap.size wd W∧W.heap[wd.heap.size]? = some (.cells #[.string ⟨#[44,32]⟩,.string ⟨#[58,32]⟩] 9 (0,0))∧wd.heap.size<W.heap.size :=
      ⟨_,hid rfl,below_new wd _,heap_alloc_new wd _,by rw [World.size_alloc];omega⟩
     have hk0':=PK.of hbb (Nat.le_of_lt HP1.out.lt.2);replace HP1:=hid (HP1.out.below hbb);replace r_k:=hid (hk0'.row r_k.out n_k (by decide));replace HK1:=hid (HK1.out.trans hk0');replace Hx:=hid (HeldN.keep (low_keep hk0'.below) Hx.out);have hq:=cell_of_row _ _ 0 _ _ _ hrs;clear hk0' hbb hrs;rw [← hw.out];clear hw;clear hS;have hS:=r_k.out;refine hK.out _ _ hS ?_;clear hK K;(try simp only [Act.put,sA,sB,sC]);refine WH.one 6 (by kernel_rfl) rfl (by kernel_rfl) ?_;intro K hK;go_simp;refine hK.out _ _ hS ?_;clear hK K;(try simp only [Act.put,sA,sB,sC]);refine WH.one 7 (by kernel_rfl) rfl (by kernel_rfl) ?_;intro K hK;go_simp;refine hK.out _ _ hS ?_;clear hK K;(try simp only [Act.put,sA,sB,sC]);clear hq;refine WH.one 8 (by kernel_rfl) rfl (by kernel_rfl) ?_;intro K hK;go_simp;refine (wstr pb (acc++[123]++render pre) tb [44,32] we HP1.out (by have:=HLx.out;simp only [List.length_append,List.length_cons,List.length_nil] at this ⊢;omega)).mono ?_;rintro e w2 ⟨rfl,hp2,hk2⟩;have r_k2:=hid (hk2.row r_k.out n_k (by decide));have Hx2:=hid (HeldN.keep (low_keep hk2.below) Hx.out);have HP2:=hid hp2;have HK2:=hid (HK1.out.trans hk2);clear hp2 hk2 HP1 HK1 Hx r_k hS;go_wp2_with fail;refine hK.out _ _ r_k2.out ?_;clear hK K;(try simp only [Act.put,sA,sB,sC]);refine WH.done (by kernel_rfl) ?_;obtain ⟨z0,z1,z2,z3,z4,-,-,-,-,-⟩:=row5 r_k2.out;go_wp2_with fail;clear z0 z1 z2 z3 z4;refine (HIj.out _ tb _ HP2.out Hx2.out htb HLx.out).mono ?_;rintro e w9 ⟨rfl,hp9,hk9⟩;have HP9:=hid hp9;have HK9:=hid (HK2.out.trans hk9);clear hp9 hk9 HP2 HK2;go_wp2_with fail
     go_round
     case rel=>exact ⟨j+1,by omega,by go_num,by rw [HT0.out,HEq.out];exact HP9.out,HK9.out⟩
     case measure=>simp [intOf];omega
  ·skip
   have hd:decide (j<ks.length)=false:=decide_eq_false hlt;have hjk:j=ks.length:=by omega
   have HP9:=hid (show PageAt pb pb (acc++[123]++render (dictJ out)) tb wr by rw [hjk,HE.out] at hp;exact hp);clear hjk hp hk2 HP;have HP:=HP9;clear HP9;go_wp2_with fail;refine (wbyte pb (acc++[123]++render (dictJ out)) tb 125 _ HP.out (by have:=HLn.out;simp only [List.length_append,List.length_cons,List.length_nil] at this ⊢;omega)).mono ?_;rintro e w3 ⟨rfl,hp,hk⟩;replace HP:=hid hp;replace HK:=hid (HK.out.trans hk);clear hp hk;go_wp2_with fail
   go_end0
   exact ⟨rfl,by show PageAt pb pb (acc++render _) tb _;rw [HAcc.out];exact HP.out,HK.out⟩
theorem tabs_render (n:Nat) (l:List Piece):render (tabsP n++l)=List.replicate n 9++render l:=by
 unfold tabsP;split
 ·rename_i h;subst h;rfl
 ·rw [List.cons_append,render_cons];rfl
theorem pk_tabs (pb:Nat) (w:World) (v:Value):PK pb w (w.setCell ⟨pb,2,none⟩ v):=⟨(Below.refl pb w).setCell (p:=⟨pb,2,none⟩) (Nat.le_refl _) v,(Lib.OthersKept.refl _ _ w).setCell ⟨pb,2,none⟩ rfl v⟩
set_option maxHeartbeats 4000000 in
theorem block_8 (pb:Nat) (t:List UInt8) (l c:Int) (ks:List NM) (a:Option Addr) (m:Nat) (T:Nat) (hT:T≤99990) (IH:∀ acc t w v,PageAt pb pb acc t w→KidsIn pb w v ks→t≤T+1→acc.length+(render (linesJ t (ks.map (fun (x:NM)=>oP t x.tr)))).length≤140737488355000→Calls Tryz.prog 24 #[.pointer (some ⟨pb,0,none⟩),v] w fun e w'=>e=.returned (.tuple #[])∧PageAt pb pb (acc++render (linesJ t (ks.map (fun (x:NM)=>oP t x.tr)))) t w'∧PK pb w w'):∀ acc tb w,PageAt pb pb acc tb w→HeldN (·<pb) w (NM.mk 8 t l c ks a m)→tb≤T→acc.length+(render (oP tb (NM.mk 8 t l c ks a m).tr)).length≤140737488355000 →
  Calls Tryz.prog 81 #[.pointer (some ⟨pb,0,none⟩),nodeV 8 t l c (.slice a ks.length m)] w fun e w'=>e=.returned (.tuple #[])∧PageAt pb pb (acc++render (oP tb (NM.mk 8 t l c ks a m).tr)) tb w'∧PK pb w w':=by
 intro acc tb w h hh htb hlen;change Calls _ _ #[_,nodeV 8 t l c (.slice a ks.length m)] _ _;have HKI:=hid (KidsIn.of hh);obtain ⟨la,lc,hv,hlc,hlm,-⟩:=HKI.out.at;obtain ⟨rfl,rfl⟩:a=la∧m=lc:=by simpa using hv
 unfold maxLen at hlm;clear hv;have HAcc:=hid (show acc++render (oP tb (NM.mk 8 t l c ks a m).tr)=acc++[123,10]++render (linesJ (tb+1) (ks.map (fun (x:NM)=>oP (tb+1) x.tr)))++List.replicate tb 9++[125] by
  have hm:∀ n,oPs n (NM.trs ks)=ks.map (fun (x:NM)=>oP n x.tr):=fun n=>by rw [oPs_map,ntrs_map,List.map_map];rfl
  rw [ntr_mk,oP_mk,if_pos rfl,hm];show acc++render (putP tb 8 t _ _)=_;unfold putP;show acc++render (sg 123::nl::(linesJ (tb+1) _++(tabsP tb++[sg 125])))=_;rw [render_cons,render_cons,render_app,tabs_render];simp [render,writ,sg,nl]
 )
 have HLn:=hid (show (acc++[123,10]++render (linesJ (tb+1) (ks.map (fun (x:NM)=>oP (tb+1) x.tr)))++List.replicate tb 9++[125]).length≤140737488355000 by rw [← HAcc.out,List.length_append];exact hlen);obtain ⟨w1,hw,hbb,hr,hlt1⟩:∃ W,Hid (W=w.alloc (.cells #[.int .i64 8,.string (bs t),.int .i64 l,.int .i64 c,.slice a ks.length m] 27))∧Below w.heap.size w W∧W.heap[w.heap.size]? = some (.cells #[.int .i64 8,.string (bs t),.int .i64 l,.int .i64 c,.slice a ks.length m] 27 (0,0))∧w.heap.size<W.heap.size :=
  ⟨_,hid rfl,below_new w _,heap_alloc_new w _,by rw [World.size_alloc];omega⟩
 have hlt0:=h.lt.2;have HP:=hid (h.below hbb);have HK:=hid (PK.of hbb (Nat.le_of_lt hlt0));have r_n:=hid hr;have n_n:w.heap.size≠pb:=by omega
 clear h hh hbb hr hlen;go_enter Tryz.func81,Tryz.ntmps81
 go_wp2_with fail;rw [← hw.out];clear hw;refine (wstr pb (acc) tb ([123,10]) _ HP.out (by have:=HLn.out;simp only [List.length_append,List.length_cons,List.length_nil] at this ⊢;omega)).mono ?_;rintro e w2 ⟨rfl,hp,hk⟩;replace HP:=hid hp;replace r_n:=hid (hk.row r_n.out n_n (by decide));replace HK:=hid (HK.out.trans hk);clear hp hk;obtain ⟨pp,pv,hpr⟩:=HP.out.row;have pq:=cell_of_row _ _ 2 _ _ _ hpr;have pf:=frozen_of_row hpr 2;clear hpr;obtain ⟨wt1,hwt,hpt,hkt⟩:∃ W,Hid (W=w2.setCell ⟨pb,2,none⟩ (.int .i64 ((tb:Int)+1)))∧PageAt pb pb (acc++[123,10]) (tb+1) W∧PK pb w2 W:=⟨_,hid rfl,by have:=HP.out.tabs ((tb+1));rwa [show (((tb+1):Nat):Int)=(tb:Int)+1 by omega] at this,pk_tabs _ _ _⟩;obtain ⟨q_n0,q_n1,q_n2,q_n3,q_n4,-,-,-,-,-⟩:=row5 r_n.out;go_wp2_with fail;clear q_n0 q_n1 q_n2 q_n3 q_n4;clear pq pf;rw [← hwt.out];clear hwt;replace HP:=hid hpt;replace r_n:=hid (hkt.row r_n.out n_n (by decide));replace HK:=hid (HK.out.trans hkt);clear hkt hpt;refine (IH (acc++[123,10]) (tb+1) _ (.slice a ks.length m) HP.out (HKI.out.keep HK.out.below) (by omega) (by have:=HLn.out;simp only [List.length_append,List.length_cons,List.length_nil] at this ⊢;omega)).mono ?_;rintro e w3 ⟨rfl,hp,hk⟩;replace HP:=hid hp;replace r_n:=hid (hk.row r_n.out n_n (by decide));replace HK:=hid (HK.out.trans hk);clear hp hk;have hcast:((tb+1:Nat):Int)=(tb:Int)+1:=by omega
 obtain ⟨pp,pv,hpr⟩:=HP.out.row;rw [hcast] at hpr;have pq:=cell_of_row _ _ 2 _ _ _ hpr;have pf:=frozen_of_row hpr 2;clear hpr hcast;obtain ⟨wt2,hwt,hpt,hkt⟩:∃ W,Hid (W=w3.setCell ⟨pb,2,none⟩ (.int .i64 (tb:Int)))∧PageAt pb pb (acc++[123,10]++render (linesJ (tb+1) (ks.map (fun (x:NM)=>oP (tb+1) x.tr)))) tb W∧PK pb w3 W:=⟨_,hid rfl,HP.out.tabs tb,pk_tabs _ _ _⟩;obtain ⟨q_n0,q_n1,q_n2,q_n3,q_n4,-,-,-,-,-⟩:=row5 r_n.out;go_wp2_with fail;clear q_n0 q_n1 q_n2 q_n3 q_n4;clear pq pf;rw [← hwt.out];clear hwt;replace HP:=hid hpt;replace r_n:=hid (hkt.row r_n.out n_n (by decide));replace HK:=hid (HK.out.trans hkt);clear hkt hpt;refine (line_any pb (acc++[123,10]++render (linesJ (tb+1) (ks.map (fun (x:NM)=>oP (tb+1) x.tr)))) tb _ HP.out (by omega) (by have:=HLn.out;simp only [List.length_append,List.length_cons,List.length_nil,List.length_replicate] at this ⊢;omega)).mono ?_;rintro e w4 ⟨rfl,hp,hk⟩;replace HP:=hid hp;replace r_n:=hid (hk.row r_n.out n_n (by decide));replace HK:=hid (HK.out.trans hk);clear hp hk;obtain ⟨q_n0,q_n1,q_n2,q_n3,q_n4,-,-,-,-,-⟩:=row5 r_n.out;go_wp2_with fail;clear q_n0 q_n1 q_n2 q_n3 q_n4;refine (wbyte pb (acc++[123,10]++render (linesJ (tb+1) (ks.map (fun (x:NM)=>oP (tb+1) x.tr)))++List.replicate tb 9) tb 125 _ HP.out (by have:=HLn.out;simp only [List.length_append,List.length_cons,List.length_nil] at this ⊢;omega)).mono ?_;rintro e w5 ⟨rfl,hp,hk⟩;replace HP:=hid hp;replace r_n:=hid (hk.row r_n.out n_n (by decide));replace HK:=hid (HK.out.trans hk);clear hp hk;go_wp2_with fail
 go_end0
 exact ⟨rfl,by show PageAt pb pb (acc++render _) tb _;rw [HAcc.out];exact HP.out,HK.out⟩
theorem lines_snoc (n:Nat) (x:List Piece):∀ s:List (List Piece),render (linesJ n (s++[x]))=render (linesJ n s)++(List.replicate n 9++(render x++[10]))
 | []=>by
   show render (tabsP n++(x++[nl]))=_;rw [tabs_render,render_app];simp [render,nl,writ,linesJ]
 | a::r=>by
   have ih:=lines_snoc n x r;show render (tabsP n++(a++nl::linesJ n (r++[x])))=render (tabsP n++(a++nl::linesJ n r))++_;rw [tabs_render,tabs_render,render_app,render_app,render_cons,render_cons,ih];simp
set_option maxHeartbeats 4000000 in
theorem stmts_any (pb T:Nat) (ks:List NM) (hk0:ks.length≤1000000) (IH:∀ j (hj:j<ks.length) acc tb w,PageAt pb pb acc tb w→HeldN (·<pb) w ks[j]→tb≤T→acc.length+(render (oP tb ks[j].tr)).length≤140737488355000 →
  Calls Tryz.prog 42 #[.pointer (some ⟨pb,0,none⟩),ks[j].val] w fun e w'=>e=.returned (.tuple #[])∧PageAt pb pb (acc++render (oP tb ks[j].tr)) tb w'∧PK pb w w')
  (acc:List UInt8) (t:Nat) (w:World) (v:Value) (h:PageAt pb pb acc t w) (hl:KidsIn pb w v ks) (ht:t≤T) (ht0:T≤100000) (hlen:acc.length+(render (linesJ t (ks.map (fun (x:NM)=>oP t x.tr)))).length≤140737488355000) :
  Calls Tryz.prog 24 #[.pointer (some ⟨pb,0,none⟩),v] w fun e w'=>e=.returned (.tuple #[])∧PageAt pb pb (acc++render (linesJ t (ks.map (fun (x:NM)=>oP t x.tr)))) t w'∧PK pb w w':=by
 have HS:=hid (fun W (hW:Below pb w W)=>hl.keep hW);have HI:=hid IH;obtain ⟨la,lc,rfl,hlc,hlm,-⟩:=hl.at;unfold maxLen at hlm;obtain ⟨out,hout⟩:∃ out:List (List Piece),out=ks.map (fun (x:NM)=>oP t x.tr):=⟨_,rfl⟩;rw [← hout] at hlen ⊢;have hol:out.length=ks.length:=by rw [hout,List.length_map]
 have HL:=hid (fun j (hj:j≤ks.length)=>(show acc.length+(render (linesJ t (out.take j))).length≤140737488355000 by
  refine nT ?_ hlen;have hsuf:∀ (r s:List (List Piece)),(render (linesJ t s)).length≤(render (linesJ t (s++r))).length:=by
   intro r;induction r with
   | nil=>intro s;rw [List.append_nil];exact Nat.le_refl _
   | cons x r ih=>intro s;have h2:=ih (s++[x]);rw [List.append_assoc,lines_snoc] at h2;simp only [List.length_append] at h2;exact nT (by omega) h2
  have:=hsuf (out.drop j) (out.take j);rw [List.take_append_drop] at this;omega))
 have HO:=hid (fun j (hj:j<ks.length)=>(show render (linesJ t (out.take (j+1)))=render (linesJ t (out.take j))++(List.replicate t 9++(render (oP t ks[j].tr)++[10])) by
  rw [List.take_succ_eq_append_getElem (by omega),lines_snoc];have e:out[j]'(by omega)=oP t ks[j].tr:=by simp only [hout,List.getElem_map]
  rw [e]))
 have HE:=hid (show out.take ks.length=out from List.take_of_length_le (by omega));have H0:=hid h;clear hl IH h hlen hout hol;go_enter Tryz.func24,Tryz.ntmps24
 go_wp2_with fail;go_loopw [8] (fun i wr=>∃ j:Nat,j≤ks.length∧i=.int .i64 j∧PageAt pb pb (acc++render (linesJ t (out.take j))) t wr∧PK pb w wr) (fun i _=>ks.length - (intOf i).toNat)
 case atStart=>exact ⟨0,by omega,rfl,by rw [List.take_zero];show PageAt pb pb (acc++[]) t w;rw [List.append_nil];exact H0.out,PK.refl _ _⟩
 case round =>
  clear H0;obtain ⟨j,hj,rfl,hp,hk2⟩:=hrel;have HP:=hid hp;have HK:=hid hk2;have hlt0:pb<wr.heap.size:=hp.lt.2;by_cases hlt:j<ks.length
  ·have hd:decide (j<ks.length)=true:=decide_eq_true hlt;have HKI:=hid (HS.out _ hk2.below);obtain ⟨la',lc',hv,-,-,hx⟩:=HKI.out.at;obtain ⟨lb,lo,rfl,hlb,hcl⟩:=hx (by omega);obtain ⟨rfl,rfl⟩:la=some ⟨lb,lo,none⟩∧lc=lc':=by simpa using hv
   have hfc:=hcl j hlt;have HIj:=hid (HI.out j hlt);have hheld:=hid (heldNs_get HKI.out.held j hlt);have HL1:=hid (HL.out (j+1) (by omega));have HT:=hid (HO.out j hlt);generalize render (linesJ t (out.take j))=pre at *;generalize ks[j]=x at *;cases x with
   | mk kx tx lx cx kk ax mx =>
   have HLx:=hid (show (acc++pre++List.replicate t 9++render (oP t (NM.mk kx tx lx cx kk ax mx).tr)++[10]).length≤140737488355000 by
    have:=HL1.out;rw [HT.out] at this;simp only [List.length_append] at this ⊢;omega)
   obtain ⟨c0,c1,c2,c3,c4⟩:=five_of hfc;clear hcl hx hv hk2 hp HKI HL1;obtain ⟨w1,hw,hbb,hr,hlt1⟩:∃ W,Hid (W=wr.alloc (.cells #[.int .i64 kx,.string (bs tx),.int .i64 lx,.int .i64 cx,.slice ax kk.length mx] 27))∧Below wr.heap.size wr W∧W.heap[wr.heap.size]? = some (.cells #[.int .i64 kx,.string (bs tx),.int .i64 lx,.int .i64 cx,.slice ax kk.length mx] 27 (0,0))∧wr.heap.size<W.heap.size :=
    ⟨_,hid rfl,below_new wr _,heap_alloc_new wr _,by rw [World.size_alloc];omega⟩
   have HP1:=hid (HP.out.below hbb);have HK1:=hid (HK.out.trans (PK.of hbb (Nat.le_of_lt hlt0)));have hh1:=hid (HeldN.keep (low_keep (hbb.mono (Nat.le_of_lt hlt0))) hheld.out);have HR1:=hid hr;have nb:wr.heap.size≠pb:=by omega
   clear HP hheld hbb hr;go_wp2_with fail;rw [← hw.out];clear hw;refine (line_any pb _ t w1 HP1.out (by omega) (by have:=HLx.out;simp only [List.length_append,List.length_cons,List.length_nil,List.length_replicate] at this ⊢;omega)).mono ?_;rintro e w2 ⟨rfl,hp2,hk2⟩;have HR2:=hid (hk2.row HR1.out nb (by decide));have hh2:=hid (HeldN.keep (low_keep hk2.below) hh1.out);have HP2:=hid hp2;have HK2:=hid (HK1.out.trans hk2);clear hp2 hk2 HP1 HK1 hh1 HR1;obtain ⟨z0,z1,z2,z3,z4,-,-,-,-,-⟩:=row5 HR2.out;go_wp2_with fail;clear z0 z1 z2 z3 z4;refine (HIj.out _ t w2 HP2.out hh2.out ht (by have:=HLx.out;simp only [List.length_append,List.length_cons,List.length_nil] at this ⊢;omega)).mono ?_;rintro e w3 ⟨rfl,hp3,hk3⟩;have HP3:=hid hp3;have HK3:=hid (HK2.out.trans hk3);clear hp3 hk3 HP2 HK2;go_wp2_with fail;refine (wbyte pb _ t 10 _ HP3.out (by have:=HLx.out;simp only [List.length_append,List.length_cons,List.length_nil] at this ⊢;omega)).mono ?_;rintro e w4 ⟨rfl,hp4,hk4⟩;have HP4:=hid hp4;have HK4:=hid (HK3.out.trans hk4);clear hp4 hk4 HP3 HK3;go_wp2_with fail
   go_round
   case rel=>exact ⟨j+1,by omega,by go_num,by rw [HT.out];simpa only [List.append_assoc] using HP4.out,HK4.out⟩
   case measure=>simp [intOf];omega
  ·have hd:decide (j<ks.length)=false:=decide_eq_false hlt;have hjk:j=ks.length:=by omega
   have HZ:=hid (show PageAt pb pb (acc++render (linesJ t out)) t wr by rw [hjk,HE.out] at hp;exact hp);clear hjk hp;go_wp2_with fail
   go_end0
   exact ⟨rfl,HZ.out,hk2⟩
end Go.Proofs.YtfgiihpopngbkaaGreatDoor
