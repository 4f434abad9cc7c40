/- Lemmas and walks that the statement needs: PageRow, PageNamed, PageParam, PageIn, Once, NewRepl. -/
import Derived.Test.YtfgiihpopngbkaaGreatDoorM06
import Derived.Test.YtfgiihpopngbkaaGreatDoorM02
import Derived.Test.YtfgiihpopngbkaaGreatDoorM01
import Derived.Deep.RegionWith
import Derived.Defers
import Derived.Laws.Pointers
import Derived.Laws.LoneSync
import Derived.RegionTactic
import Derived.RegionCalls
import Derived.ChangeAlike
namespace Go.Proofs.YtfgiihpopngbkaaGreatDoor
set_option maxRecDepth 100000
open Go.RowKit
open List renaming setIfInBounds_toArray→sA,set_cons_zero→sB,set_cons_succ→sC
open Nat renaming lt_of_lt_of_le→nL,le_trans→nT
theorem comma_snoc (x:List Piece):∀ s:List (List Piece),commaJ (s++[x])=if s=[] then x else commaJ s++sg 44::sp::x
 | []=>rfl
 | [a]=>rfl
 | a::b::r=>by
   have ih:=comma_snoc x (b::r);rw [if_neg (by simp)] at ih ⊢;show a++sg 44::sp::commaJ ((b::r)++[x])=(a++sg 44::sp::commaJ (b::r))++sg 44::sp::x;rw [ih];simp
structure KidsIn (pb:Nat) (w:World) (v:Value) (ks:List NM):Prop where
 row:SliceFrom (·<pb) w 5 v ks.length (nmCells ks)
 held:HeldNs (·<pb) w ks
theorem KidsIn.keep {pb:Nat} {w w':World} {v:Value} {ks:List NM} (h:KidsIn pb w v ks) (hb:Below pb w w'):KidsIn pb w' v ks:=⟨h.row.keep (low_keep hb),HeldNs.keep (low_keep hb) h.held⟩
theorem KidsIn.of {pb:Nat} {w:World} {k l c:Int} {t:List UInt8} {ks:List NM} {a:Option Addr} {m:Nat} (h:HeldN (·<pb) w (.mk k t l c ks a m)):KidsIn pb w (.slice a ks.length m) ks:=⟨(heldN_mk h).1,(heldN_mk h).2⟩
theorem KidsIn.at {pb:Nat} {w:World} {v:Value} {ks:List NM} (h:KidsIn pb w v ks):∃ a c,v=.slice a ks.length c∧ks.length≤c∧c≤maxLen∧(0<ks.length→∃ b off,a=some ⟨b,off,none⟩∧b<w.heap.size∧∀ j (hj:j<ks.length),FiveN w b (off+j * 5) ks[j]):=by
 have hk:KidsAt w v ks:=⟨h.row.1,HeldNs.less (fun _ _ _=>trivial) h.held⟩;obtain ⟨a,c,e,h1,h2,hx⟩:=hk.nodes;exact ⟨a,c,e,h1,h2,fun hn=>hx 0 hn⟩
set_option maxHeartbeats 2000000 in
theorem row_expr (pb:Nat) (out:Nat→NM→List Piece) (ks:List NM) (v:Value) (acc:List UInt8) (t:Nat) (w:World) (h:PageAt pb pb acc t w) (hl:KidsIn pb w v ks) (ht:t≤100000) (hk:ks.length≤1000000)
  (hlen:acc.length+(render (commaJ (ks.map (out t)))).length≤140737488355000)
  (IH:∀ j (hj:j<ks.length),Puts 80 pb (fun n=>out n ks[j]) ks[j]) :
  Calls Tryz.prog 82 #[.pointer (some ⟨pb,0,none⟩),v,.func (.func 80) #[.pointer (some ⟨pb,0,none⟩)] #[]] w fun e w'=>e=.returned (.tuple #[])∧PageAt pb pb (acc++render (commaJ (ks.map (out t)))) t w'∧PK pb w w':=by
 have HS:=hid (fun W (hW:Below pb w W)=>hl.keep hW);have HI:=hid IH;obtain ⟨la,lc,rfl,hlc,hlm,-⟩:=hl.at;unfold maxLen at hlm;have HL:=hid (fun j (hj:j≤ks.length)=>(show acc.length+(render (commaJ ((ks.map (out t)).take j))).length≤140737488355000 by
  refine nT ?_ hlen;have hstep:∀ (s:List (List Piece)) (x:List Piece),(render (commaJ s)).length≤(render (commaJ (s++[x]))).length:=by
   intro s x;rw [comma_snoc];split
   ·rename_i e;subst e;simp [commaJ,render]
   ·rw [render_app,List.length_append];omega
  have hsuf:∀ (r s:List (List Piece)),(render (commaJ s)).length≤(render (commaJ (s++r))).length:=by
   intro r;induction r with
   | nil=>intro s;rw [List.append_nil];exact Nat.le_refl _
   | cons x r ih=>intro s;have h1:=hstep s x;have h2:=ih (s++[x]);rw [List.append_assoc] at h2;exact nT h1 h2
  have:=hsuf ((ks.map (out t)).drop j) ((ks.map (out t)).take j);rw [List.take_append_drop] at this;omega))
 have H0:=hid h;clear hl IH h hlen;go_enter Tryz.func82,Tryz.ntmps82
 go_wp2_with fail;go_loopw [10] (fun i wr=>∃ j:Nat,j≤ks.length∧i=.int .i64 j∧PageAt pb pb (acc++render (commaJ ((ks.map (out t)).take j))) t wr∧PK pb w wr) (fun i _=>ks.length - (intOf i).toNat)
 case atStart=>exact ⟨0,by omega,rfl,by rw [List.take_zero];show PageAt pb pb (acc++[]) t w;rw [List.append_nil];exact H0.out,PK.refl _ _⟩
 case round =>
  clear H0;obtain ⟨j,hj,rfl,hp,hk2⟩:=hrel;have HP:=hid hp;have HK:=hid hk2;have hlt0:pb<wr.heap.size:=hp.lt.2;by_cases hlt:j<ks.length
  ·have hd:decide (j<ks.length)=true:=decide_eq_true hlt;have HKI:=hid (HS.out _ hk2.below);obtain ⟨la',lc',hv,-,-,hx⟩:=HKI.out.at;obtain ⟨lb,lo,rfl,hlb,hcl⟩:=hx (by omega);obtain ⟨rfl,rfl⟩:la=some ⟨lb,lo,none⟩∧lc=lc':=by simpa using hv
   have hfc:=hcl j hlt;have HIj:=hid (HI.out j hlt);have hheld:=hid (heldNs_get HKI.out.held j hlt);have hlj:j<(ks.map (out t)).length:=by simpa using hlt
   have HT:=hid (show commaJ ((ks.map (out t)).take (j+1))=if (ks.map (out t)).take j=[] then out t ks[j] else commaJ ((ks.map (out t)).take j)++sg 44::sp::out t ks[j] by
    rw [List.take_succ_eq_append_getElem hlj,comma_snoc,List.getElem_map])
   have HL1:=hid (HL.out (j+1) (by omega));have HZ:=hid (show (ks.map (out t)).take j=[] ↔ j=0 from ⟨fun e=>by have:=congrArg List.length e;simp at this;rcases this with h | h;exact h;(rw [h] at hlt;simp at hlt),fun e=>by subst e;rfl⟩);have HE0:=hid (show j=0→commaJ ((ks.map (out t)).take j)=[] from fun e=>by subst e;rfl);generalize commaJ ((ks.map (out t)).take j)=pre at *;generalize ks[j]=x at *;cases x with
   | mk kx tx lx cx kk ax mx =>
   obtain ⟨c0,c1,c2,c3,c4⟩:=five_of hfc;clear hcl hx hv hk2 hp HKI hlj;obtain ⟨w1,hw,hbb,hr,hlt1⟩:∃ W,Hid (W=wr.alloc (.cells #[.int .i64 kx,.string (bs tx),.int .i64 lx,.int .i64 cx,.slice ax kk.length mx] 27))∧Below wr.heap.size wr W∧W.heap[wr.heap.size]? = some (.cells #[.int .i64 kx,.string (bs tx),.int .i64 lx,.int .i64 cx,.slice ax kk.length mx] 27 (0,0))∧wr.heap.size<W.heap.size :=
    ⟨_,hid rfl,below_new wr _,heap_alloc_new wr _,by rw [World.size_alloc];omega⟩
   have HP1:=hid (HP.out.below hbb);have HK1:=hid (HK.out.trans (PK.of hbb (Nat.le_of_lt hlt0)));have hh1:=hid (HeldN.keep (low_keep (hbb.mono (Nat.le_of_lt hlt0))) hheld.out);have HR1:=hid hr;have nb:wr.heap.size≠pb:=by omega
   clear HP hheld hbb hr;by_cases h0:j=0
   ·have q0:¬ ((0:Int)<(j:Int)):=by omega
    have HT0:=hid (HT.out.trans (if_pos (HZ.out.2 h0)));have HE:=hid (HE0.out h0);have HLx:=hid (show (acc++render pre).length+(render (out t (.mk kx tx lx cx kk ax mx))).length≤140737488355000 by
     have:=HL1.out;rw [HT0.out] at this;rw [HE.out,render_nil,List.append_nil];exact this)
    clear HT HZ HE0 h0;go_wp2_with fail;rw [← hw.out];clear hw;obtain ⟨z0,z1,z2,z3,z4,-,-,-,-,-⟩:=row5 HR1.out;go_wp2_with fail;clear z0 z1 z2 z3 z4;refine (HIj.out _ t w1 HP1.out hh1.out ht HLx.out).mono ?_;rintro e w2 ⟨rfl,hp2,hk2⟩;have HP2:=hid hp2;have HK2:=hid (HK1.out.trans hk2);clear hp2 hk2 HP1 HK1;go_wp2_with fail
    go_round
    case rel=>exact ⟨j+1,by omega,by go_num,by have:=HP2.out;rw [HE.out,render_nil,List.append_nil] at this;rw [HT0.out];exact this,HK2.out⟩
    case measure=>simp [intOf];omega
   ·have q0:(0:Int)<(j:Int):=by omega
    have HT0:=hid (HT.out.trans (if_neg (fun e=>h0 (HZ.out.1 e))));have HLx:=hid (show (acc++render pre++[44,32]).length+(render (out t (.mk kx tx lx cx kk ax mx))).length≤140737488355000 by
     have:=HL1.out;rw [HT0.out,render_app,render_cons,render_cons] at this;simp [sg,sp,writ] at this ⊢;omega)
    have HEq:=hid (show acc++render (pre++sg 44::sp::out t (.mk kx tx lx cx kk ax mx))=acc++render pre++[44,32]++render (out t (.mk kx tx lx cx kk ax mx)) by
     rw [render_app,render_cons,render_cons];simp [sg,sp,writ])
    clear HT HZ HE0 h0;go_wp2_with fail;rw [← hw.out];clear hw;refine (wstr pb (acc++render pre) t [44,32] w1 HP1.out (by have:=HLx.out;simp at this ⊢;omega)).mono ?_;rintro e w2 ⟨rfl,hp2,hk2⟩;have HR2:=hid (hk2.row HR1.out nb (by decide));have hh2:=hid (HeldN.keep (low_keep hk2.below) hh1.out);have HP2:=hid hp2;have HK2:=hid (HK1.out.trans hk2);clear hp2 hk2 HP1 HK1 hh1 HR1;obtain ⟨z0,z1,z2,z3,z4,-,-,-,-,-⟩:=row5 HR2.out;go_wp2_with fail;clear z0 z1 z2 z3 z4;refine (HIj.out _ t w2 HP2.out hh2.out ht HLx.out).mono ?_;rintro e w3 ⟨rfl,hp3,hk3⟩;have HP3:=hid hp3;have HK3:=hid (HK2.out.trans hk3);clear hp3 hk3 HP2 HK2;go_wp2_with fail
    go_round
    case rel=>exact ⟨j+1,by omega,by go_num,by rw [HT0.out,HEq.out];exact HP3.out,HK3.out⟩
    case measure=>simp [intOf];omega
  ·have hd:decide (j<ks.length)=false:=decide_eq_false hlt;go_wp2_with fail
   go_end0
   exact ⟨rfl,by rw [show (ks.map (out t)).take j=ks.map (out t) from List.take_of_length_le (by rw [List.length_map];omega)] at hp;exact hp,hk2⟩
set_option maxHeartbeats 2000000 in
theorem row_named (pb:Nat) (out:Nat→NM→List Piece) (ks:List NM) (v:Value) (acc:List UInt8) (t:Nat) (w:World) (h:PageAt pb pb acc t w) (hl:KidsIn pb w v ks) (ht:t≤100000) (hk:ks.length≤1000000)
  (hlen:acc.length+(render (commaJ (ks.map (out t)))).length≤140737488355000)
  (IH:∀ j (hj:j<ks.length),Puts 79 pb (fun n=>out n ks[j]) ks[j]) :
  Calls Tryz.prog 82 #[.pointer (some ⟨pb,0,none⟩),v,.func (.func 79) #[.pointer (some ⟨pb,0,none⟩)] #[]] w fun e w'=>e=.returned (.tuple #[])∧PageAt pb pb (acc++render (commaJ (ks.map (out t)))) t w'∧PK pb w w':=by
 have HS:=hid (fun W (hW:Below pb w W)=>hl.keep hW);have HI:=hid IH;obtain ⟨la,lc,rfl,hlc,hlm,-⟩:=hl.at;unfold maxLen at hlm;have HL:=hid (fun j (hj:j≤ks.length)=>(show acc.length+(render (commaJ ((ks.map (out t)).take j))).length≤140737488355000 by
  refine nT ?_ hlen;have hstep:∀ (s:List (List Piece)) (x:List Piece),(render (commaJ s)).length≤(render (commaJ (s++[x]))).length:=by
   intro s x;rw [comma_snoc];split
   ·rename_i e;subst e;simp [commaJ,render]
   ·rw [render_app,List.length_append];omega
  have hsuf:∀ (r s:List (List Piece)),(render (commaJ s)).length≤(render (commaJ (s++r))).length:=by
   intro r;induction r with
   | nil=>intro s;rw [List.append_nil];exact Nat.le_refl _
   | cons x r ih=>intro s;have h1:=hstep s x;have h2:=ih (s++[x]);rw [List.append_assoc] at h2;exact nT h1 h2
  have:=hsuf ((ks.map (out t)).drop j) ((ks.map (out t)).take j);rw [List.take_append_drop] at this;omega))
 have H0:=hid h;clear hl IH h hlen;go_enter Tryz.func82,Tryz.ntmps82
 go_wp2_with fail;go_loopw [10] (fun i wr=>∃ j:Nat,j≤ks.length∧i=.int .i64 j∧PageAt pb pb (acc++render (commaJ ((ks.map (out t)).take j))) t wr∧PK pb w wr) (fun i _=>ks.length - (intOf i).toNat)
 case atStart=>exact ⟨0,by omega,rfl,by rw [List.take_zero];show PageAt pb pb (acc++[]) t w;rw [List.append_nil];exact H0.out,PK.refl _ _⟩
 case round =>
  clear H0;obtain ⟨j,hj,rfl,hp,hk2⟩:=hrel;have HP:=hid hp;have HK:=hid hk2;have hlt0:pb<wr.heap.size:=hp.lt.2;by_cases hlt:j<ks.length
  ·have hd:decide (j<ks.length)=true:=decide_eq_true hlt;have HKI:=hid (HS.out _ hk2.below);obtain ⟨la',lc',hv,-,-,hx⟩:=HKI.out.at;obtain ⟨lb,lo,rfl,hlb,hcl⟩:=hx (by omega);obtain ⟨rfl,rfl⟩:la=some ⟨lb,lo,none⟩∧lc=lc':=by simpa using hv
   have hfc:=hcl j hlt;have HIj:=hid (HI.out j hlt);have hheld:=hid (heldNs_get HKI.out.held j hlt);have hlj:j<(ks.map (out t)).length:=by simpa using hlt
   have HT:=hid (show commaJ ((ks.map (out t)).take (j+1))=if (ks.map (out t)).take j=[] then out t ks[j] else commaJ ((ks.map (out t)).take j)++sg 44::sp::out t ks[j] by
    rw [List.take_succ_eq_append_getElem hlj,comma_snoc,List.getElem_map])
   have HL1:=hid (HL.out (j+1) (by omega));have HZ:=hid (show (ks.map (out t)).take j=[] ↔ j=0 from ⟨fun e=>by have:=congrArg List.length e;simp at this;rcases this with h | h;exact h;(rw [h] at hlt;simp at hlt),fun e=>by subst e;rfl⟩);have HE0:=hid (show j=0→commaJ ((ks.map (out t)).take j)=[] from fun e=>by subst e;rfl);generalize commaJ ((ks.map (out t)).take j)=pre at *;generalize ks[j]=x at *;cases x with
   | mk kx tx lx cx kk ax mx =>
   obtain ⟨c0,c1,c2,c3,c4⟩:=five_of hfc;clear hcl hx hv hk2 hp HKI hlj;obtain ⟨w1,hw,hbb,hr,hlt1⟩:∃ W,Hid (W=wr.alloc (.cells #[.int .i64 kx,.string (bs tx),.int .i64 lx,.int .i64 cx,.slice ax kk.length mx] 27))∧Below wr.heap.size wr W∧W.heap[wr.heap.size]? = some (.cells #[.int .i64 kx,.string (bs tx),.int .i64 lx,.int .i64 cx,.slice ax kk.length mx] 27 (0,0))∧wr.heap.size<W.heap.size :=
    ⟨_,hid rfl,below_new wr _,heap_alloc_new wr _,by rw [World.size_alloc];omega⟩
   have HP1:=hid (HP.out.below hbb);have HK1:=hid (HK.out.trans (PK.of hbb (Nat.le_of_lt hlt0)));have hh1:=hid (HeldN.keep (low_keep (hbb.mono (Nat.le_of_lt hlt0))) hheld.out);have HR1:=hid hr;have nb:wr.heap.size≠pb:=by omega
   clear HP hheld hbb hr;by_cases h0:j=0
   ·have q0:¬ ((0:Int)<(j:Int)):=by omega
    have HT0:=hid (HT.out.trans (if_pos (HZ.out.2 h0)));have HE:=hid (HE0.out h0);have HLx:=hid (show (acc++render pre).length+(render (out t (.mk kx tx lx cx kk ax mx))).length≤140737488355000 by
     have:=HL1.out;rw [HT0.out] at this;rw [HE.out,render_nil,List.append_nil];exact this)
    clear HT HZ HE0 h0;go_wp2_with fail;rw [← hw.out];clear hw;obtain ⟨z0,z1,z2,z3,z4,-,-,-,-,-⟩:=row5 HR1.out;go_wp2_with fail;clear z0 z1 z2 z3 z4;refine (HIj.out _ t w1 HP1.out hh1.out ht HLx.out).mono ?_;rintro e w2 ⟨rfl,hp2,hk2⟩;have HP2:=hid hp2;have HK2:=hid (HK1.out.trans hk2);clear hp2 hk2 HP1 HK1;go_wp2_with fail
    go_round
    case rel=>exact ⟨j+1,by omega,by go_num,by have:=HP2.out;rw [HE.out,render_nil,List.append_nil] at this;rw [HT0.out];exact this,HK2.out⟩
    case measure=>simp [intOf];omega
   ·have q0:(0:Int)<(j:Int):=by omega
    have HT0:=hid (HT.out.trans (if_neg (fun e=>h0 (HZ.out.1 e))));have HLx:=hid (show (acc++render pre++[44,32]).length+(render (out t (.mk kx tx lx cx kk ax mx))).length≤140737488355000 by
     have:=HL1.out;rw [HT0.out,render_app,render_cons,render_cons] at this;simp [sg,sp,writ] at this ⊢;omega)
    have HEq:=hid (show acc++render (pre++sg 44::sp::out t (.mk kx tx lx cx kk ax mx))=acc++render pre++[44,32]++render (out t (.mk kx tx lx cx kk ax mx)) by
     rw [render_app,render_cons,render_cons];simp [sg,sp,writ])
    clear HT HZ HE0 h0;go_wp2_with fail;rw [← hw.out];clear hw;refine (wstr pb (acc++render pre) t [44,32] w1 HP1.out (by have:=HLx.out;simp at this ⊢;omega)).mono ?_;rintro e w2 ⟨rfl,hp2,hk2⟩;have HR2:=hid (hk2.row HR1.out nb (by decide));have hh2:=hid (HeldN.keep (low_keep hk2.below) hh1.out);have HP2:=hid hp2;have HK2:=hid (HK1.out.trans hk2);clear hp2 hk2 HP1 HK1 hh1 HR1;obtain ⟨z0,z1,z2,z3,z4,-,-,-,-,-⟩:=row5 HR2.out;go_wp2_with fail;clear z0 z1 z2 z3 z4;refine (HIj.out _ t w2 HP2.out hh2.out ht HLx.out).mono ?_;rintro e w3 ⟨rfl,hp3,hk3⟩;have HP3:=hid hp3;have HK3:=hid (HK2.out.trans hk3);clear hp3 hk3 HP2 HK2;go_wp2_with fail
    go_round
    case rel=>exact ⟨j+1,by omega,by go_num,by rw [HT0.out,HEq.out];exact HP3.out,HK3.out⟩
    case measure=>simp [intOf];omega
  ·have hd:decide (j<ks.length)=false:=decide_eq_false hlt;go_wp2_with fail
   go_end0
   exact ⟨rfl,by rw [show (ks.map (out t)).take j=ks.map (out t) from List.take_of_length_le (by rw [List.length_map];omega)] at hp;exact hp,hk2⟩
set_option maxHeartbeats 2000000 in
theorem row_param (pb:Nat) (out:Nat→NM→List Piece) (ks:List NM) (v:Value) (acc:List UInt8) (t:Nat) (w:World) (h:PageAt pb pb acc t w) (hl:KidsIn pb w v ks) (ht:t≤100000) (hk:ks.length≤1000000)
  (hlen:acc.length+(render (commaJ (ks.map (out t)))).length≤140737488355000)
  (IH:∀ j (hj:j<ks.length),Puts 83 pb (fun n=>out n ks[j]) ks[j]) :
  Calls Tryz.prog 82 #[.pointer (some ⟨pb,0,none⟩),v,.func (.func 83) #[.pointer (some ⟨pb,0,none⟩)] #[]] w fun e w'=>e=.returned (.tuple #[])∧PageAt pb pb (acc++render (commaJ (ks.map (out t)))) t w'∧PK pb w w':=by
 have HS:=hid (fun W (hW:Below pb w W)=>hl.keep hW);have HI:=hid IH;obtain ⟨la,lc,rfl,hlc,hlm,-⟩:=hl.at;unfold maxLen at hlm;have HL:=hid (fun j (hj:j≤ks.length)=>(show acc.length+(render (commaJ ((ks.map (out t)).take j))).length≤140737488355000 by
  refine nT ?_ hlen;have hstep:∀ (s:List (List Piece)) (x:List Piece),(render (commaJ s)).length≤(render (commaJ (s++[x]))).length:=by
   intro s x;rw [comma_snoc];split
   ·rename_i e;subst e;simp [commaJ,render]
   ·rw [render_app,List.length_append];omega
  have hsuf:∀ (r s:List (List Piece)),(render (commaJ s)).length≤(render (commaJ (s++r))).length:=by
   intro r;induction r with
   | nil=>intro s;rw [List.append_nil];exact Nat.le_refl _
   | cons x r ih=>intro s;have h1:=hstep s x;have h2:=ih (s++[x]);rw [List.append_assoc] at h2;exact nT h1 h2
  have:=hsuf ((ks.map (out t)).drop j) ((ks.map (out t)).take j);rw [List.take_append_drop] at this;omega))
 have H0:=hid h;clear hl IH h hlen;go_enter Tryz.func82,Tryz.ntmps82
 go_wp2_with fail;go_loopw [10] (fun i wr=>∃ j:Nat,j≤ks.length∧i=.int .i64 j∧PageAt pb pb (acc++render (commaJ ((ks.map (out t)).take j))) t wr∧PK pb w wr) (fun i _=>ks.length - (intOf i).toNat)
 case atStart=>exact ⟨0,by omega,rfl,by rw [List.take_zero];show PageAt pb pb (acc++[]) t w;rw [List.append_nil];exact H0.out,PK.refl _ _⟩
 case round =>
  clear H0;obtain ⟨j,hj,rfl,hp,hk2⟩:=hrel;have HP:=hid hp;have HK:=hid hk2;have hlt0:pb<wr.heap.size:=hp.lt.2;by_cases hlt:j<ks.length
  ·have hd:decide (j<ks.length)=true:=decide_eq_true hlt;have HKI:=hid (HS.out _ hk2.below);obtain ⟨la',lc',hv,-,-,hx⟩:=HKI.out.at;obtain ⟨lb,lo,rfl,hlb,hcl⟩:=hx (by omega);obtain ⟨rfl,rfl⟩:la=some ⟨lb,lo,none⟩∧lc=lc':=by simpa using hv
   have hfc:=hcl j hlt;have HIj:=hid (HI.out j hlt);have hheld:=hid (heldNs_get HKI.out.held j hlt);have hlj:j<(ks.map (out t)).length:=by simpa using hlt
   have HT:=hid (show commaJ ((ks.map (out t)).take (j+1))=if (ks.map (out t)).take j=[] then out t ks[j] else commaJ ((ks.map (out t)).take j)++sg 44::sp::out t ks[j] by
    rw [List.take_succ_eq_append_getElem hlj,comma_snoc,List.getElem_map])
   have HL1:=hid (HL.out (j+1) (by omega));have HZ:=hid (show (ks.map (out t)).take j=[] ↔ j=0 from ⟨fun e=>by have:=congrArg List.length e;simp at this;rcases this with h | h;exact h;(rw [h] at hlt;simp at hlt),fun e=>by subst e;rfl⟩);have HE0:=hid (show j=0→commaJ ((ks.map (out t)).take j)=[] from fun e=>by subst e;rfl);generalize commaJ ((ks.map (out t)).take j)=pre at *;generalize ks[j]=x at *;cases x with
   | mk kx tx lx cx kk ax mx =>
   obtain ⟨c0,c1,c2,c3,c4⟩:=five_of hfc;clear hcl hx hv hk2 hp HKI hlj;obtain ⟨w1,hw,hbb,hr,hlt1⟩:∃ W,Hid (W=wr.alloc (.cells #[.int .i64 kx,.string (bs tx),.int .i64 lx,.int .i64 cx,.slice ax kk.length mx] 27))∧Below wr.heap.size wr W∧W.heap[wr.heap.size]? = some (.cells #[.int .i64 kx,.string (bs tx),.int .i64 lx,.int .i64 cx,.slice ax kk.length mx] 27 (0,0))∧wr.heap.size<W.heap.size :=
    ⟨_,hid rfl,below_new wr _,heap_alloc_new wr _,by rw [World.size_alloc];omega⟩
   have HP1:=hid (HP.out.below hbb);have HK1:=hid (HK.out.trans (PK.of hbb (Nat.le_of_lt hlt0)));have hh1:=hid (HeldN.keep (low_keep (hbb.mono (Nat.le_of_lt hlt0))) hheld.out);have HR1:=hid hr;have nb:wr.heap.size≠pb:=by omega
   clear HP hheld hbb hr;by_cases h0:j=0
   ·have q0:¬ ((0:Int)<(j:Int)):=by omega
    have HT0:=hid (HT.out.trans (if_pos (HZ.out.2 h0)));have HE:=hid (HE0.out h0);have HLx:=hid (show (acc++render pre).length+(render (out t (.mk kx tx lx cx kk ax mx))).length≤140737488355000 by
     have:=HL1.out;rw [HT0.out] at this;rw [HE.out,render_nil,List.append_nil];exact this)
    clear HT HZ HE0 h0;go_wp2_with fail;rw [← hw.out];clear hw;obtain ⟨z0,z1,z2,z3,z4,-,-,-,-,-⟩:=row5 HR1.out;go_wp2_with fail;clear z0 z1 z2 z3 z4;refine (HIj.out _ t w1 HP1.out hh1.out ht HLx.out).mono ?_;rintro e w2 ⟨rfl,hp2,hk2⟩;have HP2:=hid hp2;have HK2:=hid (HK1.out.trans hk2);clear hp2 hk2 HP1 HK1;go_wp2_with fail
    go_round
    case rel=>exact ⟨j+1,by omega,by go_num,by have:=HP2.out;rw [HE.out,render_nil,List.append_nil] at this;rw [HT0.out];exact this,HK2.out⟩
    case measure=>simp [intOf];omega
   ·have q0:(0:Int)<(j:Int):=by omega
    have HT0:=hid (HT.out.trans (if_neg (fun e=>h0 (HZ.out.1 e))));have HLx:=hid (show (acc++render pre++[44,32]).length+(render (out t (.mk kx tx lx cx kk ax mx))).length≤140737488355000 by
     have:=HL1.out;rw [HT0.out,render_app,render_cons,render_cons] at this;simp [sg,sp,writ] at this ⊢;omega)
    have HEq:=hid (show acc++render (pre++sg 44::sp::out t (.mk kx tx lx cx kk ax mx))=acc++render pre++[44,32]++render (out t (.mk kx tx lx cx kk ax mx)) by
     rw [render_app,render_cons,render_cons];simp [sg,sp,writ])
    clear HT HZ HE0 h0;go_wp2_with fail;rw [← hw.out];clear hw;refine (wstr pb (acc++render pre) t [44,32] w1 HP1.out (by have:=HLx.out;simp at this ⊢;omega)).mono ?_;rintro e w2 ⟨rfl,hp2,hk2⟩;have HR2:=hid (hk2.row HR1.out nb (by decide));have hh2:=hid (HeldN.keep (low_keep hk2.below) hh1.out);have HP2:=hid hp2;have HK2:=hid (HK1.out.trans hk2);clear hp2 hk2 HP1 HK1 hh1 HR1;obtain ⟨z0,z1,z2,z3,z4,-,-,-,-,-⟩:=row5 HR2.out;go_wp2_with fail;clear z0 z1 z2 z3 z4;refine (HIj.out _ t w2 HP2.out hh2.out ht HLx.out).mono ?_;rintro e w3 ⟨rfl,hp3,hk3⟩;have HP3:=hid hp3;have HK3:=hid (HK2.out.trans hk3);clear hp3 hk3 HP2 HK2;go_wp2_with fail
    go_round
    case rel=>exact ⟨j+1,by omega,by go_num,by rw [HT0.out,HEq.out];exact HP3.out,HK3.out⟩
    case measure=>simp [intOf];omega
  ·have hd:decide (j<ks.length)=false:=decide_eq_false hlt;go_wp2_with fail
   go_end0
   exact ⟨rfl,by rw [show (ks.map (out t)).take j=ks.map (out t) from List.take_of_length_le (by rw [List.length_map];omega)] at hp;exact hp,hk2⟩
def namedP (n:Nat) (x:Tr):List Piece:=(if x.tx=[] then [] else [(1,x.tx),sp,sg 61,sp])++(x.kids.map (oP n)).getD 0 []
set_option maxHeartbeats 4000000 in
theorem named_n (pb:Nat) (k:Int) (t:List UInt8) (l c:Int) (kx:Int) (tx:List UInt8) (lx cx:Int) (ksx:List NM) (ax:Option Addr) (mx:Nat) (a:Option Addr) (m:Nat) (hq:(t == ([]:List UInt8))=false) (IHx:Puts 80 pb (fun n=>oP n (NM.mk kx tx lx cx ksx ax mx).tr) (NM.mk kx tx lx cx ksx ax mx)):Puts 79 pb (fun n=>namedP n (NM.mk k t l c [(NM.mk kx tx lx cx ksx ax mx)] a m).tr) (NM.mk k t l c [(NM.mk kx tx lx cx ksx ax mx)] a m):=by
 intro acc tb w h hh htb hlen;change Calls _ _ #[_,nodeV k t l c (.slice a 1 m)] _ _;obtain ⟨kb,ko,ha,hkb,hkw,hkm,hkM,hcl⟩:=kids_low hh (by simp);subst ha;unfold maxLen at hkM;have hkm1:1≤m:=by simpa using hkm
 clear hkm;have Fx:=hid (show FiveN w kb ko (NM.mk kx tx lx cx ksx ax mx) from hcl 0 (by simp));have Hx:=hid (show HeldN (·<pb) w (NM.mk kx tx lx cx ksx ax mx) from kid_low hh 0 (by simp));clear hcl;have HAcc:=hid (show acc++render (namedP tb (NM.mk k t l c [(NM.mk kx tx lx cx ksx ax mx)] (some ⟨kb,ko,none⟩) m).tr)=acc++(t++[32,61,32])++render (oP tb (NM.mk kx tx lx cx ksx ax mx).tr) by
  have ht:t≠[]:=by simpa using hq
  rw [ntr_mk,ntrs_cons,ntrs_nil];unfold namedP;rw [show (Tr.mk k t [(NM.mk kx tx lx cx ksx ax mx).tr]).tx=t from rfl,if_neg ht,render_app,render_cons,render_cons,render_cons,render_cons,render_nil];simp [sg,sp,writ,Tr.kids]
 )
 have HLn:=hid (show (acc++(t++[32,61,32])++render (oP tb (NM.mk kx tx lx cx ksx ax mx).tr)).length≤140737488355000 by rw [← HAcc.out,List.length_append];exact hlen);have hl_t:t.length≤140737488355000:=by have:=HLn.out;simp only [List.length_append,List.length_cons] at this;omega
 obtain ⟨w1,hw,hbb,hr,hlt1⟩:∃ W,Hid (W=w.alloc (.cells #[.int .i64 k,.string (bs t),.int .i64 l,.int .i64 c,.slice (some ⟨kb,ko,none⟩) 1 m] 27))∧Below w.heap.size w W∧W.heap[w.heap.size]? = some (.cells #[.int .i64 k,.string (bs t),.int .i64 l,.int .i64 c,.slice (some ⟨kb,ko,none⟩) 1 m] 27 (0,0))∧w.heap.size<W.heap.size :=
  ⟨_,hid rfl,below_new w _,heap_alloc_new w _,by rw [World.size_alloc];omega⟩
 have hlt0:=h.lt.2;have HP:=hid (h.below hbb);have HK:=hid (PK.of hbb (Nat.le_of_lt hlt0));have r_n:=hid hr;have n_n:w.heap.size≠pb:=by omega
 clear h hh hbb hr hlen;go_enter Tryz.func79,Tryz.ntmps79
 go_wp2_with fail;rw [← hw.out];clear hw;refine wp_region_wh (S:=fun W=>W.heap[w.heap.size]? = some (.cells #[.int .i64 k,.string (bs t),.int .i64 l,.int .i64 c,.slice (some ⟨kb,ko,none⟩) 1 m] 27 (0,0))) (by kernel_rfl) ?_;obtain ⟨w2,hw,hbb⟩:∃ W,Hid (W=w1.drew)∧Below w1.heap.size w1 W:=⟨_,hid rfl,Drawn.below ⟨1,rfl⟩⟩;rw [← hw.out];clear hw;have hk:=PK.of hbb (Nat.le_of_lt HP.out.lt.2);replace HP:=hid (HP.out.below hbb);replace r_n:=hid (hk.row r_n.out n_n (by decide));replace HK:=hid (HK.out.trans hk);clear hbb hk;have hS:=r_n.out;refine WH.tk 0 (some 7) (.pointer (some ⟨pb,0,none⟩)) hS ?_;(try simp only [Act.put,sA,sB,sC]);refine WH.tk 1 (some 8) (.pointer (some ⟨pb,0,none⟩)) hS ?_;(try simp only [Act.put,sA,sB,sC]);refine WH.tk 2 (some 9) (.pointer (some ⟨pb,0,none⟩)) hS ?_;(try simp only [Act.put,sA,sB,sC]);refine WH.tk 3 (some 10) (.pointer (some ⟨w.heap.size,1,none⟩)) hS ?_;(try simp only [Act.put,sA,sB,sC]);refine WH.take 4 (some 11) rfl rfl (by kernel_rfl) (by kernel_rfl) (by kernel_rfl) (fun _ _ _ _ h=>h) hS ⟨.string (bs t),⟨by kernel_rfl,fun W hW=>by have q:W.cell? ⟨w.heap.size,1,none⟩=some (.string (bs t)):=cell_of_row W _ 1 _ _ _ hW;go_simp⟩,?_⟩;(try simp only [Act.put,sA,sB,sC]);refine WH.take 5 (some 12) rfl rfl (by kernel_rfl) (by kernel_rfl) (by kernel_rfl) (fun _ _ _ _ h=>h) hS ⟨.string (bs (t++[32,61,32])),⟨by kernel_rfl,fun W _=>by first | (go_simp;done) | (go_simp;omega)⟩,?_⟩;(try simp only [Act.put,sA,sB,sC]);refine WH.one 6 (by kernel_rfl) rfl (by kernel_rfl) ?_;intro K hK;go_simp;refine (wstr pb (acc) tb ((t++[32,61,32])) _ HP.out (by have:=HLn.out;simp only [List.length_append,List.length_cons,List.length_nil] at this ⊢;omega)).mono ?_;rintro e w3 ⟨rfl,hp,hk⟩;replace HP:=hid hp;replace r_n:=hid (hk.row r_n.out n_n (by decide));replace HK:=hid (HK.out.trans hk);clear hp hk;go_wp2_with fail;clear hS;have hS:=r_n.out;refine hK.out _ _ hS ?_;clear hK K;(try simp only [Act.put,sA,sB,sC]);refine WH.done (by kernel_rfl) ?_;clear hS;obtain ⟨q_n0,q_n1,q_n2,q_n3,q_n4,-,-,-,-,-⟩:=row5 r_n.out;obtain ⟨yx0,yx1,yx2,yx3,yx4⟩:=five_of (Fx.out.keep (HK.out.below.block kb hkb));have hkl:kb<w3.heap.size:=nL hkw HK.out.below.size;go_wp2_with fail;clear q_n0 q_n1 q_n2 q_n3 q_n4 yx0 yx1 yx2 yx3 yx4 hkl;refine (IHx (acc++(t++[32,61,32])) tb _ HP.out (HeldN.keep (low_keep HK.out.below) Hx.out) htb (by have:=HLn.out;simp only [List.length_append,List.length_cons,List.length_nil] at this ⊢;omega)).mono ?_;rintro e w4 ⟨rfl,hp,hk⟩;replace HP:=hid hp;replace r_n:=hid (hk.row r_n.out n_n (by decide));replace HK:=hid (HK.out.trans hk);clear hp hk;go_wp2_with fail
 go_end0
 exact ⟨rfl,by show PageAt pb pb (acc++render _) tb _;rw [HAcc.out];exact HP.out,HK.out⟩
set_option maxHeartbeats 4000000 in
theorem named_e (pb:Nat) (k:Int) (l c:Int) (kx:Int) (tx:List UInt8) (lx cx:Int) (ksx:List NM) (ax:Option Addr) (mx:Nat) (a:Option Addr) (m:Nat) (IHx:Puts 80 pb (fun n=>oP n (NM.mk kx tx lx cx ksx ax mx).tr) (NM.mk kx tx lx cx ksx ax mx)):Puts 79 pb (fun n=>namedP n (NM.mk k [] l c [(NM.mk kx tx lx cx ksx ax mx)] a m).tr) (NM.mk k [] l c [(NM.mk kx tx lx cx ksx ax mx)] a m):=by
 intro acc tb w h hh htb hlen;change Calls _ _ #[_,nodeV k [] l c (.slice a 1 m)] _ _;obtain ⟨kb,ko,ha,hkb,hkw,hkm,hkM,hcl⟩:=kids_low hh (by simp);subst ha;unfold maxLen at hkM;have hkm1:1≤m:=by simpa using hkm
 clear hkm;have Fx:=hid (show FiveN w kb ko (NM.mk kx tx lx cx ksx ax mx) from hcl 0 (by simp));have Hx:=hid (show HeldN (·<pb) w (NM.mk kx tx lx cx ksx ax mx) from kid_low hh 0 (by simp));clear hcl;have HAcc:=hid (show acc++render (namedP tb (NM.mk k [] l c [(NM.mk kx tx lx cx ksx ax mx)] (some ⟨kb,ko,none⟩) m).tr)=acc++render (oP tb (NM.mk kx tx lx cx ksx ax mx).tr) by
  show acc++render (namedP tb (NM.mk k [] l c [(NM.mk kx tx lx cx ksx ax mx)] _ m).tr)=_;rw [ntr_mk,ntrs_cons,ntrs_nil];rfl
 )
 have HLn:=hid (show (acc++render (oP tb (NM.mk kx tx lx cx ksx ax mx).tr)).length≤140737488355000 by rw [← HAcc.out,List.length_append];exact hlen);obtain ⟨w1,hw,hbb,hr,hlt1⟩:∃ W,Hid (W=w.alloc (.cells #[.int .i64 k,.string (bs []),.int .i64 l,.int .i64 c,.slice (some ⟨kb,ko,none⟩) 1 m] 27))∧Below w.heap.size w W∧W.heap[w.heap.size]? = some (.cells #[.int .i64 k,.string (bs []),.int .i64 l,.int .i64 c,.slice (some ⟨kb,ko,none⟩) 1 m] 27 (0,0))∧w.heap.size<W.heap.size :=
  ⟨_,hid rfl,below_new w _,heap_alloc_new w _,by rw [World.size_alloc];omega⟩
 have hlt0:=h.lt.2;have HP:=hid (h.below hbb);have HK:=hid (PK.of hbb (Nat.le_of_lt hlt0));have r_n:=hid hr;have n_n:w.heap.size≠pb:=by omega
 clear h hh hbb hr hlen;obtain ⟨yx0,yx1,yx2,yx3,yx4⟩:=five_of Fx.out;go_enter Tryz.func79,Tryz.ntmps79
 go_wp2_with fail;rw [← hw.out];clear hw;clear yx0 yx1 yx2 yx3 yx4;refine (IHx (acc) tb _ HP.out (HeldN.keep (low_keep HK.out.below) Hx.out) htb (by have:=HLn.out;simp only [List.length_append] at this ⊢;omega)).mono ?_;rintro e w2 ⟨rfl,hp,hk⟩;replace HP:=hid hp;replace r_n:=hid (hk.row r_n.out n_n (by decide));replace HK:=hid (HK.out.trans hk);clear hp hk;go_wp2_with fail
 go_end0
 exact ⟨rfl,by show PageAt pb pb (acc++render _) tb _;rw [HAcc.out];exact HP.out,HK.out⟩
theorem five_range {w:World} {b o:Nat} {k l c:Int} {t:List UInt8} {ks:List NM} {a:Option Addr} {m:Nat} (h:FiveN w b o (.mk k t l c ks a m)):w.rangeAt b o [.int .i64 k,.string (bs t),.int .i64 l,.int .i64 c,.slice a ks.length m]:=by
 intro j u hu
 match j,hu with
 | 0,hu=>simp at hu;subst hu;exact h.c0
 | 1,hu=>simp at hu;subst hu;exact h.c1
 | 2,hu=>simp at hu;subst hu;exact h.c2
 | 3,hu=>simp at hu;subst hu;exact h.c3
 | 4,hu=>simp at hu;subst hu;exact h.c4
set_option maxHeartbeats 4000000 in
theorem param_1 (pb:Nat) (t:List UInt8) (l c:Int) (kx:Int) (tx:List UInt8) (lx cx:Int) (ksx:List NM) (ax:Option Addr) (mx:Nat) (a:Option Addr) (m:Nat) :Puts 83 pb (fun n=>oP n (NM.mk 7 t l c [(NM.mk kx tx lx cx ksx ax mx)] a m).tr) (NM.mk 7 t l c [(NM.mk kx tx lx cx ksx ax mx)] a m):=by
 intro acc tb w h hh htb hlen;change Calls _ _ #[_,nodeV 7 t l c (.slice a 1 m)] _ _;obtain ⟨kb,ko,ha,hkb,hkw,hkm,hkM,hcl⟩:=kids_low hh (by simp);subst ha;unfold maxLen at hkM;have hkm1:1≤m:=by simpa using hkm
 clear hkm;have Fx:=hid (show FiveN w kb ko (NM.mk kx tx lx cx ksx ax mx) from hcl 0 (by simp));have Hx:=hid (show HeldN (·<pb) w (NM.mk kx tx lx cx ksx ax mx) from kid_low hh 0 (by simp));clear hcl;have HAcc:=hid (show acc++render (oP tb (NM.mk 7 t l c [(NM.mk kx tx lx cx ksx ax mx)] (some ⟨kb,ko,none⟩) m).tr)=acc++(t++58::32::tx) by
  rw [ntr_mk,oP_mk,ntrs_cons,ntrs_nil];rw [oPs_map];show acc++render (putP tb 7 t _ _)=_;unfold putP;simp [render,sg,sp,writ,tops,Tr.top,ntr_mk]
 )
 have HLn:=hid (show (acc++(t++58::32::tx)).length≤140737488355000 by rw [← HAcc.out,List.length_append];exact hlen);have hl_t:t.length≤140737488355000:=by have:=HLn.out;simp only [List.length_append,List.length_cons] at this;omega
 have hl_tx:tx.length≤140737488355000:=by have:=HLn.out;simp only [List.length_append,List.length_cons] at this;omega
 obtain ⟨w1,hw,hbb,hr,hlt1⟩:∃ W,Hid (W=w.alloc (.cells #[.int .i64 7,.string (bs t),.int .i64 l,.int .i64 c,.slice (some ⟨kb,ko,none⟩) 1 m] 27))∧Below w.heap.size w W∧W.heap[w.heap.size]? = some (.cells #[.int .i64 7,.string (bs t),.int .i64 l,.int .i64 c,.slice (some ⟨kb,ko,none⟩) 1 m] 27 (0,0))∧w.heap.size<W.heap.size :=
  ⟨_,hid rfl,below_new w _,heap_alloc_new w _,by rw [World.size_alloc];omega⟩
 have hlt0:=h.lt.2;have HP:=hid (h.below hbb);have HK:=hid (PK.of hbb (Nat.le_of_lt hlt0));have r_n:=hid hr;have n_n:w.heap.size≠pb:=by omega
 clear h hh hbb hr hlen;go_enter Tryz.func83,Tryz.ntmps83
 go_wp2_with fail;rw [← hw.out];clear hw;refine wp_region_wh (S:=fun W=>W.heap[w.heap.size]? = some (.cells #[.int .i64 7,.string (bs t),.int .i64 l,.int .i64 c,.slice (some ⟨kb,ko,none⟩) 1 m] 27 (0,0))∧FiveN W kb ko (NM.mk kx tx lx cx ksx ax mx)) (by kernel_rfl) ?_;obtain ⟨w2,hw,hbb⟩:∃ W,Hid (W=w1.drew)∧Below w1.heap.size w1 W:=⟨_,hid rfl,Drawn.below ⟨1,rfl⟩⟩;rw [← hw.out];clear hw;have hk:=PK.of hbb (Nat.le_of_lt HP.out.lt.2);replace HP:=hid (HP.out.below hbb);replace r_n:=hid (hk.row r_n.out n_n (by decide));replace HK:=hid (HK.out.trans hk);clear hbb hk;have hS:=And.intro (r_n.out) (Fx.out.keep (HK.out.below.block kb hkb));refine WH.tk 0 (some 4) (.pointer (some ⟨pb,0,none⟩)) hS ?_;(try simp only [Act.put,sA,sB,sC]);refine WH.tk 1 (some 5) (.pointer (some ⟨pb,0,none⟩)) hS ?_;(try simp only [Act.put,sA,sB,sC]);refine WH.tk 2 (some 6) (.pointer (some ⟨pb,0,none⟩)) hS ?_;(try simp only [Act.put,sA,sB,sC]);refine WH.tk 3 (some 7) (.pointer (some ⟨w.heap.size,1,none⟩)) hS ?_;(try simp only [Act.put,sA,sB,sC]);refine WH.take 4 (some 8) rfl rfl (by kernel_rfl) (by kernel_rfl) (by kernel_rfl) (fun _ _ _ _ h=>h) hS ⟨.string (bs t),⟨by kernel_rfl,fun W hW=>by have q:W.cell? ⟨w.heap.size,1,none⟩=some (.string (bs t)):=cell_of_row W _ 1 _ _ _ hW.1;go_simp⟩,?_⟩;(try simp only [Act.put,sA,sB,sC]);refine WH.take 5 (some 9) rfl rfl (by kernel_rfl) (by kernel_rfl) (by kernel_rfl) (fun _ _ _ _ h=>h) hS ⟨.string (bs (t++[58,32])),⟨by kernel_rfl,fun W _=>by first | (go_simp;done) | (go_simp;omega)⟩,?_⟩;(try simp only [Act.put,sA,sB,sC]);refine WH.tk 6 (some 10) (.pointer (some ⟨w.heap.size,4,none⟩)) hS ?_;(try simp only [Act.put,sA,sB,sC]);refine WH.take 7 (some 11) rfl rfl (by kernel_rfl) (by kernel_rfl) (by kernel_rfl) (fun _ _ _ _ h=>h) hS ⟨.slice (some ⟨kb,ko,none⟩) 1 m,⟨by kernel_rfl,fun W hW=>by have q:W.cell? ⟨w.heap.size,4,none⟩=some (.slice (some ⟨kb,ko,none⟩) 1 m):=cell_of_row W _ 4 _ _ _ hW.1;go_simp⟩,?_⟩;(try simp only [Act.put,sA,sB,sC]);refine WH.take 8 (some 12) rfl rfl (by kernel_rfl) (by kernel_rfl) (by kernel_rfl) (fun _ _ _ _ h=>h) hS ⟨.pointer (some ⟨kb,ko,none⟩),⟨by kernel_rfl,fun W _=>by go_simp⟩,?_⟩;(try simp only [Act.put,sA,sB,sC]);refine WH.tk 9 (some 13) (.pointer (some ⟨kb,ko+1,none⟩)) hS ?_;(try simp only [Act.put,sA,sB,sC]);refine WH.take 10 (some 14) rfl rfl (by kernel_rfl) (by kernel_rfl) (by kernel_rfl) (fun _ _ _ _ h=>h) hS ⟨.string (bs tx),⟨by kernel_rfl,fun W hW=>by have q:W.cell? ⟨kb,ko+1,none⟩=some (.string (bs tx)):=(hW.2).c1;go_simp⟩,?_⟩;(try simp only [Act.put,sA,sB,sC]);refine WH.take 11 (some 15) rfl rfl (by kernel_rfl) (by kernel_rfl) (by kernel_rfl) (fun _ _ _ _ h=>h) hS ⟨.string (bs (t++58::32::tx)),⟨by kernel_rfl,fun W _=>by first | (go_simp;done) | (go_simp;omega)⟩,?_⟩;(try simp only [Act.put,sA,sB,sC]);refine WH.one 12 (by kernel_rfl) rfl (by kernel_rfl) ?_;intro K hK;go_simp;refine (wstr pb (acc) tb ((t++58::32::tx)) _ HP.out (by have:=HLn.out;simp only [List.length_append,List.length_cons] at this ⊢;omega)).mono ?_;rintro e w3 ⟨rfl,hp,hk⟩;replace HP:=hid hp;replace r_n:=hid (hk.row r_n.out n_n (by decide));replace HK:=hid (HK.out.trans hk);clear hp hk;go_wp2_with fail;clear hS;have hS:=And.intro (r_n.out) (Fx.out.keep (HK.out.below.block kb hkb));refine hK.out _ _ hS ?_;clear hK K;(try simp only [Act.put,sA,sB,sC]);refine WH.done (by kernel_rfl) ?_;clear hS;obtain ⟨q_n0,q_n1,q_n2,q_n3,q_n4,-,-,-,-,-⟩:=row5 r_n.out;obtain ⟨yx0,yx1,yx2,yx3,yx4⟩:=five_of (Fx.out.keep (HK.out.below.block kb hkb));have hkl:kb<w3.heap.size:=nL hkw HK.out.below.size;go_wp2_with fail;clear q_n0 q_n1 q_n2 q_n3 q_n4 yx0 yx1 yx2 yx3 yx4 hkl
 go_end0
 exact ⟨rfl,by show PageAt pb pb (acc++render _) tb _;rw [HAcc.out];exact HP.out,HK.out⟩
set_option maxHeartbeats 4000000 in
theorem param_2 (pb:Nat) (t:List UInt8) (l c:Int) (kx:Int) (tx:List UInt8) (lx cx:Int) (ksx:List NM) (ax:Option Addr) (mx:Nat) (ky:Int) (ty:List UInt8) (ly cy:Int) (ksy:List NM) (ay:Option Addr) (my:Nat) (a:Option Addr) (m:Nat) (IHy:Puts 80 pb (fun n=>oP n (NM.mk ky ty ly cy ksy ay my).tr) (NM.mk ky ty ly cy ksy ay my)):Puts 83 pb (fun n=>oP n (NM.mk 7 t l c [(NM.mk kx tx lx cx ksx ax mx),(NM.mk ky ty ly cy ksy ay my)] a m).tr) (NM.mk 7 t l c [(NM.mk kx tx lx cx ksx ax mx),(NM.mk ky ty ly cy ksy ay my)] a m):=by
 intro acc tb w h hh htb hlen;change Calls _ _ #[_,nodeV 7 t l c (.slice a 2 m)] _ _;obtain ⟨kb,ko,ha,hkb,hkw,hkm,hkM,hcl⟩:=kids_low hh (by simp);subst ha;unfold maxLen at hkM;have hkm1:2≤m:=by simpa using hkm
 clear hkm;have Fx:=hid (show FiveN w kb ko (NM.mk kx tx lx cx ksx ax mx) from hcl 0 (by simp));have Hx:=hid (show HeldN (·<pb) w (NM.mk kx tx lx cx ksx ax mx) from kid_low hh 0 (by simp));have Fy:=hid (show FiveN w kb (ko+5) (NM.mk ky ty ly cy ksy ay my) from hcl 1 (by simp));have Hy:=hid (show HeldN (·<pb) w (NM.mk ky ty ly cy ksy ay my) from kid_low hh 1 (by simp));clear hcl;have HAcc:=hid (show acc++render (oP tb (NM.mk 7 t l c [(NM.mk kx tx lx cx ksx ax mx),(NM.mk ky ty ly cy ksy ay my)] (some ⟨kb,ko,none⟩) m).tr)=acc++(t++58::32::tx)++[32,61,32]++render (oP tb (NM.mk ky ty ly cy ksy ay my).tr) by
  rw [ntr_mk,oP_mk,ntrs_cons,ntrs_cons,ntrs_nil];rw [oPs_map];show acc++render (putP tb 7 t _ _)=_;unfold putP;simp [render,sg,sp,writ,tops,Tr.top,ntr_mk]
 )
 have HLn:=hid (show (acc++(t++58::32::tx)++[32,61,32]++render (oP tb (NM.mk ky ty ly cy ksy ay my).tr)).length≤140737488355000 by rw [← HAcc.out,List.length_append];exact hlen);have hl_t:t.length≤140737488355000:=by have:=HLn.out;simp only [List.length_append,List.length_cons] at this;omega
 have hl_tx:tx.length≤140737488355000:=by have:=HLn.out;simp only [List.length_append,List.length_cons] at this;omega
 obtain ⟨w1,hw,hbb,hr,hlt1⟩:∃ W,Hid (W=w.alloc (.cells #[.int .i64 7,.string (bs t),.int .i64 l,.int .i64 c,.slice (some ⟨kb,ko,none⟩) 2 m] 27))∧Below w.heap.size w W∧W.heap[w.heap.size]? = some (.cells #[.int .i64 7,.string (bs t),.int .i64 l,.int .i64 c,.slice (some ⟨kb,ko,none⟩) 2 m] 27 (0,0))∧w.heap.size<W.heap.size :=
  ⟨_,hid rfl,below_new w _,heap_alloc_new w _,by rw [World.size_alloc];omega⟩
 have hlt0:=h.lt.2;have HP:=hid (h.below hbb);have HK:=hid (PK.of hbb (Nat.le_of_lt hlt0));have r_n:=hid hr;have n_n:w.heap.size≠pb:=by omega
 clear h hh hbb hr hlen;go_enter Tryz.func83,Tryz.ntmps83
 go_wp2_with fail;rw [← hw.out];clear hw;refine wp_region_wh (S:=fun W=>W.heap[w.heap.size]? = some (.cells #[.int .i64 7,.string (bs t),.int .i64 l,.int .i64 c,.slice (some ⟨kb,ko,none⟩) 2 m] 27 (0,0))∧FiveN W kb ko (NM.mk kx tx lx cx ksx ax mx)) (by kernel_rfl) ?_;obtain ⟨w2,hw,hbb⟩:∃ W,Hid (W=w1.drew)∧Below w1.heap.size w1 W:=⟨_,hid rfl,Drawn.below ⟨1,rfl⟩⟩;rw [← hw.out];clear hw;have hk:=PK.of hbb (Nat.le_of_lt HP.out.lt.2);replace HP:=hid (HP.out.below hbb);replace r_n:=hid (hk.row r_n.out n_n (by decide));replace HK:=hid (HK.out.trans hk);clear hbb hk;have hS:=And.intro (r_n.out) (Fx.out.keep (HK.out.below.block kb hkb));refine WH.tk 0 (some 4) (.pointer (some ⟨pb,0,none⟩)) hS ?_;(try simp only [Act.put,sA,sB,sC]);refine WH.tk 1 (some 5) (.pointer (some ⟨pb,0,none⟩)) hS ?_;(try simp only [Act.put,sA,sB,sC]);refine WH.tk 2 (some 6) (.pointer (some ⟨pb,0,none⟩)) hS ?_;(try simp only [Act.put,sA,sB,sC]);refine WH.tk 3 (some 7) (.pointer (some ⟨w.heap.size,1,none⟩)) hS ?_;(try simp only [Act.put,sA,sB,sC]);refine WH.take 4 (some 8) rfl rfl (by kernel_rfl) (by kernel_rfl) (by kernel_rfl) (fun _ _ _ _ h=>h) hS ⟨.string (bs t),⟨by kernel_rfl,fun W hW=>by have q:W.cell? ⟨w.heap.size,1,none⟩=some (.string (bs t)):=cell_of_row W _ 1 _ _ _ hW.1;go_simp⟩,?_⟩;(try simp only [Act.put,sA,sB,sC]);refine WH.take 5 (some 9) rfl rfl (by kernel_rfl) (by kernel_rfl) (by kernel_rfl) (fun _ _ _ _ h=>h) hS ⟨.string (bs (t++[58,32])),⟨by kernel_rfl,fun W _=>by first | (go_simp;done) | (go_simp;omega)⟩,?_⟩;(try simp only [Act.put,sA,sB,sC]);refine WH.tk 6 (some 10) (.pointer (some ⟨w.heap.size,4,none⟩)) hS ?_;(try simp only [Act.put,sA,sB,sC]);refine WH.take 7 (some 11) rfl rfl (by kernel_rfl) (by kernel_rfl) (by kernel_rfl) (fun _ _ _ _ h=>h) hS ⟨.slice (some ⟨kb,ko,none⟩) 2 m,⟨by kernel_rfl,fun W hW=>by have q:W.cell? ⟨w.heap.size,4,none⟩=some (.slice (some ⟨kb,ko,none⟩) 2 m):=cell_of_row W _ 4 _ _ _ hW.1;go_simp⟩,?_⟩;(try simp only [Act.put,sA,sB,sC]);refine WH.take 8 (some 12) rfl rfl (by kernel_rfl) (by kernel_rfl) (by kernel_rfl) (fun _ _ _ _ h=>h) hS ⟨.pointer (some ⟨kb,ko,none⟩),⟨by kernel_rfl,fun W _=>by go_simp⟩,?_⟩;(try simp only [Act.put,sA,sB,sC]);refine WH.tk 9 (some 13) (.pointer (some ⟨kb,ko+1,none⟩)) hS ?_;(try simp only [Act.put,sA,sB,sC]);refine WH.take 10 (some 14) rfl rfl (by kernel_rfl) (by kernel_rfl) (by kernel_rfl) (fun _ _ _ _ h=>h) hS ⟨.string (bs tx),⟨by kernel_rfl,fun W hW=>by have q:W.cell? ⟨kb,ko+1,none⟩=some (.string (bs tx)):=(hW.2).c1;go_simp⟩,?_⟩;(try simp only [Act.put,sA,sB,sC]);refine WH.take 11 (some 15) rfl rfl (by kernel_rfl) (by kernel_rfl) (by kernel_rfl) (fun _ _ _ _ h=>h) hS ⟨.string (bs (t++58::32::tx)),⟨by kernel_rfl,fun W _=>by first | (go_simp;done) | (go_simp;omega)⟩,?_⟩;(try simp only [Act.put,sA,sB,sC]);refine WH.one 12 (by kernel_rfl) rfl (by kernel_rfl) ?_;intro K hK;go_simp;refine (wstr pb (acc) tb ((t++58::32::tx)) _ HP.out (by have:=HLn.out;simp only [List.length_append,List.length_cons,List.length_nil] at this ⊢;omega)).mono ?_;rintro e w3 ⟨rfl,hp,hk⟩;replace HP:=hid hp;replace r_n:=hid (hk.row r_n.out n_n (by decide));replace HK:=hid (HK.out.trans hk);clear hp hk;go_wp2_with fail;clear hS;have hS:=And.intro (r_n.out) (Fx.out.keep (HK.out.below.block kb hkb));refine hK.out _ _ hS ?_;clear hK K;(try simp only [Act.put,sA,sB,sC]);refine WH.done (by kernel_rfl) ?_;clear hS;obtain ⟨q_n0,q_n1,q_n2,q_n3,q_n4,-,-,-,-,-⟩:=row5 r_n.out;obtain ⟨yx0,yx1,yx2,yx3,yx4⟩:=five_of (Fx.out.keep (HK.out.below.block kb hkb));obtain ⟨yy0,yy1,yy2,yy3,yy4⟩:=five_of (Fy.out.keep (HK.out.below.block kb hkb));have hkl:kb<w3.heap.size:=nL hkw HK.out.below.size;go_wp2_with fail;clear q_n0 q_n1 q_n2 q_n3 q_n4 yx0 yx1 yx2 yx3 yx4 yy0 yy1 yy2 yy3 yy4 hkl;refine (wstr pb (acc++(t++58::32::tx)) tb ([32,61,32]) _ HP.out (by have:=HLn.out;simp only [List.length_append,List.length_cons,List.length_nil] at this ⊢;omega)).mono ?_;rintro e w4 ⟨rfl,hp,hk⟩;replace HP:=hid hp;replace r_n:=hid (hk.row r_n.out n_n (by decide));replace HK:=hid (HK.out.trans hk);clear hp hk;obtain ⟨q_n0,q_n1,q_n2,q_n3,q_n4,-,-,-,-,-⟩:=row5 r_n.out;obtain ⟨yx0,yx1,yx2,yx3,yx4⟩:=five_of (Fx.out.keep (HK.out.below.block kb hkb));obtain ⟨yy0,yy1,yy2,yy3,yy4⟩:=five_of (Fy.out.keep (HK.out.below.block kb hkb));have hkl:kb<w4.heap.size:=nL hkw HK.out.below.size;go_wp2_with fail;clear q_n0 q_n1 q_n2 q_n3 q_n4 yx0 yx1 yx2 yx3 yx4 yy0 yy1 yy2 yy3 yy4 hkl;refine (IHy (acc++(t++58::32::tx)++[32,61,32]) tb _ HP.out (HeldN.keep (low_keep HK.out.below) Hy.out) htb (by have:=HLn.out;simp only [List.length_append,List.length_cons,List.length_nil] at this ⊢;omega)).mono ?_;rintro e w5 ⟨rfl,hp,hk⟩;replace HP:=hid hp;replace r_n:=hid (hk.row r_n.out n_n (by decide));replace HK:=hid (HK.out.trans hk);clear hp hk;go_wp2_with fail
 go_end0
 exact ⟨rfl,by show PageAt pb pb (acc++render _) tb _;rw [HAcc.out];exact HP.out,HK.out⟩
set_option maxHeartbeats 4000000 in
theorem in_any (pb:Nat) (b:Bool) (k:Int) (t:List UInt8) (l c:Int) (ks:List NM) (a:Option Addr) (m:Nat) (acc:List UInt8) (tb:Nat) (w:World) (h:PageAt pb pb acc tb w) (hh:HeldN (·<pb) w (.mk k t l c ks a m)) (htb:tb≤100000)
  (hlen:acc.length+(render (brk b (oP tb (NM.mk k t l c ks a m).tr))).length≤140737488355000) (IH:Puts 80 pb (fun n=>oP n (NM.mk k t l c ks a m).tr) (.mk k t l c ks a m)) :
  Calls Tryz.prog 116 #[.pointer (some ⟨pb,0,none⟩),nodeV k t l c (.slice a ks.length m),.bool b] w fun e w'=>e=.returned (.tuple #[])∧PageAt pb pb (acc++render (brk b (oP tb (NM.mk k t l c ks a m).tr))) tb w'∧PK pb w w':=by
 have hlt0:=h.lt.2;obtain ⟨w1,hw,hbb,hr,hlt1⟩:∃ W,Hid (W=w.alloc (.cells #[.int .i64 k,.string (bs t),.int .i64 l,.int .i64 c,.slice a ks.length m] 27))∧Below w.heap.size w W∧W.heap[w.heap.size]? = some (.cells #[.int .i64 k,.string (bs t),.int .i64 l,.int .i64 c,.slice a ks.length m] 27 (0,0))∧w.heap.size<W.heap.size :=
  ⟨_,hid rfl,below_new w _,heap_alloc_new w _,by rw [World.size_alloc];omega⟩
 have HP:=hid (h.below hbb);have HK:=hid (PK.of hbb (Nat.le_of_lt hlt0));have HH:=hid (HeldN.keep (low_keep (hbb.mono (Nat.le_of_lt hlt0))) hh);have HR:=hid hr;have n_n:w.heap.size≠pb:=by omega
 have HI:=hid IH;clear h hh hbb hr IH;cases b with
 | false =>
   have HLn:=hid (show acc.length+(render (oP tb (NM.mk k t l c ks a m).tr)).length≤140737488355000 from hlen);have HO:=hid (show acc++render (brk false (oP tb (NM.mk k t l c ks a m).tr))=acc++render (oP tb (NM.mk k t l c ks a m).tr) from rfl);clear hlen;go_enter Tryz.func116,Tryz.ntmps116
   go_wp2_with fail;rw [← hw.out];clear hw;refine (HI.out acc tb w1 HP.out HH.out htb HLn.out).mono ?_;rintro e w2 ⟨rfl,hp,hk⟩;have HP2:=hid hp;have HK2:=hid (HK.out.trans hk);clear hp hk;go_wp2_with fail
   go_end0
   exact ⟨rfl,by rw [HO.out];exact HP2.out,HK2.out⟩
 | true =>
   have HO:=hid (show acc++render (brk true (oP tb (NM.mk k t l c ks a m).tr))=acc++[40]++render (oP tb (NM.mk k t l c ks a m).tr)++[41] by
    unfold brk;rw [if_pos rfl,render_cons,render_app];simp [sg,writ,render])
   have HLn:=hid (show (acc++[40]++render (oP tb (NM.mk k t l c ks a m).tr)++[41]).length≤140737488355000 by rw [← HO.out,List.length_append];exact hlen);clear hlen;go_enter Tryz.func116,Tryz.ntmps116
   go_wp2_with fail;rw [← hw.out];clear hw;refine (wbyte pb acc tb 40 _ HP.out (by have:=HLn.out;simp only [List.length_append,List.length_cons,List.length_nil] at this ⊢;omega)).mono ?_;rintro e w2 ⟨rfl,hp,hk⟩;have HP2:=hid hp;have HR2:=hid (hk.row HR.out n_n (by decide));have HH2:=hid (HeldN.keep (low_keep hk.below) HH.out);have HK2:=hid (HK.out.trans hk);clear hp hk HP HR HH HK;obtain ⟨z0,z1,z2,z3,z4,-,-,-,-,-⟩:=row5 HR2.out;go_wp2_with fail;clear z0 z1 z2 z3 z4;refine (HI.out (acc++[40]) tb w2 HP2.out HH2.out htb (by have:=HLn.out;simp only [List.length_append,List.length_cons,List.length_nil] at this ⊢;omega)).mono ?_;rintro e w3 ⟨rfl,hp,hk⟩;have HP3:=hid hp;have HK3:=hid (HK2.out.trans hk);clear hp hk;go_wp2_with fail;refine (wbyte pb (acc++[40]++render (oP tb (NM.mk k t l c ks a m).tr)) tb 41 _ HP3.out (by have:=HLn.out;simp only [List.length_append,List.length_cons,List.length_nil] at this ⊢;omega)).mono ?_;rintro e w4 ⟨rfl,hp,hk⟩;have HP4:=hid hp;have HK4:=hid (HK3.out.trans hk);clear hp hk;go_wp2_with fail
   go_end0
   exact ⟨rfl,by rw [HO.out];exact HP4.out,HK4.out⟩
theorem once_disable (w:World):(callFunc 175 #[]).run Tryz.prog w=.ok (.value (.tuple #[])) w:=run_call_mark0 Tryz.func175 (by kernel_rfl) (by kernel_rfl) (by kernel_rfl) .disable (by kernel_rfl) w
theorem once_enable (w:World):(callFunc 177 #[]).run Tryz.prog w=.ok (.value (.tuple #[])) w:=run_call_mark0 Tryz.func177 (by kernel_rfl) (by kernel_rfl) (by kernel_rfl) .enable (by kernel_rfl) w
theorem once_acquire (a:Addr) (w:World):(callFunc 178 #[.pointer (some a)]).run Tryz.prog w=.ok (.value (.tuple #[])) w:=run_call_marked Tryz.func178 (by kernel_rfl) (by kernel_rfl) (by kernel_rfl) .acquire (by kernel_rfl) a w
theorem once_release (a:Addr) (w:World):(callFunc 180 #[.pointer (some a)]).run Tryz.prog w=.ok (.value (.tuple #[])) w:=run_call_marked Tryz.func180 (by kernel_rfl) (by kernel_rfl) (by kernel_rfl) .releaseMerge (by kernel_rfl) a w
theorem store_deferred (a:Addr) (x:Value) (u:FrameMode) (w:World) (hc:w.cell? a=some x) (hz:w.frozen? a=false) :
  CallsD Tryz.prog 135 #[.pointer (some a),.bool true] u w fun e u' w'=>u'=u∧(e=.returned (.tuple #[])∧w'=w.drew.setCell a (.int .u32 1)):=by
 have hc':w.drew.cell? a=some x:=by go_simp
 have hz':w.drew.frozen? a=false:=by go_simp
 have hst:=run_call_store (P:=Tryz.prog) Tryz.func158 (by kernel_rfl) (by kernel_rfl) (by kernel_rfl) (by kernel_rfl) (k:=.u32) (y:=1) hc' hz'
 go_enter_d Tryz.func135,Tryz.ntmps135
 go_wp2
 go_region_calls
 all_goals (go_end0;exact ⟨rfl,rfl⟩)
theorem ilock_free (a:Addr) (w:World) (hc:w.cell? a=some (.int .i32 0)) (hz:w.frozen? a=false) :
  Calls Tryz.prog 156 #[.pointer (some a)] w fun e w'=>e=.returned (.tuple #[])∧w'=w.setCell a (.int .i32 1):=by
 have hd:=once_disable;have he:=once_enable;have ha:=once_acquire;have hcas:=run_call_cas_hit (P:=Tryz.prog) Tryz.func176 (by kernel_rfl) (by kernel_rfl) (by kernel_rfl) .i32 (by kernel_rfl) (y:=1) hc hz;have hc':(w.setCell a (.int .i32 1)).cell? a=some (.int .i32 1):=World.cell?_setCell_same w a _ hc;have hcv:=run_convert_to_unsafe (P:=Tryz.prog) (src:=201) (dst:=142) Tryz.underlying201 Tryz.underlying142 (by kernel_rfl) hc';go_enter Tryz.func156,Tryz.ntmps156
 go_wp2
 first | go_end0 | (simp only [Exit.inBlock,Exit.then];refine bodyPost_ret (results_none rfl _ _ _) rfl ?_) | refine bodyPost_ret (results_none rfl _ _ _) rfl ?_
 exact ⟨rfl,rfl⟩
theorem lock_free (a:Addr) (w:World) (hc:w.cell? a=some (.int .i32 0)) (hz:w.frozen? a=false) :
  Calls Tryz.prog 133 #[.pointer (some a)] w fun e w'=>e=.returned (.tuple #[])∧w'=w.setCell a (.int .i32 1):=by
 go_enter Tryz.func133,Tryz.ntmps133
 go_wp2_with (go_at_call 156;refine (ilock_free _ _ (by assumption) (by assumption)).mono ?_;rintro e w' ⟨rfl,rfl⟩)
 go_end0
 exact ⟨rfl,rfl⟩
theorem iunlock_held (a:Addr) (w:World) (hc:w.cell? a=some (.int .i32 1)) (hz:w.frozen? a=false) :
  Calls Tryz.prog 157 #[.pointer (some a)] w fun e w'=>e=.returned (.tuple #[])∧w'=w.setCell a (.int .i32 0):=by
 have hd:=once_disable;have he:=once_enable;have hr:=once_release;have hadd:=run_call_add (P:=Tryz.prog) Tryz.func181 (by kernel_rfl) (by kernel_rfl) (by kernel_rfl) .i32 (by kernel_rfl) (y:=-1) (s:=0) hc hz (by simp [go_sem];rfl);have hcv:=run_convert_to_unsafe (P:=Tryz.prog) (src:=201) (dst:=142) Tryz.underlying201 Tryz.underlying142 (by kernel_rfl) hc;go_enter Tryz.func157,Tryz.ntmps157
 go_wp2
 go_end0
 exact ⟨rfl,rfl⟩
theorem unlock_deferred (a:Addr) (u:FrameMode) (w:World) (hc:w.cell? a=some (.int .i32 1)) (hz:w.frozen? a=false) :
  CallsD Tryz.prog 134 #[.pointer (some a)] u w fun e u' w'=>u'=u∧(e=.returned (.tuple #[])∧w'=w.setCell a (.int .i32 0)):=by
 go_enter_d Tryz.func134,Tryz.ntmps134
 go_wp2_with (go_at_call 157;refine (iunlock_held _ _ (by assumption) (by assumption)).mono ?_;rintro e w' ⟨rfl,rfl⟩)
 go_end0
 exact ⟨rfl,rfl⟩
theorem str_info:(Tryz.prog.info? 9).map (fun i=>(i.zero,i.size,i.bytes))=some (some (.string ⟨#[]⟩),1,16):=by kernel_rfl
def sixT:List (List UInt8):=[[34],[92,34],[92],[92,92],[10],[92,110]]
structure Six (w:World) (b o:Nat):Prop where
 lt:b<w.heap.size
 s0:w.cell? ⟨b,o,none⟩=some (.string (bs [34]))
 s1:w.cell? ⟨b,o+1,none⟩=some (.string (bs [92,34]))
 s2:w.cell? ⟨b,o+2,none⟩=some (.string (bs [92]))
 s3:w.cell? ⟨b,o+3,none⟩=some (.string (bs [92,92]))
 s4:w.cell? ⟨b,o+4,none⟩=some (.string (bs [10]))
 s5:w.cell? ⟨b,o+5,none⟩=some (.string (bs [92,110]))
theorem six_open {w:World} {v:Value} (h:SliceAt w 1 v 6 (strCells sixT)):∃ (b o c:Nat),v=.slice (some ⟨b,o,none⟩) 6 c∧6≤c∧c≤maxLen∧Six w b o:=by
 obtain ⟨_,a,c,rfl,hc,hm,hx⟩:=h.str;obtain ⟨b,o,rfl,hlt,hcell⟩:=hx 0 (by decide);exact ⟨b,o,c,rfl,hc,hm,hlt,hcell 0 (by decide),hcell 1 (by decide),hcell 2 (by decide),hcell 3 (by decide),hcell 4 (by decide),hcell 5 (by decide)⟩
structure Repl (w:World) (b:Nat) (done st:Int) (r v:Value):Prop where
 c0:w.cell? ⟨b,0,none⟩=some (.int .u32 done)
 c1:w.cell? ⟨b,1,none⟩=some (.int .i32 st)
 c2:w.cell? ⟨b,2,none⟩=some (.int .u32 0)
 c3:w.cell? ⟨b,3,none⟩=some r
 c4:w.cell? ⟨b,4,none⟩=some v
 fr:Free w b
theorem Repl.past {B:Nat} {w w':World} {b:Nat} {done st:Int} {r v:Value} (h:Repl w b done st r v) (hb:Below B w w') (hlt:b<B):Repl w' b done st r v :=
 ⟨(hb.cell (p:=⟨b,0,none⟩) hlt).trans h.1,(hb.cell (p:=⟨b,1,none⟩) hlt).trans h.2,(hb.cell (p:=⟨b,2,none⟩) hlt).trans h.3,(hb.cell (p:=⟨b,3,none⟩) hlt).trans h.4,(hb.cell (p:=⟨b,4,none⟩) hlt).trans h.5,h.fr.past hb hlt⟩
theorem repl_new (w:World) (x0 x1 x2 x3 x4:Value) (e:TypeId):(w.alloc (.cells #[x0,x1,x2,x3,x4] e)).cell? ⟨w.heap.size,0,none⟩=some x0∧(w.alloc (.cells #[x0,x1,x2,x3,x4] e)).cell? ⟨w.heap.size,1,none⟩=some x1∧(w.alloc (.cells #[x0,x1,x2,x3,x4] e)).cell? ⟨w.heap.size,2,none⟩=some x2∧(w.alloc (.cells #[x0,x1,x2,x3,x4] e)).cell? ⟨w.heap.size,3,none⟩=some x3∧(w.alloc (.cells #[x0,x1,x2,x3,x4] e)).cell? ⟨w.heap.size,4,none⟩=some x4 :=
 ⟨by rw [World.cell?_alloc_mark];rfl,by rw [World.cell?_alloc_mark];rfl,by rw [World.cell?_alloc_mark];rfl,by rw [World.cell?_alloc_mark];rfl,by rw [World.cell?_alloc_mark];rfl⟩
def Unbuilt (w:World) (b:Nat):Prop:=∃ (v:Value) (w1:World),Repl w b 0 0 .nilIface v∧SliceAt w1 1 v 6 (strCells sixT)∧w1.heap.size≤b∧Below b w1 w
set_option maxHeartbeats 1000000 in
theorem new_any (v:Value) (w:World) (h:SliceAt w 1 v 6 (strCells sixT)) :
  Calls Tryz.prog 31 #[v] w fun e w'=>∃ b,e=.returned (.pointer (some ⟨b,0,none⟩))∧Unbuilt w' b∧w.heap.size≤b∧b<w'.heap.size∧Below w.heap.size w w':=by
 obtain ⟨i0,hi,hz0,hz1,hz2⟩:=info_parts str_info;obtain ⟨b0,o0,c,rfl,hc,hm,_⟩:=six_open h;have Hs:=hid h;clear h;go_enter Tryz.func31,Tryz.ntmps31
 go_wp2_with (at_builtin;go_must (refine wpList_append_src rfl _ _ 48 rfl w.heap.size 9 i0 (.string ⟨#[]⟩) 1 16 Tryz.underlying48 hi hz0 hz1 hz2 rfl (by decide) _ 0 [] rfl ?c1 _ 6 (strCells sixT) rfl ?c2 ?c3 ?c4 ?c5 ?c6 ?_))
 case c1=>exact ⟨rfl,.inl ⟨rfl,rfl⟩⟩
 case c2=>exact Hs.out
 case c3=>exact strCells_one _
 case c4=>unfold maxLen;omega
 case c5=>omega
 case c6=>simp
 intro v' w1 hown hgrow;have hb1:Below w.heap.size w w1:=(Below.refl _ w).grown hgrow (by simp) (by intro k hk;simp [Value.ownBlock] at hk);have hsl:SliceAt w1 1 v' 6 (strCells sixT):=SliceAt.of_owns (n:=6) (by exact hown) (by decide);obtain ⟨b1,o1,c1,rfl,hc1,hm1,_⟩:=six_open hsl;have Hs1:=hid hsl;clear hown hsl;have HR:=hid (repl_new w1 (.int .u32 0) (.int .i32 0) (.int .u32 0) .nilIface (.slice (some ⟨b1,o1,none⟩) 6 c1) 109);have HF:=hid (free_new w1 #[.int .u32 0,.int .i32 0,.int .u32 0,.nilIface,.slice (some ⟨b1,o1,none⟩) 6 c1] 109);go_wp2_with fail;go_ret;exact ⟨w1.heap.size,rfl,⟨_,w1,⟨HR.out.1,HR.out.2.1,HR.out.2.2.1,HR.out.2.2.2.1,HR.out.2.2.2.2,HF.out⟩,Hs1.out,Nat.le_refl _,(Below.refl _ _).alloc (Nat.le_refl _) _⟩,hb1.size,by simp,hb1.trans ((Below.refl _ _).alloc hb1.size _)⟩
end Go.Proofs.YtfgiihpopngbkaaGreatDoor
