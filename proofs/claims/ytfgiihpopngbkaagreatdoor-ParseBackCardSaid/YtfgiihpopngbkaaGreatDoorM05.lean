/- Lemmas and walks that the statement needs: NodeRead, LexAll, ParseOpen, ParseEat, ParseFuel. -/
import Derived.Test.YtfgiihpopngbkaaGreatDoorM03
import Derived.Test.YtfgiihpopngbkaaGreatDoorM04
import Derived.Test.YtfgiihpopngbkaaGreatDoorM02
import Derived.RegionTactic
import Derived.Test.YtfgiihpopngbkaaGreatDoorM01
namespace Go.Proofs.YtfgiihpopngbkaaGreatDoor
set_option maxRecDepth 100000
open Go.RowKit
open Nat renaming lt_of_lt_of_le→nL,le_trans→nT
mutual
def NM.tr:NM→Tr
 | .mk k t _ _ ks _ _=>.mk k t (NM.trs ks)
def NM.trs:List NM→List Tr
 | []=>[]
 | x::r=>x.tr::NM.trs r
end
theorem ntr_mk (k:Int) (t:List UInt8) (l c:Int) (ks:List NM) (a:Option Addr) (m:Nat):(NM.mk k t l c ks a m).tr=.mk k t (NM.trs ks):=by rw [NM.tr]
theorem ntrs_nil:NM.trs []=[]:=by rw [NM.trs]
theorem ntrs_cons (x:NM) (r:List NM):NM.trs (x::r)=x.tr::NM.trs r:=by rw [NM.trs]
theorem ntrs_map:∀ l:List NM,NM.trs l=l.map NM.tr
 | []=>by rw [ntrs_nil];rfl
 | x::r=>by rw [ntrs_cons,ntrs_map r];rfl
theorem ntrs_len (l:List NM):(NM.trs l).length=l.length:=by rw [ntrs_map,List.length_map]
mutual
theorem is_tr:∀ {x:NM} {n:Nd},x.is n→x.tr=n.tr
 | .mk k t l c ks _ _,.mk k' t' p ks',h=>by
   unfold NM.is at h;obtain ⟨rfl,rfl,-,-,h⟩:=h;rw [ntr_mk,tr_mk,are_trs h]
theorem are_trs:∀ {x:List NM} {n:List Nd},NM.are x n→NM.trs x=Nd.trs n
 | [],[],_=>by rw [ntrs_nil,trs_nil]
 | x::r,y::s,h=>by unfold NM.are at h;rw [ntrs_cons,trs_cons,is_tr h.1,are_trs h.2]
 | [],_::_,h=>by unfold NM.are at h;exact h.elim
 | _::_,[],h=>by unfold NM.are at h;exact h.elim
end
abbrev AnyB:Nat→Prop:=fun _=>True
theorem HeldN.any {P:Nat→Prop} {w:World} {x:NM} (h:HeldN P w x):HeldN AnyB w x:=HeldN.less (fun _ _ _=>trivial) h
theorem HeldN.below {w w':World} {x:NM} (h:HeldN AnyB w x) (hb:Below w.heap.size w w'):HeldN AnyB w' x:=HeldN.keep (Same.of_below hb) h
structure FiveN (w:World) (b o:Nat) (v:NM):Prop where
 c0:w.cell? ⟨b,o,none⟩=some (.int .i64 v.k)
 c1:w.cell? ⟨b,o+1,none⟩=some (.string (bs v.t))
 c2:w.cell? ⟨b,o+2,none⟩=some (.int .i64 v.l)
 c3:w.cell? ⟨b,o+3,none⟩=some (.int .i64 v.c)
 c4:w.cell? ⟨b,o+4,none⟩=some v.sl
theorem five_of {w:World} {b o:Nat} {k l c:Int} {t:List UInt8} {ks:List NM} {a:Option Addr} {m:Nat} (h:FiveN w b o (.mk k t l c ks a m)) :
  w.cell? ⟨b,o,none⟩=some (.int .i64 k)∧w.cell? ⟨b,o+1,none⟩=some (.string (bs t))∧w.cell? ⟨b,o+2,none⟩=some (.int .i64 l)∧w.cell? ⟨b,o+3,none⟩=some (.int .i64 c)∧w.cell? ⟨b,o+4,none⟩=some (.slice a ks.length m):=⟨h.c0,h.c1,h.c2,h.c3,h.c4⟩
theorem FiveN.keep {w w':World} {b o:Nat} {v:NM} (h:FiveN w b o v) (e:w'.heap[b]? = w.heap[b]?):FiveN w' b o v :=
 ⟨(World.cell?_of_block (w:=w) e).trans h.c0,(World.cell?_of_block (w:=w) e).trans h.c1,(World.cell?_of_block (w:=w) e).trans h.c2,(World.cell?_of_block (w:=w) e).trans h.c3,(World.cell?_of_block (w:=w) e).trans h.c4⟩
theorem nmCells_get (l:List NM):∀ k (h:k<l.length),(nmCells l)[k * 5]? = some (.int .i64 l[k].k)∧(nmCells l)[k * 5+1]? = some (.string (bs l[k].t))∧(nmCells l)[k * 5+2]? = some (.int .i64 l[k].l)∧(nmCells l)[k * 5+3]? = some (.int .i64 l[k].c)∧(nmCells l)[k * 5+4]? = some l[k].sl:=by
 induction l with
 | nil=>intro k h;simp at h
 | cons v l ih =>
   intro k h;cases v with
   | mk vk vt vl vc vks va vm =>
   have e:nmCells (.mk vk vt vl vc vks va vm::l)=.int .i64 vk::.string (bs vt)::.int .i64 vl::.int .i64 vc::.slice va vks.length vm::nmCells l:=rfl;cases k with
   | zero=>rw [e];exact ⟨rfl,rfl,rfl,rfl,rfl⟩
   | succ k =>
     have:=ih k (by simpa using h);rw [e,show (k+1) * 5=k * 5+1+1+1+1+1 by omega];simpa using this
structure KidsAt (w:World) (v:Value) (ks:List NM):Prop where
 row:SliceAt w 5 v ks.length (nmCells ks)
 held:HeldNs AnyB w ks
theorem KidsAt.below {w w':World} {v:Value} {ks:List NM} (h:KidsAt w v ks) (hb:Below w.heap.size w w'):KidsAt w' v ks:=⟨h.row.below hb (Nat.le_refl _),HeldNs.keep (Same.of_below hb) h.held⟩
theorem HeldN.kidsAt {w:World} {k l c:Int} {t:List UInt8} {ks:List NM} {a:Option Addr} {m:Nat} (h:HeldN AnyB w (.mk k t l c ks a m)):KidsAt w (.slice a ks.length m) ks :=
 ⟨(heldN_mk h).1.1,(heldN_mk h).2⟩
theorem KidsAt.nodes {w:World} {v:Value} {ks:List NM} (h:KidsAt w v ks):∃ a c,v=.slice a ks.length c∧ks.length≤c∧c≤maxLen ∧
  (∀ k,k<ks.length→∃ b off,a=some ⟨b,off,none⟩∧b<w.heap.size∧∀ j (hj:j<ks.length),FiveN w b (off+j * 5) ks[j]):=by
 obtain ⟨hl,a,c,rfl,hc,hm,-,hx⟩:=h.row;refine ⟨a,c,rfl,hc,hm,fun k hk=>?_⟩;obtain ⟨b,off,rfl,hlt,hcell⟩:=hx (by intro e;have:=nmCells_len ks;rw [e] at this;simp at this;omega);refine ⟨b,off,rfl,hlt,fun j hj=>?_⟩;have hg:=nmCells_get ks j hj;exact ⟨hcell _ _ hg.1,by rw [Nat.add_assoc];exact hcell _ _ hg.2.1,by rw [Nat.add_assoc];exact hcell _ _ hg.2.2.1,by rw [Nat.add_assoc];exact hcell _ _ hg.2.2.2.1,by rw [Nat.add_assoc];exact hcell _ _ hg.2.2.2.2⟩
theorem KidsAt.take {w:World} {a:Option Addr} {c:Nat} {ks:List NM} (h:KidsAt w (.slice a ks.length c) ks) (n:Nat) (hn:n≤ks.length):KidsAt w (.slice a n c) (ks.take n):=by
 have hlen:(ks.take n).length=n:=by rw [List.length_take];omega
 obtain ⟨hl,a',c',e,hc,hm,h0,hx⟩:=h.row;simp only [Value.slice.injEq,true_and] at e;obtain ⟨rfl,rfl⟩:=e;refine ⟨⟨nmCells_len _,a,c,by rw [hlen],by rw [hlen];omega,hm,h0,fun hne=>?_⟩,?_⟩
 ·have hks:nmCells ks≠[]:=by
   intro e;have h1:=nmCells_len ks;rw [e] at h1;have:ks=[]:=by cases ks with | nil=>rfl | cons x r=>simp at h1
   subst this;simp [nmCells] at hne
  obtain ⟨b,off,ha,hb,hcell⟩:=hx hks;refine ⟨b,off,ha,hb,fun j u hu=>hcell j u ?_⟩;have hs:nmCells ks=nmCells (ks.take n)++nmCells (ks.drop n):=by rw [← nmCells_app,List.take_append_drop]
  rw [hs,List.getElem?_append_left (List.getElem?_eq_some_iff.1 hu).1];exact hu
 ·have:∀ (l:List NM) (m:Nat),HeldNs AnyB w l→HeldNs AnyB w (l.take m):=by
   intro l;induction l with
   | nil=>intro m _;cases m <;> exact heldNs_nil
   | cons x r ih =>
     intro m hh;cases m with
     | zero=>exact heldNs_nil
     | succ m=>unfold HeldNs at hh;show HeldNs AnyB w (x::r.take m);unfold HeldNs;exact ⟨hh.1,ih m hh.2⟩
  exact this ks n h.held
theorem KidsAt.tail {w:World} {b off c:Nat} {x:NM} {ks:List NM} (h:KidsAt w (.slice (some ⟨b,off,none⟩) (ks.length+1) c) (x::ks)) (a:Option Addr) (ha:ks≠[]→a=some ⟨b,off+5,none⟩) (hz:a=none→c=1):KidsAt w (.slice a ks.length (c - 1)) ks:=by
 obtain ⟨hl,a',c',e,hc,hm,h0,hx⟩:=h.row;simp only [Value.slice.injEq] at e;obtain ⟨rfl,-,rfl⟩:=e;have hh:=h.held;unfold HeldNs at hh;simp only [List.length_cons] at hc;refine ⟨⟨nmCells_len _,a,c - 1,rfl,by omega,by omega,fun e=>by rw [hz e],fun hne=>?_⟩,hh.2⟩;have hks:ks≠[]:=by rintro rfl;simp [nmCells] at hne
 obtain ⟨b',off',e,hb,hcell⟩:=hx (by rw [nmCells_cons];intro e;have:=NM.cells_len x;simp at e;rw [e.1] at this;simp at this);simp only [Option.some.injEq,Addr.mk.injEq] at e;obtain ⟨rfl,rfl,-⟩:=e;refine ⟨b,off+5,ha hks,hb,fun j u hu=>?_⟩;have:=hcell (j+5) u (by rw [nmCells_cons,List.getElem?_append_right (by rw [NM.cells_len];omega),NM.cells_len];simpa using hu);rw [show off+5+j=off+(j+5) by omega];exact this
theorem KidsAt.get {w:World} {v:Value} {ks:List NM} (h:KidsAt w v ks) (k:Nat) (hk:k<ks.length):HeldN AnyB w ks[k]:=heldNs_get h.held k hk
mutual
def NM.hi:NM→Nat
 | .mk _ _ _ _ ks _ _=>NM.his ks+1
def NM.his:List NM→Nat
 | []=>0
 | x::r=>max x.hi (NM.his r)
end
theorem hi_mk (k:Int) (t:List UInt8) (l c:Int) (ks:List NM) (a:Option Addr) (m:Nat):(NM.mk k t l c ks a m).hi=NM.his ks+1:=by rw [NM.hi]
theorem his_get:∀ {ks:List NM} {N:Nat},NM.his ks≤N→∀ k (h:k<ks.length),ks[k].hi≤N
 | [],_,_,k,h=>by simp at h
 | x::r,N,hN,k,h=>by
   rw [NM.his] at hN;cases k with
   | zero=>show x.hi≤N;omega
   | succ k=>exact his_get (by omega) k (by simpa using h)
def AllRet (x:Lexed) (w:World) (e:Ending) (w':World):Prop :=
 ∃ v,e=.returned (.tuple #[v,.int .i64 x.2.1,plV x.2.2.1 x.2.2.2])∧SliceAt w' 4 v x.1.length (tokCells x.1)∧Below w.heap.size w w'
theorem all_res {w:World} {tmps:Array Value} {b:Nat} {x y n:Int} {v:Value} (h2:tmps[2]?.getD undef=v) (h3:tmps[3]?.getD undef=.int .i64 n) (h4:tmps[4]?.getD undef=.pointer (some ⟨b,0,none⟩)) (h0:w.cell? ⟨b,0,none⟩=some (.int .i64 x)) (h1:w.cell? ⟨b,1,none⟩=some (.int .i64 y)) :
  (results Tryz.f16 tmps).run Tryz.prog w=.ok (.tuple #[v,.int .i64 n,.agg #[.int .i64 x,.int .i64 y]]) w:=by
 simp [results,Tryz.f16,go_sem,h2,h3,h4,h0,h1]
def strLen (v:Value):Nat:=match v with | .string b=>b.size | _=>0
theorem one_tok2 (w:World) (t:Tok):SliceAt ((w.alloc (.cells #[.int .i64 t.1,.string (bs t.2.1),.int .i64 t.2.2.1,.int .i64 t.2.2.2] 46)).alloc (.cells #[.int .i64 t.1,.string (bs t.2.1),.int .i64 t.2.2.1,.int .i64 t.2.2.2] 46)) 4 (.slice (some ⟨w.heap.size+1,0,none⟩) 1 1) 1 (tokCells [t]):=by
 have h:=one_tok (w.alloc (.cells #[.int .i64 t.1,.string (bs t.2.1),.int .i64 t.2.2.1,.int .i64 t.2.2.2] 46)) t;rwa [World.size_alloc] at h
set_option maxHeartbeats 1000000 in
theorem all_long (s:List UInt8) (hs:s.length≤1000000000000) (hl:65536<s.length) (w:World) :
  Calls Tryz.prog 16 #[.string (bs s)] w (AllRet (allT s) w):=by
 have e:allT s=([],6,(1,1)):=by unfold allT;rw [if_pos hl]
 rw [e];go_enter Tryz.func16,Tryz.ntmps16
 go_wp2_with fail
 go_region
 all_goals (try go_wp2_with fail)
 all_goals
  have hb:=box2 w (.cells #[.int .i64 1,.int .i64 1] 24) (.int .i64 1) (.int .i64 1) 24;have h2:=Two.below (two_new w (.int .i64 1) (.int .i64 1) 24) ((Below.refl _ _).alloc (Nat.le_refl _) (.cells #[.int .i64 1,.int .i64 1] 24));exact bodyPost_ret (all_res (x:=1) (y:=1) rfl rfl rfl h2.c0 h2.c1) rfl ⟨_,rfl,SliceAt.nil _ _,(below2 w _ _).drew⟩
set_option maxHeartbeats 4000000 in
theorem all_short (s:List UInt8) (hl:s.length≤65536) (w:World) (hr:RangeAt w) :
  Calls Tryz.prog 16 #[.string (bs s)] w (AllRet (lexL (1,1) s) w):=by
 obtain ⟨i0,hi,iz0,iz1,iz2⟩:=info_parts tok_info;obtain ⟨res,hres⟩:∃ x,x=lexL (1,1) s:=⟨_,rfl⟩;rw [← hres];have HX:=hid hres;clear hres;have HA:=hid (two_new w (.int .i64 0) (.int .i64 0) 24);have HB:=hid (two_new (w.alloc (.cells #[.int .i64 0,.int .i64 0] 24)) (.int .i64 1) (.int .i64 1) 24);have HW:=hid (below2 w (.cells #[.int .i64 0,.int .i64 0] 24) (.cells #[.int .i64 1,.int .i64 1] 24));go_enter Tryz.func16,Tryz.ntmps16
 go_wp2_with fail;go_loopw [6,7] (fun v x wr=>∃ (k:Nat) (toks:List Tok),k≤s.length∧toks.length≤k∧x=.string (bs (s.drop k))∧wr.ownsRow (w.heap.size+2) 46 4 v toks.length (tokCells toks)∧Hid (res=finT toks (lexL (advs (1,1) (s.take k)) (s.drop k)))∧Two wr w.heap.size (.int .i64 0) (.int .i64 0)∧Two wr (w.heap.size+1) (.int .i64 (advs (1,1) (s.take k)).1) (.int .i64 (advs (1,1) (s.take k)).2)∧Below w.heap.size w wr) (fun _ x _=>strLen x)
 case atStart =>
  refine ⟨0,[],by omega,by simp,rfl,⟨rfl,.inl ⟨rfl,rfl⟩⟩,hid ?_,?_,?_,HW.out⟩
  ·rw [HX.out];exact (finT_nil _ _).symm
  ·exact HA.out.below ((Below.refl _ _).alloc (Nat.le_refl _) _)
  ·have:=HB.out;rwa [World.size_alloc] at this
 case round =>
  obtain ⟨k,toks,hk,htl,rfl,hown,HL,h2a,h2b,hbw⟩:=hrel;have hwk:Within (advs (1,1) (s.take k)) k:=by
   have:=within_at (s.take k);rwa [List.length_take,Nat.min_eq_left hk] at this
  obtain ⟨hw1,hw2⟩:=hwk;have hsdl:(s.drop k).length=s.length - k:=List.length_drop ..;obtain ⟨p,hpp⟩:∃ p,p=advs (1,1) (s.take k):=⟨_,rfl⟩;rw [← hpp] at h2b HL hw1 hw2;have htk:∀ n,advs p ((s.drop k).take n)=advs (1,1) (s.take (k+n)):=fun n=>by rw [hpp,← advs_append,List.take_add]
  have hdk:∀ n,(s.drop k).drop n=s.drop (k+n):=fun n=>by rw [List.drop_drop]
  have Htk:=hid htk;have Hdk:=hid hdk;clear htk hdk hpp;obtain ⟨pl,pc⟩:=p;simp only at hw1 hw2 h2b;cases hsd:s.drop k with
  | nil =>
    rw [hsd] at HL;have hk2:k=s.length:=by rw [hsd] at hsdl;simp at hsdl;omega
    have hres:res=(toks,0,(0,0)):=by rw [HL.out,lex_nil];simp [finT]
    subst hres;obtain ⟨c0,c1,f0,f1⟩:=h2a;have h2a':Two wr w.heap.size (.int .i64 0) (.int .i64 0):=⟨c0,c1,f0,f1⟩;have Hs:=hid (h2a'.set (.int .i64 0) (.int .i64 0));have Ho:=hid hown;clear h2a' hsd HX HL hown;go_wp2_with fail;refine bodyPost_ret (all_res (x:=0) (y:=0) rfl rfl rfl Hs.out.c0 Hs.out.c1) rfl ⟨_,rfl,?_,(hbw.setCell (p:=⟨w.heap.size,0,none⟩) (Nat.le_refl _) _).setCell (p:=⟨w.heap.size,1,none⟩) (Nat.le_refl _) _⟩;have h1:=own_keep (base:=w.heap.size+2) Ho.out (b:=w.heap.size) (by omega) (.int .i64 0) (.int .i64 0);have h2:toks.length≤maxLen:=by unfold maxLen;omega
    exact SliceAt.of_owns h1 h2
  | cons c r =>
    have hcl:(c::r).length=s.length - k:=by rw [← hsd];exact hsdl
    obtain ⟨kd,t,n,e,hp⟩:∃ kd t n,∃ e,pieceP (c::r)=(kd,t,n,e):=⟨_,_,_,_,rfl⟩;have HN:=hid (next_any c r (by omega) kd t n e hp wr (hr.below hbw));unfold TokRet tokV at HN;rw [hsd] at HL Htk Hdk;by_cases he:e=0
    ·subst he;obtain ⟨⟨hn1,hn2,hn3⟩,hlx⟩:=pieceP_ok hp (pl,pc);rw [Hdk.out] at hlx;have htk:=Htk.out n;have Hpas:=hid (pass_any ((c::r).take n) (by rw [List.length_take];omega) (pl,pc) (by simp only;omega));rw [htk] at hlx;unfold plV at Hpas;rw [htk] at Hpas;have HNL:Hid (res=finT (toks++if kd=0 then [] else [(kd,t,(pl,pc))]) (lexL (advs (1,1) (s.take (k+n))) (s.drop (k+n)))):=hid (by rw [HL.out,hlx,finT_finT]);have Hdn:=hid (Hdk.out n);have hz0:=h2a.lt;have hz1:=h2b.lt;have hwr:=hbw.size;have hn4:(n:Int)≤(r.length:Int)+1:=by simp at hn2;omega
     have hn5:n≤r.length+1:=by simp at hn2;omega
     have hkn:k+n≤s.length:=by simp at hcl;omega
     obtain ⟨p2,hp2⟩:∃ x,advs (1,1) (s.take (k+n))=x:=⟨_,rfl⟩;rw [hp2] at Hpas HNL;obtain ⟨ql,qc⟩:=p2;have HP2:=hid hp2;clear hp2;simp only at Hpas;clear HX HL hsd hp hlx htk Htk Hdk;by_cases hkd:kd=0
     ·subst hkd;have HNZ:Hid (res=finT toks (lexL (ql,qc) (s.drop (k+n)))):=hid (by have:=HNL.out;simpa using this);clear HNL;go_wp2_with fail;refine HN.out.mono ?_;rintro ex w2 ⟨rfl,hb2⟩;have hz2:=nL hz0 hb2.size;have hz3:=nL hz1 hb2.size;have hown2:=ownsRow_below hown hb2;obtain ⟨c0,c1,f0,f1⟩:=h2a.below hb2;obtain ⟨d0,d1,g0,g1⟩:=h2b.below hb2;clear h2a h2b hown;go_wp2_with fail
      go_region_with (go_at_call 30;refine (Hpas.out _).mono ?_;rintro e wx ⟨rfl,hbx⟩;have hB2:Below w2.heap.size w2 wx:=(by first | exact ((Below.refl _ _).alloc (Nat.le_refl _) _).trans (hbx.mono (by simp)) | exact ((Below.refl _ _).alloc (Nat.le_refl _) _).drew.trans (hbx.mono (by simp)) | exact ((Below.refl _ _).alloc (Nat.le_refl _) _).drew.drew.trans (hbx.mono (by simp)) | exact ((Below.refl _ _).alloc (Nat.le_refl _) _).drew.drew.drew.trans (hbx.mono (by simp)) | exact ((Below.refl _ _).alloc (Nat.le_refl _) _).drew.drew.drew.drew.trans (hbx.mono (by simp)));have hT:=(Two.mk d0 d1 g0 g1).below hB2;have m0:=hT.c0;have m1:=hT.c1;have n0:=hT.f0;have n1:=hT.f1)
      all_goals
       have hA2:=(Two.mk c0 c1 f0 f1).below hB2;have hO2:=ownsRow_below hown2 hB2;have hBw:Below w.heap.size w wx:=(hbw.trans (hb2.mono hbw.size)).trans (hB2.mono (by omega));clear hbx hB2;have hs7:(c::r).drop n=(s.drop (k+n)):=Hdn.out;have hl7:((c::r).drop n).length≤s.length - k - n:=by rw [List.length_drop,hcl];exact Nat.le_refl _
       refine ⟨?_,?_⟩
       ·(repeat apply Exists.intro)
        refine ⟨⟨k+n,toks,hkn,by omega,?_,own_keep hO2 (by omega) _ _,by rw [HP2.out];exact HNZ,hA2.other (by omega) _ _,by rw [HP2.out];exact hT.set _ _,(hBw.setCell (p:=⟨w.heap.size+1,0,none⟩) (Nat.le_succ _) _).setCell (p:=⟨w.heap.size+1,1,none⟩) (Nat.le_succ _) _⟩,rfl⟩;rw [← hs7,List.take_of_length_le hl7]
       ·show ((c::r).drop n |>.take (s.length - k - n)).length<(c::r).length;rw [List.take_of_length_le hl7,List.length_drop];omega
     ·skip
      have HNZ:Hid (res=finT (toks++[(kd,t,(pl,pc))]) (lexL (ql,qc) (s.drop (k+n)))):=hid (by have:=HNL.out;rw [if_neg hkd] at this;exact this);have hkd1:(0:Int)<(kd:Int):=by omega
      clear HNL hkd;go_wp2_with fail;refine HN.out.mono ?_;rintro ex w2 ⟨rfl,hb2⟩;have hz2:=nL hz0 hb2.size;have hz3:=nL hz1 hb2.size;have hown2:=ownsRow_below hown hb2;obtain ⟨c0,c1,f0,f1⟩:=h2a.below hb2;obtain ⟨d0,d1,g0,g1⟩:=h2b.below hb2;clear h2a h2b hown;go_wp2_with (at_builtin;go_must (refine wpList_append_src rfl _ _ 42 rfl (w.heap.size+2) 46 i0 (.agg #[.int .i64 0,.string ⟨#[]⟩,.int .i64 0,.int .i64 0]) 4 40 Tryz.underlying42 hi iz0 iz1 iz2 rfl (by decide) _ toks.length (tokCells toks) rfl ?d1 _ 1 (tokCells [(kd,t,(pl,pc))]) rfl ?d2 ?d3 ?d4 ?d5 ?d6 ?_))
      case d1=>exact (hown2.alloc _).alloc _
      case d2=>exact one_tok2 w2 (kd,t,(pl,pc))
      case d3=>exact tokCells_one _
      case d4=>unfold maxLen;omega
      (try case d5=>omega)
      (try case d6=>simp;omega)
      intro v3 w3 hown3 hgrow;have hB3:Below (w.heap.size+2) w2 w3:=((((Below.refl (w.heap.size+2) w2).alloc (by omega) _).alloc (by simp;omega) _)).grown hgrow (by simp;omega) (fun q hq=>(hown2.lt q hq).1);have h3a:=(Two.mk c0 c1 f0 f1).past hB3 (by omega);have h3b:=(Two.mk d0 d1 g0 g1).past hB3 (by omega);have hb3:Below w.heap.size w w3:=(hbw.trans (hb2.mono hbw.size)).trans (hB3.mono (by omega));rw [← tokCells_app] at hown3;have hown4:w3.ownsRow (w.heap.size+2) 46 4 v3 (toks++[(kd,t,(pl,pc))]).length (tokCells (toks++[(kd,t,(pl,pc))])):=by rw [List.length_append];exact hown3
      have hz5:=h3b.lt;obtain ⟨e0,e1,x0,x1⟩:=h3b;clear hB3 hown3 hown2 hgrow c0 c1 f0 f1 d0 d1 g0 g1;go_wp2_with fail
      go_region_with (go_at_call 30;refine (Hpas.out _).mono ?_;rintro e wx ⟨rfl,hbx⟩;have hB2:Below w3.heap.size w3 wx:=(by first | exact hbx | exact ((Below.refl _ _).drew).trans (hbx.mono (by simp)) | exact ((Below.refl _ _).drew.drew).trans (hbx.mono (by simp)) | exact ((Below.refl _ _).drew.drew.drew).trans (hbx.mono (by simp)));have hT:=(Two.mk e0 e1 x0 x1).below hB2;have m0:=hT.c0;have m1:=hT.c1;have n0:=hT.f0;have n1:=hT.f1)
      all_goals
       have hA2:=h3a.below hB2;have hO2:=ownsRow_below hown4 hB2;have hBw:Below w.heap.size w wx:=hb3.trans (hB2.mono hb3.size);clear hbx hB2;have hs7:(c::r).drop n=(s.drop (k+n)):=Hdn.out;have hl7:((c::r).drop n).length≤s.length - k - n:=by rw [List.length_drop,hcl];exact Nat.le_refl _
       refine ⟨?_,?_⟩
       ·(repeat apply Exists.intro)
        refine ⟨⟨k+n,toks++[(kd,t,(pl,pc))],hkn,by simp;omega,?_,own_keep hO2 (by omega) _ _,by rw [HP2.out];exact HNZ,hA2.other (by omega) _ _,by rw [HP2.out];exact hT.set _ _,(hBw.setCell (p:=⟨w.heap.size+1,0,none⟩) (Nat.le_succ _) _).setCell (p:=⟨w.heap.size+1,1,none⟩) (Nat.le_succ _) _⟩,rfl⟩;rw [← hs7,List.take_of_length_le hl7]
       ·show ((c::r).drop n |>.take (s.length - k - n)).length<(c::r).length;rw [List.take_of_length_le hl7,List.length_drop];omega
    ·have hres:res=([],e,(pl,pc)):=by rw [HL.out,pieceP_err hp he];simp [finT,he]
     subst hres;have qe:((e:Int) != 0)=true:=neT (by omega);have hz0:=h2a.lt;have hz1:=h2b.lt;clear HX HL hsd hp;go_wp2_with fail;refine HN.out.mono ?_;rintro ex w2 ⟨rfl,hb2⟩;have hz2:=nL hz0 hb2.size;have hz3:=nL hz1 hb2.size;obtain ⟨c0,c1,f0,f1⟩:=h2a.below hb2;obtain ⟨d0,d1,g0,g1⟩:=h2b.below hb2;clear h2a h2b;go_wp2_with fail
     go_region
     all_goals (try go_wp2_with fail)
     all_goals
      have h3:=(Two.mk c0 c1 f0 f1).set (.int .i64 pl) (.int .i64 pc);have h4:=h3.below ((Below.refl _ _).alloc (Nat.le_refl _) (.cells #[.int .i64 kd,.string (bs t),.int .i64 0,.int .i64 0] 46));have hb3:=((hbw.trans (hb2.mono hbw.size)).setCell (p:=⟨w.heap.size,0,none⟩) (Nat.le_refl _) (.int .i64 pl)).setCell (p:=⟨w.heap.size,1,none⟩) (Nat.le_refl _) (.int .i64 pc);exact bodyPost_ret (all_res (x:=pl) (y:=pc) rfl rfl rfl h4.c0 h4.c1) rfl ⟨_,rfl,SliceAt.nil _ _,(hb3.alloc hb3.size _).drew⟩
theorem all_any (s:List UInt8) (hs:s.length≤1000000000000) (w:World) (hr:RangeAt w) :
  Calls Tryz.prog 16 #[.string (bs s)] w (AllRet (allT s) w):=by
 by_cases h:65536<s.length
 ·exact all_long s hs h w
 ·have e:allT s=lexL (1,1) s:=by unfold allT;rw [if_neg h]
  rw [e];exact all_short s (by omega) w hr
structure ButAt (g:Nat) (w w':World):Prop where
 os:w'.os=w.os
 tape:w'.tape=w.tape
 output:w'.output=w.output
 size:w.heap.size≤w'.heap.size
 block:∀ k,k<w.heap.size→k≠g→w'.heap[k]? = w.heap[k]?
theorem ButAt.of_below {g:Nat} {w w':World} (h:Below w.heap.size w w'):ButAt g w w':=⟨h.os,h.tape,h.output,h.size,fun k hk _=>h.block k hk⟩
theorem ButAt.refl (g:Nat) (w:World):ButAt g w w:=⟨rfl,rfl,rfl,Nat.le_refl _,fun _ _ _=>rfl⟩
theorem ButAt.trans {g:Nat} {w w1 w2:World} (h:ButAt g w w1) (k:ButAt g w1 w2):ButAt g w w2 :=
 ⟨k.os.trans h.os,k.tape.trans h.tape,k.output.trans h.output,nT h.size k.size,fun i hi hne=>(k.block i (nL hi h.size) hne).trans (h.block i hi hne)⟩
theorem ButAt.below {g:Nat} {w w1 w2:World} (h:ButAt g w w1) (hb:Below w1.heap.size w1 w2):ButAt g w w2:=h.trans (ButAt.of_below hb)
theorem ButAt.set {g:Nat} {w w1:World} (h:ButAt g w w1) (j:Nat) (v:Value):ButAt g w (w1.setCell ⟨g,j,none⟩ v) :=
 ⟨h.os,h.tape,h.output,nT h.size (by simp [World.setCell]),fun k hk hne=>(heap_setCell_other w1 ⟨g,j,none⟩ k v hne).trans (h.block k hk hne)⟩
theorem ButAt.set_new {g:Nat} {w w1:World} (h:ButAt g w w1) {b:Nat} (hb:w.heap.size≤b) (j:Nat) (v:Value):ButAt g w (w1.setCell ⟨b,j,none⟩ v) :=
 ⟨h.os,h.tape,h.output,nT h.size (by simp [World.setCell]),fun k hk hne=>(heap_setCell_other w1 ⟨b,j,none⟩ k v (by show k≠b;omega)).trans (h.block k hk hne)⟩
theorem ButAt.new {g:Nat} {w w1:World} (h:ButAt g w w1) (o:Obj):ButAt g w (w1.alloc o):=h.below (below_new w1 o)
theorem ButAt.same {g:Nat} {w w':World} (h:ButAt g w w') {P:Nat→Prop} (hP:∀ b,P b→b≠g):Same P w w':=⟨h.size,fun k hk hl=>h.block k hk (hP k hl)⟩
theorem ButAt.row {g:Nat} {w w':World} (h:ButAt g w w') {b:Nat} {o:Obj} (hr:w.heap[b]? = some o) (hne:b≠g):w'.heap[b]? = some o:=(h.block b (Array.getElem?_eq_some_iff.1 hr).1 hne).trans hr
theorem kr {g:Nat} {w w':World} {b:Nat} {o:Obj} (h:ButAt g w w') (hr:Hid (w.heap[b]? = some o)) (hne:b≠g):Hid (w'.heap[b]? = some o):=hid (h.row hr.out hne)
theorem kb {g:Nat} {w w1 w2:World} (h:Hid (ButAt g w w1)) (k:ButAt g w1 w2):Hid (ButAt g w w2):=hid (h.out.trans k)
theorem kh {g:Nat} {w w':World} {P:Nat→Prop} {x:NM} (h:ButAt g w w') (hP:Hid (∀ b,P b→b≠g)) (hx:Hid (HeldN P w x)):Hid (HeldN P w' x):=hid (HeldN.keep (h.same hP.out) hx.out)
theorem frozen_of_row {w:World} {b:Nat} {cs:Array Value} {t:TypeId} (h:w.heap[b]? = some (.cells cs t (0,0))) (j:Nat):w.frozen? ⟨b,j,none⟩=false:=Lib.frozen_of_heap h j
theorem PS.row {w:World} {g:Nat} {en:Pl} {l:List Tok} {d:Nat} (h:PS w g en l d):∃ a c,w.heap[g]? = some (.cells (parC (.slice a l.length c) en d) 56 (0,0)):=by
 obtain ⟨a,c,hg,_⟩:=h;exact ⟨a,c,hg⟩
set_option maxHeartbeats 1000000 in
theorem take_no (g:Nat) (en:Pl) (l:List Tok) (w:World) (h:PSw w g en l) :
  Calls Tryz.prog 63 #[.pointer (some ⟨g,0,none⟩),.bool false] w fun e w'=>e=.panicked [wrongV 3 (atT en l 0).2.2]∧Below w.heap.size w w':=by
 have H:=hid (fun W (hW:Below w.heap.size w W)=>fail_any 3 g en l W (h.keep hW));clear h;go_enter Tryz.func63,Tryz.ntmps63
 go_wp2_with fail;refine (H.out _ (below_new w _)).mono ?_;rintro e w1 ⟨rfl,hb1⟩;go_wp2_with fail;exact ⟨rfl,rfl,Below.chain (below_new w _) hb1⟩
theorem alloc_row {w:World} {b:Nat} {o:Obj} (h:w.heap[b]? = some o) (o':Obj):(w.alloc o').heap[b]? = some o:=(Below.heap_alloc w o' b (Array.getElem?_eq_some_iff.1 h).1).trans h
theorem take_end {w w1:World} {g z:Nat} {en:Pl} {d:Nat} {v0 v x0 x1 x2 x3 y0 y1 y2 y3:Value} {T:TypeId} (hg:w1.heap[g]? = some (.cells (parC v0 en d) 56 (0,0))) (hz:w1.heap[z]? = some (.cells #[x0,x1,x2,x3] T (0,0))) (hne:g≠z)
  (hb:Below w.heap.size w w1) (hwz:w.heap.size≤z) (o:Obj) :
  ∃ W,W=(((((w1.setCell ⟨g,0,none⟩ v).setCell ⟨z,0,none⟩ y0).setCell ⟨z,1,none⟩ y1).setCell ⟨z,2,none⟩ y2).setCell ⟨z,3,none⟩ y3).alloc o ∧
    W.heap[g]? = some (.cells (parC v en d) 56 (0,0))∧W.heap[z]? = some (.cells #[y0,y1,y2,y3] T (0,0))∧ButAt g w W∧w1.heap.size≤W.heap.size∧∀ k,k<w1.heap.size→k≠g→k≠z→W.heap[k]? = w1.heap[k]?:=by
 have hzl:=(Array.getElem?_eq_some_iff.1 hz).1;have hgl:=(Array.getElem?_eq_some_iff.1 hg).1;have oth:∀ k,k≠z→((((w1.setCell ⟨g,0,none⟩ v).setCell ⟨z,0,none⟩ y0).setCell ⟨z,1,none⟩ y1).setCell ⟨z,2,none⟩ y2 |>.setCell ⟨z,3,none⟩ y3).heap[k]? = (w1.setCell ⟨g,0,none⟩ v).heap[k]?:=fun k hk=>by
  rw [heap_setCell_other _ ⟨z,3,none⟩ k _ hk,heap_setCell_other _ ⟨z,2,none⟩ k _ hk,heap_setCell_other _ ⟨z,1,none⟩ k _ hk,heap_setCell_other _ ⟨z,0,none⟩ k _ hk]
 refine ⟨_,rfl,?_,?_,?_,?_,?_⟩
 ·refine alloc_row ((oth g hne).trans (heap_setCell_same _ g 0 _ _ v hg)) o
 ·refine alloc_row (set4_heap ((heap_setCell_other w1 ⟨g,0,none⟩ z v (Ne.symm hne)).trans hz) _ _ _ _) o
 ·exact (((((((ButAt.of_below hb).set 0 v).set_new hwz 0 y0).set_new hwz 1 y1).set_new hwz 2 y2).set_new hwz 3 y3).new o)
 ·simp [World.setCell]
 ·intro k hk h1 h2;rw [Below.heap_alloc _ _ _ (by simpa [World.setCell] using hk),oth k h2];exact heap_setCell_other w1 ⟨g,0,none⟩ k v h1
set_option maxHeartbeats 1000000 in
theorem take_yes (g:Nat) (en:Pl) (t:Tok) (r:List Tok) (d:Nat) (w:World) (h:PS w g en (t::r) d) :
  Calls Tryz.prog 63 #[.pointer (some ⟨g,0,none⟩),.bool true] w fun e w'=>e=.returned (tokA t)∧PS w' g en r d∧ButAt g w w':=by
 have H:=hid (fun W (hW:Below w.heap.size w W)=>at_any 0 g en (t::r) d W (h.keep hW));have HP:=hid (fun W (hW:Below w.heap.size w W)=>(h.keep hW));have hgl:=h.lt;clear h;go_enter Tryz.func63,Tryz.ntmps63
 go_wp2_with fail;refine (H.out _ (below_new w _)).mono ?_;rintro e w1 ⟨rfl,hb1⟩;have hbw:=Below.chain (below_new w (.cells #[.int .i64 0,.string ⟨#[]⟩,.int .i64 0,.int .i64 0] 46)) hb1;have hr:=hb1.block w.heap.size (by simp);rw [heap_alloc_new] at hr;obtain ⟨a,c,hg,hc,hm,ht,hd,hn⟩:=HP.out w1 hbw;have c0:=cell_of_row w1 g 0 _ _ _ hg;have f0:=frozen_of_row hg 0;have q0:w1.cell? ⟨w.heap.size,0,none⟩=some (.int .i64 0):=cell_of_row w1 _ 0 _ _ _ hr;have q1:w1.cell? ⟨w.heap.size,1,none⟩=some (.string ⟨#[]⟩):=cell_of_row w1 _ 1 _ _ _ hr;have q2:w1.cell? ⟨w.heap.size,2,none⟩=some (.int .i64 0):=cell_of_row w1 _ 2 _ _ _ hr;have q3:w1.cell? ⟨w.heap.size,3,none⟩=some (.int .i64 0):=cell_of_row w1 _ 3 _ _ _ hr;have k0:=frozen_of_row hr 0;have k1:=frozen_of_row hr 1;have k2:=frozen_of_row hr 2;have k3:=frozen_of_row hr 3;have hne:g≠w.heap.size:=by omega
 have hsz:=hbw.size;have hsz1:=hb1.size;rw [World.size_alloc] at hsz1;have hgl1:g<w1.heap.size:=by omega
 have hwl1:w.heap.size<w1.heap.size:=by omega
 have hne':w.heap.size≠g:=by omega
 clear hsz;obtain ⟨b,off,rfl,hbg,hbs,htok⟩:=ht (by simp);have e0:atT en (t::r) 0=t:=rfl;rw [e0];have HT:=hid htok;have HG:=hid hg;have HZ:=hid hr;have hbz:b≠w.heap.size:=by omega
 have hbg':b≠g:=by omega
 clear ht hr hg htok e0 H HP;have hM:c≤9223372036854775807:=by unfold maxLen at hm;omega
 simp only [List.length_cons] at hc hn c0;by_cases hcc:c=1
 ·have hc1:((c:Int) == 1)=true:=eqT (by omega);go_wp2_with fail;obtain ⟨W,hW,g1,g2,g3,g4,g5⟩:=take_end (en:=en) (d:=d) (v:=.slice (some ⟨b,off,none⟩) r.length 0) (y0:=.int .i64 t.1) (y1:=.string (bs t.2.1)) (y2:=.int .i64 t.2.2.1) (y3:=.int .i64 t.2.2.2) HG.out HZ.out hne hbw (Nat.le_refl _) (.cells #[.int .i64 t.1,.string (bs t.2.1),.int .i64 t.2.2.1,.int .i64 t.2.2.2] 46);rw [← hW];refine bodyPost_ret (results_cell_row rfl _ _ w.heap.size _ _ _ _ rfl g2 Tryz.underlying46 rfl (by kernel_rfl)) rfl ⟨rfl,⟨_,_,g1,by omega,by omega,fun hne=>absurd (List.length_eq_zero_iff.1 (by omega)) hne,hd,by omega⟩,g3⟩
 ·have hc1:((c:Int) == 1)=false:=eqF (by omega);have hc2:1<c:=by omega
  go_wp2_with fail;obtain ⟨W,hW,g1,g2,g3,g4,g5⟩:=take_end (en:=en) (d:=d) (v:=.slice (some ⟨b,off+4,none⟩) r.length (c - 1)) (y0:=.int .i64 t.1) (y1:=.string (bs t.2.1)) (y2:=.int .i64 t.2.2.1) (y3:=.int .i64 t.2.2.2) HG.out HZ.out hne hbw (Nat.le_refl _) (.cells #[.int .i64 t.1,.string (bs t.2.1),.int .i64 t.2.2.1,.int .i64 t.2.2.2] 46);rw [← hW];refine bodyPost_ret (results_cell_row rfl _ _ w.heap.size _ _ _ _ rfl g2 Tryz.underlying46 rfl (by kernel_rfl)) rfl ⟨rfl,⟨_,_,g1,by omega,by omega,fun hne=>⟨b,off+4,rfl,hbg,by omega,fun j hj=>?_⟩,hd,by omega⟩,g3⟩;have:=HT.out (j+1) (Nat.succ_lt_succ hj);rw [show off+(j+1) * 4=off+4+j * 4 by omega] at this;exact this.same (g5 b hbs hbg' hbz)
theorem take_is {en:Pl} {is:Bool} {l:List Tok} {t:Tok} {r:List Tok} (h:pTake en is l=.ok t r):is=true∧l=t::r:=by
 unfold pTake at h;cases is with
 | false=>cases h
 | true=>cases l with
   | nil=>cases h
   | cons t' r'=>simp only [if_true] at h;cases h;exact ⟨rfl,rfl⟩
theorem take_isnt {en:Pl} {is:Bool} {l:List Tok} {e:Nat} {p:Pl} (h:pTake en is l=.bad e p):is=false∧e=3∧p=(atT en l 0).2.2:=by
 unfold pTake at h;cases is with
 | false=>simp only [Bool.false_eq_true,if_false] at h;cases h;exact ⟨rfl,rfl,rfl⟩
 | true=>cases l with
   | nil=>cases h
   | cons t' r'=>cases h
theorem take_ok {en:Pl} {is:Bool} {l:List Tok} {t:Tok} {r:List Tok} (h:pTake en is l=.ok t r) {g d:Nat} {w:World} (hp:PS w g en l d) :
  Calls Tryz.prog 63 #[.pointer (some ⟨g,0,none⟩),.bool is] w fun e w'=>e=.returned (tokA t)∧PS w' g en r d∧ButAt g w w':=by
 obtain ⟨rfl,rfl⟩:=take_is h;exact take_yes g en t r d w hp
theorem take_bad {en:Pl} {is:Bool} {l:List Tok} {er:Nat} {p:Pl} (h:pTake en is l=.bad er p) {g d:Nat} {w:World} (hp:PS w g en l d) :
  Calls Tryz.prog 63 #[.pointer (some ⟨g,0,none⟩),.bool is] w fun e w'=>e=.panicked [wrongV er p]∧ButAt g w w':=by
 obtain ⟨rfl,rfl,rfl⟩:=take_isnt h;exact (take_no g en l w hp.w).mono fun _ _ ⟨h1,h2⟩=>⟨h1,ButAt.of_below h2⟩
set_option maxHeartbeats 1000000 in
theorem eat_ok {en:Pl} {s:List UInt8} {l:List Tok} {t:Tok} {r:List Tok} (h:pEat en s l=.ok t r) {g d:Nat} {w:World} (hp:PS w g en l d) :
  Calls Tryz.prog 69 #[.pointer (some ⟨g,0,none⟩),.string (bs s)] w fun e w'=>e=.returned (.tuple #[])∧PS w' g en r d∧ButAt g w w':=by
 have H1:=sign_any 0 s g en l d w hp;have H2:=hid (fun W (hW:Below w.heap.size w W)=>take_ok h (hp.keep hW));clear h hp;generalize signB l 0 s=b at *;go_enter Tryz.func69,Tryz.ntmps69
 go_wp2_with fail;refine H1.mono ?_;rintro e w1 ⟨rfl,hb1⟩;go_wp2_with fail;refine (H2.out w1 hb1).mono ?_;rintro e w2 ⟨rfl,hp2,hb2⟩;go_wp2_with fail
 go_end0
 exact ⟨rfl,hp2,(ButAt.of_below hb1).trans hb2⟩
set_option maxHeartbeats 1000000 in
theorem eat_bad {en:Pl} {s:List UInt8} {l:List Tok} {er:Nat} {p:Pl} (h:pEat en s l=.bad er p) {g d:Nat} {w:World} (hp:PS w g en l d) :
  Calls Tryz.prog 69 #[.pointer (some ⟨g,0,none⟩),.string (bs s)] w fun e w'=>e=.panicked [wrongV er p]∧ButAt g w w':=by
 have H1:=sign_any 0 s g en l d w hp;have H2:=hid (fun W (hW:Below w.heap.size w W)=>take_bad h (hp.keep hW));clear h hp;generalize signB l 0 s=b at *;go_enter Tryz.func69,Tryz.ntmps69
 go_wp2_with fail;refine H1.mono ?_;rintro e w1 ⟨rfl,hb1⟩;go_wp2_with fail;refine (H2.out w1 hb1).mono ?_;rintro e w2 ⟨rfl,hb2⟩;go_wp2_with fail;exact ⟨rfl,rfl,(ButAt.of_below hb1).trans hb2⟩
theorem PS.deep {w:World} {g:Nat} {en:Pl} {l:List Tok} {d d':Nat} (h:PS w g en l d) (hd:d'≤60):PS (w.setCell ⟨g,3,none⟩ (.int .i64 (d':Int))) g en l d':=by
 obtain ⟨a,c,hg,hc,hm,ht,_,hn⟩:=h;refine ⟨a,c,heap_setCell_same _ g 3 _ _ _ hg,hc,hm,ht.same (by simp [World.setCell]) (fun b hb _=>heap_setCell_other w ⟨g,3,none⟩ b _ (by show b≠g;omega)),hd,hn⟩
theorem PS.cells {w:World} {g:Nat} {en:Pl} {l:List Tok} {d:Nat} (h:PS w g en l d):w.cell? ⟨g,3,none⟩=some (.int .i64 (d:Int))∧w.frozen? ⟨g,3,none⟩=false:=by
 obtain ⟨a,c,hg,_⟩:=h;exact ⟨cell_of_row w g 3 _ _ _ hg,frozen_of_row hg 3⟩
theorem PS.d60 {w:World} {g:Nat} {en:Pl} {l:List Tok} {d:Nat} (h:PS w g en l d):d≤60:=by
 obtain ⟨a,c,_,_,_,_,h,_⟩:=h;exact h
set_option maxHeartbeats 1000000 in
theorem close_ok {en:Pl} {s:List UInt8} {l:List Tok} {t:Tok} {r:List Tok} (h:pEat en s l=.ok t r) {g d:Nat} {w:World} (hp:PS w g en l (d+1)) :
  Calls Tryz.prog 104 #[.pointer (some ⟨g,0,none⟩),.string (bs s)] w fun e w'=>e=.returned (.tuple #[])∧PS w' g en r d∧ButAt g w w':=by
 have H:=eat_ok h hp;have hd:=hp.d60;clear h hp;go_enter Tryz.func104,Tryz.ntmps104
 go_wp2_with fail;refine H.mono ?_;rintro e w1 ⟨rfl,hp1,hb1⟩;obtain ⟨c3,f3⟩:=hp1.cells;have HP:=hp1.deep (d':=d) (by omega);have e1:((d+1:Nat):Int)=(d:Int)+1:=by omega
 rw [e1] at c3;clear hp1 e1;go_wp2_with fail
 go_end0
 exact ⟨rfl,HP,hb1.set 3 _⟩
set_option maxHeartbeats 1000000 in
theorem close_bad {en:Pl} {s:List UInt8} {l:List Tok} {er:Nat} {p:Pl} (h:pEat en s l=.bad er p) {g d:Nat} {w:World} (hp:PS w g en l d) :
  Calls Tryz.prog 104 #[.pointer (some ⟨g,0,none⟩),.string (bs s)] w fun e w'=>e=.panicked [wrongV er p]∧ButAt g w w':=by
 have H:=eat_bad h hp;clear h hp;go_enter Tryz.func104,Tryz.ntmps104
 go_wp2_with fail;refine H.mono ?_;rintro e w1 ⟨rfl,hb1⟩;go_wp2_with fail;exact ⟨rfl,rfl,hb1⟩
theorem open_is {en:Pl} {is:Bool} {d:Nat} {l:List Tok} {t:Tok} {r:List Tok} (h:pOpen en is d l=.ok t r):is=true∧l=t::r∧d<60:=by
 unfold pOpen at h;split at h
 ·cases h
 ·rename_i hn;obtain ⟨rfl,rfl⟩:=take_is h;exact ⟨rfl,rfl,by simpa using hn⟩
theorem open_isnt {en:Pl} {is:Bool} {d:Nat} {l:List Tok} {e:Nat} {p:Pl} (h:pOpen en is d l=.bad e p):p=(atT en l 0).2.2∧((is=true∧60≤d∧e=6)∨(is=false∧e=3)):=by
 unfold pOpen at h;split at h
 ·rename_i hn;cases h;exact ⟨rfl,.inl ⟨hn.1,hn.2,rfl⟩⟩
 ·obtain ⟨rfl,rfl,rfl⟩:=take_isnt h;exact ⟨rfl,.inr ⟨rfl,rfl⟩⟩
theorem PS.upto {w w':World} {g:Nat} {en:Pl} {l:List Tok} {d:Nat} (h:PS w g en l d) (hs:w.heap.size≤w'.heap.size) (e:∀ k,k≤g→w'.heap[k]? = w.heap[k]?):PS w' g en l d:=by
 obtain ⟨a,c,hg,hc,hm,ht,hd⟩:=h;exact ⟨a,c,(e g (Nat.le_refl _)).trans hg,hc,hm,ht.same hs (fun b hb _=>e b (by omega)),hd⟩
structure Row4 (w:World) (b:Nat) (x0 x1 x2 x3:Value):Prop where
 c0:w.cell? ⟨b,0,none⟩=some x0
 c1:w.cell? ⟨b,1,none⟩=some x1
 c2:w.cell? ⟨b,2,none⟩=some x2
 c3:w.cell? ⟨b,3,none⟩=some x3
 f0:w.frozen? ⟨b,0,none⟩=false
 f1:w.frozen? ⟨b,1,none⟩=false
 f2:w.frozen? ⟨b,2,none⟩=false
 f3:w.frozen? ⟨b,3,none⟩=false
theorem row4 {w:World} {b:Nat} {x0 x1 x2 x3:Value} {T:TypeId} (h:w.heap[b]? = some (.cells #[x0,x1,x2,x3] T (0,0))):Row4 w b x0 x1 x2 x3 :=
 ⟨cell_of_row w b 0 _ _ _ h,cell_of_row w b 1 _ _ _ h,cell_of_row w b 2 _ _ _ h,cell_of_row w b 3 _ _ _ h,frozen_of_row h 0,frozen_of_row h 1,frozen_of_row h 2,frozen_of_row h 3⟩
structure Row5 (w:World) (b:Nat) (x0 x1 x2 x3 x4:Value):Prop where
 c0:w.cell? ⟨b,0,none⟩=some x0
 c1:w.cell? ⟨b,1,none⟩=some x1
 c2:w.cell? ⟨b,2,none⟩=some x2
 c3:w.cell? ⟨b,3,none⟩=some x3
 c4:w.cell? ⟨b,4,none⟩=some x4
 f0:w.frozen? ⟨b,0,none⟩=false
 f1:w.frozen? ⟨b,1,none⟩=false
 f2:w.frozen? ⟨b,2,none⟩=false
 f3:w.frozen? ⟨b,3,none⟩=false
 f4:w.frozen? ⟨b,4,none⟩=false
theorem row5 {w:World} {b:Nat} {x0 x1 x2 x3 x4:Value} {T:TypeId} (h:w.heap[b]? = some (.cells #[x0,x1,x2,x3,x4] T (0,0))):Row5 w b x0 x1 x2 x3 x4 :=
 ⟨cell_of_row w b 0 _ _ _ h,cell_of_row w b 1 _ _ _ h,cell_of_row w b 2 _ _ _ h,cell_of_row w b 3 _ _ _ h,cell_of_row w b 4 _ _ _ h,frozen_of_row h 0,frozen_of_row h 1,frozen_of_row h 2,frozen_of_row h 3,frozen_of_row h 4⟩
theorem set4_other (w:World) (z:Nat) (y0 y1 y2 y3:Value) (k:Nat) (hk:k≠z):((((w.setCell ⟨z,0,none⟩ y0).setCell ⟨z,1,none⟩ y1).setCell ⟨z,2,none⟩ y2).setCell ⟨z,3,none⟩ y3).heap[k]? = w.heap[k]?:=by
 rw [heap_setCell_other _ ⟨z,3,none⟩ k _ hk,heap_setCell_other _ ⟨z,2,none⟩ k _ hk,heap_setCell_other _ ⟨z,1,none⟩ k _ hk,heap_setCell_other _ ⟨z,0,none⟩ k _ hk]
theorem set5_other (w:World) (z:Nat) (y0 y1 y2 y3 y4:Value) (k:Nat) (hk:k≠z):(((((w.setCell ⟨z,0,none⟩ y0).setCell ⟨z,1,none⟩ y1).setCell ⟨z,2,none⟩ y2).setCell ⟨z,3,none⟩ y3).setCell ⟨z,4,none⟩ y4).heap[k]? = w.heap[k]?:=by
 rw [heap_setCell_other _ ⟨z,4,none⟩ k _ hk,set4_other _ _ _ _ _ _ k hk]
theorem stored4 {w w1:World} {g z:Nat} {en:Pl} {l:List Tok} {d:Nat} {T:TypeId} {x0 x1 x2 x3:Value} (hp:PS w1 g en l d) (hb:ButAt g w w1) (hz:w1.heap[z]? = some (.cells #[x0,x1,x2,x3] T (0,0))) (hwz:w.heap.size≤z) (hgz:g<z) (y0 y1 y2 y3:Value) :
  ∃ W,W=(((w1.setCell ⟨z,0,none⟩ y0).setCell ⟨z,1,none⟩ y1).setCell ⟨z,2,none⟩ y2).setCell ⟨z,3,none⟩ y3∧PS W g en l d∧ButAt g w W∧W.heap[z]? = some (.cells #[y0,y1,y2,y3] T (0,0))∧W.heap.size=w1.heap.size∧∀ k,k≠z→W.heap[k]? = w1.heap[k]? :=
 ⟨_,rfl,hp.upto (by simp [World.setCell]) (fun k hk=>set4_other _ _ _ _ _ _ k (by omega)),(((hb.set_new hwz 0 y0).set_new hwz 1 y1).set_new hwz 2 y2).set_new hwz 3 y3,set4_heap hz _ _ _ _,by simp [World.setCell],fun k hk=>set4_other _ _ _ _ _ _ k hk⟩
theorem stored5 {w w1:World} {g z:Nat} {en:Pl} {l:List Tok} {d:Nat} {T:TypeId} {x0 x1 x2 x3 x4:Value} (hp:PS w1 g en l d) (hb:ButAt g w w1) (hz:w1.heap[z]? = some (.cells #[x0,x1,x2,x3,x4] T (0,0))) (hwz:w.heap.size≤z) (hgz:g<z) (y0 y1 y2 y3 y4:Value) :
  ∃ W,W=((((w1.setCell ⟨z,0,none⟩ y0).setCell ⟨z,1,none⟩ y1).setCell ⟨z,2,none⟩ y2).setCell ⟨z,3,none⟩ y3).setCell ⟨z,4,none⟩ y4∧PS W g en l d∧ButAt g w W∧W.heap[z]? = some (.cells #[y0,y1,y2,y3,y4] T (0,0))∧W.heap.size=w1.heap.size∧∀ k,k≠z→W.heap[k]? = w1.heap[k]? :=
 ⟨_,rfl,hp.upto (by simp [World.setCell]) (fun k hk=>set5_other _ _ _ _ _ _ _ k (by omega)),((((hb.set_new hwz 0 y0).set_new hwz 1 y1).set_new hwz 2 y2).set_new hwz 3 y3).set_new hwz 4 y4,set5_heap hz _ _ _ _ _,by simp [World.setCell],fun k hk=>set5_other _ _ _ _ _ _ _ k hk⟩
abbrev tok0:Obj:=.cells #[.int .i64 0,.string ⟨#[]⟩,.int .i64 0,.int .i64 0] 46
set_option maxHeartbeats 1000000 in
theorem open_ok {en:Pl} {is:Bool} {l:List Tok} {t:Tok} {r:List Tok} {d:Nat} (h:pOpen en is d l=.ok t r) {g:Nat} {w:World} (hp:PS w g en l d) :
  Calls Tryz.prog 103 #[.pointer (some ⟨g,0,none⟩),.bool is] w fun e w'=>e=.returned (tokA t)∧PS w' g en r (d+1)∧ButAt g w w':=by
 obtain ⟨rfl,rfl,hd⟩:=open_is h;have hgl:=hp.lt;obtain ⟨c3,f3⟩:=hp.cells;have e1:((d+1:Nat):Int)=(d:Int)+1:=by omega
 have HT:=hid (fun (W:World) (hW:PS W g en (t::r) (d+1))=>take_yes g en t r (d+1) W hW);have hP0:=(hp.deep (d':=d+1) (by omega)).keep (below_new _ tok0);rw [e1] at hP0;have HT1:=HT.out _ hP0;have HB:=hid (((ButAt.refl g w).set 3 (.int .i64 ((d:Int)+1))).new tok0);have HZ:Hid (((w.setCell ⟨g,3,none⟩ (.int .i64 ((d:Int)+1))).alloc tok0).heap[w.heap.size]? = some tok0):=hid (by
  have:=heap_alloc_new (w.setCell ⟨g,3,none⟩ (.int .i64 ((d:Int)+1))) tok0;simpa [World.setCell] using this)
 have hd':¬ (60≤(d:Int)):=by omega
 have hne:g≠w.heap.size:=by omega
 have hne':w.heap.size≠g:=by omega
 clear h hp e1 HT hP0;go_enter Tryz.func103,Tryz.ntmps103
 go_wp2_with fail;refine HT1.mono ?_;rintro e w1 ⟨rfl,hp1,hb1⟩;have hz:=hb1.row HZ.out hne';have hb:=HB.out.trans hb1;have HW:=hid (stored4 hp1 hb hz (Nat.le_refl _) hgl (.int .i64 t.1) (.string (bs t.2.1)) (.int .i64 t.2.2.1) (.int .i64 t.2.2.2));obtain ⟨q0,q1,q2,q3,k0,k1,k2,k3⟩:=row4 hz;clear hp1 hb1 hz hb HB HZ;go_wp2_with fail;obtain ⟨W,hW,hp2,hb2,hz2,-,-⟩:=HW.out;rw [← hW];refine bodyPost_ret (results_cell_row rfl _ _ w.heap.size _ _ _ _ rfl hz2 Tryz.underlying46 rfl (by kernel_rfl)) rfl ⟨rfl,hp2,hb2⟩
set_option maxHeartbeats 1000000 in
theorem open_bad {en:Pl} {is:Bool} {l:List Tok} {er:Nat} {p:Pl} {d:Nat} (h:pOpen en is d l=.bad er p) {g:Nat} {w:World} (hp:PS w g en l d) :
  Calls Tryz.prog 103 #[.pointer (some ⟨g,0,none⟩),.bool is] w fun e w'=>e=.panicked [wrongV er p]∧ButAt g w w':=by
 have hgl:=hp.lt;have h60:=hp.d60;obtain ⟨c3,f3⟩:=hp.cells;have hb0:=below_new w tok0;obtain ⟨rfl,⟨rfl,hd,rfl⟩ | ⟨rfl,rfl⟩⟩:=open_isnt h
 ·have H:=fail_any 6 g en l _ (hp.w.keep hb0);have hd':(60:Int)≤(d:Int):=by omega
  clear h hp;go_enter Tryz.func103,Tryz.ntmps103
  go_wp2_with fail;refine H.mono ?_;rintro e w1 ⟨rfl,hb1⟩;go_wp2_with fail;exact ⟨rfl,rfl,ButAt.of_below (Below.chain hb0 hb1)⟩
 ·have HB:=hid (((ButAt.refl g w).set 3 (.int .i64 ((d:Int)+1))).new tok0);have H:Hid (Calls Tryz.prog 63 #[.pointer (some ⟨g,0,none⟩),.bool false] ((w.setCell ⟨g,3,none⟩ (.int .i64 ((d:Int)+1))).alloc tok0) fun e w'=>e=.panicked [wrongV 3 (atT en l 0).2.2]∧ButAt g ((w.setCell ⟨g,3,none⟩ (.int .i64 ((d:Int)+1))).alloc tok0) w'):=hid
   ((take_no g en l _ ((hp.w.deep _).keep (below_new _ tok0))).mono fun _ _ ⟨h1,h2⟩=>⟨h1,ButAt.of_below h2⟩)
  clear h hp;go_enter Tryz.func103,Tryz.ntmps103
  go_wp2_with fail;refine H.out.mono ?_;rintro e w1 ⟨rfl,hb1⟩;go_wp2_with fail;exact ⟨rfl,rfl,HB.out.trans hb1⟩
def Fine {α:Type} (p:Nat→Prop):PR α→Prop
 | .oof=>False
 | .bad _ _=>True
 | .ok _ r=>p r.length
theorem Fine.then {α β:Type} {p q:Nat→Prop} {x:PR α} {k:α→List Tok→PR β} (h:Fine p x) (hk:∀ a r,p r.length→Fine q (k a r)):Fine q (x.then k):=by
 cases x with
 | oof=>exact h.elim
 | ok a r=>exact hk a r h
 | bad e p=>trivial
theorem Fine.then' {α:Type} {p q:Nat→Prop} {x:PR α} (h:Fine p x) (hk:∀ n,p n→q n):Fine q x:=by
 cases x with
 | oof=>exact h.elim
 | ok a r=>exact hk _ h
 | bad e p=>trivial
theorem sign_ne {l:List Tok} {s:List UInt8} (h:signB l 0 s=true):l≠[]:=by rintro rfl;simp [signB,atT,zeroT] at h
theorem word_ne {l:List Tok} {s:List UInt8} (h:wordB l s=true):l≠[]:=by rintro rfl;simp [wordB,atT,zeroT] at h
theorem name_ne {l:List Tok} (h:nameB l=true):l≠[]:=by rintro rfl;simp [nameB,atT,zeroT] at h
theorem kind_ne {l:List Tok} {k:Nat} (hk:k≠0) (h:kindB l k=true):l≠[]:=by rintro rfl;simp [kindB,atT,zeroT] at h;exact hk h.symm
theorem type_ne {l:List Tok} (h:typeAt l=true):l≠[]:=by unfold typeAt at h;simp only [Bool.and_eq_true] at h;exact kind_ne (by decide) h.1
theorem take_fine (en:Pl) {is:Bool} {l:List Tok} (h:is=true→l≠[]):Fine (fun n=>n<l.length) (pTake en is l):=by
 unfold pTake;cases is with
 | false=>trivial
 | true=>cases l with
   | nil=>exact absurd rfl (h rfl)
   | cons t r=>show r.length<(t::r).length;simp
theorem eat_fine (en:Pl) (s:List UInt8) (l:List Tok):Fine (fun n=>n<l.length) (pEat en s l):=take_fine en sign_ne
theorem open_fine (en:Pl) {is:Bool} (d:Nat) {l:List Tok} (h:is=true→l≠[]):Fine (fun n=>n<l.length) (pOpen en is d l):=by
 unfold pOpen;split
 ·trivial
 ·exact take_fine en h
structure ExprG (en:Pl) (f:Nat):Prop where
 prim:∀ l d,10 * l.length+3≤f→Fine (fun n=>n<l.length) (pPrim en f l d)
 sumGo:∀ x l d,10 * l.length+1≤f→Fine (fun n=>n≤l.length) (pSumGo en f x l d)
 sum:∀ l d,10 * l.length+4≤f→Fine (fun n=>n<l.length) (pSum en f l d)
 expr:∀ l d,10 * l.length+5≤f→Fine (fun n=>n<l.length) (pExpr en f l d)
 call:∀ l d,10 * l.length+2≤f→Fine (fun n=>n<l.length) (pCall en f l d)
 one:∀ k l d,10 * l.length+6≤f→Fine (fun n=>n<l.length) (pOne en f k l d)
 list:∀ k up first l d,10 * l.length+7≤f→Fine (fun n=>n≤l.length) (pList en f k up first l d)
theorem expr_fine (en:Pl):∀ f,ExprG en f
 | 0=>⟨fun _ _ h=>by omega,fun _ _ _ h=>by omega,fun _ _ h=>by omega,fun _ _ h=>by omega,fun _ _ h=>by omega,fun _ _ _ h=>by omega,fun _ _ _ _ _ h=>by omega⟩
 | f+1=>by
   have ih:=expr_fine en f;refine ⟨?_,?_,?_,?_,?_,?_,?_⟩
   ·intro l d hf;rw [pPrim];split
    ·rename_i h;exact (take_fine en fun _=>kind_ne (by decide) h).then fun _ r hr=>hr
    split
    ·rename_i h;exact (take_fine en fun _=>kind_ne (by decide) h).then fun _ r hr=>hr
    split
    ·exact ih.call l d (by omega)
    split
    ·rename_i h;exact (take_fine en fun _=>name_ne h).then fun _ r hr=>hr
    split
    ·rename_i h;exact (open_fine en d fun _=>word_ne h).then fun _ r hr=>(ih.prim r _ (by omega)).then fun _ r' hr'=>(by show r'.length<l.length;omega)
    split
    ·rename_i h;exact (open_fine en d fun _=>sign_ne h).then fun _ r hr=>(ih.list _ _ _ r _ (by omega)).then fun _ r' hr'=>(eat_fine en _ r').then fun _ r2 hr2=>(by show r2.length<l.length;omega)
    split
    ·rename_i h;exact (open_fine en d fun _=>sign_ne h).then fun _ r hr=>(ih.list _ _ _ r _ (by omega)).then fun _ r' hr'=>(eat_fine en _ r').then fun _ r2 hr2=>(by show r2.length<l.length;omega)
    exact (open_fine en d sign_ne).then fun _ r hr=>(ih.expr r _ (by omega)).then fun _ r' hr'=>(eat_fine en _ r').then fun _ r2 hr2=>(by show r2.length<l.length;omega)
   ·intro x l d hf;rw [pSumGo];split
    ·rename_i h;exact (take_fine en fun _=>sign_ne h).then fun _ r hr=>(ih.prim r d (by omega)).then fun _ r' hr'=>(ih.sumGo _ r' d (by omega)).then' fun n hn=>by omega
    ·show l.length≤l.length;omega
   ·intro l d hf;rw [pSum];exact (ih.prim l d (by omega)).then fun _ r hr=>(ih.sumGo _ r d (by omega)).then' fun n hn=>by omega
   ·intro l d hf;rw [pExpr];refine (ih.sum l d (by omega)).then fun _ r hr=>?_
    split
    ·rename_i h;have hne:r≠[]:=by
      simp only [Bool.or_eq_true] at h;rcases h with (h | h) | h
      ·exact sign_ne h
      ·exact sign_ne h
      ·exact word_ne h
     exact (take_fine en fun _=>hne).then fun _ r' hr'=>(ih.sum r' d (by omega)).then fun _ r2 hr2=>(by show r2.length<l.length;omega)
    ·exact hr
   ·intro l d hf;rw [pCall];exact (take_fine en name_ne).then fun _ r hr=>(open_fine en d sign_ne).then fun _ r1 hr1=>(ih.list _ _ _ r1 _ (by omega)).then fun _ r2 hr2=>(eat_fine en _ r2).then fun _ r3 hr3=>(by show r3.length<l.length;omega)
   ·intro k l d hf;rw [pOne];split
    ·refine (take_fine en name_ne).then fun _ r hr=>(eat_fine en _ r).then fun _ r1 hr1=>(take_fine en type_ne).then fun _ r2 hr2=>?_
     split
     ·exact (eat_fine en _ r2).then fun _ r3 hr3=>(ih.expr r3 d (by omega)).then fun _ r4 hr4=>(by show r4.length<l.length;omega)
     ·show r2.length<l.length;omega
    split
    ·split
     ·rename_i h;simp only [Bool.and_eq_true] at h;exact (take_fine en fun _=>name_ne h.1).then fun _ r hr=>(eat_fine en _ r).then fun _ r1 hr1=>(ih.expr r1 d (by omega)).then fun _ r2 hr2=>(by show r2.length<l.length;omega)
     ·exact (ih.expr l d (by omega)).then fun _ r hr=>hr
    split
    ·exact (ih.expr l d (by omega)).then fun _ r hr=>hr
    ·exact (take_fine en (kind_ne (by decide))).then fun _ r hr=>(eat_fine en _ r).then fun _ r1 hr1=>(ih.expr r1 d (by omega)).then fun _ r2 hr2=>(by show r2.length<l.length;omega)
   ·intro k up first l d hf
    rw [pList];split
    ·show l.length≤l.length;omega
    ·have hc:Fine (fun n=>n≤l.length) (if first=true then PR.ok (zeroT en) l else pEat en [44] l):=by
      split
      ·show l.length≤l.length;omega
      ·exact (eat_fine en [44] l).then' fun n hn=>by omega
     exact hc.then fun _ r hr=>(ih.one k r d (by omega)).then fun _ r1 hr1=>(ih.list _ _ _ r1 d (by omega)).then fun _ r2 hr2=>(by show r2.length≤l.length;omega)
structure StmtG (en:Pl) (f:Nat):Prop where
 block:∀ l d,10 * l.length+2≤f→Fine (fun n=>n<l.length) (pBlock en f l d)
 stmt:∀ l d,10 * l.length+8≤f→Fine (fun n=>n<l.length) (pStmt en f l d)
 stmts:∀ up l d,10 * l.length+9≤f→Fine (fun n=>n≤l.length) (pStmts en f up l d)
theorem stmt_fine (en:Pl):∀ f,StmtG en f
 | 0=>⟨fun _ _ h=>by omega,fun _ _ h=>by omega,fun _ _ _ h=>by omega⟩
 | f+1=>by
   have ih:=stmt_fine en f;have ie:=expr_fine en f;refine ⟨?_,?_,?_⟩
   ·intro l d hf;rw [pBlock];exact (open_fine en d sign_ne).then fun _ r hr=>(ih.stmts _ r _ (by omega)).then fun _ r1 hr1=>(eat_fine en _ r1).then fun _ r2 hr2=>(by show r2.length<l.length;omega)
   ·intro l d hf;rw [pStmt];split
    ·rename_i h;exact (take_fine en fun _=>word_ne h).then fun _ r hr=>(take_fine en name_ne).then fun _ r1 hr1=>(take_fine en word_ne).then fun _ r2 hr2=>(ie.expr r2 d (by omega)).then fun _ r3 hr3=>(ih.block r3 d (by omega)).then fun _ r4 hr4=>(by show r4.length<l.length;omega)
    split
    ·rename_i h;refine (take_fine en fun _=>word_ne h).then fun _ r hr=>(ie.expr r d (by omega)).then fun _ r1 hr1=>(ih.block r1 d (by omega)).then fun _ r2 hr2=>?_
     split
     ·rename_i h2;exact (take_fine en fun _=>word_ne h2).then fun _ r3 hr3=>(ih.block r3 d (by omega)).then fun _ r4 hr4=>(by show r4.length<l.length;omega)
     ·show r2.length<l.length;omega
    split
    ·rename_i h;exact (take_fine en fun _=>word_ne h).then fun _ r hr=>(take_fine en name_ne).then fun _ r1 hr1=>(eat_fine en _ r1).then fun _ r2 hr2=>(ie.list _ _ _ r2 d (by omega)).then fun _ r3 hr3=>(eat_fine en _ r3).then fun _ r4 hr4 =>
      (ih.block r4 d (by omega)).then fun _ r5 hr5=>(by show r5.length<l.length;omega)
    split
    ·exact (ie.call l d (by omega)).then fun _ r hr=>(eat_fine en _ r).then fun _ r1 hr1=>(by show r1.length<l.length;omega)
    ·exact (take_fine en name_ne).then fun _ r hr=>(eat_fine en _ r).then fun _ r1 hr1=>(ie.expr r1 d (by omega)).then fun _ r2 hr2=>(eat_fine en _ r2).then fun _ r3 hr3=>(by show r3.length<l.length;omega)
   ·intro up l d hf;rw [pStmts];split
    ·show l.length≤l.length;omega
    ·exact (ih.stmt l d (by omega)).then fun _ r hr=>(ih.stmts _ r d (by omega)).then fun _ r1 hr1=>(by show r1.length≤l.length;omega)
end Go.Proofs.YtfgiihpopngbkaaGreatDoor
