/- Lemmas and walks that the statement needs: GapsPlain, GapsLaw, FrameBytes. -/
import Derived.Test.YtfgiihpopngbkaaGreatDoorM29
import Derived.Test.YtfgiihpopngbkaaGreatDoorM27
import Derived.Test.YtfgiihpopngbkaaGreatDoorM12
import Derived.Test.YtfgiihpopngbkaaGreatDoorM30
import Derived.Test.YtfgiihpopngbkaaGreatDoorM01
import Derived.ChangeSlices
namespace Go.Proofs.YtfgiihpopngbkaaGreatDoor
set_option maxRecDepth 100000
open Go.RowKit
open Nat renaming lt_of_lt_of_le→nL,le_trans→nT
def gapT:Nat→List UInt8
 | 0=>[32]
 | 1=>[10]
 | 2=>[9,32,10]
 | 3=>[32,35,32,115,111,10]
 | _=>[32,32]
def gapA (g:Nat→Nat):Nat→List Tok→List UInt8
 | _,[]=>[]
 | i,t::r=>writ t.1 t.2.1++gapT (g i)++gapA g (i+1) r
theorem gap_app (g:Nat→Nat):∀ (a b:List Tok) (i:Nat),gapA g i (a++b)=gapA g i a++gapA g (i+a.length) b
 | [],b,i=>by simp [gapA]
 | t::r,b,i=>by
   show _++gapA g (i+1) (r++b)=_;rw [gap_app g r b (i+1),List.length_cons,show i+1+r.length=i+(r.length+1) by omega];simp [gapA,List.append_assoc]
theorem gap_snoc (g:Nat→Nat) (l:List Tok) (k:Nat) (h:k<l.length):gapA g 0 (l.take (k+1))=gapA g 0 (l.take k)++writ l[k].1 l[k].2.1++gapT (g k):=by
 rw [List.take_succ_eq_append_getElem h,gap_app,List.length_take,Nat.min_eq_left (by omega),Nat.zero_add];simp [gapA]
theorem gapT_len (n:Nat):(gapT n).length≤6:=by
 unfold gapT;split <;> simp
theorem gapT_stop (n:Nat) (r:List UInt8):Stop (gapT n++r):=by
 unfold gapT;split <;> exact .inr ⟨_,_,rfl,by decide,by decide⟩
theorem gapT_lex (n:Nat) (r:List UInt8) (p:Pl):∃ q,lexL p (gapT n++r)=lexL q r:=by
 unfold gapT;split
 ·exact ⟨_,lex_gap_run [32] r p (by decide)⟩
 ·exact ⟨_,lex_gap_run [10] r p (by decide)⟩
 ·exact ⟨_,lex_gap_run [9,32,10] r p (by decide)⟩
 ·refine ⟨advs (adv p 32) (35::[32,115,111]++[10]),?_⟩;show lexL p (32::(35::([32,115,111]++10::r)))=_;rw [lex_gap (by decide)];exact lex_remark (rem:=[32,115,111]) (by decide) r (adv p 32)
 ·exact ⟨_,lex_gap_run [32,32] r p (by decide)⟩
theorem gap_lex (g:Nat→Nat):∀ (l:List Tok),(∀ t ∈ l,TokK t.1 t.2.1)→∀ (i:Nat) (q:Pl),(lexL q (gapA g i l)).2.1=0∧bare (lexL q (gapA g i l)).1=bare l
 | [],_,_,_=>⟨rfl,rfl⟩
 | t::r,h,i,q=>by
   have ht:=h t (List.mem_cons_self ..);have hk:t.1≠0:=by
    intro e;have:∀ {k:Nat} {s:List UInt8},TokK k s→k≠0:=fun h=>by cases h <;> decide
    exact this ht e
   have hp:=piece_tok ht (gapT_stop (g i) (gapA g (i+1) r));have e:gapA g i (t::r)=writ t.1 t.2.1++(gapT (g i)++gapA g (i+1) r):=by show _++_++_=_;rw [List.append_assoc]
   rw [e,lex_piece_app (tok_writ ht) hp,if_neg hk];obtain ⟨q2,e2⟩:=gapT_lex (g i) (gapA g (i+1) r) (advs q (writ t.1 t.2.1));rw [e2];obtain ⟨h1,h2⟩:=gap_lex g r (fun t ht=>h t (List.mem_cons_of_mem _ ht)) (i+1) q2;unfold finT;rw [if_pos h1];refine ⟨rfl,?_⟩;show bare ([_]++_)=_;rw [bare_app,h2];rfl
theorem gap_len (g:Nat→Nat):∀ (l:List Tok) (i:Nat),(gapA g i l).length+l.length≤7 * (againL l).length
 | [],_=>by simp [gapA,againL]
 | t::r,i=>by
   have ih:=gap_len g r (i+1);have:=gapT_len (g i);have e:againL (t::r)=(writ t.1 t.2.1++[32])++againL r:=by simp [againL]
   have e2:gapA g i (t::r)=writ t.1 t.2.1++gapT (g i)++gapA g (i+1) r:=rfl;rw [e,e2];simp only [List.length_append,List.length_cons,List.length_nil];omega
theorem gap_take (g:Nat→Nat) (l:List Tok) (k:Nat):(gapA g 0 (l.take k)).length≤(gapA g 0 l).length:=by
 have:gapA g 0 l=gapA g 0 (l.take k)++gapA g (0+(l.take k).length) (l.drop k):=by rw [← gap_app,List.take_append_drop]
 rw [this,List.length_append];omega
theorem gap_short {s:List UInt8} (h:s.length≤4000) (hl:(allT s).2.1=0) (g:Nat→Nat):(gapA g 0 (allT s).1).length≤60000:=by
 have ga:=all_good (s:=s) (by omega);rw [ga] at hl ⊢;have h1:=(lex_again s.length s (1,1) (Nat.le_refl _) hl).1;have h2:=gap_len g (lexL (1,1) s).1 0;omega
theorem read_gaps {s:List UInt8} (h:s.length≤4000) (hl:(allT s).2.1=0) (g:Nat→Nat):RelR Any2 (RelNs Any2) (readL s) (readL (gapA g 0 (allT s).1)):=by
 have hs:=gap_short h hl g;have ga:=all_good (s:=s) (by omega);have gb:=all_good (s:=gapA g 0 (allT s).1) (by omega);unfold readL;rw [gb];rw [if_pos hl];have ht:∀ t ∈ (allT s).1,TokK t.1 t.2.1:=by rw [ga];exact lex_toks s.length s (1,1) (Nat.le_refl _)
 obtain ⟨h1,h2⟩:=gap_lex g (allT s).1 ht 0 (1,1);rw [if_pos h1];have hr:=rel_bare h2.symm;have hll:=hr.len;exact stmts_more _ _ false hr (by omega) (by omega)
def u8s (l:List UInt8):List Value:=l.map fun c=>.int .u8 (c.toNat:Int)
def gapNo (g:List UInt8) (i:Nat):Nat:=(if i<g.length then (g.getD i 0).toNat else 0) % 5
theorem gapNo_lt (g:List UInt8) (i:Nat):gapNo g i<5:=Nat.mod_lt _ (by decide)
def AlikeV (x y:PR (List Nd)):Prop:=match x,y with
 | .ok a _,.ok b _=>Nd.trs a=Nd.trs b
 | .bad e _,.bad e' _=>e=e'
 | _,_=>False
theorem alike_of {x y:PR (List Nd)} (h:RelR Any2 (RelNs Any2) x y) (hn:x≠.oof):AlikeV x y:=by
 cases x with
 | oof=>exact absurd rfl hn
 | ok a r=>cases y with
   | ok b r'=>exact rel_trs h.1
   | bad e p=>exact h.elim
   | oof=>exact h.elim
 | bad e p=>cases y with
   | ok b r'=>exact h.elim
   | bad e' p'=>exact h.1
   | oof=>exact h.elim
def kx:PR (List Nd)→Int
 | .ok _ _=>1
 | _=>0
def ex:PR (List Nd)→Int
 | .bad e _=>e
 | _=>0
def tx:PR (List Nd)→List Tr
 | .ok a _=>Nd.trs a
 | _=>[]
theorem alike_is {x y:PR (List Nd)} (h:AlikeV x y):kx x=kx y∧ex x=ex y∧tx x=tx y:=by
 cases x <;> cases y <;> first | exact h.elim | exact ⟨rfl,rfl,h⟩ | exact ⟨rfl,congrArg Nat.cast (show _=_ from h),rfl⟩
theorem read_shape2 {x:PR (List Nd)} {w w':World} {E:Ending} (h:match x with
 | .ok a _=>∃ ks ad cap,E=.returned (.tuple #[nodeV 1 [] 1 1 (.slice ad ks.length cap),.int .i64 0,.agg #[.int .i64 0,.int .i64 0]])∧NM.are ks a∧HeldN (w.heap.size≤·) w' (.mk 1 [] 1 1 ks ad cap)
 | .bad er p=>E=.returned (.tuple #[nodeV 0 [] 0 0 (.slice none 0 0),.int .i64 (er:Int),.agg #[.int .i64 (p.1:Int),.int .i64 (p.2:Int)]])
 | .oof=>False) (hn:x≠.oof):∃ ks a m p q,E=.returned (.tuple #[nodeV (kx x) [] (kx x) (kx x) (.slice a ks.length m),.int .i64 (ex x),.agg #[.int .i64 p,.int .i64 q]])∧HeldN AnyB w' (.mk (kx x) [] (kx x) (kx x) ks a m)∧NM.trs ks=tx x:=by
 cases x with
 | oof=>exact absurd rfl hn
 | ok a r=>obtain ⟨ks,ad,cap,rfl,h1,h2⟩:=h;exact ⟨ks,ad,cap,0,0,rfl,h2.any,are_trs h1⟩
 | bad er p=>exact ⟨[],none,0,p.1,p.2,h,held_none _ _ _ _,by rw [ntrs_nil];rfl⟩
set_option maxHeartbeats 4000000 in
theorem gaps_any (s:List UInt8) (hs:s.length≤140737488351232) (v:Value) (gl:List UInt8) (w:World) (hg:SliceAt w 1 v gl.length (u8s gl)) (hw:Laid w) :
  Calls Tryz.prog 7 #[.string (bs s),v] w fun e w'=>e=.returned (.bool true)∧Below w.heap.size w w':=by
 have Ha:=hid (alive_any w hw);have HW:=hid hw;have hg0:=hg;obtain ⟨-,ga,gc,rfl,hgc,hgm,-,-⟩:=hg0;unfold maxLen at hgm;have HG:=hid hg;clear hg;by_cases hbig:1500<s.length
 ·go_enter Tryz.func7,Tryz.ntmps7
  go_wp2_with fail;refine Ha.out.mono ?_;rintro e w1 ⟨rfl,hb1⟩;go_wp2_with fail;go_ret;exact ⟨rfl,hb1⟩
 by_cases hbig2:2000<gl.length
 ·go_enter Tryz.func7,Tryz.ntmps7
  go_wp2_with fail;refine Ha.out.mono ?_;rintro e w1 ⟨rfl,hb1⟩;go_wp2_with fail;go_ret;exact ⟨rfl,hb1⟩
 obtain ⟨l,k,p,q,h⟩:∃ l e p q,allT s=(l,e,(p,q)):=⟨_,_,_,_,rfl⟩;have H1:=hid (fun W (hW:RangeAt W)=>all_is s (by omega) h W hW);by_cases hk:k=0
 ·subst hk;have hsh:=lex_short s.length s (1,1) (Nat.le_refl _);have hl0:(allT s).2.1=0:=by rw [h]
  have hgl:=gap_short (by omega) hl0 (gapNo gl);have hrel:=alike_of (read_gaps (by omega) hl0 (gapNo gl)) (read_fine s);rw [← all_good (by omega),h] at hsh;rw [h] at hgl hrel;simp only at hgl hrel hsh;have Htk:=hid (fun j=>gap_take (gapNo gl) l j);have Hsn:=hid (fun j hj=>gap_snoc (gapNo gl) l j hj);have Hsh:=hid hsh;have Hen:Hid (gapA (gapNo gl) 0 (l.take l.length)=gapA (gapNo gl) 0 l):=hid (by rw [List.take_length]);have HX:=hid (fun W (hW:RangeAt W)=>read_any s hs W hW);have HY:=hid (fun W (hW:RangeAt W)=>read_any (gapA (gapNo gl) 0 l) (by omega) W hW);have HR:=hid hrel;obtain ⟨X,hX⟩:∃ X,gapA (gapNo gl) 0 l=X:=⟨_,rfl⟩;rw [hX] at HY Htk Hen hgl HR;clear h hsh hX hrel hl0;go_enter Tryz.func7,Tryz.ntmps7
  go_wp2_with fail;refine Ha.out.mono ?_;rintro e w1 ⟨rfl,hb1⟩;have HW1:=hid (hw.below hb1);have HB1:=hid hb1;have HG1:=hid (HG.out.below hb1 (Nat.le_refl _));clear hb1 HG hw Ha;go_wp2_with fail;refine (H1.out _ HW1.out.range).mono ?_;rintro e w2 ⟨v1,rfl,hs1,hb2⟩;obtain ⟨W0,hW0⟩:∃ W0,W0=w2.alloc (.cells #[.int .i64 p,.int .i64 q] 24):=⟨_,rfl⟩;have hB0:Below w2.heap.size w2 W0:=by rw [hW0];exact below_new _ _
  have hs0:=hs1.below hB0 (Nat.le_refl _);have HBC:=hid (Below.chain (Below.chain HB1.out hb2) hB0);have HWC:=hid ((HW1.out.below hb2).below hB0);have HGC:=hid ((HG1.out.below hb2 (Nat.le_refl _)).below hB0 (Nat.le_refl _));obtain ⟨-,x1,c1,hv1,hlc1,hcm1,-⟩:=hs0.toks;subst hv1;have HS0:=hid (fun W (hW:Below W0.heap.size W0 W)=>hs0.below hW (Nat.le_refl _));have HGS:=hid (fun W (hW:Below W0.heap.size W0 W)=>HGC.out.below hW (Nat.le_refl _));unfold maxLen at hcm1;clear hs1 hs0 hB0 hb2 HB1 HW1 HG1 HGC H1;go_wp2_with fail;rw [← hW0];clear hW0;go_loopw [8,39] (fun a i wr=>∃ j:Nat,j≤l.length∧i=.int .i64 j∧a=.string (bs (gapA (gapNo gl) 0 (l.take j)))∧Below W0.heap.size W0 wr) (fun _ i _=>l.length - (intOf i).toNat)
  case atStart=>exact ⟨0,by omega,rfl,rfl,Below.refl _ _⟩
  case round =>
   obtain ⟨j,hj,rfl,rfl,hbw⟩:=hrel;have hjl:=Htk.out j;by_cases hlt:j<l.length
   ·obtain ⟨-,a1,d1,hv1,-,-,hx1⟩:=(HS0.out _ hbw).toks;obtain ⟨q1,o1,rfl,hq1,hcl1⟩:=hx1 j hlt;obtain ⟨rfl,rfl⟩:x1=some ⟨q1,o1,none⟩∧c1=d1:=by simpa using hv1
    obtain ⟨e0,e1,e2,e3⟩:=hcl1 j hlt;have hsh:=Hsh.out l[j] (List.getElem_mem hlt);have HSN:=hid (Hsn.out j hlt);have hjn:=Htk.out (j+1);rw [HSN.out,List.length_append,List.length_append] at hjn;have HGW:=hid (HGS.out _ hbw);have HBW:=hid hbw;have HQ:=hid (fun W=>quote_any l[j].2.1 (by omega) _ rfl W);obtain ⟨m,hm⟩:∃ m,gapNo gl j=m:=⟨_,rfl⟩;have hm5:=gapNo_lt gl j;rw [hm] at hm5 HSN hjn;clear hcl1 hx1 hv1 hbw;by_cases hgj:j<gl.length
    ·have hgm2:((gl[j].toNat:Nat):Int) % 5=(m:Int):=by
      rw [← hm];unfold gapNo;rw [if_pos hgj,List.getD_eq_getElem?_getD,List.getElem?_eq_getElem hgj];simp
     obtain ⟨-,gb,gc',hgv,-,-,-,hgx⟩:=HGW.out;obtain ⟨gq,go,hgb,hgq,hgcl⟩:=hgx (by intro e;have:=congrArg List.length e;unfold u8s at this;rw [List.length_map] at this;simp at this;rw [this] at hgj;simp at hgj);have hgcell:=hgcl j (.int .u8 (gl[j].toNat:Int)) (by unfold u8s;rw [List.getElem?_map,List.getElem?_eq_getElem hgj];rfl);obtain ⟨rfl,rfl⟩:ga=gb∧gc=gc':=by simpa using hgv
     subst hgb;have hg0:=gl[j].toNat_lt;generalize gl[j].toNat=gv at *;clear hgv hgx hgcl hm HGW;have hgj2:(j:Int)<(gl.length:Int):=by omega
     have h5:m=0∨m=1∨m=2∨m=3∨m=4:=by omega
     clear hm5;by_cases hk3:l[j].1=3
     ·have q3:(((l[j].1:Nat):Int) == 3)=true:=eqT (by omega);have hwr:writ l[j].1 l[j].2.1=quoteL l[j].2.1:=by unfold writ;rw [if_pos hk3]
      rw [hwr] at HSN hjn;clear hk3 hwr;go_wp2_with fail;refine (HQ.out _).mono ?_;rintro e w3 ⟨rfl,hb3⟩;have HB3:=hid (Below.chain (below_new wr _) hb3);have gcell3:=keeps_of HB3.out hgcell;have hgq3:gq<w3.heap.size:=nL hgq HB3.out.size;clear hgcell hgq e0 e1 e2 e3 q3 hb3;rcases h5 with rfl | rfl | rfl | rfl | rfl
      ·skip
       go_wp2_with fail;exact ⟨⟨j+1,by omega,by go_num,by rw [HSN.out];simp [gapT],Below.chain HBW.out (Below.chain HB3.out (below_new w3 _))⟩,by simp [intOf];omega⟩
      ·skip
       go_wp2_with fail;exact ⟨⟨j+1,by omega,by go_num,by rw [HSN.out];simp [gapT],Below.chain HBW.out (Below.chain HB3.out (below_new w3 _))⟩,by simp [intOf];omega⟩
      ·skip
       go_wp2_with fail;exact ⟨⟨j+1,by omega,by go_num,by rw [HSN.out];simp [gapT],Below.chain HBW.out (Below.chain HB3.out (below_new w3 _))⟩,by simp [intOf];omega⟩
      ·skip
       go_wp2_with fail;exact ⟨⟨j+1,by omega,by go_num,by rw [HSN.out];simp [gapT],Below.chain HBW.out (Below.chain HB3.out (below_new w3 _))⟩,by simp [intOf];omega⟩
      ·skip
       go_wp2_with fail;exact ⟨⟨j+1,by omega,by go_num,by rw [HSN.out];simp [gapT],Below.chain HBW.out (Below.chain HB3.out (below_new w3 _))⟩,by simp [intOf];omega⟩
     ·have q3:(((l[j].1:Nat):Int) == 3)=false:=eqF (by omega);have hwr:writ l[j].1 l[j].2.1=l[j].2.1:=by unfold writ;rw [if_neg hk3]
      rw [hwr] at HSN hjn;clear hk3 hwr;rcases h5 with rfl | rfl | rfl | rfl | rfl
      ·skip
       go_wp2_with fail;exact ⟨⟨j+1,by omega,by go_num,by rw [HSN.out];simp [gapT],Below.chain HBW.out (Below.chain (below_new wr _) (below_new _ _))⟩,by simp [intOf];omega⟩
      ·skip
       go_wp2_with fail;exact ⟨⟨j+1,by omega,by go_num,by rw [HSN.out];simp [gapT],Below.chain HBW.out (Below.chain (below_new wr _) (below_new _ _))⟩,by simp [intOf];omega⟩
      ·skip
       go_wp2_with fail;exact ⟨⟨j+1,by omega,by go_num,by rw [HSN.out];simp [gapT],Below.chain HBW.out (Below.chain (below_new wr _) (below_new _ _))⟩,by simp [intOf];omega⟩
      ·skip
       go_wp2_with fail;exact ⟨⟨j+1,by omega,by go_num,by rw [HSN.out];simp [gapT],Below.chain HBW.out (Below.chain (below_new wr _) (below_new _ _))⟩,by simp [intOf];omega⟩
      ·skip
       go_wp2_with fail;exact ⟨⟨j+1,by omega,by go_num,by rw [HSN.out];simp [gapT],Below.chain HBW.out (Below.chain (below_new wr _) (below_new _ _))⟩,by simp [intOf];omega⟩
    ·have hm0:m=0:=by rw [← hm];unfold gapNo;rw [if_neg hgj]
     have hgj2:¬ (j:Int)<(gl.length:Int):=by omega
     subst hm0;clear hm HGW;have h0:Hid (gapT 0=[32]):=hid rfl;by_cases hk3:l[j].1=3
     ·have q3:(((l[j].1:Nat):Int) == 3)=true:=eqT (by omega);have hwr:writ l[j].1 l[j].2.1=quoteL l[j].2.1:=by unfold writ;rw [if_pos hk3]
      rw [hwr] at HSN hjn;clear hk3 hwr;go_wp2_with fail;refine (HQ.out _).mono ?_;rintro e w3 ⟨rfl,hb3⟩;have HB3:=hid (Below.chain (below_new wr _) hb3);clear e0 e1 e2 e3 q3 hb3;go_wp2_with fail;exact ⟨⟨j+1,by omega,by go_num,by rw [HSN.out];simp [gapT],Below.chain HBW.out (Below.chain HB3.out (below_new w3 _))⟩,by simp [intOf];omega⟩
     ·have q3:(((l[j].1:Nat):Int) == 3)=false:=eqF (by omega);have hwr:writ l[j].1 l[j].2.1=l[j].2.1:=by unfold writ;rw [if_neg hk3]
      rw [hwr] at HSN hjn;clear hk3 hwr;go_wp2_with fail;exact ⟨⟨j+1,by omega,by go_num,by rw [HSN.out];simp [gapT],Below.chain HBW.out (Below.chain (below_new wr _) (below_new _ _))⟩,by simp [intOf];omega⟩
   ·obtain rfl:j=l.length:=by omega
    rw [Hen.out];have HBj:=hid (Below.chain HBC.out hbw);have HWj:=hid (HWC.out.below hbw);have HKO:=hid (alike_is HR.out);clear hbw HBC HWC HS0 HGS Htk Hsn Hsh Hen HR;go_wp2_with fail;refine (HX.out _ HWj.out.range).mono ?_;rintro e w5 ⟨hb5,hret⟩;obtain ⟨ks1,a1,m1,p1,q1,rfl,hh1,ht1⟩:=read_shape2 hret (read_fine s);have hb6:=below_new2 w5 (.cells #[.int .i64 (kx (readL s)),.string (bs []),.int .i64 (kx (readL s)),.int .i64 (kx (readL s)),.slice a1 ks1.length m1] 27) (.cells #[.int .i64 p1,.int .i64 q1] 24);have HB6:=hid (Below.chain (Below.chain HBj.out hb5) hb6);have HW6:=hid ((HWj.out.below hb5).below hb6);have HN6:=hid (hh1.below hb6);have HC6:=hid (boxN_two w5 (kx (readL s)) [] (kx (readL s)) (kx (readL s)) (.slice a1 ks1.length m1) (.cells #[.int .i64 p1,.int .i64 q1] 24) 27 (0,0));have HYr:=hid (HY.out _ HW6.out.range);clear hb5 hb6 hh1 hret HBj HWj HX HY;go_wp2_with fail;refine HYr.out.mono ?_;rintro e w7 ⟨hb7,hret⟩;obtain ⟨ks2,a2,m2,p2,q2,rfl,hh2,ht2⟩:=read_shape2 hret (read_fine X);obtain ⟨k1,k2,k3⟩:=HKO.out;rw [← k1] at hh2;rw [← k1,← k2];rw [← k3] at ht2;generalize kx (readL s)=kk at *;generalize ex (readL s)=ee at *;have hb8:=below_new2 w7 (.cells #[.int .i64 kk,.string (bs []),.int .i64 kk,.int .i64 kk,.slice a2 ks2.length m2] 27) (.cells #[.int .i64 p2,.int .i64 q2] 24);have HB8:=hid (Below.chain (Below.chain HB6.out hb7) hb8);have HC8:=(HC6.out.keeps hb7).keeps hb8;have HD8:=boxN_two w7 kk [] kk kk (.slice a2 ks2.length m2) (.cells #[.int .i64 p2,.int .i64 q2] 24) 27 (0,0);have HSM:=hid (same_any kk [] kk kk ks1 a1 m1 kk [] kk kk ks2 a2 m2 _ ((HN6.out.below hb7).below hb8) (hh2.below hb8));have HTT:Hid (sameN (NM.mk kk [] kk kk ks1 a1 m1).tr (NM.mk kk [] kk kk ks2 a2 m2).tr=true):=hid (by rw [ntr_mk,ntr_mk,ht1,ht2];exact sameN_eq.2 rfl);rw [HTT.out] at HSM;clear hb7 hb8 hret hh2 ht1 ht2 HTT HN6 HB6 HW6 HC6 HYr k1 k2 k3;obtain ⟨c0,c1,c2,c3,c4⟩:=HC8;obtain ⟨d0,d1,d2,d3,d4⟩:=HD8;have qe:(ee == ee)=true:=by simp
    go_wp2_with fail;clear c0 c1 c2 c3 c4 d0 d1 d2 d3 d4;refine HSM.out.mono ?_;rintro e w9 ⟨rfl,hb9⟩;go_wp2_with fail;go_ret;exact ⟨rfl,Below.chain HB8.out hb9⟩
 ·have q:((k:Int) != 0)=true:=by simp;omega
  go_enter Tryz.func7,Tryz.ntmps7
  go_wp2_with fail;refine Ha.out.mono ?_;rintro e w1 ⟨rfl,hb1⟩;go_wp2_with fail;refine (H1.out _ (hw.below hb1).range).mono ?_;rintro e w2 ⟨v1,rfl,hs1,hb2⟩;go_wp2_with fail;go_ret;exact ⟨rfl,Below.chain (Below.chain hb1 hb2) (below_new _ _)⟩
end Go.Proofs.YtfgiihpopngbkaaGreatDoor
namespace Go.Proofs.YtfgiihpopngbkaaGreatDoor
open Nat renaming lt_of_lt_of_le→nL,le_trans→nT
open Go.ChangeShapes Go.WideShapes Go.ChangeAt Go.RowKit
set_option maxRecDepth 100000
theorem u8_wf {n:Int} (h:(Lit.int .u8 n).wf=true):0≤n∧n≤255:=by
 simp only [Lit.wf,Bool.and_eq_true,decide_eq_true_eq] at h;have h1:IntKind.u8.min=0:=rfl;have h2:IntKind.u8.max=255:=rfl;omega
theorem arg_u8s {H:Type} {enc:TypeId × Value→H} {W:World} {base:Nat} {v:Value} {d:DataW H} {p:List MemPlace}
  (hv:Value.okWide Tryz.prog W .any base 41 v) (h:DataW.Trod enc Tryz.prog W 0 (fun _=>true) true 41 v d p) (_hw:∀ n ∈ d.weights Tryz.prog 41,n≤reachBytes) :
  ∃ l:List UInt8,SliceAt W 1 v l.length (u8s l)∧True∧True:=by
 obtain ⟨a0,len,cap,rfl⟩:=okWide_slice Tryz.underlying41 hv;obtain ⟨fuel,hf⟩:=h;rcases open_ints Tryz.underlying41 Tryz.underlying5 (by kernel_rfl) hf with ⟨hcs,_⟩ | ⟨a,len',cap',zs,hcs,_,hl,hm,hz,_,hcell,hwz⟩
 ·obtain ⟨rfl,rfl,rfl⟩:a0=none∧len=0∧cap=0:=by simpa [Value.cells] using hcs
  exact ⟨[],SliceAt.nil _ _,trivial,trivial⟩
 ·obtain ⟨rfl,rfl,rfl⟩:a0=some a∧len=len'∧cap=cap':=by simpa [Value.cells] using hcs
  simp only [if_true] at hz;have hlen:((zs.take len).map fun n=>UInt8.ofNat n.toNat).length=len:=by simp;omega
  refine ⟨(zs.take len).map fun n=>UInt8.ofNat n.toNat,?_,trivial,trivial⟩;refine ⟨by unfold u8s;simp,some a,cap,by rw [hlen],by rw [hlen];exact hl,hm,fun h=>(by cases h),fun hne=>?_⟩;have hl0:0<len:=by
   rcases Nat.eq_zero_or_pos len with h0 | h0
   ·subst h0;simp [u8s] at hne
   ·exact h0
  obtain ⟨b,off,spot⟩:=a;have hspot:spot=none:=by simpa [Addr.add] using World.cell?_spot (hcell 0 (by omega))
  subst hspot;refine ⟨b,off,rfl,?_,fun j u hu=>?_⟩
  ·have:=World.block_lt_of_cell? W _ (hcell 0 (by omega));simpa [Addr.add] using this
  ·unfold u8s at hu;rw [List.map_map,List.getElem?_map,Option.map_eq_some_iff] at hu;obtain ⟨z,hz1,rfl⟩:=hu;have hj:j<len:=by
    rcases Nat.lt_or_ge j len with h | h
    ·exact h
    ·rw [List.getElem?_eq_none (by simp;omega)] at hz1;cases hz1
   rw [List.getElem?_take,if_pos hj] at hz1;have hjz:j<zs.length:=by omega
   have hzz:zs[j]=z:=by rw [List.getElem?_eq_getElem hjz] at hz1;exact Option.some.inj hz1
   have hb:=u8_wf (hwz zs[j] (List.getElem_mem hjz));rw [← add_plain,hcell j hjz,List.getD_eq_getElem?_getD,hz1];rw [hzz] at hb;simp only [Option.getD_some,Function.comp_apply,UInt8.toNat_ofNat'];congr 2
   omega
end Go.Proofs.YtfgiihpopngbkaaGreatDoor
