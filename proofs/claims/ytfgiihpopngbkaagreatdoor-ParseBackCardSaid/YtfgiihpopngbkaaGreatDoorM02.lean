/- Lemmas and walks that the statement needs: BytesOwn, LexQuoted, Cells, LexTok, LexNumber, LexNext, LexTokens. -/
import Derived.Test.YtfgiihpopngbkaaGreatDoorM01
import Derived.Test.YtfgiihpopngbkaaGreatDoorChecked
import Derived.Laws.IdiomStrings
import Derived.Laws.BytesArg
import Derived.Lib.UnsafeStr
import Derived.Shelf.Pu.ErrVarParseUint
namespace Go.Proofs.YtfgiihpopngbkaaGreatDoor
set_option maxRecDepth 100000
open Go.RowKit
open Nat renaming lt_of_lt_of_le→nL,le_trans→nT
theorem u8_info:(Tryz.prog.info? 5).map (fun i=>(i.zero,i.size,i.bytes))=some (some (.int .u8 0),1,1):=by kernel_rfl
theorem byteCells_len (l:List UInt8):(Lib.byteCells l).length=l.length:=by simp [Lib.byteCells]
theorem byteCells_one (l:List UInt8):∀ u ∈ Lib.byteCells l,u.oneCell'=true:=by
 intro u hu;simp only [Lib.byteCells,List.mem_map] at hu;obtain ⟨s,_,rfl⟩:=hu;rfl
theorem byteCells_app (a b:List UInt8):Lib.byteCells (a++b)=Lib.byteCells a++Lib.byteCells b:=by simp [Lib.byteCells]
theorem byteCells_get (l:List UInt8) (k:Nat) (h:k<l.length):(Lib.byteCells l)[k]? = some (.int .u8 l[k].toNat):=by simp [Lib.byteCells,h]
theorem run_conv_at {w:World} {v:Value} {n:Nat} {l:List UInt8} (h:SliceAt w 1 v n (Lib.byteCells l)) :
  (convert 41 9 v).run Tryz.prog w=.ok (.string (bs l)) w:=by
 obtain ⟨hl,a,c,rfl,hc,hm,hn,hx⟩:=h;have hnl:n=l.length:=by rw [byteCells_len] at hl;omega
 subst hnl;cases a with
 | none =>
   have h0:=hn rfl;have hl0:l=[]:=List.eq_nil_of_length_eq_zero (by omega);subst hl0;exact run_convert_bytes_nil (P:=Tryz.prog) (w:=w) 41 5 Tryz.underlying41 Tryz.underlying5 _ _ 9 Tryz.underlying9
 | some a =>
   refine run_convert_bytes_back w 41 9 5 a c l Tryz.underlying41 Tryz.underlying5 Tryz.underlying9 fun j hj=>?_
   obtain ⟨b,off,hb,-,hcl⟩:=hx (by intro e;have:=byteCells_len l;rw [e] at this;simp at this;omega);obtain rfl:=Option.some.inj hb;have hadd:(⟨b,off,none⟩:Addr).add j=⟨b,off+j,none⟩:=by unfold Addr.add;split <;> simp_all
   rw [hadd];exact hcl j _ (byteCells_get l j hj)
theorem one_byte (W:World) (c:UInt8):SliceAt (W.alloc (.cells #[.int .u8 c.toNat] 5)) 1 (.slice (some ⟨W.heap.size,0,none⟩) 1 1) 1 (Lib.byteCells [c]) :=
 ⟨rfl,_,1,rfl,Nat.le_refl _,by unfold maxLen;omega,fun h=>(by cases h),fun _=>⟨W.heap.size,0,rfl,by simp,fun j u hu=>by rw [Nat.zero_add,World.cell?_alloc_mark];simpa [Lib.byteCells] using hu⟩⟩
def quotedR (s:List UInt8):List UInt8 × Nat:=match qGo (s.drop 1) with | none=>([],0) | some x=>(x.1,x.2+1)
def qSh (out:List UInt8) (k:Nat) (x:Option (List UInt8 × Nat)):Option (List UInt8 × Nat):=x.map fun y=>(out++y.1,k+y.2)
theorem qSh_zero (x:Option (List UInt8 × Nat)):x=qSh [] 0 x:=by cases x <;> simp [qSh]
theorem qSh_map (out:List UInt8) (k j:Nat) (d:List UInt8) (x:Option (List UInt8 × Nat)):qSh out k (x.map fun y=>(d++y.1,y.2+j))=qSh (out++d) (k+j) x:=by
 cases x with
 | none=>rfl
 | some y=>simp [qSh];omega
theorem q_end {s out:List UInt8} {k:Nat} (h:k+1<s.length) (hc:s[k+1].toNat=34) (hq:qGo (s.drop 1)=qSh out k (qGo (s.drop (k+1)))):quotedR s=(out,k+2):=by
 rw [drop_at s (k+1) h,qGo_cons,if_pos hc] at hq;unfold quotedR;rw [hq];simp [qSh]
theorem q_bad {s out:List UInt8} {k:Nat} (h:k+1<s.length) (hc:s[k+1].toNat<32∨s[k+1].toNat=127) (hq:qGo (s.drop 1)=qSh out k (qGo (s.drop (k+1)))):quotedR s=([],0):=by
 rw [drop_at s (k+1) h,qGo_cons,if_neg (by omega),if_pos hc] at hq;unfold quotedR;rw [hq];rfl
theorem q_over {s out:List UInt8} {k:Nat} (h:s.length≤k+1) (hq:qGo (s.drop 1)=qSh out k (qGo (s.drop (k+1)))):quotedR s=([],0):=by
 rw [List.drop_eq_nil_of_le h] at hq;unfold quotedR;rw [hq];rfl
theorem q_plain {s out:List UInt8} {k:Nat} (h:k+1<s.length) (h1:s[k+1].toNat≠34) (h2:¬ (s[k+1].toNat<32∨s[k+1].toNat=127)) (h3:s[k+1].toNat≠92) (hq:qGo (s.drop 1)=qSh out k (qGo (s.drop (k+1)))) :
  qGo (s.drop 1)=qSh (out++[s[k+1]]) (k+1) (qGo (s.drop (k+1+1))):=by
 rw [drop_at s (k+1) h,qGo_cons,if_neg h1,if_neg h2,if_neg h3] at hq;rw [hq];exact qSh_map out k 1 [s[k+1]] _
theorem q_last {s out:List UInt8} {k:Nat} (h:k+1<s.length) (h3:s[k+1].toNat=92) (hl:s.length≤k+2) (hq:qGo (s.drop 1)=qSh out k (qGo (s.drop (k+1)))):quotedR s=([],0):=by
 rw [drop_at s (k+1) h,qGo_cons,if_neg (by omega),if_neg (by omega),if_pos h3,List.drop_eq_nil_of_le (show s.length≤k+1+1 from hl)] at hq;unfold quotedR;rw [hq];rfl
theorem q_esc {s out:List UInt8} {k:Nat} (h:k+1<s.length) (h3:s[k+1].toNat=92) (h':k+2<s.length) (d:UInt8) (hd:((s[k+2].toNat=34∨s[k+2].toNat=92)∧d=s[k+2])∨(s[k+2].toNat=110∧d=10)) (hq:qGo (s.drop 1)=qSh out k (qGo (s.drop (k+1)))) :
  qGo (s.drop 1)=qSh (out++[d]) (k+2) (qGo (s.drop (k+2+1))):=by
 rw [drop_at s (k+1) h,qGo_cons,if_neg (by omega),if_neg (by omega),if_pos h3,show k+1+1=k+2 from rfl,drop_at s (k+2) h'] at hq;simp only at hq;rcases hd with ⟨h4,rfl⟩ | ⟨h4,rfl⟩
 ·rw [if_pos h4] at hq;rw [hq];exact qSh_map out k 2 [s[k+2]] _
 ·rw [if_neg (by omega),if_pos h4] at hq;rw [hq];exact qSh_map out k 2 [10] _
theorem q_none {s out:List UInt8} {k:Nat} (h:k+1<s.length) (h3:s[k+1].toNat=92) (h':k+2<s.length) (hd:s[k+2].toNat≠34∧s[k+2].toNat≠92∧s[k+2].toNat≠110) (hq:qGo (s.drop 1)=qSh out k (qGo (s.drop (k+1)))):quotedR s=([],0):=by
 rw [drop_at s (k+1) h,qGo_cons,if_neg (by omega),if_neg (by omega),if_pos h3,show k+1+1=k+2 from rfl,drop_at s (k+2) h'] at hq;simp only at hq;rw [if_neg (by omega),if_neg (by omega)] at hq;unfold quotedR;rw [hq];rfl
theorem index_esc (d:UInt8):Lib.indexByte [34,92,110] d=if d.toNat=34 then 0 else if d.toNat=92 then 1 else if d.toNat=110 then 2 else -1:=by
 have e:∀ a:UInt8,(a == d)=decide (d.toNat=a.toNat):=fun a=>by
  rw [Bool.eq_iff_iff];simp only [beq_iff_eq,decide_eq_true_eq];exact ⟨fun h=>by rw [h],fun h=>(UInt8.toNat_inj.1 h).symm⟩
 simp only [Lib.indexByte,e];have e1:(34:UInt8).toNat=34:=rfl;have e2:(92:UInt8).toNat=92:=rfl;have e3:(110:UInt8).toNat=110:=rfl;rw [e1,e2,e3];by_cases h1:d.toNat=34
 ·simp [h1]
 ·by_cases h2:d.toNat=92
  ·simp [h2]
  ·by_cases h3:d.toNat=110
   ·simp [h3]
   ·simp [h1,h2,h3]
theorem u8_of {c d:UInt8} (h:c.toNat=d.toNat):d=c:=(UInt8.toNat_inj.1 h).symm
theorem idx_esc (d:UInt8) (v:Int) (hv:Lib.indexByte [34,92,110] d=v) (W:World) :
  Calls Tryz.prog 56 #[.string ⟨#[34,92,110]⟩,.int .u8 d.toNat] W fun e w'=>e=.returned (.int .i64 v)∧W=w':=by
 refine (Tryz.strings_IndexByte ⟨#[34,92,110]⟩ d.toNat W).mono ?_;rintro e w' ⟨rfl,rfl⟩;have:((d.toNat:Int).toNat.toUInt8)=d:=by simp
 exact ⟨by rw [this];show Ending.returned (.int .i64 (Lib.indexByte [34,92,110] d))=_;rw [hv],rfl⟩
set_option maxHeartbeats 4000000 in
theorem quoted_any (s:List UInt8) (hs:s.length≤1000000000000) (t:List UInt8) (n:Nat) (ht:quotedR s=(t,n)) (w:World) :
  Calls Tryz.prog 54 #[.string (bs s)] w fun e w'=>e=.returned (.tuple #[.string (bs t),.int .i64 n])∧Below w.heap.size w w':=by
 obtain ⟨i0,hi,hz0,hz1,hz2⟩:=info_parts u8_info;have HT:=hid ht;clear ht;go_enter Tryz.func54,Tryz.ntmps54
 go_wp2_with fail;go_loopw [4,5] (fun v i wr=>∃ (k:Nat) (out:List UInt8),k≤s.length∧out.length≤k∧i=.int .i64 (k+1:Nat)∧wr.ownsRow w.heap.size 5 1 v out.length (Lib.byteCells out)∧Hid (qGo (s.drop 1)=qSh out k (qGo (s.drop (k+1))))∧Below w.heap.size w wr) (fun _ i _=>s.length+1 - (intOf i).toNat)
 case atStart=>exact ⟨0,[],by omega,by simp,rfl,⟨rfl,.inl ⟨rfl,rfl⟩⟩,hid (qSh_zero _),Below.refl _ _⟩
 case round =>
  obtain ⟨k,out,hk,hol,rfl,hown,HQ,hbw⟩:=hrel;by_cases hlt:k+1<s.length
  ·have hcv:=run_conv_at (SliceAt.of_owns hown (by unfold maxLen;omega));have Hown:=hid hown;have htn:((k:Int)+1).toNat=k+1:=by omega
   have hsz:=hbw.size;by_cases c1:s[k+1].toNat=34
   ·have q0:((s[k+1].toNat:Int) == 34)=true:=eqT (by omega);have e0:=q_end hlt c1 HQ.out;rw [HT.out] at e0;obtain ⟨rfl,rfl⟩:=Prod.mk.inj e0;clear e0 HQ hown c1;go_wp2_with fail
    go_ret2
    exact ⟨rfl,hbw⟩
   ·have q0:((s[k+1].toNat:Int) == 34)=false:=eqF (by omega);by_cases c2:s[k+1].toNat<32∨s[k+1].toNat=127
    ·have e0:=q_bad hlt c2 HQ.out;rw [HT.out] at e0;obtain ⟨rfl,rfl⟩:=Prod.mk.inj e0;by_cases c3:s[k+1].toNat<32
     ·have c3':(s[k+1].toNat:Int)<32:=by omega
      clear e0 HQ hown c1 c2;go_wp2_with fail
      go_ret2
      exact ⟨rfl,hbw⟩
     ·have c3':¬ (s[k+1].toNat:Int)<32:=by omega
      have q1:((s[k+1].toNat:Int) == 127)=true:=eqT (by omega);clear e0 HQ hown c1 c2 c3;go_wp2_with fail
      go_ret2
      exact ⟨rfl,hbw⟩
    ·have c3':¬ (s[k+1].toNat:Int)<32:=by omega
     have q1:((s[k+1].toNat:Int) == 127)=false:=eqF (by omega);by_cases c4:s[k+1].toNat=92
     ·have q2:((s[k+1].toNat:Int) == 92)=true:=eqT (by omega);have htn2:((k:Int)+1+1).toNat=k+2:=by omega
      by_cases hl2:k+2<s.length
      ·by_cases c5:s[k+2].toNat=34∨s[k+2].toNat=92∨s[k+2].toNat=110
       ·rcases c5 with c5 | c5 | c5
        ·have HI:=hid (idx_esc s[k+2] 0 (by rw [index_esc,if_pos c5]));have HN:=hid (q_esc hlt c4 hl2 34 (.inl ⟨.inl c5,u8_of c5⟩) HQ.out);clear HQ hown c1 c2 c4 c5;go_wp2_with fail;refine (HI.out _).mono ?_;rintro e wx ⟨rfl,rfl⟩;go_wp2_with (at_builtin;go_must (refine wpList_append_src rfl _ _ 41 rfl w.heap.size 5 i0 (.int .u8 0) 1 1 Tryz.underlying41 hi hz0 hz1 hz2 rfl (by decide) _ out.length (Lib.byteCells out) rfl ?a1 _ 1 (Lib.byteCells [34]) rfl ?a2 ?a3 ?a4 ?a5 ?a6 ?_))
         case a1=>exact Hown.out.alloc _
         case a2=>exact one_byte _ _
         case a3=>exact byteCells_one _
         case a4=>unfold maxLen;omega
         (try case a5=>omega)
         (try case a6=>simp;omega)
         intro v' w' hown' hgrow;have hbx:=(hbw.alloc hbw.size _).grown hgrow (by simp;omega) (by first | exact fun q hq=>((Hown.out.alloc _).lt q hq).1 | exact fun q hq=>(Hown.out.lt q hq).1);have ho2:w'.ownsRow w.heap.size 5 1 v' (out++[34]).length (Lib.byteCells (out++[34])):=by rw [byteCells_app,List.length_append];exact hown'
         clear hown' hgrow;go_wp2_with fail;exact ⟨⟨k+2,out++[34],by omega,by simp;omega,by go_num,ho2,HN,hbx⟩,by simp [intOf];omega⟩
        ·have HI:=hid (idx_esc s[k+2] 1 (by rw [index_esc,if_neg (by omega),if_pos c5]));have HN:=hid (q_esc hlt c4 hl2 92 (.inl ⟨.inr c5,u8_of c5⟩) HQ.out);clear HQ hown c1 c2 c4 c5;go_wp2_with fail;refine (HI.out _).mono ?_;rintro e wx ⟨rfl,rfl⟩;go_wp2_with (at_builtin;go_must (refine wpList_append_src rfl _ _ 41 rfl w.heap.size 5 i0 (.int .u8 0) 1 1 Tryz.underlying41 hi hz0 hz1 hz2 rfl (by decide) _ out.length (Lib.byteCells out) rfl ?b1 _ 1 (Lib.byteCells [92]) rfl ?b2 ?b3 ?b4 ?b5 ?b6 ?_))
         case b1=>exact Hown.out.alloc _
         case b2=>exact one_byte _ _
         case b3=>exact byteCells_one _
         case b4=>unfold maxLen;omega
         (try case b5=>omega)
         (try case b6=>simp;omega)
         intro v' w' hown' hgrow;have hbx:=(hbw.alloc hbw.size _).grown hgrow (by simp;omega) (by first | exact fun q hq=>((Hown.out.alloc _).lt q hq).1 | exact fun q hq=>(Hown.out.lt q hq).1);have ho2:w'.ownsRow w.heap.size 5 1 v' (out++[92]).length (Lib.byteCells (out++[92])):=by rw [byteCells_app,List.length_append];exact hown'
         clear hown' hgrow;go_wp2_with fail;exact ⟨⟨k+2,out++[92],by omega,by simp;omega,by go_num,ho2,HN,hbx⟩,by simp [intOf];omega⟩
        ·have HI:=hid (idx_esc s[k+2] 2 (by rw [index_esc,if_neg (by omega),if_neg (by omega),if_pos c5]));have HN:=hid (q_esc hlt c4 hl2 10 (.inr ⟨c5,rfl⟩) HQ.out);clear HQ hown c1 c2 c4 c5;go_wp2_with fail;refine (HI.out _).mono ?_;rintro e wx ⟨rfl,rfl⟩;go_wp2_with (at_builtin;go_must (refine wpList_append_src rfl _ _ 41 rfl w.heap.size 5 i0 (.int .u8 0) 1 1 Tryz.underlying41 hi hz0 hz1 hz2 rfl (by decide) _ out.length (Lib.byteCells out) rfl ?c1 _ 1 (Lib.byteCells [10]) rfl ?c2 ?c3 ?c4 ?c5 ?c6 ?_))
         case c1=>exact Hown.out.alloc _
         case c2=>exact one_byte _ _
         case c3=>exact byteCells_one _
         case c4=>unfold maxLen;omega
         (try case c5=>omega)
         (try case c6=>simp;omega)
         intro v' w' hown' hgrow;have hbx:=(hbw.alloc hbw.size _).grown hgrow (by simp;omega) (by first | exact fun q hq=>((Hown.out.alloc _).lt q hq).1 | exact fun q hq=>(Hown.out.lt q hq).1);have ho2:w'.ownsRow w.heap.size 5 1 v' (out++[10]).length (Lib.byteCells (out++[10])):=by rw [byteCells_app,List.length_append];exact hown'
         clear hown' hgrow;go_wp2_with fail;exact ⟨⟨k+2,out++[10],by omega,by simp;omega,by go_num,ho2,HN,hbx⟩,by simp [intOf];omega⟩
       ·have HI:=hid (idx_esc s[k+2] (-1) (by rw [index_esc,if_neg (by omega),if_neg (by omega),if_neg (by omega)]));have e0:=q_none hlt c4 hl2 (by omega) HQ.out;rw [HT.out] at e0;obtain ⟨rfl,rfl⟩:=Prod.mk.inj e0;clear e0 HQ hown c1 c2 c4 c5;go_wp2_with fail;refine (HI.out _).mono ?_;rintro e wx ⟨rfl,rfl⟩;go_wp2_with fail
        go_ret2
        exact ⟨rfl,hbw⟩
      ·have e0:=q_last hlt c4 (by omega) HQ.out;rw [HT.out] at e0;obtain ⟨rfl,rfl⟩:=Prod.mk.inj e0;clear e0 HQ hown c1 c2 c4;go_wp2_with fail
       go_ret2
       exact ⟨rfl,hbw⟩
     ·have q2:((s[k+1].toNat:Int) == 92)=false:=eqF (by omega);have HN:=hid (q_plain hlt c1 c2 c4 HQ.out);clear HQ hown c1 c2 c4;go_wp2_with (at_builtin;go_must (refine wpList_append_src rfl _ _ 41 rfl w.heap.size 5 i0 (.int .u8 0) 1 1 Tryz.underlying41 hi hz0 hz1 hz2 rfl (by decide) _ out.length (Lib.byteCells out) rfl ?d1 _ 1 (Lib.byteCells [s[k+1]]) rfl ?d2 ?d3 ?d4 ?d5 ?d6 ?_))
      case d1=>exact Hown.out.alloc _
      case d2=>exact one_byte _ _
      case d3=>exact byteCells_one _
      case d4=>unfold maxLen;omega
      (try case d5=>omega)
      (try case d6=>simp;omega)
      intro v' w' hown' hgrow;have hbx:=(hbw.alloc hbw.size _).grown hgrow (by simp;omega) (by first | exact fun q hq=>((Hown.out.alloc _).lt q hq).1 | exact fun q hq=>(Hown.out.lt q hq).1);have ho2:w'.ownsRow w.heap.size 5 1 v' (out++[s[k+1]]).length (Lib.byteCells (out++[s[k+1]])):=by rw [byteCells_app,List.length_append];exact hown'
      clear hown' hgrow;go_wp2_with fail;exact ⟨⟨k+1,out++[s[k+1]],by omega,by simp;omega,by go_num,ho2,HN,hbx⟩,by simp [intOf];omega⟩
  ·have e0:=q_over (by omega) HQ.out;rw [HT.out] at e0;obtain ⟨rfl,rfl⟩:=Prod.mk.inj e0;clear e0 HQ hown;go_wp2_with fail
   go_ret2
   exact ⟨rfl,hbw⟩
def tokV (k:Nat) (t:List UInt8) (l c:Nat):Value:=.agg #[.int .i64 k,.string (bs t),.int .i64 l,.int .i64 c]
def Four (w:World) (b:Nat) (x0 x1 x2 x3:Value):Prop :=
 w.cell? ⟨b,0,none⟩=some x0∧w.cell? ⟨b,1,none⟩=some x1∧w.cell? ⟨b,2,none⟩=some x2∧w.cell? ⟨b,3,none⟩=some x3
def Free (w:World) (b:Nat):Prop:=∀ j,w.frozen? ⟨b,j,none⟩=false
theorem four_new (w:World) (x0 x1 x2 x3:Value) (e:TypeId) (fr:Nat × Nat):Four (w.alloc (.cells #[x0,x1,x2,x3] e fr)) w.heap.size x0 x1 x2 x3 :=
 ⟨by rw [World.cell?_alloc_mark];rfl,by rw [World.cell?_alloc_mark];rfl,by rw [World.cell?_alloc_mark];rfl,by rw [World.cell?_alloc_mark];rfl⟩
theorem four_below {w w':World} {b:Nat} {x0 x1 x2 x3:Value} (h:Four w b x0 x1 x2 x3) (hb:Below w.heap.size w w'):Four w' b x0 x1 x2 x3:=by
 have hlt:=World.block_lt_of_cell? w _ h.1;exact ⟨(hb.cell (p:=⟨b,0,none⟩) hlt).trans h.1,(hb.cell (p:=⟨b,1,none⟩) hlt).trans h.2.1,(hb.cell (p:=⟨b,2,none⟩) hlt).trans h.2.2.1,(hb.cell (p:=⟨b,3,none⟩) hlt).trans h.2.2.2⟩
theorem free_new (w:World) (C:Array Value) (e:TypeId):Free (w.alloc (.cells C e)) w.heap.size:=fun j=>by
 have h:(w.alloc (.cells C e)).heap[w.heap.size]? = some (.cells C e):=Array.getElem?_push_size;unfold World.frozen?;simp only [h];simp
theorem free_below {w w':World} {b:Nat} (h:Free w b) (hlt:b<w.heap.size) (hb:Below w.heap.size w w'):Free w' b:=fun j=>(hb.frozen (p:=⟨b,j,none⟩) hlt).trans (h j)
theorem four_set {w:World} {b:Nat} {x0 x1 x2 x3:Value} (h:Four w b x0 x1 x2 x3) (y0 y1 y2 y3:Value) :
  Four ((((w.setCell ⟨b,0,none⟩ y0).setCell ⟨b,1,none⟩ y1).setCell ⟨b,2,none⟩ y2).setCell ⟨b,3,none⟩ y3) b y0 y1 y2 y3:=by
 obtain ⟨h0,h1,h2,h3⟩:=h;refine ⟨?_,?_,?_,?_⟩
 ·rw [World.cell?_setCell_other _ _ _ _ (by simp),World.cell?_setCell_other _ _ _ _ (by simp),World.cell?_setCell_other _ _ _ _ (by simp)];exact World.cell?_setCell_same' _ _ _ (by rw [h0];rfl)
 ·rw [World.cell?_setCell_other _ _ _ _ (by simp),World.cell?_setCell_other _ _ _ _ (by simp)];exact World.cell?_setCell_same' _ _ _ (by rw [World.cell?_setCell_other _ _ _ _ (by simp),h1];rfl)
 ·rw [World.cell?_setCell_other _ _ _ _ (by simp)];exact World.cell?_setCell_same' _ _ _ (by rw [World.cell?_setCell_other _ _ _ _ (by simp),World.cell?_setCell_other _ _ _ _ (by simp),h2];rfl)
 ·exact World.cell?_setCell_same' _ _ _ (by rw [World.cell?_setCell_other _ _ _ _ (by simp),World.cell?_setCell_other _ _ _ _ (by simp),World.cell?_setCell_other _ _ _ _ (by simp),h3];rfl)
theorem below_four {B:Nat} {a w:World} {b:Nat} (h:Below B a w) (hb:B≤b) (y0 y1 y2 y3:Value) :
  Below B a ((((w.setCell ⟨b,0,none⟩ y0).setCell ⟨b,1,none⟩ y1).setCell ⟨b,2,none⟩ y2).setCell ⟨b,3,none⟩ y3) :=
 (((h.setCell (p:=⟨b,0,none⟩) hb _).setCell (p:=⟨b,1,none⟩) hb _).setCell (p:=⟨b,2,none⟩) hb _).setCell (p:=⟨b,3,none⟩) hb _
structure Two (w:World) (b:Nat) (x y:Value):Prop where
 c0:w.cell? ⟨b,0,none⟩=some x
 c1:w.cell? ⟨b,1,none⟩=some y
 f0:w.frozen? ⟨b,0,none⟩=false
 f1:w.frozen? ⟨b,1,none⟩=false
theorem Two.below {w w':World} {b:Nat} {x y:Value} (h:Two w b x y) (hb:Below w.heap.size w w'):Two w' b x y:=by
 have hlt:=World.block_lt_of_cell? w _ h.c0;exact ⟨(hb.cell (p:=⟨b,0,none⟩) hlt).trans h.c0,(hb.cell (p:=⟨b,1,none⟩) hlt).trans h.c1,(hb.frozen (p:=⟨b,0,none⟩) hlt).trans h.f0,(hb.frozen (p:=⟨b,1,none⟩) hlt).trans h.f1⟩
theorem Two.past {B:Nat} {w w':World} {b:Nat} {x y:Value} (h:Two w b x y) (hb:Below B w w') (hlt:b<B):Two w' b x y :=
 ⟨(hb.cell (p:=⟨b,0,none⟩) hlt).trans h.c0,(hb.cell (p:=⟨b,1,none⟩) hlt).trans h.c1,(hb.frozen (p:=⟨b,0,none⟩) hlt).trans h.f0,(hb.frozen (p:=⟨b,1,none⟩) hlt).trans h.f1⟩
theorem Two.drew {w:World} {b:Nat} {x y:Value} (h:Two w b x y):Two w.drew b x y:=⟨h.c0,h.c1,h.f0,h.f1⟩
theorem Two.set {w:World} {b:Nat} {x y:Value} (h:Two w b x y) (u v:Value):Two ((w.setCell ⟨b,0,none⟩ u).setCell ⟨b,1,none⟩ v) b u v:=by
 have e1:(w.setCell ⟨b,0,none⟩ u).cell? ⟨b,1,none⟩=some y:=by rw [World.cell?_setCell_other _ _ _ _ (by simp)];exact h.c1
 refine ⟨?_,?_,?_,?_⟩
 ·rw [World.cell?_setCell_other _ _ _ _ (by simp)];exact World.cell?_setCell_same' _ _ _ (by rw [h.c0];rfl)
 ·exact World.cell?_setCell_same' _ _ _ (by rw [e1];rfl)
 ·rw [World.frozen?_setCell,World.frozen?_setCell];exact h.f0
 ·rw [World.frozen?_setCell,World.frozen?_setCell];exact h.f1
theorem Two.other {w:World} {b c:Nat} {x y:Value} (h:Two w b x y) (hne:c≠b) (u v:Value):Two ((w.setCell ⟨c,0,none⟩ u).setCell ⟨c,1,none⟩ v) b x y:=by
 have hn:∀ i j:Nat,(⟨c,i,none⟩:Addr)≠⟨b,j,none⟩:=fun i j e=>hne (congrArg Addr.block e)
 refine ⟨?_,?_,?_,?_⟩
 ·rw [World.cell?_setCell_other _ _ _ _ (hn _ _),World.cell?_setCell_other _ _ _ _ (hn _ _)];exact h.c0
 ·rw [World.cell?_setCell_other _ _ _ _ (hn _ _),World.cell?_setCell_other _ _ _ _ (hn _ _)];exact h.c1
 ·rw [World.frozen?_setCell,World.frozen?_setCell];exact h.f0
 ·rw [World.frozen?_setCell,World.frozen?_setCell];exact h.f1
theorem Two.lt {w:World} {b:Nat} {x y:Value} (h:Two w b x y):b<w.heap.size:=World.block_lt_of_cell? w _ h.c0
theorem two_new (w:World) (x y:Value) (e:TypeId):Two (w.alloc (.cells #[x,y] e)) w.heap.size x y :=
 ⟨by rw [World.cell?_alloc_mark];rfl,by rw [World.cell?_alloc_mark];rfl,free_new w _ _ 0,free_new w _ _ 1⟩
theorem own_keep {w:World} {base e size n:Nat} {v:Value} {xs:List Value} (h:w.ownsRow base e size v n xs) {b:Nat} (hb:b<base) (x y:Value):((w.setCell ⟨b,0,none⟩ x).setCell ⟨b,1,none⟩ y).ownsRow base e size v n xs:=by
 obtain ⟨hl,h⟩:=h;refine ⟨hl,?_⟩;rcases h with h | ⟨g,cap,cur,hv,hg,hh,r⟩
 ·exact .inl h
 ·refine .inr ⟨g,cap,cur,hv,hg,?_,r⟩;have hne:g≠b:=by omega
  rw [Below.heap_setCell _ _ _ _ hne,Below.heap_setCell _ _ _ _ hne];exact hh
theorem Four.past {B:Nat} {w w':World} {b:Nat} {x0 x1 x2 x3:Value} (h:Four w b x0 x1 x2 x3) (hb:Below B w w') (hlt:b<B):Four w' b x0 x1 x2 x3 :=
 ⟨(hb.cell (p:=⟨b,0,none⟩) hlt).trans h.1,(hb.cell (p:=⟨b,1,none⟩) hlt).trans h.2.1,(hb.cell (p:=⟨b,2,none⟩) hlt).trans h.2.2.1,(hb.cell (p:=⟨b,3,none⟩) hlt).trans h.2.2.2⟩
theorem Free.past {B:Nat} {w w':World} {b:Nat} (h:Free w b) (hb:Below B w w') (hlt:b<B):Free w' b:=fun j=>(hb.frozen (p:=⟨b,j,none⟩) hlt).trans (h j)
theorem number_res {w:World} {tmps:Array Value} {b:Nat} {k l c:Nat} {t:List UInt8} {n e:Int} (h2:tmps[2]?.getD undef=.pointer (some ⟨b,0,none⟩)) (h3:tmps[3]?.getD undef=.int .i64 n) (h4:tmps[4]?.getD undef=.int .i64 e)
  (h:Four w b (.int .i64 k) (.string (bs t)) (.int .i64 l) (.int .i64 c)) :
  (results Tryz.f53 tmps).run Tryz.prog w=.ok (.tuple #[tokV k t l c,.int .i64 n,.int .i64 e]) w:=by
 obtain ⟨c0,c1,c2,c3⟩:=h;simp [results,Tryz.f53,go_sem,h2,h3,h4,c0,c1,c2,c3,tokV]
theorem next_res {w:World} {tmps:Array Value} {b:Nat} {k l c:Nat} {t:List UInt8} {n e:Int} (h2:tmps[2]?.getD undef=.pointer (some ⟨b,0,none⟩)) (h3:tmps[3]?.getD undef=.int .i64 n) (h4:tmps[4]?.getD undef=.int .i64 e)
  (h:Four w b (.int .i64 k) (.string (bs t)) (.int .i64 l) (.int .i64 c)) :
  (results Tryz.f29 tmps).run Tryz.prog w=.ok (.tuple #[tokV k t l c,.int .i64 n,.int .i64 e]) w:=by
 obtain ⟨c0,c1,c2,c3⟩:=h;simp [results,Tryz.f29,go_sem,h2,h3,h4,c0,c1,c2,c3,tokV]
theorem parse_over (M:Nat):∀ (l:List UInt8) (a:Nat),allDig l=true→a≤M→M<valD a l→Lib.parseUintM M a l=.range
 | [],a,_,h,hv=>by have:valD a []=a:=rfl;omega
 | c::r,a,h,ha,hv=>by
   have hc:isDig c=true:=by unfold allDig at h;simp only [List.all_cons,Bool.and_eq_true] at h;exact h.1
   have hr:allDig r=true:=by unfold allDig at *;simp only [List.all_cons,Bool.and_eq_true] at h;exact h.2
   have hcd:48≤c.toNat∧c.toNat≤57:=by simpa [isDig] using hc
   have hv':M<valD (10 * a+(c.toNat - 48)) r:=hv;rw [Lib.parseUintM,if_pos hcd];by_cases h1:1844674407370955162≤a
   ·rw [if_pos h1]
   ·rw [if_neg h1];by_cases h2:M<a * 10+(c.toNat - 48)
    ·rw [if_pos h2]
    ·rw [if_neg h2,Nat.mul_comm a 10];exact parse_over M r _ hr (by omega) hv'
def RangeAt (w:World):Prop:=∃ t p,w.var? Tryz.prog "strconv.ErrRange"=some #[.iface t p]
theorem var?_old {P:Program} {w w':World} {n:String} {cs:Array Value} (hv:w.var? P n=some cs) (hb:Below w.heap.size w w'):w'.var? P n=some cs:=by
 unfold World.var? at hv ⊢;cases hg:P.globalNamed n with
 | none=>simp [hg] at hv
 | some g =>
   simp only [hg,Option.bind_some] at hv ⊢;have hlt:g<w.heap.size:=by
    rcases Nat.lt_or_ge g w.heap.size with h | h
    ·exact h
    ·simp [Array.getElem?_eq_none h] at hv
   rw [hb.block g hlt];exact hv
theorem RangeAt.below {w w':World} (h:RangeAt w) (hb:Below w.heap.size w w'):RangeAt w':=by
 obtain ⟨t,p,h1⟩:=h;exact ⟨t,p,var?_old h1 hb⟩
theorem parse_fit (l:List UInt8) (hl:l.length≤1000000000000) (hd:allDig l=true) (hne:l≠[]) (hv:valD 0 l≤18446744073709551615) (W:World) :
  Calls Tryz.prog 91 #[.string (bs l),.int .i64 10,.int .i64 64] W fun e w'=>e=.returned (.tuple #[.int .u64 (valD 0 l),.nilIface])∧Below W.heap.size W w':=by
 have hp:Lib.parseUintB 64 l=.ok (valD 0 l):=by
  rw [Lib.parseUintB,if_neg hne];exact parse_dig _ (by decide) l 0 hd (by simpa using hv)
 refine (Tryz.strconv_ParseUint_10_at64_ok (bs l) (by rw [bs_size];omega) _ hp W).mono ?_;rintro e w' ⟨rfl,rfl | rfl⟩
 ·exact ⟨rfl,Below.refl _ _⟩
 ·exact ⟨rfl,Lib.bytesWorld_below _ _ _⟩
def Wide (w:World) (e:Ending) (w':World):Prop:=∃ n t p,e=.returned (.tuple #[.int .u64 n,.iface t p])∧Below w.heap.size w w'
theorem parse_wide (l:List UInt8) (hl:l.length≤1000000000000) (hd:allDig l=true) (hne:l≠[]) (hv:18446744073709551615<valD 0 l) (W:World) (hr:RangeAt W) :
  Calls Tryz.prog 91 #[.string (bs l),.int .i64 10,.int .i64 64] W (Wide W):=by
 obtain ⟨t,p,h1⟩:=hr;have hp:Lib.parseUintB 64 l=.range:=by
  rw [Lib.parseUintB,if_neg hne];exact parse_over _ l 0 hd (by omega) (by simpa using hv)
 refine (Any.strconv_ParseUint_10_at64_range_var Tryz.laysPu14 (bs l) (by rw [bs_size];omega) hp t p W h1).mono ?_;rintro e w' ⟨N,rfl,-,-,hb⟩;exact ⟨_,_,_,rfl,hb⟩
end Go.Proofs.YtfgiihpopngbkaaGreatDoor
namespace Go.Proofs.YtfgiihpopngbkaaGreatDoor
set_option maxRecDepth 100000
open Go.RowKit
open Nat renaming lt_of_lt_of_le→nL,le_trans→nT
def TokRet (k:Nat) (t:List UInt8) (n e:Nat) (w:World) (x:Ending) (w':World):Prop:=x=.returned (.tuple #[tokV k t 0 0,.int .i64 n,.int .i64 e])∧Below w.heap.size w w'
set_option maxHeartbeats 1000000
theorem number_form (s:List UInt8) (hs:s.length≤1000000000000) (h1:1<runL isDig s) (h0:s.head? = some 48) (w:World) :
  Calls Tryz.prog 53 #[.string (bs s)] w (TokRet 0 [] 0 3 w):=by
 have HR:=hid (run_digit s hs);have hl:=run_le isDig s;have hp:0<s.length:=by omega
 have h48:s[0]=48:=by cases s with | nil=>simp at hp | cons c r=>simpa using h0
 have q0:((s[0].toNat:Int) == 48)=true:=by rw [h48];rfl
 have hf:=four_new w (.int .i64 0) (.string ⟨#[]⟩) (.int .i64 0) (.int .i64 0) 46 (0,0);have Hf:=hid hf;clear h0 h48 hf;go_enter Tryz.func53,Tryz.ntmps53
 go_wp2_with fail;refine (HR.out _).mono ?_;rintro e w1 ⟨rfl,rfl⟩;go_wp2_with fail;exact bodyPost_ret (number_res (k:=0) (t:=[]) (l:=0) (c:=0) rfl rfl rfl Hf.out) rfl ⟨rfl,(Below.refl _ _).alloc (Nat.le_refl _) _⟩
theorem digs_of (s:List UInt8) (h:0<runL isDig s):allDig (s.take (runL isDig s))=true∧s.take (runL isDig s)≠[]:=by
 refine ⟨run_all isDig s,fun e=>?_⟩;have h2:=run_le isDig s;have:=congrArg List.length e;rw [List.length_take,Nat.min_eq_left h2,List.length_nil] at this;omega
theorem number_any (s:List UInt8) (hs:s.length≤1000000000000) (hn:0<runL isDig s) (k:Nat) (t:List UInt8) (n e:Nat) (hp:numP s=(k,t,n,e)) (w:World) (hr:RangeAt w) :
  Calls Tryz.prog 53 #[.string (bs s)] w (TokRet k t n e w):=by
 by_cases hform:1<runL isDig s∧s.head? = some 48
 ·rw [numP,if_pos hform] at hp;simp only [Prod.mk.injEq] at hp;obtain ⟨rfl,rfl,rfl,rfl⟩:=hp;exact number_form s hs hform.1 hform.2 w
 rw [numP,if_neg hform] at hp;have HR:=hid (run_digit s hs);have hl:=run_le isDig s;have hp0:0<s.length:=by omega
 obtain ⟨hd,hne⟩:=digs_of s hn;have hdl:(s.take (runL isDig s)).length≤1000000000000:=by rw [List.length_take];omega
 have hz:(Hid (¬ (1:Int)<(runL isDig s:Int)))∨(Hid (1<(runL isDig s:Int))∧Hid (((s[0].toNat:Int) == 48)=false)):=by
  by_cases h1:1<runL isDig s
  ·refine .inr ⟨hid (by omega),hid (eqF ?_)⟩;intro h2;apply hform;refine ⟨h1,?_⟩;cases s with
   | nil=>simp at hp0
   | cons c r =>
     have h3:c.toNat=48:=by simp only [List.getElem_cons_zero] at h2;omega
     have h4:c=48:=UInt8.toNat_inj.1 (h3.trans rfl);rw [h4];rfl
  ·exact .inl (hid (by omega))
 have Hb:=hid (fun (w2:World) (hb:Below (w.alloc (.cells #[.int .i64 0,.string ⟨#[]⟩,.int .i64 0,.int .i64 0] 46)).heap.size (w.alloc (.cells #[.int .i64 0,.string ⟨#[]⟩,.int .i64 0,.int .i64 0] 46)) w2) =>
  (⟨four_below (four_new w _ _ _ _ _ _) hb,free_below (free_new w _ _) (by simp) hb,((Below.refl w.heap.size w).alloc (Nat.le_refl _) _).trans (hb.mono (by simp)),nL (by simp) hb.size⟩ :
   Four w2 w.heap.size (.int .i64 0) (.string ⟨#[]⟩) (.int .i64 0) (.int .i64 0)∧Free w2 w.heap.size∧Below w.heap.size w w2∧w.heap.size<w2.heap.size))
 have hr1:RangeAt (w.alloc (.cells #[.int .i64 0,.string ⟨#[]⟩,.int .i64 0,.int .i64 0] 46)):=hr.below ((Below.refl _ _).alloc (Nat.le_refl _) _);have hwrap:(runL isDig s:Int)≤1000000000000:=by omega
 by_cases hv:18446744073709551615<valD 0 (s.take (runL isDig s))
 ·rw [if_pos (by omega)] at hp;simp only [Prod.mk.injEq] at hp;obtain ⟨rfl,rfl,rfl,rfl⟩:=hp;have HP:=hid (parse_wide _ hdl hd hne hv _ hr1);clear hform hd hne hv hdl hr1 hr;rcases hz with hz | ⟨hz,hq⟩
  all_goals
   have hz':=hz.out
   (try have hq':=hq.out)
   go_enter Tryz.func53,Tryz.ntmps53
   go_wp2_with fail;refine (HR.out _).mono ?_;rintro e w1 ⟨rfl,rfl⟩;go_wp2_with fail;refine HP.out.mono ?_;rintro e w2 ⟨x,y,z,rfl,hb2⟩;obtain ⟨hf,hfr,hbx,hlt⟩:=Hb.out _ hb2;have Hf:=hid hf;obtain ⟨k0,k1,k2,k3⟩:=hf;have g0:=hfr 0;have g1:=hfr 1;have g2:=hfr 2;have g3:=hfr 3;clear hb2 hfr;go_wp2_with fail;exact bodyPost_ret (number_res (k:=0) (t:=[]) (l:=0) (c:=0) rfl rfl rfl (four_set Hf.out _ _ _ _)) rfl ⟨rfl,below_four hbx (Nat.le_refl _) _ _ _ _⟩
 ·have HP:=hid (parse_fit _ hdl hd hne (by omega) (w.alloc (.cells #[.int .i64 0,.string ⟨#[]⟩,.int .i64 0,.int .i64 0] 46)));by_cases hv2:9223372036854775807<valD 0 (s.take (runL isDig s))
  ·rw [if_pos hv2] at hp;simp only [Prod.mk.injEq] at hp;obtain ⟨rfl,rfl,rfl,rfl⟩:=hp;have hv3:(9223372036854775807:Int)<(valD 0 (s.take (runL isDig s)):Int):=by omega
   generalize valD 0 (s.take (runL isDig s))=u at *;clear hform hd hne hv hdl hr1 hr hv2;rcases hz with hz | ⟨hz,hq⟩
   all_goals
    have hz':=hz.out
    (try have hq':=hq.out)
    go_enter Tryz.func53,Tryz.ntmps53
    go_wp2_with fail;refine (HR.out _).mono ?_;rintro e w1 ⟨rfl,rfl⟩;go_wp2_with fail;refine HP.out.mono ?_;rintro e w2 ⟨rfl,hb2⟩;obtain ⟨hf,hfr,hbx,hlt⟩:=Hb.out _ hb2;have Hf:=hid hf;obtain ⟨k0,k1,k2,k3⟩:=hf;have g0:=hfr 0;have g1:=hfr 1;have g2:=hfr 2;have g3:=hfr 3;clear hb2 hfr;go_wp2_with fail;exact bodyPost_ret (number_res (k:=0) (t:=[]) (l:=0) (c:=0) rfl rfl rfl (four_set Hf.out _ _ _ _)) rfl ⟨rfl,below_four hbx (Nat.le_refl _) _ _ _ _⟩
  ·rw [if_neg hv2] at hp;simp only [Prod.mk.injEq] at hp;obtain ⟨rfl,rfl,rfl,rfl⟩:=hp;have hv3:¬ (9223372036854775807:Int)<(valD 0 (s.take (runL isDig s)):Int):=by omega
   have hv4:(0:Int)≤(valD 0 (s.take (runL isDig s)):Int):=by omega
   generalize valD 0 (s.take (runL isDig s))=u at *;clear hform hd hne hv hdl hr1 hr hv2;rcases hz with hz | ⟨hz,hq⟩
   all_goals
    have hz':=hz.out
    (try have hq':=hq.out)
    go_enter Tryz.func53,Tryz.ntmps53
    go_wp2_with fail;refine (HR.out _).mono ?_;rintro e w1 ⟨rfl,rfl⟩;go_wp2_with fail;refine HP.out.mono ?_;rintro e w2 ⟨rfl,hb2⟩;obtain ⟨hf,hfr,hbx,hlt⟩:=Hb.out _ hb2;have Hf:=hid hf;obtain ⟨k0,k1,k2,k3⟩:=hf;have g0:=hfr 0;have g1:=hfr 1;have g2:=hfr 2;have g3:=hfr 3;clear hb2 hfr;go_wp2_with fail;exact bodyPost_ret (number_res (k:=2) (t:=s.take (runL isDig s)) (l:=0) (c:=0) rfl rfl rfl (four_set Hf.out _ _ _ _)) rfl ⟨rfl,below_four hbx (Nat.le_refl _) _ _ _ _⟩
end Go.Proofs.YtfgiihpopngbkaaGreatDoor
namespace Go.Proofs.YtfgiihpopngbkaaGreatDoor
set_option maxRecDepth 100000
set_option linter.unusedVariables false
open Go.RowKit
open Nat renaming lt_of_lt_of_le→nL,le_trans→nT
def pieceP (s:List UInt8):Nat × List UInt8 × Nat × Nat:=match s with
 | []=>(0,[],0,3)
 | c::r=>if isGap c=true then (0,[],runL isGap (c::r),0) else pieceL (c::r)
theorem hasPrefix2 (c:UInt8) (r:List UInt8) (a:UInt8):Lib.hasPrefix (c::r) [a,61]=(decide (c.toNat=a.toNat) && decide (r.head? = some 61)):=by
 have e:(c == a)=decide (c.toNat=a.toNat):=by
  rw [Bool.eq_iff_iff];simp only [beq_iff_eq,decide_eq_true_eq];exact ⟨fun h=>by rw [h],fun h=>UInt8.toNat_inj.1 h⟩
 have e':(a == c)=decide (c.toNat=a.toNat):=by rw [← e,Bool.eq_iff_iff];simp only [beq_iff_eq];exact ⟨fun h=>h.symm,fun h=>h.symm⟩
 show ((a == c) && ([61]:List UInt8).isPrefixOf r)=_;rw [e'];congr 1
 cases r with
 | nil=>rfl
 | cons d r =>
   show ((61 == d) && true)=_;rw [Bool.and_true,Bool.eq_iff_iff];simp only [beq_iff_eq,decide_eq_true_eq,List.head?_cons,Option.some.injEq];exact ⟨fun h=>h.symm,fun h=>h.symm⟩
theorem pre_is (c:UInt8) (r:List UInt8) (a:UInt8) (b:Bool) (h:(decide (c.toNat=a.toNat) && decide (r.head? = some 61))=b) (W:World) :
  Calls Tryz.prog 55 #[.string (bs (c::r)),.string ⟨#[a,61]⟩] W fun e w'=>e=.returned (.bool b)∧W=w':=by
 refine (Tryz.strings_HasPrefix (bs (c::r)) ⟨#[a,61]⟩ W).mono ?_;rintro e w' ⟨rfl,rfl⟩;have:=hasPrefix2 c r a;rw [h] at this;exact ⟨by show Ending.returned (.bool (Lib.hasPrefix (c::r) [a,61]))=_;rw [this],rfl⟩
theorem index_mem:∀ (l:List UInt8) (c:UInt8),(0≤Lib.indexByte l c ↔ c ∈ l)∧-1≤Lib.indexByte l c
 | [],c=>by simp [Lib.indexByte]
 | b::l,c=>by
   obtain ⟨ih,ih2⟩:=index_mem l c;unfold Lib.indexByte;by_cases h:(b == c)=true
   ·have:b=c:=by simpa using h
    subst this;simp
   ·have hne:c≠b:=fun e=>h (by simp [e])
    rw [if_neg h];by_cases h2:(Lib.indexByte l c == -1)=true
    ·have h3:Lib.indexByte l c=-1:=by simpa using h2
     rw [if_pos h2];have:c ∉ l:=fun hm=>by have:=ih.2 hm;omega
     simp [this,hne]
    ·have h3:Lib.indexByte l c≠-1:=by simpa using h2
     rw [if_neg h2];have:c ∈ l:=ih.1 (by omega);simp [this];omega
theorem lex_sign_is (c:UInt8) (W:World) :
  Calls Tryz.prog 56 #[.string ⟨#[61,43,40,41,91,93,123,125,44,58,59]⟩,.int .u8 c.toNat] W fun e w'=>e=.returned (.int .i64 (Lib.indexByte signs c))∧W=w':=by
 refine (Tryz.strings_IndexByte ⟨#[61,43,40,41,91,93,123,125,44,58,59]⟩ c.toNat W).mono ?_;rintro e w' ⟨rfl,rfl⟩;have:((c.toNat:Int).toNat.toUInt8)=c:=by simp
 exact ⟨by rw [this];rfl,rfl⟩
theorem tok_below {w w2:World} (hb:Below (w.heap.size+1) (w.alloc (.cells #[.int .i64 0,.string ⟨#[]⟩,.int .i64 0,.int .i64 0] 46)) w2) :
  Four w2 w.heap.size (.int .i64 0) (.string ⟨#[]⟩) (.int .i64 0) (.int .i64 0)∧Free w2 w.heap.size∧Below w.heap.size w w2∧w.heap.size<w2.heap.size:=by
 have hb':Below (w.alloc (.cells #[.int .i64 0,.string ⟨#[]⟩,.int .i64 0,.int .i64 0] 46)).heap.size (w.alloc (.cells #[.int .i64 0,.string ⟨#[]⟩,.int .i64 0,.int .i64 0] 46)) w2:=hb.mono (by simp);exact ⟨four_below (four_new w _ _ _ _ _ _) hb',free_below (free_new w _ _) (by simp) hb',((Below.refl w.heap.size w).alloc (Nat.le_refl _) _).trans (hb'.mono (by simp)),nL (by simp) hb'.size⟩
set_option maxHeartbeats 1000000
theorem next_gap (c:UInt8) (r:List UInt8) (hs:(c::r).length≤1000000000000) (h1:isGap c=true) (w:World) :
  Calls Tryz.prog 29 #[.string (bs (c::r))] w (TokRet 0 [] (runL isGap (c::r)) 0 w):=by
 have hpos:0<(c::r).length:=by simp
 have hG:=hid (gap_tells.is c true h1);have hR:=hid (run_gap (c::r) hs);clear h1;go_enter Tryz.func29,Tryz.ntmps29
 go_wp2_with fail;refine (hG.out _).mono ?_;rintro e wx ⟨rfl,rfl⟩;go_wp2_with fail;refine (hR.out _).mono ?_;rintro e wx ⟨rfl,rfl⟩;go_wp2_with fail;exact bodyPost_ret (next_res (k:=0) (t:=[]) (l:=0) (c:=0) rfl rfl rfl (four_new w _ _ _ _ _ _)) rfl ⟨rfl,(Below.refl _ _).alloc (Nat.le_refl _) _⟩
theorem next_rem (c:UInt8) (r:List UInt8) (hs:(c::r).length≤1000000000000) (h1:isGap c=false) (h2:c.toNat=35) (w:World) :
  Calls Tryz.prog 29 #[.string (bs (c::r))] w (TokRet 0 [] (runL notLine (c::r)) 0 w):=by
 have hpos:0<(c::r).length:=by simp
 have hG:=hid (gap_tells.is c false h1);have hR:=hid (run_line (c::r) hs);have q2:((c.toNat:Int) == 35)=true:=eqT (by omega);clear h1 h2;go_enter Tryz.func29,Tryz.ntmps29
 go_wp2_with fail;refine (hG.out _).mono ?_;rintro e wx ⟨rfl,rfl⟩;go_wp2_with fail;refine (hR.out _).mono ?_;rintro e wx ⟨rfl,rfl⟩;go_wp2_with fail;exact bodyPost_ret (next_res (k:=0) (t:=[]) (l:=0) (c:=0) rfl rfl rfl (four_new w _ _ _ _ _ _)) rfl ⟨rfl,(Below.refl _ _).alloc (Nat.le_refl _) _⟩
theorem next_word (c:UInt8) (r:List UInt8) (hs:(c::r).length≤1000000000000) (h1:isGap c=false) (h2:c.toNat≠35) (h3:isLet c=true) (w:World) :
  Calls Tryz.prog 29 #[.string (bs (c::r))] w (TokRet 1 ((c::r).take (runL isWord (c::r))) (runL isWord (c::r)) 0 w):=by
 have hpos:0<(c::r).length:=by simp
 have hG:=hid (gap_tells.is c false h1);have hL:=hid (letter_tells.is c true h3);have hR:=hid (run_word (c::r) hs);have q2:((c.toNat:Int) == 35)=false:=eqF (by omega);have hle:=run_le isWord (c::r);generalize runL isWord (c::r)=n at *;have hle2:(n:Int)≤(r.length:Int)+1:=by simp at hle;omega
 have hle3:n≤r.length+1:=by simp at hle;omega
 clear h1 h2 h3;go_enter Tryz.func29,Tryz.ntmps29
 go_wp2_with fail;refine (hG.out _).mono ?_;rintro e wx ⟨rfl,rfl⟩;go_wp2_with fail;refine (hL.out _).mono ?_;rintro e wx ⟨rfl,rfl⟩;go_wp2_with fail;refine (hR.out _).mono ?_;rintro e wx ⟨rfl,rfl⟩;go_wp2_with fail;exact bodyPost_ret (next_res (k:=1) (t:=(c::r).take n) (l:=0) (c:=0) rfl rfl rfl (four_new w _ _ _ _ _ _)) rfl ⟨rfl,(Below.refl _ _).alloc (Nat.le_refl _) _⟩
theorem next_num (c:UInt8) (r:List UInt8) (hs:(c::r).length≤1000000000000) (h1:isGap c=false) (h2:c.toNat≠35) (h3:isLet c=false) (h4:isDig c=true) (k:Nat) (t:List UInt8) (n e:Nat) (hp:numP (c::r)=(k,t,n,e)) (w:World) (hr:RangeAt w) :
  Calls Tryz.prog 29 #[.string (bs (c::r))] w (TokRet k t n e w):=by
 have hpos:0<(c::r).length:=by simp
 have hG:=hid (gap_tells.is c false h1);have hL:=hid (letter_tells.is c false h3);have hD:=hid (digit_tells.is c true h4);have q2:((c.toNat:Int) == 35)=false:=eqF (by omega);have hN:=hid (number_any (c::r) hs (by rw [run_cons h4];omega) k t n e hp _ (hr.below ((Below.refl w.heap.size w).alloc (Nat.le_refl _) (.cells #[.int .i64 0,.string ⟨#[]⟩,.int .i64 0,.int .i64 0] 46))));unfold TokRet at hN;clear h1 h2 h3 h4 hp;go_enter Tryz.func29,Tryz.ntmps29
 go_wp2_with fail;refine (hG.out _).mono ?_;rintro e wx ⟨rfl,rfl⟩;go_wp2_with fail;refine (hL.out _).mono ?_;rintro e wx ⟨rfl,rfl⟩;go_wp2_with fail;refine (hD.out _).mono ?_;rintro e wx ⟨rfl,rfl⟩;go_wp2_with fail;refine hN.out.mono ?_;rintro e wy ⟨rfl,hb⟩;obtain ⟨hf,hfr,hbx,hlt⟩:=tok_below (hb.mono (by simp));have Hf:=hid hf;obtain ⟨k0,k1,k2,k3⟩:=hf;have g0:=hfr 0;have g1:=hfr 1;have g2:=hfr 2;have g3:=hfr 3;clear hb hfr;unfold tokV;go_wp2_with fail;exact bodyPost_ret (next_res (k:=k) (t:=t) (l:=0) (c:=0) rfl rfl rfl (four_set Hf.out _ _ _ _)) rfl ⟨rfl,below_four hbx (Nat.le_refl _) _ _ _ _⟩
theorem next_text (c:UInt8) (r:List UInt8) (hs:(c::r).length≤1000000000000) (h1:isGap c=false) (h2:c.toNat≠35) (h3:isLet c=false) (h4:isDig c=false) (h5:c.toNat=34) (t:List UInt8) (n:Nat) (hq:quotedR (c::r)=(t,n)) (hn:0<n) (w:World) :
  Calls Tryz.prog 29 #[.string (bs (c::r))] w (TokRet 3 t n 0 w):=by
 have hpos:0<(c::r).length:=by simp
 have hG:=hid (gap_tells.is c false h1);have hL:=hid (letter_tells.is c false h3);have hD:=hid (digit_tells.is c false h4);have q2:((c.toNat:Int) == 35)=false:=eqF (by omega);have q5:((c.toNat:Int) == 34)=true:=eqT (by omega);have hQ:=hid (quoted_any (c::r) hs t n hq);have hn1:(0:Int)<(n:Int):=by omega
 clear h1 h2 h3 h4 h5 hq;go_enter Tryz.func29,Tryz.ntmps29
 go_wp2_with fail;refine (hG.out _).mono ?_;rintro e wx ⟨rfl,rfl⟩;go_wp2_with fail;refine (hL.out _).mono ?_;rintro e wx ⟨rfl,rfl⟩;go_wp2_with fail;refine (hD.out _).mono ?_;rintro e wx ⟨rfl,rfl⟩;go_wp2_with fail;refine (hQ.out _).mono ?_;rintro e wy ⟨rfl,hb⟩;obtain ⟨hf,hfr,hbx,hlt⟩:=tok_below (hb.mono (by simp));have Hf:=hid hf;obtain ⟨k0,k1,k2,k3⟩:=hf;have g0:=hfr 0;have g1:=hfr 1;have g2:=hfr 2;have g3:=hfr 3;clear hb hfr;go_wp2_with fail;exact bodyPost_ret (next_res (k:=3) (t:=t) (l:=0) (c:=0) rfl rfl rfl (four_set Hf.out _ _ _ _)) rfl ⟨rfl,below_four hbx (Nat.le_refl _) _ _ _ _⟩
theorem next_notext (c:UInt8) (r:List UInt8) (hs:(c::r).length≤1000000000000) (h1:isGap c=false) (h2:c.toNat≠35) (h3:isLet c=false) (h4:isDig c=false) (h5:c.toNat=34) (hq:quotedR (c::r)=([],0)) (w:World) :
  Calls Tryz.prog 29 #[.string (bs (c::r))] w (TokRet 0 [] 0 3 w):=by
 have hpos:0<(c::r).length:=by simp
 have hG:=hid (gap_tells.is c false h1);have hL:=hid (letter_tells.is c false h3);have hD:=hid (digit_tells.is c false h4);have q2:((c.toNat:Int) == 35)=false:=eqF (by omega);have q5:((c.toNat:Int) == 34)=true:=eqT (by omega);have hQ:=hid (quoted_any (c::r) hs [] 0 hq);clear h1 h2 h3 h4 h5 hq;go_enter Tryz.func29,Tryz.ntmps29
 go_wp2_with fail;refine (hG.out _).mono ?_;rintro e wx ⟨rfl,rfl⟩;go_wp2_with fail;refine (hL.out _).mono ?_;rintro e wx ⟨rfl,rfl⟩;go_wp2_with fail;refine (hD.out _).mono ?_;rintro e wx ⟨rfl,rfl⟩;go_wp2_with fail;refine (hQ.out _).mono ?_;rintro e wy ⟨rfl,hb⟩;obtain ⟨hf,hfr,hbx,hlt⟩:=tok_below (hb.mono (by simp));have Hf:=hid hf;obtain ⟨k0,k1,k2,k3⟩:=hf;have g0:=hfr 0;have g1:=hfr 1;have g2:=hfr 2;have g3:=hfr 3;clear hb hfr;go_wp2_with fail;exact bodyPost_ret (next_res (k:=0) (t:=[]) (l:=0) (c:=0) rfl rfl rfl (four_set Hf.out _ _ _ _)) rfl ⟨rfl,below_four hbx (Nat.le_refl _) _ _ _ _⟩
theorem next_eqeq (c:UInt8) (r:List UInt8) (hs:(c::r).length≤1000000000000) (h1:isGap c=false) (h2:c.toNat≠35) (h3:isLet c=false) (h4:isDig c=false) (h5:c.toNat≠34) (h6:c.toNat=61) (h7:r.head? = some 61) (w:World) :
  Calls Tryz.prog 29 #[.string (bs (c::r))] w (TokRet 4 ((c::r).take 2) 2 0 w):=by
 have hpos:0<(c::r).length:=by simp
 have hG:=hid (gap_tells.is c false h1);have hL:=hid (letter_tells.is c false h3);have hD:=hid (digit_tells.is c false h4);have q2:((c.toNat:Int) == 35)=false:=eqF (by omega);have q5:((c.toNat:Int) == 34)=false:=eqF (by omega);have hP:=hid (pre_is c r 61 true (by simp [h6,h7]));have h2l:1≤r.length:=by cases r with | nil=>simp at h7 | cons d r=>simp
 have h2m:(2:Int)≤(r.length:Int)+1:=by omega
 have h2n:2≤r.length+1:=by omega
 clear h1 h2 h3 h4 h5 h6 h7;go_enter Tryz.func29,Tryz.ntmps29
 go_wp2_with fail;refine (hG.out _).mono ?_;rintro e wx ⟨rfl,rfl⟩;go_wp2_with fail;refine (hL.out _).mono ?_;rintro e wx ⟨rfl,rfl⟩;go_wp2_with fail;refine (hD.out _).mono ?_;rintro e wx ⟨rfl,rfl⟩;go_wp2_with fail;refine (hP.out _).mono ?_;rintro e wx ⟨rfl,rfl⟩;go_wp2_with fail;exact bodyPost_ret (next_res (k:=4) (t:=(c::r).take 2) (l:=0) (c:=0) rfl rfl rfl (four_new w _ _ _ _ _ _)) rfl ⟨rfl,(Below.refl _ _).alloc (Nat.le_refl _) _⟩
theorem next_noteq (c:UInt8) (r:List UInt8) (hs:(c::r).length≤1000000000000) (h1:isGap c=false) (h2:c.toNat≠35) (h3:isLet c=false) (h4:isDig c=false) (h5:c.toNat≠34) (h6:c.toNat=33) (h7:r.head? = some 61) (w:World) :
  Calls Tryz.prog 29 #[.string (bs (c::r))] w (TokRet 4 ((c::r).take 2) 2 0 w):=by
 have hpos:0<(c::r).length:=by simp
 have hG:=hid (gap_tells.is c false h1);have hL:=hid (letter_tells.is c false h3);have hD:=hid (digit_tells.is c false h4);have q2:((c.toNat:Int) == 35)=false:=eqF (by omega);have q5:((c.toNat:Int) == 34)=false:=eqF (by omega);have hP:=hid (pre_is c r 61 false (by simp [h6]));have hP2:=hid (pre_is c r 33 true (by simp [h6,h7]));have h2l:1≤r.length:=by cases r with | nil=>simp at h7 | cons d r=>simp
 have h2m:(2:Int)≤(r.length:Int)+1:=by omega
 have h2n:2≤r.length+1:=by omega
 clear h1 h2 h3 h4 h5 h6 h7;go_enter Tryz.func29,Tryz.ntmps29
 go_wp2_with fail;refine (hG.out _).mono ?_;rintro e wx ⟨rfl,rfl⟩;go_wp2_with fail;refine (hL.out _).mono ?_;rintro e wx ⟨rfl,rfl⟩;go_wp2_with fail;refine (hD.out _).mono ?_;rintro e wx ⟨rfl,rfl⟩;go_wp2_with fail;refine (hP.out _).mono ?_;rintro e wx ⟨rfl,rfl⟩;go_wp2_with fail;refine (hP2.out _).mono ?_;rintro e wx ⟨rfl,rfl⟩;go_wp2_with fail;exact bodyPost_ret (next_res (k:=4) (t:=(c::r).take 2) (l:=0) (c:=0) rfl rfl rfl (four_new w _ _ _ _ _ _)) rfl ⟨rfl,(Below.refl _ _).alloc (Nat.le_refl _) _⟩
theorem next_sign (c:UInt8) (r:List UInt8) (hs:(c::r).length≤1000000000000) (h1:isGap c=false) (h2:c.toNat≠35) (h3:isLet c=false) (h4:isDig c=false) (h5:c.toNat≠34) (h6:¬ ((c.toNat=61∨c.toNat=33)∧r.head? = some 61)) (h7:c ∈ signs) (w:World) :
  Calls Tryz.prog 29 #[.string (bs (c::r))] w (TokRet 4 [c] 1 0 w):=by
 have hpos:0<(c::r).length:=by simp
 have hG:=hid (gap_tells.is c false h1);have hL:=hid (letter_tells.is c false h3);have hD:=hid (digit_tells.is c false h4);have q2:((c.toNat:Int) == 35)=false:=eqF (by omega);have q5:((c.toNat:Int) == 34)=false:=eqF (by omega);have hP:=hid (pre_is c r 61 false (by rw [Bool.and_eq_false_iff];by_cases h:c.toNat=61;right;simpa using fun e=>h6 ⟨.inl h,e⟩;left;simpa using h));have hP2:=hid (pre_is c r 33 false (by rw [Bool.and_eq_false_iff];by_cases h:c.toNat=33;right;simpa using fun e=>h6 ⟨.inr h,e⟩;left;simpa using h));have hS:=hid (lex_sign_is c);have hv:0≤Lib.indexByte signs c:=(index_mem signs c).1.2 h7;generalize Lib.indexByte signs c=v at *;clear h1 h2 h3 h4 h5 h6 h7;go_enter Tryz.func29,Tryz.ntmps29
 go_wp2_with fail;refine (hG.out _).mono ?_;rintro e wx ⟨rfl,rfl⟩;go_wp2_with fail;refine (hL.out _).mono ?_;rintro e wx ⟨rfl,rfl⟩;go_wp2_with fail;refine (hD.out _).mono ?_;rintro e wx ⟨rfl,rfl⟩;go_wp2_with fail;refine (hP.out _).mono ?_;rintro e wx ⟨rfl,rfl⟩;go_wp2_with fail;refine (hP2.out _).mono ?_;rintro e wx ⟨rfl,rfl⟩;go_wp2_with fail;refine (hS.out _).mono ?_;rintro e wx ⟨rfl,rfl⟩;go_wp2_with fail;exact bodyPost_ret (next_res (k:=4) (t:=[c]) (l:=0) (c:=0) rfl rfl rfl (four_new w _ _ _ _ _ _)) rfl ⟨rfl,(Below.refl _ _).alloc (Nat.le_refl _) _⟩
theorem next_none (c:UInt8) (r:List UInt8) (hs:(c::r).length≤1000000000000) (h1:isGap c=false) (h2:c.toNat≠35) (h3:isLet c=false) (h4:isDig c=false) (h5:c.toNat≠34) (h6:¬ ((c.toNat=61∨c.toNat=33)∧r.head? = some 61)) (h7:c ∉ signs) (w:World) :
  Calls Tryz.prog 29 #[.string (bs (c::r))] w (TokRet 0 [] 0 3 w):=by
 have hpos:0<(c::r).length:=by simp
 have hG:=hid (gap_tells.is c false h1);have hL:=hid (letter_tells.is c false h3);have hD:=hid (digit_tells.is c false h4);have q2:((c.toNat:Int) == 35)=false:=eqF (by omega);have q5:((c.toNat:Int) == 34)=false:=eqF (by omega);have hP:=hid (pre_is c r 61 false (by rw [Bool.and_eq_false_iff];by_cases h:c.toNat=61;right;simpa using fun e=>h6 ⟨.inl h,e⟩;left;simpa using h));have hP2:=hid (pre_is c r 33 false (by rw [Bool.and_eq_false_iff];by_cases h:c.toNat=33;right;simpa using fun e=>h6 ⟨.inr h,e⟩;left;simpa using h));have hS:=hid (lex_sign_is c);have hv:¬ 0≤Lib.indexByte signs c:=fun h=>h7 ((index_mem signs c).1.1 h)
 generalize Lib.indexByte signs c=v at *;clear h1 h2 h3 h4 h5 h6 h7;go_enter Tryz.func29,Tryz.ntmps29
 go_wp2_with fail;refine (hG.out _).mono ?_;rintro e wx ⟨rfl,rfl⟩;go_wp2_with fail;refine (hL.out _).mono ?_;rintro e wx ⟨rfl,rfl⟩;go_wp2_with fail;refine (hD.out _).mono ?_;rintro e wx ⟨rfl,rfl⟩;go_wp2_with fail;refine (hP.out _).mono ?_;rintro e wx ⟨rfl,rfl⟩;go_wp2_with fail;refine (hP2.out _).mono ?_;rintro e wx ⟨rfl,rfl⟩;go_wp2_with fail;refine (hS.out _).mono ?_;rintro e wx ⟨rfl,rfl⟩;go_wp2_with fail;exact bodyPost_ret (next_res (k:=0) (t:=[]) (l:=0) (c:=0) rfl rfl rfl (four_new w _ _ _ _ _ _)) rfl ⟨rfl,(Below.refl _ _).alloc (Nat.le_refl _) _⟩
theorem next_any (c:UInt8) (r:List UInt8) (hs:(c::r).length≤1000000000000) (k:Nat) (t:List UInt8) (n e:Nat) (hp:pieceP (c::r)=(k,t,n,e)) (w:World) (hr:RangeAt w) :
  Calls Tryz.prog 29 #[.string (bs (c::r))] w (TokRet k t n e w):=by
 unfold pieceP at hp;simp only at hp;cases h1:isGap c with
 | true =>
   rw [if_pos h1] at hp;simp only [Prod.mk.injEq] at hp;obtain ⟨rfl,rfl,rfl,rfl⟩:=hp;exact next_gap c r hs h1 w
 | false =>
 rw [if_neg (by rw [h1];simp),piece_cons,if_neg (by rw [h1];simp)] at hp;by_cases h2:c.toNat=35
 ·rw [if_pos h2] at hp;simp only [Prod.mk.injEq] at hp;obtain ⟨rfl,rfl,rfl,rfl⟩:=hp;exact next_rem c r hs h1 h2 w
 rw [if_neg h2] at hp;cases h3:isLet c with
 | true =>
   rw [if_pos h3] at hp;simp only [Prod.mk.injEq] at hp;obtain ⟨rfl,rfl,rfl,rfl⟩:=hp;exact next_word c r hs h1 h2 h3 w
 | false =>
 rw [if_neg (by rw [h3];simp)] at hp;cases h4:isDig c with
 | true=>rw [if_pos h4] at hp;exact next_num c r hs h1 h2 h3 h4 k t n e hp w hr
 | false =>
 rw [if_neg (by rw [h4];simp)] at hp;by_cases h5:c.toNat=34
 ·rw [if_pos h5] at hp;cases e2:qGo r with
  | none =>
    rw [e2] at hp;simp only [Prod.mk.injEq] at hp;obtain ⟨rfl,rfl,rfl,rfl⟩:=hp;exact next_notext c r hs h1 h2 h3 h4 h5 (by unfold quotedR;show (match qGo r with | none=>_ | some x=>_)=_;rw [e2]) w
  | some x =>
    rw [e2] at hp;simp only [Prod.mk.injEq] at hp;obtain ⟨rfl,rfl,rfl,rfl⟩:=hp;exact next_text c r hs h1 h2 h3 h4 h5 x.1 (x.2+1) (by unfold quotedR;show (match qGo r with | none=>_ | some x=>_)=_;rw [e2]) (by omega) w
 rw [if_neg h5] at hp;by_cases h6:(c.toNat=61∨c.toNat=33)∧r.head? = some 61
 ·rw [if_pos h6] at hp;simp only [Prod.mk.injEq] at hp;obtain ⟨rfl,rfl,rfl,rfl⟩:=hp;have e2:(c::r).take 2=[c,61]:=by
   cases r with
   | nil=>simp at h6
   | cons d r=>have:d=61:=by simpa using h6.2
               subst this;rfl
  rw [← e2];rcases h6.1 with h | h
  ·exact next_eqeq c r hs h1 h2 h3 h4 h5 h h6.2 w
  ·exact next_noteq c r hs h1 h2 h3 h4 h5 h h6.2 w
 rw [if_neg h6] at hp;by_cases h7:c ∈ signs
 ·rw [if_pos h7] at hp;simp only [Prod.mk.injEq] at hp;obtain ⟨rfl,rfl,rfl,rfl⟩:=hp;exact next_sign c r hs h1 h2 h3 h4 h5 h6 h7 w
 ·rw [if_neg h7] at hp;simp only [Prod.mk.injEq] at hp;obtain ⟨rfl,rfl,rfl,rfl⟩:=hp;exact next_none c r hs h1 h2 h3 h4 h5 h6 h7 w
end Go.Proofs.YtfgiihpopngbkaaGreatDoor
namespace Go.Proofs.YtfgiihpopngbkaaGreatDoor
set_option maxRecDepth 100000
open Go.RowKit
open Nat renaming lt_of_lt_of_le→nL,le_trans→nT
def tokCells (l:List Tok):List Value:=l.flatMap fun t=>[.int .i64 t.1,.string (bs t.2.1),.int .i64 t.2.2.1,.int .i64 t.2.2.2]
theorem tokCells_len (fs:List Tok):(tokCells fs).length=fs.length * 4:=by
 induction fs with
 | nil=>rfl
 | cons f fs ih=>simp [tokCells] at ih ⊢;omega
theorem tokCells_app (a b:List Tok):tokCells (a++b)=tokCells a++tokCells b:=by simp [tokCells]
theorem tokCells_one (fs:List Tok):∀ u ∈ tokCells fs,u.oneCell'=true:=by
 intro u hu;simp only [tokCells,List.mem_flatMap] at hu;obtain ⟨f,_,hu⟩:=hu;simp only [List.mem_cons,List.not_mem_nil,or_false] at hu;rcases hu with rfl | rfl | rfl | rfl <;> rfl
theorem tokCells_get (fs:List Tok):∀ k (h:k<fs.length),(tokCells fs)[k * 4]? = some (.int .i64 fs[k].1)∧(tokCells fs)[k * 4+1]? = some (.string (bs fs[k].2.1))∧(tokCells fs)[k * 4+2]? = some (.int .i64 fs[k].2.2.1)∧(tokCells fs)[k * 4+3]? = some (.int .i64 fs[k].2.2.2):=by
 induction fs with
 | nil=>intro k h;simp at h
 | cons f fs ih =>
   intro k h;have e:tokCells (f::fs)=.int .i64 f.1::.string (bs f.2.1)::.int .i64 f.2.2.1::.int .i64 f.2.2.2::tokCells fs:=rfl;cases k with
   | zero=>rw [e];exact ⟨rfl,rfl,rfl,rfl⟩
   | succ k =>
     have:=ih k (by simpa using h);rw [e,show (k+1) * 4=k * 4+1+1+1+1 by omega];simpa using this
theorem SliceAt.toks {w:World} {v:Value} {n:Nat} {fs:List Tok} (h:SliceAt w 4 v n (tokCells fs)):n=fs.length∧∃ a c,v=.slice a fs.length c∧fs.length≤c∧c≤maxLen ∧
  (∀ k,k<fs.length→∃ b off,a=some ⟨b,off,none⟩∧b<w.heap.size∧∀ j (hj:j<fs.length),w.cell? ⟨b,off+j * 4,none⟩=some (.int .i64 fs[j].1)∧w.cell? ⟨b,off+j * 4+1,none⟩=some (.string (bs fs[j].2.1))∧w.cell? ⟨b,off+j * 4+2,none⟩=some (.int .i64 fs[j].2.2.1)∧w.cell? ⟨b,off+j * 4+3,none⟩=some (.int .i64 fs[j].2.2.2)):=by
 obtain ⟨hl,a,c,rfl,hc,hm,-,hx⟩:=h;have hn:n=fs.length:=by rw [tokCells_len] at hl;omega
 subst hn;refine ⟨rfl,a,c,rfl,hc,hm,fun k hk=>?_⟩;obtain ⟨b,off,rfl,hlt,hcell⟩:=hx (by intro e;have:=tokCells_len fs;rw [e] at this;simp at this;omega);refine ⟨b,off,rfl,hlt,fun j hj=>?_⟩;have hg:=tokCells_get fs j hj;exact ⟨hcell _ _ hg.1,by rw [Nat.add_assoc];exact hcell _ _ hg.2.1,by rw [Nat.add_assoc];exact hcell _ _ hg.2.2.1,by rw [Nat.add_assoc];exact hcell _ _ hg.2.2.2⟩
theorem tok_info:(Tryz.prog.info? 46).map (fun i=>(i.zero,i.size,i.bytes))=some (some (.agg #[.int .i64 0,.string ⟨#[]⟩,.int .i64 0,.int .i64 0]),4,40):=by kernel_rfl
theorem one_tok (W:World) (t:Tok):SliceAt (W.alloc (.cells #[.int .i64 t.1,.string (bs t.2.1),.int .i64 t.2.2.1,.int .i64 t.2.2.2] 46)) 4 (.slice (some ⟨W.heap.size,0,none⟩) 1 1) 1 (tokCells [t]) :=
 ⟨rfl,_,1,rfl,Nat.le_refl _,by unfold maxLen;omega,fun h=>(by cases h),fun _=>⟨W.heap.size,0,rfl,by simp,fun j u hu=>by rw [Nat.zero_add,World.cell?_alloc_mark];simpa [tokCells] using hu⟩⟩
theorem pieceP_err {c:UInt8} {r t:List UInt8} {k n e:Nat} (h:pieceP (c::r)=(k,t,n,e)) (he:e≠0) (p:Pl):lexL p (c::r)=([],e,p):=by
 unfold pieceP at h;simp only at h;by_cases h1:isGap c=true
 ·rw [if_pos h1] at h;simp only [Prod.mk.injEq] at h;omega
 ·rw [if_neg h1] at h;exact lex_bad h he
theorem pieceP_ok {c:UInt8} {r t:List UInt8} {k n:Nat} (h:pieceP (c::r)=(k,t,n,0)) (p:Pl) :
  (1≤n∧n≤(c::r).length∧t.length≤n)∧lexL p (c::r)=finT (if k=0 then [] else [(k,t,p)]) (lexL (advs p ((c::r).take n)) ((c::r).drop n)):=by
 unfold pieceP at h;simp only at h;by_cases h1:isGap c=true
 ·rw [if_pos h1] at h;simp only [Prod.mk.injEq] at h;obtain ⟨rfl,rfl,rfl,-⟩:=h;have:=run_le isGap (c::r);refine ⟨⟨by rw [run_cons h1];omega,this,by simp⟩,?_⟩;rw [if_pos rfl,finT_nil];exact lex_gaps p
 ·rw [if_neg h1] at h;exact ⟨piece_size h,lex_piece h⟩
theorem advs_le (p:Pl):∀ s:List UInt8,(advs p s).1≤p.1+s.length∧(advs p s).2≤p.2+s.length+1
 | []=>by simp [advs]
 | c::s=>by
   have ih:=advs_le (adv p c) s;rw [advs_cons];unfold adv at ih ⊢;split at ih
   ·rename_i h;rw [if_pos h];simp at ih ⊢;omega
   ·rename_i h;rw [if_neg h];simp at ih ⊢;omega
def Within (p:Pl) (k:Nat):Prop:=p.1≤k+1∧p.2≤k+2
theorem within_at (s:List UInt8):Within (advs (1,1) s) s.length:=by
 have:=advs_le (1,1) s;unfold Within;simp at this;omega
end Go.Proofs.YtfgiihpopngbkaaGreatDoor
