/- Lemmas and walks that the statement needs: MayText, AllExpr, AllArg, AllStmt, MayE, MayD. -/
import Derived.Test.YtfgiihpopngbkaaGreatDoorM06
import Derived.Test.YtfgiihpopngbkaaGreatDoorM12
import Derived.Test.YtfgiihpopngbkaaGreatDoorM03
import Derived.Test.YtfgiihpopngbkaaGreatDoorM01
import Derived.Shelf.Strconv.ErrVarParseInt
import Derived.Lib.ItoaLen
import Derived.Test.YtfgiihpopngbkaaGreatDoorM05
import Derived.Test.YtfgiihpopngbkaaGreatDoorM08
namespace Go.Proofs.YtfgiihpopngbkaaGreatDoor
set_option maxRecDepth 100000
open Go.RowKit
open Nat renaming lt_of_lt_of_le→nL,le_trans→nT
def numB (s:List UInt8):Bool:=(intL s).2 && decide (0≤(intL s).1)
theorem dig_head:∀ (k u:Nat),u≤k→10≤u→∃ c r,dig u=c::r∧c≠48
 | 0,u,h,h10=>by omega
 | k+1,u,h,h10=>by
   rw [dig_ge (by omega)];by_cases hu:u / 10<10
   ·rw [dig_lt hu];refine ⟨_,_,rfl,fun e=>?_⟩;have:=ofNat48 hu;rw [e] at this;simp at this;omega
   ·obtain ⟨c,r,e,hc⟩:=dig_head k (u / 10) (by omega) (by omega);exact ⟨c,r++_,by rw [e];rfl,hc⟩
theorem dig_of (n:Nat):∀ (s:List UInt8),s.length=n→s≠[]→s.all isDig=true→¬ (1<s.length∧s.head? = some 48)→dig (valD 0 s)=s:=by
 induction n with
 | zero=>intro s h hne;exact absurd (List.length_eq_zero_iff.1 h) hne
 | succ n ih =>
   intro s h hne ha hz;obtain ⟨t,c,rfl⟩:∃ t c,s=t++[c]:=⟨s.dropLast,s.getLast hne,(List.dropLast_concat_getLast hne).symm⟩;rw [List.all_append,Bool.and_eq_true] at ha;have hc:isDig c=true:=by have:=ha.2;simpa using this
   have hcd:48≤c.toNat∧c.toNat≤57:=by simp [isDig] at hc;omega
   have ec:UInt8.ofNat (48+(c.toNat - 48))=c:=by rw [show 48+(c.toNat - 48)=c.toNat by omega];exact UInt8.ofNat_toNat
   rw [valD_append];show dig (10 * valD 0 t+(c.toNat - 48))=_;by_cases ht:t=[]
   ·subst ht;show dig (10 * 0+_)=_;rw [Nat.mul_zero,Nat.zero_add,dig_lt (by omega),ec];rfl
   ·have hh:t.head?≠some 48:=fun e=>hz ⟨by rw [List.length_append];have:=List.length_pos_iff.2 ht;simp;omega,by rw [List.head?_append,e];rfl⟩
    have e:=ih t (by simpa using h) ht ha.1 (fun h=>hh h.2);have h1:1≤valD 0 t:=by
     rcases Nat.eq_zero_or_pos (valD 0 t) with h0 | h0
     ·rw [h0,dig_lt (by omega)] at e;rw [← e] at hh;exact absurd rfl hh
     ·exact h0
    rw [dig_ge (by omega),show (10 * valD 0 t+(c.toNat - 48)) / 10=valD 0 t by omega,e,show (10 * valD 0 t+(c.toNat - 48)) % 10=c.toNat - 48 by omega,ec]
theorem num_tok {s:List UInt8} (h:numB s=true):TokK 2 s:=by
 unfold numB at h;simp only [Bool.and_eq_true,decide_eq_true_eq] at h;obtain ⟨e,-,h2⟩:=intL_true h.1;obtain ⟨u,hu⟩:=Int.eq_ofNat_of_zero_le h.2;rw [hu] at e h2;rw [itoa_nat] at e;rw [← e];have h3:=dig_all u u (Nat.le_refl _);have h4:=dig_val u u (Nat.le_refl _);have h5:¬ (1<(dig u).length∧(dig u).head? = some 48):=by
  rintro ⟨a,b⟩;by_cases h10:u<10
  ·rw [dig_lt h10] at a;simp at a
  ·obtain ⟨c,r,e,hc⟩:=dig_head u u (Nat.le_refl _) (by omega);rw [e] at b;simp at b;exact hc b
 cases hd:dig u with
 | nil=>exact absurd hd (dig_ne u)
 | cons c r =>
   rw [hd] at h3 h4 h5;unfold allDig at h3;exact .num (by simp only [List.all_cons,Bool.and_eq_true] at h3;exact h3.1) h3 (fun h=>h5 ⟨h.1,by rw [h.2];rfl⟩) (by rw [h4];omega)
theorem num_len {s:List UInt8} (h:numB s=true):s.length≤65536:=by
 unfold numB at h;simp only [Bool.and_eq_true] at h;obtain ⟨e,h1,h2⟩:=intL_true h.1;have:=Lib.itoa_length_le _ h1 h2;rw [e] at this;omega
theorem num_one (s:List UInt8):numB s=oneT 2 s:=by
 rw [Bool.eq_iff_iff];constructor
 ·intro h;exact tok_oneT (num_tok h) (.inr rfl) (num_len h)
 ·intro h;have ht:=oneT_tok h;cases ht with
  | @num c r h1 h2 h3 h4 =>
    have e:=dig_of _ (c::r) rfl (by simp) h2 (fun ⟨a,b⟩=>h3 ⟨a,by simpa using b⟩);have hi:=intL_itoa (v:=((valD 0 (c::r):Nat):Int)) (by omega) (by omega);rw [itoa_nat,e] at hi;unfold numB;rw [hi];simp
def ErrsAt (w:World):Prop:=(∃ t p,w.var? Tryz.prog "strconv.ErrSyntax"=some #[.iface t p])∧∃ t p,w.var? Tryz.prog "strconv.ErrRange"=some #[.iface t p]
structure Laid (w:World):Prop where
 range:RangeAt w
 errs:ErrsAt w
 pow:PowTab w
theorem ErrsAt.below {w w':World} (h:ErrsAt w) (hb:Below w.heap.size w w'):ErrsAt w':=by
 obtain ⟨⟨t,p,h1⟩,t2,p2,h2⟩:=h;exact ⟨⟨t,p,var?_kept h1 hb⟩,t2,p2,var?_kept h2 hb⟩
theorem Laid.below {w w':World} (h:Laid w) (hb:Below w.heap.size w w'):Laid w':=⟨h.range.below hb,h.errs.below hb,h.pow.below hb⟩
def BadNum (w:World) (e:Ending) (w':World):Prop:=∃ n t p,e=.returned (.tuple #[.int .i64 n,.iface t p])∧Below w.heap.size w w'
theorem parse_bad (l:List UInt8) (hl:l.length≤281474976710656) (w:World) (he:ErrsAt w) (h:∀ v,Lib.parseIntB 64 l≠.ok v) :
  Calls Tryz.prog 110 #[.string (bs l),.int .i64 10,.int .i64 64] w (BadNum w):=by
 obtain ⟨⟨t,p,h1⟩,t2,p2,h2⟩:=he;cases e:Lib.parseIntB 64 l with
 | ok v=>exact absurd e (h v)
 | range =>
   refine (Any.strconv_ParseInt_10_at64_range_var Tryz.laysC174 (bs l) hl e t2 p2 w h2).mono ?_;rintro e w' ⟨N,rfl,-,-,hb⟩;exact ⟨_,_,_,rfl,hb⟩
 | _ =>
   refine (Any.strconv_ParseInt_10_at64_syntax_var Tryz.laysC174 (bs l) hl e t p w h1).mono ?_;rintro e w' ⟨N,rfl,-,-,hb⟩;exact ⟨_,_,_,rfl,hb⟩
set_option maxHeartbeats 1000000 in
theorem isNumber_any (l:List UInt8) (hl:l.length≤140737488351232) (w:World) (hw:Laid w) :
  Calls Tryz.prog 73 #[.string (bs l)] w fun e w'=>e=.returned (.bool (oneT 2 l))∧Below w.heap.size w w':=by
 rw [← num_one];by_cases hv:∃ v0,Lib.parseIntB 64 l=.ok v0
 ·obtain ⟨v0,hv⟩:=hv;have hb:=parse_bounds hv;have Hc:Calls Tryz.prog 110 #[.string (bs l),.int .i64 10,.int .i64 64] w fun e w'=>e=.returned (.tuple #[.int .i64 v0,.nilIface])∧Below w.heap.size w w':=by
   refine (Tryz.strconv_ParseInt_10_at64_ok (bs l) (by rw [bs_size];omega) v0 hv w).mono ?_;rintro e w' ⟨rfl,rfl | ⟨t,rfl⟩⟩
   ·exact ⟨rfl,Below.refl _ _⟩
   ·exact ⟨rfl,Lib.bytesWorld_below _ _ _⟩
  have HC:=hid Hc;have Hn:=hid (fun W (hW:PowTab W)=>(Tryz.strconv_FormatInt_10 v0 hb.1 hb.2 W hW).mono (R':=fun e w'=>e=.returned (.string (bs (Lib.itoa v0)))∧Below W.heap.size W w') (by rintro e w' ⟨rfl,k,os,rfl⟩;exact ⟨rfl,grow_below W k os⟩));have HP:=hid hw.pow;have HO:Hid (numB l=(decide (0≤v0) && (Lib.itoa v0 == l))):=hid (by
   unfold numB intL;rw [hv];simp only;split <;> rename_i e <;> simp [e])
  clear Hc hv hw hb;by_cases h0:0≤v0
  ·have hd:decide (0≤v0)=true:=decide_eq_true h0;go_enter Tryz.func73,Tryz.ntmps73
   go_wp2_with fail;refine HC.out.mono ?_;rintro e w1 ⟨rfl,hb1⟩;go_wp2_with fail;refine (Hn.out _ (HP.out.below hb1)).mono ?_;rintro e w2 ⟨rfl,hb2⟩;have HB:=hid (Below.chain hb1 hb2);clear hb1 hb2;cases q:(Lib.itoa v0 == l) with
   | true =>
     go_wp2_with fail;go_ret;exact ⟨by rw [HO.out,hd,q];rfl,HB.out⟩
   | false =>
     go_wp2_with fail;go_ret;exact ⟨by rw [HO.out,hd,q];rfl,HB.out⟩
  ·have hd:decide (0≤v0)=false:=decide_eq_false h0;go_enter Tryz.func73,Tryz.ntmps73
   go_wp2_with fail;refine HC.out.mono ?_;rintro e w1 ⟨rfl,hb1⟩;go_wp2_with fail;go_ret;exact ⟨by rw [HO.out,hd];rfl,hb1⟩
 ·have hn:∀ v,Lib.parseIntB 64 l≠.ok v:=fun v e=>hv ⟨v,e⟩
  have HC:=hid (parse_bad l (by omega) w hw.errs hn);have e0:Hid (numB l=false):=hid (by
   unfold numB intL;cases e:Lib.parseIntB 64 l with
   | ok v=>exact absurd e (hn v)
   | _=>rfl)
  clear hv hn;go_enter Tryz.func73,Tryz.ntmps73
  go_wp2_with fail;refine HC.out.mono ?_;rintro e w1 ⟨n,t,p,rfl,hb1⟩;go_wp2_with fail;go_ret;exact ⟨by rw [e0.out];rfl,hb1⟩
set_option maxHeartbeats 1000000 in
theorem isWord_any (s:List UInt8) (hs:s.length≤140737488351232) (w:World) (hr:RangeAt w) :
  Calls Tryz.prog 71 #[.string (bs s)] w fun e w'=>e=.returned (.bool (oneT 1 s))∧Below w.heap.size w w':=by
 obtain ⟨l,e,⟨p,q⟩,hx⟩:∃ l e pq,allT s=(l,e,pq):=⟨_,_,_,rfl⟩;have HA:=hid (all_is s hs hx w hr);have HO:Hid (oneT 1 s=(decide (e=0) && decide (bare l=[(1,s)]))):=hid (by unfold oneT;rw [hx]);clear hx hr;go_enter Tryz.func71,Tryz.ntmps71
 go_wp2_with fail;refine HA.out.mono ?_;rintro E w2 ⟨v,rfl,hv,hb2⟩;clear HA;obtain ⟨-,a,c,rfl,hc,hm,hcell⟩:=hv.toks;have HB:=hid (fun o=>Below.chain hb2 (below_new w2 o));clear hb2 hv;by_cases he:e=0
 ·have qe:((e:Int) == 0)=true:=eqT (by omega);by_cases h1:l.length=1
  ·have ql:((l.length:Int) == 1)=true:=eqT (by omega);obtain ⟨b,off,rfl,hb,hc4⟩:=hcell 0 (by omega);obtain ⟨k0,k1,-,-⟩:=hc4 0 (by omega);obtain ⟨t,ht⟩:∃ t,l=[t]:=by
    match l,h1 with
    | [t],_=>exact ⟨t,rfl⟩
   have hg:l[0]=t:=by subst ht;rfl
   rw [hg] at k0 k1;rw [Nat.zero_mul,Nat.add_zero] at k0 k1;have hlp:(0:Int)<(l.length:Int):=by omega
   replace HO:=hid (show oneT 1 s=((t.1 == 1) && (t.2.1 == s)) by
    rw [HO.out,ht,he];show (decide (0=0) && decide ([(t.1,t.2.1)]=[(1,s)]))=_;rw [Bool.eq_iff_iff];simp)
   clear hc4 hcell ht hg;cases q1:((t.1:Int) == 1) with
   | false =>
     have e1:(t.1 == 1)=false:=by have:=q1;simp at this ⊢;omega
     go_wp2_with fail;go_ret;exact ⟨by rw [HO.out,e1];rfl,HB.out _⟩
   | true =>
     have e1:(t.1 == 1)=true:=by have:=q1;simp at this ⊢;omega
     cases q2:(t.2.1 == s) with
     | true =>
       go_wp2_with fail;go_ret;exact ⟨by rw [HO.out,e1,q2];rfl,HB.out _⟩
     | false =>
       go_wp2_with fail;go_ret;exact ⟨by rw [HO.out,e1,q2];rfl,HB.out _⟩
  ·have ql:((l.length:Int) == 1)=false:=eqF (by omega);have hf:oneT 1 s=false:=by
    rw [HO.out,he];have:bare l≠[(1,s)]:=fun e=>h1 (by have:=congrArg List.length e;simpa [bare] using this)
    rw [decide_eq_false this];rfl
   have HF:=hid hf;clear hf HO hcell;go_wp2_with fail;go_ret;exact ⟨by rw [HF.out];rfl,HB.out _⟩
 ·have qe:((e:Int) == 0)=false:=eqF (by omega);have HF:=hid (show oneT 1 s=false by rw [HO.out,decide_eq_false he];rfl);clear HO hcell;go_wp2_with fail;go_ret;exact ⟨by rw [HF.out];rfl,HB.out _⟩
theorem isName_any (s:List UInt8) (hs:s.length≤140737488351232) (w:World) (hr:RangeAt w) :
  Calls Tryz.prog 37 #[.string (bs s)] w fun e w'=>e=.returned (.bool (nameS s))∧Below w.heap.size w w':=by
 have HW:=hid (isWord_any s hs w hr);have HR:=hid (fun W=>reserved_any s W);have HO:Hid (nameS s=(oneT 1 s && !reservedB s)):=hid rfl;have hnot:∀ (x:Bool) (w:World),(Op.unary .not (.bool x)).run Tryz.prog w=.ok (.bool (!x)) w:=fun _ _=>rfl
 generalize oneT 1 s=b1 at *;generalize reservedB s=b2 at *;clear hr;cases b1 with
 | false =>
   go_enter Tryz.func37,Tryz.ntmps37
   go_wp2_with fail;refine HW.out.mono ?_;rintro e w1 ⟨rfl,hb1⟩;go_wp2_with fail;go_ret;exact ⟨by rw [HO.out];rfl,hb1⟩
 | true =>
   go_enter Tryz.func37,Tryz.ntmps37
   go_wp2_with fail;refine HW.out.mono ?_;rintro e w1 ⟨rfl,hb1⟩;go_wp2_with fail;refine (HR.out _).mono ?_;rintro e w2 ⟨rfl,hb2⟩;go_wp2_with fail;go_ret;exact ⟨by rw [HO.out];rfl,Below.chain hb1 hb2⟩
set_option maxHeartbeats 1000000 in
theorem not_mayExpr (x:NM) (b:Bool) (bx:Nat) (w:World) (hb:w.heap[bx]? = some (.cells #[.func (.func 38) #[] #[]] 60 (0,0))) (h:∀ W,Below w.heap.size w W→Calls Tryz.prog 38 #[x.val] W fun e w'=>e=.returned (.bool b)∧Below W.heap.size W w') :
  Calls Tryz.prog 36 #[x.val,.pointer (some ⟨bx,0,none⟩)] w fun e w'=>e=.returned (.bool (!b))∧Below w.heap.size w w':=by
 cases x with
 | mk k t l c ks a m =>
 have q:w.cell? ⟨bx,0,none⟩=some (.func (.func 38) #[] #[]):=cell_of_row w bx 0 _ _ _ hb;have hnot:∀ (x:Bool) (w:World),(Op.unary .not (.bool x)).run Tryz.prog w=.ok (.bool (!x)) w:=fun _ _=>rfl
 have H:=hid (h _ (below_new w (.cells #[.int .i64 k,.string (bs t),.int .i64 l,.int .i64 c,.slice a ks.length m] 27)));have hlt:bx<w.heap.size:=(Array.getElem?_eq_some_iff.1 hb).1;clear h hb;change Calls _ _ #[nodeV k t l c (.slice a ks.length m),_] _ _;change Hid (Calls _ _ #[nodeV k t l c (.slice a ks.length m)] _ _) at H;go_enter Tryz.func36,Tryz.ntmps36
 go_wp2_with fail;refine H.out.mono ?_;rintro e w1 ⟨rfl,hb1⟩;go_wp2_with fail;go_ret;exact ⟨rfl,Below.chain (below_new w _) hb1⟩
set_option maxHeartbeats 1000000 in
theorem index_mayExpr (p:NM→Bool) (v:Value) (ks:List NM) (bx:Nat) (w:World) (hl:KidsAt w v ks) (hlen:ks.length≤10000000) (hb:w.heap[bx]? = some (.cells #[.func (.func 38) #[] #[]] 60 (0,0)))
  (h:∀ j (hj:j<ks.length) W,Below w.heap.size w W→Calls Tryz.prog 38 #[ks[j].val] W fun e w'=>e=.returned (.bool (p ks[j]))∧Below W.heap.size W w') :
  Calls Tryz.prog 70 #[v,.func (.func 36) #[] #[.pointer (some ⟨bx,0,none⟩)]] w fun e w'=>(∃ r:Int,e=.returned (.int .i64 r)∧((ks.all p=true∧r=-1)∨(ks.all p=false∧∃ n:Nat,r=n)))∧Below w.heap.size w w':=by
 have HS:=hid (fun W (hW:Below w.heap.size w W)=>hl.below hW);have HC:=hid (fun j (hj:j<ks.length) W (hW:Below w.heap.size w W)=>not_mayExpr ks[j] (p ks[j]) bx W ((hW.block bx (Array.getElem?_eq_some_iff.1 hb).1).trans hb) (fun W' hW'=>h j hj W' (Below.chain hW hW')));obtain ⟨la,lc,rfl,hlc,hlm,-⟩:=hl.nodes;unfold maxLen at hlm;clear hl h hb;go_enter Tryz.func70,Tryz.ntmps70
 go_wp2_with fail;go_loopw [8] (fun i wr=>∃ j:Nat,j≤ks.length∧i=.int .i64 j∧Below w.heap.size w wr∧Hid ((ks.take j).all p=true)) (fun i _=>ks.length - (intOf i).toNat)
 case atStart=>exact ⟨0,by omega,rfl,Below.refl _ _,hid rfl⟩
 case round =>
  obtain ⟨j,hj,rfl,hbw,HA⟩:=hrel;have hsz:=hbw.size;by_cases hlt:j<ks.length
  ·have hd:decide (j<ks.length)=true:=decide_eq_true hlt;obtain ⟨la',lc',hv,-,-,hx⟩:=(HS.out _ hbw).nodes;obtain ⟨lb,lo,rfl,hlb,hcl⟩:=hx j hlt;obtain ⟨rfl,rfl⟩:la=some ⟨lb,lo,none⟩∧lc=lc':=by simpa using hv
   have hfc:=hcl j hlt;have HCj:=hid (HC.out j hlt _ hbw);have HN:=hid (show (ks.take (j+1)).all p=((ks.take j).all p && p ks[j]) by rw [List.take_succ_eq_append_getElem hlt,List.all_append];simp);have HF:=hid (fun hp:p ks[j]=false=>(show ks.all p=false by
    cases e:ks.all p with
    | false=>rfl
    | true=>rw [List.all_eq_true.1 e ks[j] (List.getElem_mem hlt)] at hp;cases hp))
   generalize ks[j]=x at *;cases x with
   | mk k t l c kk a m =>
   generalize p (.mk k t l c kk a m)=pb at *;change Hid (Calls _ _ #[nodeV k t l c (.slice a kk.length m),_] _ _) at HCj;obtain ⟨c0,c1,c2,c3,c4⟩:=hfc;replace c0:wr.cell? ⟨lb,lo+j * 5,none⟩=some (.int .i64 k):=c0;replace c1:wr.cell? ⟨lb,lo+j * 5+1,none⟩=some (.string (bs t)):=c1;replace c2:wr.cell? ⟨lb,lo+j * 5+2,none⟩=some (.int .i64 l):=c2;replace c3:wr.cell? ⟨lb,lo+j * 5+3,none⟩=some (.int .i64 c):=c3;replace c4:wr.cell? ⟨lb,lo+j * 5+4,none⟩=some (.slice a kk.length m):=c4;clear hcl hx hv;go_wp2_with fail;refine HCj.out.mono ?_;rintro e w1 ⟨rfl,hb1⟩;cases pb with
   | false =>
     go_wp2_with fail;go_ret;exact ⟨⟨_,rfl,.inr ⟨HF.out (by simp),j,rfl⟩⟩,Below.chain hbw hb1⟩
   | true =>
     go_wp2_with fail
     go_round
     case rel=>exact ⟨j+1,by omega,by go_num,Below.chain hbw hb1,hid (by rw [HN.out,HA.out];rfl)⟩
     case measure=>simp [intOf];omega
  ·have hd:decide (j<ks.length)=false:=decide_eq_false hlt;have HT:=hid (show ks.all p=true by have:=HA.out;rwa [List.take_of_length_le (by omega)] at this);go_wp2_with fail;go_ret;exact ⟨⟨_,rfl,.inl ⟨HT.out,rfl⟩⟩,hbw⟩
set_option maxHeartbeats 1000000 in
theorem all_mayExpr (p:NM→Bool) (v:Value) (ks:List NM) (w:World) (hl:KidsAt w v ks) (hlen:ks.length≤10000000)
  (h:∀ j (hj:j<ks.length) W,Below w.heap.size w W→Calls Tryz.prog 38 #[ks[j].val] W fun e w'=>e=.returned (.bool (p ks[j]))∧Below W.heap.size W w') :
  Calls Tryz.prog 22 #[v,.func (.func 38) #[] #[]] w fun e w'=>e=.returned (.bool (ks.all p))∧Below w.heap.size w w':=by
 have hnot:∀ (x:Bool) (w:World),(Op.unary .not (.bool x)).run Tryz.prog w=.ok (.bool (!x)) w:=fun _ _=>rfl
 have hmf:∀ (fn:Fn) (first cap:Array Value) (w:World),(Instr.makeFunc fn first cap).run Tryz.prog w=.ok (.func fn first cap) w:=fun _ _ _ _=>rfl
 have hb0:=below_new w (.cells #[.func (.func 38) #[] #[]] 60);have HI:=hid (index_mayExpr p v ks w.heap.size _ (hl.below hb0) hlen (heap_alloc_new w (.cells #[.func (.func 38) #[] #[]] 60)) (fun j hj W hW=>h j hj W (Below.chain hb0 hW)));obtain ⟨la,lc,rfl,-,-,-⟩:=hl.nodes;clear hl h hb0;go_enter Tryz.func22,Tryz.ntmps22
 go_wp2_with fail;go_enter Tryz.func35,Tryz.ntmps35
 go_wp2_with fail;refine HI.out.mono ?_;rintro e w1 ⟨⟨r,rfl,hr⟩,hb1⟩;rcases hr with ⟨ha,rfl⟩ | ⟨ha,n,rfl⟩
 ·have HA:=hid ha;clear ha;go_wp2_with fail;go_ret;exact ⟨by rw [HA.out];rfl,Below.chain (below_new w _) hb1⟩
 ·have HA:=hid ha;clear ha;have hn:(0:Int)≤(n:Int):=by omega
  go_wp2_with fail;go_ret;exact ⟨by rw [HA.out];rfl,Below.chain (below_new w _) hb1⟩
set_option maxHeartbeats 1000000 in
theorem not_mayArg (x:NM) (b:Bool) (bx:Nat) (w:World) (hb:w.heap[bx]? = some (.cells #[.func (.func 74) #[] #[]] 60 (0,0))) (h:∀ W,Below w.heap.size w W→Calls Tryz.prog 74 #[x.val] W fun e w'=>e=.returned (.bool b)∧Below W.heap.size W w') :
  Calls Tryz.prog 36 #[x.val,.pointer (some ⟨bx,0,none⟩)] w fun e w'=>e=.returned (.bool (!b))∧Below w.heap.size w w':=by
 cases x with
 | mk k t l c ks a m =>
 have q:w.cell? ⟨bx,0,none⟩=some (.func (.func 74) #[] #[]):=cell_of_row w bx 0 _ _ _ hb;have hnot:∀ (x:Bool) (w:World),(Op.unary .not (.bool x)).run Tryz.prog w=.ok (.bool (!x)) w:=fun _ _=>rfl
 have H:=hid (h _ (below_new w (.cells #[.int .i64 k,.string (bs t),.int .i64 l,.int .i64 c,.slice a ks.length m] 27)));have hlt:bx<w.heap.size:=(Array.getElem?_eq_some_iff.1 hb).1;clear h hb;change Calls _ _ #[nodeV k t l c (.slice a ks.length m),_] _ _;change Hid (Calls _ _ #[nodeV k t l c (.slice a ks.length m)] _ _) at H;go_enter Tryz.func36,Tryz.ntmps36
 go_wp2_with fail;refine H.out.mono ?_;rintro e w1 ⟨rfl,hb1⟩;go_wp2_with fail;go_ret;exact ⟨rfl,Below.chain (below_new w _) hb1⟩
set_option maxHeartbeats 1000000 in
theorem index_mayArg (p:NM→Bool) (v:Value) (ks:List NM) (bx:Nat) (w:World) (hl:KidsAt w v ks) (hlen:ks.length≤10000000) (hb:w.heap[bx]? = some (.cells #[.func (.func 74) #[] #[]] 60 (0,0)))
  (h:∀ j (hj:j<ks.length) W,Below w.heap.size w W→Calls Tryz.prog 74 #[ks[j].val] W fun e w'=>e=.returned (.bool (p ks[j]))∧Below W.heap.size W w') :
  Calls Tryz.prog 70 #[v,.func (.func 36) #[] #[.pointer (some ⟨bx,0,none⟩)]] w fun e w'=>(∃ r:Int,e=.returned (.int .i64 r)∧((ks.all p=true∧r=-1)∨(ks.all p=false∧∃ n:Nat,r=n)))∧Below w.heap.size w w':=by
 have HS:=hid (fun W (hW:Below w.heap.size w W)=>hl.below hW);have HC:=hid (fun j (hj:j<ks.length) W (hW:Below w.heap.size w W)=>not_mayArg ks[j] (p ks[j]) bx W ((hW.block bx (Array.getElem?_eq_some_iff.1 hb).1).trans hb) (fun W' hW'=>h j hj W' (Below.chain hW hW')));obtain ⟨la,lc,rfl,hlc,hlm,-⟩:=hl.nodes;unfold maxLen at hlm;clear hl h hb;go_enter Tryz.func70,Tryz.ntmps70
 go_wp2_with fail;go_loopw [8] (fun i wr=>∃ j:Nat,j≤ks.length∧i=.int .i64 j∧Below w.heap.size w wr∧Hid ((ks.take j).all p=true)) (fun i _=>ks.length - (intOf i).toNat)
 case atStart=>exact ⟨0,by omega,rfl,Below.refl _ _,hid rfl⟩
 case round =>
  obtain ⟨j,hj,rfl,hbw,HA⟩:=hrel;have hsz:=hbw.size;by_cases hlt:j<ks.length
  ·have hd:decide (j<ks.length)=true:=decide_eq_true hlt;obtain ⟨la',lc',hv,-,-,hx⟩:=(HS.out _ hbw).nodes;obtain ⟨lb,lo,rfl,hlb,hcl⟩:=hx j hlt;obtain ⟨rfl,rfl⟩:la=some ⟨lb,lo,none⟩∧lc=lc':=by simpa using hv
   have hfc:=hcl j hlt;have HCj:=hid (HC.out j hlt _ hbw);have HN:=hid (show (ks.take (j+1)).all p=((ks.take j).all p && p ks[j]) by rw [List.take_succ_eq_append_getElem hlt,List.all_append];simp);have HF:=hid (fun hp:p ks[j]=false=>(show ks.all p=false by
    cases e:ks.all p with
    | false=>rfl
    | true=>rw [List.all_eq_true.1 e ks[j] (List.getElem_mem hlt)] at hp;cases hp))
   generalize ks[j]=x at *;cases x with
   | mk k t l c kk a m =>
   generalize p (.mk k t l c kk a m)=pb at *;change Hid (Calls _ _ #[nodeV k t l c (.slice a kk.length m),_] _ _) at HCj;obtain ⟨c0,c1,c2,c3,c4⟩:=hfc;replace c0:wr.cell? ⟨lb,lo+j * 5,none⟩=some (.int .i64 k):=c0;replace c1:wr.cell? ⟨lb,lo+j * 5+1,none⟩=some (.string (bs t)):=c1;replace c2:wr.cell? ⟨lb,lo+j * 5+2,none⟩=some (.int .i64 l):=c2;replace c3:wr.cell? ⟨lb,lo+j * 5+3,none⟩=some (.int .i64 c):=c3;replace c4:wr.cell? ⟨lb,lo+j * 5+4,none⟩=some (.slice a kk.length m):=c4;clear hcl hx hv;go_wp2_with fail;refine HCj.out.mono ?_;rintro e w1 ⟨rfl,hb1⟩;cases pb with
   | false =>
     go_wp2_with fail;go_ret;exact ⟨⟨_,rfl,.inr ⟨HF.out (by simp),j,rfl⟩⟩,Below.chain hbw hb1⟩
   | true =>
     go_wp2_with fail
     go_round
     case rel=>exact ⟨j+1,by omega,by go_num,Below.chain hbw hb1,hid (by rw [HN.out,HA.out];rfl)⟩
     case measure=>simp [intOf];omega
  ·have hd:decide (j<ks.length)=false:=decide_eq_false hlt;have HT:=hid (show ks.all p=true by have:=HA.out;rwa [List.take_of_length_le (by omega)] at this);go_wp2_with fail;go_ret;exact ⟨⟨_,rfl,.inl ⟨HT.out,rfl⟩⟩,hbw⟩
set_option maxHeartbeats 1000000 in
theorem all_mayArg (p:NM→Bool) (v:Value) (ks:List NM) (w:World) (hl:KidsAt w v ks) (hlen:ks.length≤10000000)
  (h:∀ j (hj:j<ks.length) W,Below w.heap.size w W→Calls Tryz.prog 74 #[ks[j].val] W fun e w'=>e=.returned (.bool (p ks[j]))∧Below W.heap.size W w') :
  Calls Tryz.prog 22 #[v,.func (.func 74) #[] #[]] w fun e w'=>e=.returned (.bool (ks.all p))∧Below w.heap.size w w':=by
 have hnot:∀ (x:Bool) (w:World),(Op.unary .not (.bool x)).run Tryz.prog w=.ok (.bool (!x)) w:=fun _ _=>rfl
 have hmf:∀ (fn:Fn) (first cap:Array Value) (w:World),(Instr.makeFunc fn first cap).run Tryz.prog w=.ok (.func fn first cap) w:=fun _ _ _ _=>rfl
 have hb0:=below_new w (.cells #[.func (.func 74) #[] #[]] 60);have HI:=hid (index_mayArg p v ks w.heap.size _ (hl.below hb0) hlen (heap_alloc_new w (.cells #[.func (.func 74) #[] #[]] 60)) (fun j hj W hW=>h j hj W (Below.chain hb0 hW)));obtain ⟨la,lc,rfl,-,-,-⟩:=hl.nodes;clear hl h hb0;go_enter Tryz.func22,Tryz.ntmps22
 go_wp2_with fail;go_enter Tryz.func35,Tryz.ntmps35
 go_wp2_with fail;refine HI.out.mono ?_;rintro e w1 ⟨⟨r,rfl,hr⟩,hb1⟩;rcases hr with ⟨ha,rfl⟩ | ⟨ha,n,rfl⟩
 ·have HA:=hid ha;clear ha;go_wp2_with fail;go_ret;exact ⟨by rw [HA.out];rfl,Below.chain (below_new w _) hb1⟩
 ·have HA:=hid ha;clear ha;have hn:(0:Int)≤(n:Int):=by omega
  go_wp2_with fail;go_ret;exact ⟨by rw [HA.out];rfl,Below.chain (below_new w _) hb1⟩
set_option maxHeartbeats 1000000 in
theorem not_mayStmt (x:NM) (b:Bool) (bx:Nat) (w:World) (hb:w.heap[bx]? = some (.cells #[.func (.func 23) #[] #[]] 60 (0,0))) (h:∀ W,Below w.heap.size w W→Calls Tryz.prog 23 #[x.val] W fun e w'=>e=.returned (.bool b)∧Below W.heap.size W w') :
  Calls Tryz.prog 36 #[x.val,.pointer (some ⟨bx,0,none⟩)] w fun e w'=>e=.returned (.bool (!b))∧Below w.heap.size w w':=by
 cases x with
 | mk k t l c ks a m =>
 have q:w.cell? ⟨bx,0,none⟩=some (.func (.func 23) #[] #[]):=cell_of_row w bx 0 _ _ _ hb;have hnot:∀ (x:Bool) (w:World),(Op.unary .not (.bool x)).run Tryz.prog w=.ok (.bool (!x)) w:=fun _ _=>rfl
 have H:=hid (h _ (below_new w (.cells #[.int .i64 k,.string (bs t),.int .i64 l,.int .i64 c,.slice a ks.length m] 27)));have hlt:bx<w.heap.size:=(Array.getElem?_eq_some_iff.1 hb).1;clear h hb;change Calls _ _ #[nodeV k t l c (.slice a ks.length m),_] _ _;change Hid (Calls _ _ #[nodeV k t l c (.slice a ks.length m)] _ _) at H;go_enter Tryz.func36,Tryz.ntmps36
 go_wp2_with fail;refine H.out.mono ?_;rintro e w1 ⟨rfl,hb1⟩;go_wp2_with fail;go_ret;exact ⟨rfl,Below.chain (below_new w _) hb1⟩
set_option maxHeartbeats 1000000 in
theorem index_mayStmt (p:NM→Bool) (v:Value) (ks:List NM) (bx:Nat) (w:World) (hl:KidsAt w v ks) (hlen:ks.length≤10000000) (hb:w.heap[bx]? = some (.cells #[.func (.func 23) #[] #[]] 60 (0,0)))
  (h:∀ j (hj:j<ks.length) W,Below w.heap.size w W→Calls Tryz.prog 23 #[ks[j].val] W fun e w'=>e=.returned (.bool (p ks[j]))∧Below W.heap.size W w') :
  Calls Tryz.prog 70 #[v,.func (.func 36) #[] #[.pointer (some ⟨bx,0,none⟩)]] w fun e w'=>(∃ r:Int,e=.returned (.int .i64 r)∧((ks.all p=true∧r=-1)∨(ks.all p=false∧∃ n:Nat,r=n)))∧Below w.heap.size w w':=by
 have HS:=hid (fun W (hW:Below w.heap.size w W)=>hl.below hW);have HC:=hid (fun j (hj:j<ks.length) W (hW:Below w.heap.size w W)=>not_mayStmt ks[j] (p ks[j]) bx W ((hW.block bx (Array.getElem?_eq_some_iff.1 hb).1).trans hb) (fun W' hW'=>h j hj W' (Below.chain hW hW')));obtain ⟨la,lc,rfl,hlc,hlm,-⟩:=hl.nodes;unfold maxLen at hlm;clear hl h hb;go_enter Tryz.func70,Tryz.ntmps70
 go_wp2_with fail;go_loopw [8] (fun i wr=>∃ j:Nat,j≤ks.length∧i=.int .i64 j∧Below w.heap.size w wr∧Hid ((ks.take j).all p=true)) (fun i _=>ks.length - (intOf i).toNat)
 case atStart=>exact ⟨0,by omega,rfl,Below.refl _ _,hid rfl⟩
 case round =>
  obtain ⟨j,hj,rfl,hbw,HA⟩:=hrel;have hsz:=hbw.size;by_cases hlt:j<ks.length
  ·have hd:decide (j<ks.length)=true:=decide_eq_true hlt;obtain ⟨la',lc',hv,-,-,hx⟩:=(HS.out _ hbw).nodes;obtain ⟨lb,lo,rfl,hlb,hcl⟩:=hx j hlt;obtain ⟨rfl,rfl⟩:la=some ⟨lb,lo,none⟩∧lc=lc':=by simpa using hv
   have hfc:=hcl j hlt;have HCj:=hid (HC.out j hlt _ hbw);have HN:=hid (show (ks.take (j+1)).all p=((ks.take j).all p && p ks[j]) by rw [List.take_succ_eq_append_getElem hlt,List.all_append];simp);have HF:=hid (fun hp:p ks[j]=false=>(show ks.all p=false by
    cases e:ks.all p with
    | false=>rfl
    | true=>rw [List.all_eq_true.1 e ks[j] (List.getElem_mem hlt)] at hp;cases hp))
   generalize ks[j]=x at *;cases x with
   | mk k t l c kk a m =>
   generalize p (.mk k t l c kk a m)=pb at *;change Hid (Calls _ _ #[nodeV k t l c (.slice a kk.length m),_] _ _) at HCj;obtain ⟨c0,c1,c2,c3,c4⟩:=hfc;replace c0:wr.cell? ⟨lb,lo+j * 5,none⟩=some (.int .i64 k):=c0;replace c1:wr.cell? ⟨lb,lo+j * 5+1,none⟩=some (.string (bs t)):=c1;replace c2:wr.cell? ⟨lb,lo+j * 5+2,none⟩=some (.int .i64 l):=c2;replace c3:wr.cell? ⟨lb,lo+j * 5+3,none⟩=some (.int .i64 c):=c3;replace c4:wr.cell? ⟨lb,lo+j * 5+4,none⟩=some (.slice a kk.length m):=c4;clear hcl hx hv;go_wp2_with fail;refine HCj.out.mono ?_;rintro e w1 ⟨rfl,hb1⟩;cases pb with
   | false =>
     go_wp2_with fail;go_ret;exact ⟨⟨_,rfl,.inr ⟨HF.out (by simp),j,rfl⟩⟩,Below.chain hbw hb1⟩
   | true =>
     go_wp2_with fail
     go_round
     case rel=>exact ⟨j+1,by omega,by go_num,Below.chain hbw hb1,hid (by rw [HN.out,HA.out];rfl)⟩
     case measure=>simp [intOf];omega
  ·have hd:decide (j<ks.length)=false:=decide_eq_false hlt;have HT:=hid (show ks.all p=true by have:=HA.out;rwa [List.take_of_length_le (by omega)] at this);go_wp2_with fail;go_ret;exact ⟨⟨_,rfl,.inl ⟨HT.out,rfl⟩⟩,hbw⟩
set_option maxHeartbeats 1000000 in
theorem all_mayStmt (p:NM→Bool) (v:Value) (ks:List NM) (w:World) (hl:KidsAt w v ks) (hlen:ks.length≤10000000)
  (h:∀ j (hj:j<ks.length) W,Below w.heap.size w W→Calls Tryz.prog 23 #[ks[j].val] W fun e w'=>e=.returned (.bool (p ks[j]))∧Below W.heap.size W w') :
  Calls Tryz.prog 22 #[v,.func (.func 23) #[] #[]] w fun e w'=>e=.returned (.bool (ks.all p))∧Below w.heap.size w w':=by
 have hnot:∀ (x:Bool) (w:World),(Op.unary .not (.bool x)).run Tryz.prog w=.ok (.bool (!x)) w:=fun _ _=>rfl
 have hmf:∀ (fn:Fn) (first cap:Array Value) (w:World),(Instr.makeFunc fn first cap).run Tryz.prog w=.ok (.func fn first cap) w:=fun _ _ _ _=>rfl
 have hb0:=below_new w (.cells #[.func (.func 23) #[] #[]] 60);have HI:=hid (index_mayStmt p v ks w.heap.size _ (hl.below hb0) hlen (heap_alloc_new w (.cells #[.func (.func 23) #[] #[]] 60)) (fun j hj W hW=>h j hj W (Below.chain hb0 hW)));obtain ⟨la,lc,rfl,-,-,-⟩:=hl.nodes;clear hl h hb0;go_enter Tryz.func22,Tryz.ntmps22
 go_wp2_with fail;go_enter Tryz.func35,Tryz.ntmps35
 go_wp2_with fail;refine HI.out.mono ?_;rintro e w1 ⟨⟨r,rfl,hr⟩,hb1⟩;rcases hr with ⟨ha,rfl⟩ | ⟨ha,n,rfl⟩
 ·have HA:=hid ha;clear ha;go_wp2_with fail;go_ret;exact ⟨by rw [HA.out];rfl,Below.chain (below_new w _) hb1⟩
 ·have HA:=hid ha;clear ha;have hn:(0:Int)≤(n:Int):=by omega
  go_wp2_with fail;go_ret;exact ⟨by rw [HA.out];rfl,Below.chain (below_new w _) hb1⟩
mutual
def NM.fit:NM→Prop
 | .mk _ t _ _ ks _ _=>t.length≤1000000∧ks.length≤1000000∧NM.fits ks
def NM.fits:List NM→Prop
 | []=>True
 | x::r=>x.fit∧NM.fits r
end
theorem fit_mk {k l c:Int} {t:List UInt8} {ks:List NM} {a:Option Addr} {m:Nat} (h:(NM.mk k t l c ks a m).fit):t.length≤1000000∧ks.length≤1000000∧NM.fits ks:=by unfold NM.fit at h;exact h
theorem fits_get:∀ {ks:List NM},NM.fits ks→∀ k (h:k<ks.length),ks[k].fit
 | [],_,k,h=>by simp at h
 | x::r,hf,k,h=>by
   unfold NM.fits at hf;cases k with
   | zero=>exact hf.1
   | succ k=>exact fits_get hf.2 k (by simpa using h)
def Says (F:FuncId) (p:Tr→Bool) (x:NM):Prop:=∀ w,Laid w→HeldN AnyB w x→Calls Tryz.prog F #[x.val] w fun e w'=>e=.returned (.bool (p x.tr))∧Below w.heap.size w w'
theorem all_tr (p:Tr→Bool) (ks:List NM):(NM.trs ks).all p=ks.all (fun x=>p x.tr):=by rw [ntrs_map,List.all_map];rfl
set_option maxHeartbeats 1000000 in
theorem mayE_9 (t:List UInt8) (l c:Int) (ks:List NM) (a:Option Addr) (m:Nat) (w:World) (hw:Laid w) (_hh:HeldN AnyB w (.mk 9 t l c ks a m)) (ht:t.length≤1000000) (hk:ks.length≤1000000) :
  Calls Tryz.prog 38 #[nodeV 9 t l c (.slice a ks.length m)] w fun e w'=>e=.returned (.bool (mE (NM.mk 9 t l c ks a m).tr))∧Below w.heap.size w w':=by
 rw [ntr_mk,mE_9];have H0:=below_new w (.cells #[.int .i64 9,.string (bs t),.int .i64 l,.int .i64 c,.slice a ks.length m] 27);have HC:=hid (isName_any t (by omega) _ (hw.range.below H0));clear hw _hh;by_cases h0:ks=[]
 ·have q:((ks.length:Int) == 0)=true:=eqT (by rw [h0];rfl);have HO:Hid (((NM.trs ks).isEmpty && nameS t)=nameS t):=hid (by rw [h0,ntrs_nil];rfl);generalize nameS t=b at *;rw [HO.out];clear h0 HO H0;go_enter Tryz.func38,Tryz.ntmps38
  go_wp2_with fail;refine HC.out.mono ?_;rintro e w1 ⟨rfl,hb1⟩;go_wp2_with fail;go_ret;exact ⟨rfl,Below.chain (below_new w _) hb1⟩
 ·have q:((ks.length:Int) == 0)=false:=eqF (by have:=List.length_pos_iff.2 h0;omega);have HO:Hid (((NM.trs ks).isEmpty && nameS t)=false):=hid (by cases ks with | nil=>exact absurd rfl h0 | cons x r=>rw [ntrs_cons];rfl);rw [HO.out];clear h0 HO H0 HC;go_enter Tryz.func38,Tryz.ntmps38
  go_wp2_with fail;go_ret;exact ⟨rfl,below_new w _⟩
set_option maxHeartbeats 1000000 in
theorem mayE_10 (t:List UInt8) (l c:Int) (ks:List NM) (a:Option Addr) (m:Nat) (w:World) (hw:Laid w) (_hh:HeldN AnyB w (.mk 10 t l c ks a m)) (ht:t.length≤1000000) (hk:ks.length≤1000000) :
  Calls Tryz.prog 38 #[nodeV 10 t l c (.slice a ks.length m)] w fun e w'=>e=.returned (.bool (mE (NM.mk 10 t l c ks a m).tr))∧Below w.heap.size w w':=by
 rw [ntr_mk,mE_10];have H0:=below_new w (.cells #[.int .i64 10,.string (bs t),.int .i64 l,.int .i64 c,.slice a ks.length m] 27);have HC:=hid (isNumber_any t (by omega) _ (hw.below H0));clear hw _hh;by_cases h0:ks=[]
 ·have q:((ks.length:Int) == 0)=true:=eqT (by rw [h0];rfl);have HO:Hid (((NM.trs ks).isEmpty && oneT 2 t)=oneT 2 t):=hid (by rw [h0,ntrs_nil];rfl);generalize oneT 2 t=b at *;rw [HO.out];clear h0 HO H0;go_enter Tryz.func38,Tryz.ntmps38
  go_wp2_with fail;refine HC.out.mono ?_;rintro e w1 ⟨rfl,hb1⟩;go_wp2_with fail;go_ret;exact ⟨rfl,Below.chain (below_new w _) hb1⟩
 ·have q:((ks.length:Int) == 0)=false:=eqF (by have:=List.length_pos_iff.2 h0;omega);have HO:Hid (((NM.trs ks).isEmpty && oneT 2 t)=false):=hid (by cases ks with | nil=>exact absurd rfl h0 | cons x r=>rw [ntrs_cons];rfl);rw [HO.out];clear h0 HO H0 HC;go_enter Tryz.func38,Tryz.ntmps38
  go_wp2_with fail;go_ret;exact ⟨rfl,below_new w _⟩
set_option maxHeartbeats 1000000 in
theorem mayE_11 (t:List UInt8) (l c:Int) (ks:List NM) (a:Option Addr) (m:Nat) (w:World) (_hw:Laid w) (_hh:HeldN AnyB w (.mk 11 t l c ks a m)) (ht:t.length≤1000000) (hk:ks.length≤1000000) :
  Calls Tryz.prog 38 #[nodeV 11 t l c (.slice a ks.length m)] w fun e w'=>e=.returned (.bool (mE (NM.mk 11 t l c ks a m).tr))∧Below w.heap.size w w':=by
 rw [ntr_mk,mE_11];have H0:=below_new w (.cells #[.int .i64 11,.string (bs t),.int .i64 l,.int .i64 c,.slice a ks.length m] 27);obtain ⟨qt,hqt⟩:∃ qt,quoteL t=qt:=⟨_,rfl⟩;have HC:=hid (fun W=>quote_any t (by omega) qt hqt W);clear _hw _hh;by_cases h0:ks=[]
 ·have q:((ks.length:Int) == 0)=true:=eqT (by rw [h0];rfl);have HO:Hid (((NM.trs ks).isEmpty && !(t.any badQ))=!qt.isEmpty):=hid (by
   rw [h0,ntrs_nil,← hqt];unfold quoteL;cases t.any badQ <;> rfl)
  rw [HO.out];clear h0 HO H0 hqt;cases qt with
  | nil =>
    go_enter Tryz.func38,Tryz.ntmps38
    go_wp2_with fail;refine (HC.out _).mono ?_;rintro e w1 ⟨rfl,hb1⟩;go_wp2_with fail;go_ret;exact ⟨rfl,Below.chain (below_new w _) hb1⟩
  | cons qc qr =>
    have q2:((qc::qr) == ([]:List UInt8))=false:=rfl;go_enter Tryz.func38,Tryz.ntmps38
    go_wp2_with fail;refine (HC.out _).mono ?_;rintro e w1 ⟨rfl,hb1⟩;go_wp2_with fail;go_ret;exact ⟨rfl,Below.chain (below_new w _) hb1⟩
 ·have q:((ks.length:Int) == 0)=false:=eqF (by have:=List.length_pos_iff.2 h0;omega);have HO:Hid (((NM.trs ks).isEmpty && !(t.any badQ))=false):=hid (by cases ks with | nil=>exact absurd rfl h0 | cons x r=>rw [ntrs_cons];rfl);rw [HO.out];clear h0 HO H0 HC;go_enter Tryz.func38,Tryz.ntmps38
  go_wp2_with fail;go_ret;exact ⟨rfl,below_new w _⟩
set_option maxHeartbeats 1000000 in
theorem mayE_12 (t:List UInt8) (l c:Int) (ks:List NM) (a:Option Addr) (m:Nat) (w:World) (hw:Laid w) (hh:HeldN AnyB w (.mk 12 t l c ks a m)) (ht:t.length≤1000000) (hk:ks.length≤1000000) (IH:∀ j (hj:j<ks.length),Says 38 mE ks[j]):
  Calls Tryz.prog 38 #[nodeV 12 t l c (.slice a ks.length m)] w fun e w'=>e=.returned (.bool (mE (NM.mk 12 t l c ks a m).tr))∧Below w.heap.size w w':=by
 rw [ntr_mk,mE_12,all_tr];have H0:=below_new w (.cells #[.int .i64 12,.string (bs t),.int .i64 l,.int .i64 c,.slice a ks.length m] 27);have HC:=hid (all_mayExpr (fun x=>mE x.tr) _ ks _ (hh.kidsAt.below H0) (by omega) (fun j hj W hW=>IH j hj W ((hw.below H0).below hW) ((hh.kidsAt.below H0).get j hj |>.below hW)));clear hw hh IH H0;cases t with
 | cons tc tr =>
   have q:((tc::tr) == ([]:List UInt8))=false:=rfl;clear HC;go_enter Tryz.func38,Tryz.ntmps38
   go_wp2_with fail;go_ret;exact ⟨rfl,below_new w _⟩
 | nil =>
   have HO:Hid ((([]:List UInt8).isEmpty && ks.all (fun x=>mE x.tr))=ks.all (fun x=>mE x.tr)):=hid rfl;rw [HO.out];clear HO;generalize ks.all (fun x=>mE x.tr)=b at *;go_enter Tryz.func38,Tryz.ntmps38
   go_wp2_with fail;refine HC.out.mono ?_;rintro e w1 ⟨rfl,hb1⟩;go_wp2_with fail;go_ret;exact ⟨rfl,Below.chain (below_new w _) hb1⟩
set_option maxHeartbeats 1000000 in
theorem mayB_8 (t:List UInt8) (l c:Int) (ks:List NM) (a:Option Addr) (m:Nat) (w:World) (hw:Laid w) (hh:HeldN AnyB w (.mk 8 t l c ks a m)) (ht:t.length≤1000000) (hk:ks.length≤1000000) (IH:∀ j (hj:j<ks.length),Says 23 mS ks[j]):
  Calls Tryz.prog 39 #[nodeV 8 t l c (.slice a ks.length m)] w fun e w'=>e=.returned (.bool (mB (NM.mk 8 t l c ks a m).tr))∧Below w.heap.size w w':=by
 rw [ntr_mk,mB_8,all_tr];have H0:=below_new w (.cells #[.int .i64 8,.string (bs t),.int .i64 l,.int .i64 c,.slice a ks.length m] 27);have HC:=hid (all_mayStmt (fun x=>mS x.tr) _ ks _ (hh.kidsAt.below H0) (by omega) (fun j hj W hW=>IH j hj W ((hw.below H0).below hW) ((hh.kidsAt.below H0).get j hj |>.below hW)));clear hw hh IH H0;cases t with
 | cons tc tr =>
   have q:((tc::tr) == ([]:List UInt8))=false:=rfl;clear HC;go_enter Tryz.func39,Tryz.ntmps39
   go_wp2_with fail;go_ret;exact ⟨rfl,below_new w _⟩
 | nil =>
   have HO:Hid ((([]:List UInt8).isEmpty && ks.all (fun x=>mS x.tr))=ks.all (fun x=>mS x.tr)):=hid rfl;rw [HO.out];clear HO;generalize ks.all (fun x=>mS x.tr)=b at *;go_enter Tryz.func39,Tryz.ntmps39
   go_wp2_with fail;refine HC.out.mono ?_;rintro e w1 ⟨rfl,hb1⟩;go_wp2_with fail;go_ret;exact ⟨rfl,Below.chain (below_new w _) hb1⟩
set_option maxHeartbeats 1000000 in
theorem mayE_14 (t:List UInt8) (l c:Int) (ks:List NM) (a:Option Addr) (m:Nat) (w:World) (hw:Laid w) (hh:HeldN AnyB w (.mk 14 t l c ks a m)) (ht:t.length≤1000000) (hk:ks.length≤1000000) (IH:∀ j (hj:j<ks.length),Says 74 mA ks[j]):
  Calls Tryz.prog 38 #[nodeV 14 t l c (.slice a ks.length m)] w fun e w'=>e=.returned (.bool (mE (NM.mk 14 t l c ks a m).tr))∧Below w.heap.size w w':=by
 rw [ntr_mk,mE_14,all_tr];have H0:=below_new w (.cells #[.int .i64 14,.string (bs t),.int .i64 l,.int .i64 c,.slice a ks.length m] 27);have HN:=hid (isName_any t (by omega) _ (hw.range.below H0));have HC:=hid (fun W (hW:Below w.heap.size w W)=>all_mayArg (fun x=>mA x.tr) _ ks _ (hh.kidsAt.below hW) (by omega) (fun j hj W' hW'=>IH j hj W' ((hw.below hW).below hW') ((hh.kidsAt.below hW).get j hj |>.below hW')));clear hw hh IH H0;generalize ks.all (fun x=>mA x.tr)=b at *;generalize nameS t=bn at *;cases bn with
 | false =>
   clear HC;go_enter Tryz.func38,Tryz.ntmps38
   go_wp2_with fail;refine HN.out.mono ?_;rintro e w1 ⟨rfl,hb1⟩;go_wp2_with fail;go_ret;exact ⟨rfl,Below.chain (below_new w _) hb1⟩
 | true =>
   go_enter Tryz.func38,Tryz.ntmps38
   go_wp2_with fail;refine HN.out.mono ?_;rintro e w1 ⟨rfl,hb1⟩;have HB:=hid (Below.chain (below_new w _) hb1);obtain ⟨k0,k1,k2,k3,k4,f0,f1,f2,f3,f4⟩:=row5 ((hb1.block _ (by rw [World.size_alloc];omega)).trans (heap_alloc_new w _));clear hb1 f0 f1 f2 f3 f4;go_wp2_with fail;refine (HC.out _ HB.out).mono ?_;rintro e w2 ⟨rfl,hb2⟩;go_wp2_with fail;go_ret;exact ⟨rfl,Below.chain HB.out hb2⟩
set_option maxHeartbeats 1000000 in
theorem mayE_no (k:Int) (t:List UInt8) (l c:Int) (ks:List NM) (a:Option Addr) (m:Nat) (w:World) (h:isE k=false) :
  Calls Tryz.prog 38 #[nodeV k t l c (.slice a ks.length m)] w fun e w'=>e=.returned (.bool (mE (NM.mk k t l c ks a m).tr))∧Below w.heap.size w w':=by
 rw [ntr_mk,mE_no _ _ h];unfold isE at h;simp only [Bool.or_eq_false_iff] at h;obtain ⟨⟨⟨⟨⟨⟨h9,h10⟩,h11⟩,h12⟩,h13⟩,h14⟩,h16⟩:=h;go_enter Tryz.func38,Tryz.ntmps38
 go_wp2_with fail;go_ret;exact ⟨rfl,below_new w _⟩
set_option maxHeartbeats 1000000 in
theorem mayB_no (k:Int) (t:List UInt8) (l c:Int) (ks:List NM) (a:Option Addr) (m:Nat) (w:World) (h:(k == 8)=false) :
  Calls Tryz.prog 39 #[nodeV k t l c (.slice a ks.length m)] w fun e w'=>e=.returned (.bool (mB (NM.mk k t l c ks a m).tr))∧Below w.heap.size w w':=by
 rw [ntr_mk,mB_no _ _ h];go_enter Tryz.func39,Tryz.ntmps39
 go_wp2_with fail;go_ret;exact ⟨rfl,below_new w _⟩
def goodFrom (i:Nat):List Tr→Bool
 | []=>true
 | x::r=>(mE x && (i % 2 != 0 || x.kd == 11)) && goodFrom (i+1) r
theorem dict_good:∀ (l:List Tr) (i:Nat),i % 2=0→dictE l=(decide (l.length % 2=0) && goodFrom i l)
 | [],_,_=>rfl
 | [x],i,h=>rfl
 | a::b::r,i,h=>by
   have ih:=dict_good r (i+1+1) (by omega);have h0:(i % 2 != 0)=false:=by rw [h];rfl
   have h1:((i+1) % 2 != 0)=true:=by have:(i+1) % 2=1:=by omega
                                     rw [this];rfl
   have h2:decide ((a::b::r).length % 2=0)=decide (r.length % 2=0):=by
    rw [decide_eq_decide];simp only [List.length_cons];omega
   show (a.kd == 11 && mE a && mE b && dictE r)=_;rw [ih,h2];show _=(_ && ((mE a && (i % 2 != 0 || a.kd == 11)) && ((mE b && ((i+1) % 2 != 0 || b.kd == 11)) && goodFrom (i+1+1) r)));rw [h0,h1];cases a.kd == 11 <;> cases mE a <;> cases mE b <;> cases decide (r.length % 2=0) <;> simp
set_option maxHeartbeats 2000000 in
theorem mayE_13 (t:List UInt8) (l c:Int) (ks:List NM) (a:Option Addr) (m:Nat) (w:World) (hw:Laid w) (hh:HeldN AnyB w (.mk 13 t l c ks a m)) (ht:t.length≤1000000) (hk:ks.length≤1000000) (IH:∀ j (hj:j<ks.length),Says 38 mE ks[j]) :
  Calls Tryz.prog 38 #[nodeV 13 t l c (.slice a ks.length m)] w fun e w'=>e=.returned (.bool (mE (NM.mk 13 t l c ks a m).tr))∧Below w.heap.size w w':=by
 have hnot:∀ (x:Bool) (w:World),(Op.unary .not (.bool x)).run Tryz.prog w=.ok (.bool (!x)) w:=fun _ _=>rfl
 have HD:=hid (show mE (NM.mk 13 t l c ks a m).tr=(t.isEmpty && (decide (ks.length % 2=0) && goodFrom 0 (NM.trs ks))) by rw [ntr_mk,mE_13,dict_good _ 0 rfl,ntrs_len]);have HS:=hid (fun W (hW:Below w.heap.size w W)=>hh.kidsAt.below hW);have HC:=hid (fun j (hj:j<ks.length) W (hW:Below w.heap.size w W)=>IH j hj W (hw.below hW) (hh.kidsAt.get j hj |>.below hW));obtain ⟨la,lc,hv,hlc,hlm,-⟩:=hh.kidsAt.nodes;obtain ⟨rfl,rfl⟩:a=la∧m=lc:=by simpa using hv
 unfold maxLen at hlm;have HR0:=hid (heap_alloc_new w (.cells #[.int .i64 13,.string (bs t),.int .i64 l,.int .i64 c,.slice a ks.length m] 27));clear hh hw IH hv;go_enter Tryz.func38,Tryz.ntmps38
 go_wp2_with fail;go_loopw [55] (fun i wr=>∃ j:Nat,j≤ks.length∧i=.int .i64 j∧Below w.heap.size w wr∧wr.heap[w.heap.size]? = some (.cells #[.int .i64 13,.string (bs t),.int .i64 l,.int .i64 c,.slice a ks.length m] 27 (0,0))∧Hid (goodFrom 0 (NM.trs ks)=goodFrom j ((NM.trs ks).drop j))) (fun i _=>ks.length - (intOf i).toNat)
 case atStart=>exact ⟨0,by omega,rfl,below_new w _,HR0.out,hid rfl⟩
 case round =>
  clear HR0;obtain ⟨j,hj,rfl,hbw,hr,HG⟩:=hrel;have HR:=hid hr;have hlt1:w.heap.size<wr.heap.size:=(Array.getElem?_eq_some_iff.1 hr).1;have HB:=hid hbw;by_cases hlt:j<ks.length
  ·have hd:decide (j<ks.length)=true:=decide_eq_true hlt;obtain ⟨la',lc',hv,-,-,hx⟩:=(HS.out _ hbw).nodes;obtain ⟨lb,lo,rfl,hlb,hcl⟩:=hx j hlt;obtain ⟨rfl,rfl⟩:a=some ⟨lb,lo,none⟩∧m=lc':=by simpa using hv
   have hfc:=hcl j hlt;have HCj:=hid (fun o=>HC.out j hlt _ (Below.chain hbw (below_new wr o)));have HN:=hid (show goodFrom 0 (NM.trs ks)=((mE ks[j].tr && (j % 2 != 0 || ks[j].tr.kd == 11)) && goodFrom (j+1) ((NM.trs ks).drop (j+1))) by
    rw [HG.out,List.drop_eq_getElem_cons (by rw [ntrs_len];exact hlt)];have e:(NM.trs ks)[j]'(by rw [ntrs_len];exact hlt)=ks[j].tr:=by simp only [ntrs_map,List.getElem_map]
    rw [e];rfl)
   clear HG;generalize ks[j]=x at *;cases x with
   | mk kx tx lx cx kk ax mx =>
   rw [ntr_mk,kd_mk,← ntr_mk kx tx lx cx kk ax mx] at HN;generalize (NM.mk kx tx lx cx kk ax mx).tr=xt at *;generalize mE xt=pb at *;change Hid (∀ o,Calls _ _ #[nodeV kx tx lx cx (.slice ax kk.length mx)] _ _) at HCj;obtain ⟨c0,c1,c2,c3,c4⟩:=five_of hfc;clear hcl hx hv hr hbw;go_wp2_with fail;refine (HCj.out _).mono ?_;rintro e w1 ⟨rfl,hb1⟩;have HB1:=hid (Below.chain HB.out (Below.chain (below_new wr _) hb1));have HR1:=hid ((hb1.block _ (by rw [World.size_alloc];omega)).trans (alloc_row HR.out _));obtain ⟨u0,u1,u2,u3,u4,-,-,-,-,-⟩:=row5 ((hb1.block _ (by rw [World.size_alloc];omega)).trans (heap_alloc_new wr _));clear hb1 c0 c1 c2 c3 c4;cases pb with
   | false =>
     have HF:=hid (show (t.isEmpty && (decide (ks.length % 2=0) && goodFrom 0 (NM.trs ks)))=false by rw [HN.out];simp);clear HN;go_wp2_with fail;go_ret;exact ⟨by rw [HD.out,HF.out];rfl,HB1.out⟩
   | true =>
     by_cases hpar:j % 2=0
     ·have qp:((j:Int) % 2 == 0)=true:=eqT (by omega);cases q11:(kx == 11) with
      | true =>
        have q11':(kx != 11)=false:=by simpa using q11
        have HT:=hid (show goodFrom 0 (NM.trs ks)=goodFrom (j+1) ((NM.trs ks).drop (j+1)) by rw [HN.out,q11];simp);clear HN;go_wp2_with fail
        go_round
        case rel=>exact ⟨j+1,by omega,by go_num,HB1.out,HR1.out,HT⟩
        case measure=>simp [intOf];omega
      | false =>
        have q11':(kx != 11)=true:=by simpa using q11
        have HF:=hid (show (t.isEmpty && (decide (ks.length % 2=0) && goodFrom 0 (NM.trs ks)))=false by rw [HN.out,q11,hpar];simp);clear HN;go_wp2_with fail;go_ret;exact ⟨by rw [HD.out,HF.out];rfl,HB1.out⟩
     ·have qp:((j:Int) % 2 == 0)=false:=eqF (by omega);have HT:=hid (show goodFrom 0 (NM.trs ks)=goodFrom (j+1) ((NM.trs ks).drop (j+1)) by
       have h1:(j % 2 != 0)=true:=by simpa using hpar
       rw [HN.out,h1];simp)
      clear HN;go_wp2_with fail
      go_round
      case rel=>exact ⟨j+1,by omega,by go_num,HB1.out,HR1.out,HT⟩
      case measure=>simp [intOf];omega
  ·have hd:decide (j<ks.length)=false:=decide_eq_false hlt;have HT:=hid (show goodFrom 0 (NM.trs ks)=true by rw [HG.out,List.drop_eq_nil_of_le (by rw [ntrs_len];omega)];rfl);obtain ⟨z0,z1,z2,z3,z4,-,-,-,-,-⟩:=row5 hr;clear HG hr hbw;cases t with
   | cons tc tr =>
     have q:((tc::tr) == ([]:List UInt8))=false:=rfl;go_wp2_with fail;go_ret;exact ⟨by rw [HD.out];rfl,HB.out⟩
   | nil =>
     by_cases hpar:ks.length % 2=0
     ·have qp:((ks.length:Int) % 2 == 0)=true:=eqT (by omega);have hdd:decide (ks.length % 2=0)=true:=decide_eq_true hpar;have HF:=hid (show (([]:List UInt8).isEmpty && (decide (ks.length % 2=0) && goodFrom 0 (NM.trs ks)))=true by rw [HT.out,hdd];rfl);clear HT hdd hpar;go_wp2_with fail;go_ret;exact ⟨by rw [HD.out,HF.out];rfl,HB.out⟩
     ·have qp:((ks.length:Int) % 2 == 0)=false:=eqF (by omega);have HF:=hid (show (([]:List UInt8).isEmpty && (decide (ks.length % 2=0) && goodFrom 0 (NM.trs ks)))=false by rw [decide_eq_false hpar];rfl);clear HT hpar;go_wp2_with fail;go_ret;exact ⟨by rw [HD.out,HF.out];rfl,HB.out⟩
end Go.Proofs.YtfgiihpopngbkaaGreatDoor
