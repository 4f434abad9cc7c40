/- Lemmas and walks that the statement needs: MayText, Once, NewRepl, ReplBuild, ReplWalk, ReplOnce, ReplDo, QuotePlain, ReplPlain, ReplRun. -/
import Derived.Test.YtfgiihpopngbkaaGreatDoorP05
import Derived.Shelf.Strconv.ErrVarParseInt
import Derived.Lib.ItoaLen
import Derived.Defers
import Derived.Laws.Pointers
import Derived.Laws.LoneSync
import Derived.RegionCalls
import Derived.ChangeAlike
import Derived.LoopN
import Derived.Great.Walk
import Derived.Great.BuildSlice
import Derived.OwnWalk
import Derived.Laws.CopyOwn
namespace Go.Proofs.YtfgiihpopngbkaaGreatDoor
set_option maxRecDepth 100000
set_option maxHeartbeats 8000000
open Go.RowKit
open Nat renaming lt_of_lt_of_le→nL
open List renaming length_append→lAp,length_cons→lCo
open Nat renaming le_refl→nRe
open Go.World renaming size_alloc→wSz
open _root_.Bool renaming and_eq_true→bAe
open _root_.Array renaming getElem?_eq_some_iff→aGe
def py (s:List UInt8):Bool:=(nW s).2 && decide (0≤(nW s).1)
theorem sG:∀ (k u:Nat),u≤k→10≤u→∃ c r,dig u=c::r∧c≠48
 | 0,u,h,h10=>by omega
 | k+1,u,h,h10=>by
   rw [mc (by omega)];by_cases hu:u / 10<10
   ·rw [iB hu];refine ⟨_,_,rfl,fun e=>?_⟩;have:=qY hu;rw [e] at this;simp at this;omega
   ·obtain ⟨c,r,e,hc⟩:=sG k (u / 10) (by omega) (by omega);exact ⟨c,r++_,by rw [e];rfl,hc⟩
theorem zbG (n:Nat):∀ (s:List UInt8),s.length=n→s≠[]→s.all aS=true→¬ (1<s.length∧s.head? = some 48)→dig (eS 0 s)=s:=by
 induction n with
 | zero=>intro s h hne;exact absurd (List.length_eq_zero_iff.1 h) hne
 | succ n ih =>
   intro s h hne ha hz;obtain ⟨t,c,rfl⟩:∃ t c,s=t++[c]:=⟨s.dropLast,s.getLast hne,(List.dropLast_concat_getLast hne).symm⟩;rw [List.all_append,bAe] at ha;have hc:aS c=true:=by have:=ha.2;simpa using this
   have hcd:48≤c.toNat∧c.toNat≤57:=by simp [aS] at hc;omega
   have ec:UInt8.ofNat (48+(c.toNat - 48))=c:=by rw [show 48+(c.toNat - 48)=c.toNat by omega];exact UInt8.ofNat_toNat
   rw [j3];show dig (10 * eS 0 t+(c.toNat - 48))=_;by_cases ht:t=[]
   ·subst ht;show dig (10 * 0+_)=_;rw [Nat.mul_zero,Nat.zero_add,iB (by omega),ec];rfl
   ·have hh:t.head?≠some 48:=fun e=>hz ⟨by rw [lAp];have:=List.length_pos_iff.2 ht;simp;omega,by rw [List.head?_append,e];rfl⟩
    have e:=ih t (by simpa using h) ht ha.1 (fun h=>hh h.2);have h1:1≤eS 0 t:=by
     rcases Nat.eq_zero_or_pos (eS 0 t) with h0 | h0
     ·rw [h0,iB (by omega)] at e;rw [← e] at hh;exact absurd rfl hh
     ·exact h0
    rw [mc (by omega),show (10 * eS 0 t+(c.toNat - 48)) / 10=eS 0 t by omega,e,show (10 * eS 0 t+(c.toNat - 48)) % 10=c.toNat - 48 by omega,ec]
theorem zaB {s:List UInt8} (h:py s=true):jy 2 s:=by
 unfold py at h;simp only [bAe,decide_eq_true_eq] at h;obtain ⟨e,-,h2⟩:=pM h.1;obtain ⟨u,hu⟩:=Int.eq_ofNat_of_zero_le h.2;rw [hu] at e h2;rw [og] at e;rw [← e];have h3:=qu u u (nRe _);have h4:=ra u u (nRe _);have h5:¬ (1<(dig u).length∧(dig u).head? = some 48):=by
  rintro ⟨a,b⟩;by_cases h10:u<10
  ·rw [iB h10] at a;simp at a
  ·obtain ⟨c,r,e,hc⟩:=sG u u (nRe _) (by omega);rw [e] at b;simp at b;exact hc b
 cases hd:dig u with
 | nil=>exact absurd hd (tE u)
 | cons c r =>
   rw [hd] at h3 h4 h5;unfold fw at h3;exact .num (by simp only [List.all_cons,bAe] at h3;exact h3.1) h3 (fun h=>h5 ⟨h.1,by rw [h.2];rfl⟩) (by rw [h4];omega)
theorem zaX {s:List UInt8} (h:py s=true):s.length≤65536:=by
 unfold py at h;simp only [bAe] at h;obtain ⟨e,h1,h2⟩:=pM h.1;have:=Lib.itoa_length_le _ h1 h2;rw [e] at this;omega
theorem zaz (s:List UInt8):py s=fg 2 s:=by
 rw [Bool.eq_iff_iff];constructor
 ·intro h;exact sv (zaB h) (.inr rfl) (zaX h)
 ·intro h;have ht:=oR h;cases ht with
  | @num c r h1 h2 h3 h4 =>
    have e:=zbG _ (c::r) rfl (by simp) h2 (fun ⟨a,b⟩=>h3 ⟨a,by simpa using b⟩);have hi:=vJ (v:=((eS 0 (c::r):Nat):Int)) (by omega) (by omega);rw [og,e] at hi;unfold py;rw [hi];simp
def mY (w:World):Prop:=(∃ t p,w.var? Tryz.prog "strconv.ErrSyntax"=some #[.iface t p])∧∃ t p,w.var? Tryz.prog "strconv.ErrRange"=some #[.iface t p]
structure bB (w:World):Prop where
 range:dZ w
 errs:mY w
 pow:mW w
theorem mY.below {w w':World} (h:mY w) (hb:Below w.heap.size w w'):mY w':=by
 obtain ⟨⟨t,p,h1⟩,t2,p2,h2⟩:=h;exact ⟨⟨t,p,var?_kept h1 hb⟩,t2,p2,var?_kept h2 hb⟩
theorem bB.below {w w':World} (h:bB w) (hb:Below w.heap.size w w'):bB w':=⟨h.range.below hb,h.errs.below hb,h.pow.below hb⟩
def zcg (w:World) (e:Ending) (w':World):Prop:=∃ n t p,e=.returned (.tuple #[.int .i64 n,.iface t p])∧Below w.heap.size w w'
theorem xy (l:List UInt8) (hl:l.length≤281474976710656) (w:World) (he:mY w) (h:∀ v,Lib.parseIntB 64 l≠.ok v) :
  Calls Tryz.prog 110 #[.string (bs l),.int .i64 10,.int .i64 64] w (zcg w):=by
 obtain ⟨⟨t,p,h1⟩,t2,p2,h2⟩:=he;cases e:Lib.parseIntB 64 l with
 | ok v=>exact absurd e (h v)
 | range =>
   refine (Any.strconv_ParseInt_10_at64_range_var Tryz.laysC174 (bs l) hl e t2 p2 w h2).mono ?_;rintro e w' ⟨N,rfl,-,-,hb⟩;exact ⟨_,_,_,rfl,hb⟩
 | _ =>
   refine (Any.strconv_ParseInt_10_at64_syntax_var Tryz.laysC174 (bs l) hl e t p w h1).mono ?_;rintro e w' ⟨N,rfl,-,-,hb⟩;exact ⟨_,_,_,rfl,hb⟩
theorem rf (l:List UInt8) (hl:l.length≤140737488351232) (w:World) (hw:bB w) :
  Calls Tryz.prog 73 #[.string (bs l)] w fun e w'=>e=.returned (.bool (fg 2 l))∧Below w.heap.size w w':=by
 rw [← zaz];by_cases hv:∃ v0,Lib.parseIntB 64 l=.ok v0
 ·obtain ⟨v0,hv⟩:=hv;have hb:=lX hv;have Hc:Calls Tryz.prog 110 #[.string (bs l),.int .i64 10,.int .i64 64] w fun e w'=>e=.returned (.tuple #[.int .i64 v0,.nilIface])∧Below w.heap.size w w':=by
   refine (Tryz.strconv_ParseInt_10_at64_ok (bs l) (by rw [kt];omega) v0 hv w).mono ?_;rintro e w' ⟨rfl,rfl | ⟨t,rfl⟩⟩
   ·exact ⟨rfl,Below.refl _ _⟩
   ·exact ⟨rfl,Lib.bytesWorld_below _ _ _⟩
  have HC:=hid Hc;have Hn:=hid (fun W (hW:mW W)=>(Tryz.strconv_FormatInt_10 v0 hb.1 hb.2 W hW).mono (R':=fun e w'=>e=.returned (.string (bs (Lib.itoa v0)))∧Below W.heap.size W w') (by rintro e w' ⟨rfl,k,os,rfl⟩;exact ⟨rfl,uc W k os⟩));have HP:=hid hw.pow;have HO:Hid (py l=(decide (0≤v0) && (Lib.itoa v0 == l))):=hid (by
   unfold py nW;rw [hv];simp only;split <;> rename_i e <;> simp [e])
  clear Hc hv hw hb;by_cases h0:0≤v0
  ·have hd:decide (0≤v0)=true:=decide_eq_true h0;go_enter Tryz.func73,Tryz.ntmps73
   go_wp2_with fail;refine HC.out.mono ?_;rintro e w1 ⟨rfl,hb1⟩;go_wp2_with fail;refine (Hn.out _ (HP.out.below hb1)).mono ?_;rintro e w2 ⟨rfl,hb2⟩;have HB:=hid (zdy hb1 hb2);clear hb1 hb2;cases q:(Lib.itoa v0 == l) with
   | true =>
     go_wp2_with fail;go_ret;exact ⟨by rw [HO.out,hd,q];rfl,HB.out⟩
   | false =>
     go_wp2_with fail;go_ret;exact ⟨by rw [HO.out,hd,q];rfl,HB.out⟩
  ·have hd:decide (0≤v0)=false:=decide_eq_false h0;go_enter Tryz.func73,Tryz.ntmps73
   go_wp2_with fail;refine HC.out.mono ?_;rintro e w1 ⟨rfl,hb1⟩;go_wp2_with fail;go_ret;exact ⟨by rw [HO.out,hd];rfl,hb1⟩
 ·have hn:∀ v,Lib.parseIntB 64 l≠.ok v:=fun v e=>hv ⟨v,e⟩
  have HC:=hid (xy l (by omega) w hw.errs hn);have e0:Hid (py l=false):=hid (by
   unfold py nW;cases e:Lib.parseIntB 64 l with
   | ok v=>exact absurd e (hn v)
   | _=>rfl)
  clear hv hn;go_enter Tryz.func73,Tryz.ntmps73
  go_wp2_with fail;refine HC.out.mono ?_;rintro e w1 ⟨n,t,p,rfl,hb1⟩;go_wp2_with fail;go_ret;exact ⟨by rw [e0.out];rfl,hb1⟩
theorem tM (s:List UInt8) (hs:s.length≤140737488351232) (w:World) (hr:dZ w) :
  Calls Tryz.prog 71 #[.string (bs s)] w fun e w'=>e=.returned (.bool (fg 1 s))∧Below w.heap.size w w':=by
 obtain ⟨l,e,⟨p,q⟩,hx⟩:∃ l e pq,eg s=(l,e,pq):=⟨_,_,_,rfl⟩;have HA:=hid (td s hs hx w hr);have HO:Hid (fg 1 s=(decide (e=0) && decide (ip l=[(1,s)]))):=hid (by unfold fg;rw [hx]);clear hx hr;go_enter Tryz.func71,Tryz.ntmps71
 go_wp2_with fail;refine HA.out.mono ?_;rintro E w2 ⟨v,rfl,hv,hb2⟩;clear HA;obtain ⟨-,a,c,rfl,hc,hm,hcell⟩:=hv.toks;have HB:=hid (fun o=>zdy hb2 (ag w2 o));clear hb2 hv;by_cases he:e=0
 ·have qe:((e:Int) == 0)=true:=eqT (by omega);by_cases h1:l.length=1
  ·have ql:((l.length:Int) == 1)=true:=eqT (by omega);obtain ⟨b,off,rfl,hb,hc4⟩:=hcell 0 (by omega);obtain ⟨k0,k1,-,-⟩:=hc4 0 (by omega);obtain ⟨t,ht⟩:∃ t,l=[t]:=by
    match l,h1 with
    | [t],_=>exact ⟨t,rfl⟩
   have hg:l[0]=t:=by subst ht;rfl
   rw [hg] at k0 k1;rw [Nat.zero_mul,Nat.add_zero] at k0 k1;have hlp:(0:Int)<(l.length:Int):=by omega
   replace HO:=hid (show fg 1 s=((t.1 == 1) && (t.2.1 == s)) by
    rw [HO.out,ht,he];show (decide (0=0) && decide ([(t.1,t.2.1)]=[(1,s)]))=_;rw [Bool.eq_iff_iff];simp)
   clear hc4 hcell ht hg;cases q1:((t.1:Int) == 1) with
   | false =>
     have e1:(t.1 == 1)=false:=by have:=q1;simp at this ⊢;omega
     go_wp2_with fail;go_ret;exact ⟨by rw [HO.out,e1];rfl,HB.out _⟩
   | true =>
     have e1:(t.1 == 1)=true:=by have:=q1;simp at this ⊢;omega
     cases q2:(t.2.1 == s) with
     | true =>
       go_wp2_with fail;go_ret;exact ⟨by rw [HO.out,e1,q2];rfl,HB.out _⟩
     | false =>
       go_wp2_with fail;go_ret;exact ⟨by rw [HO.out,e1,q2];rfl,HB.out _⟩
  ·have ql:((l.length:Int) == 1)=false:=eqF (by omega);have hf:fg 1 s=false:=by
    rw [HO.out,he];have:ip l≠[(1,s)]:=fun e=>h1 (by have:=congrArg List.length e;simpa [ip] using this)
    rw [decide_eq_false this];rfl
   have HF:=hid hf;clear hf HO hcell;go_wp2_with fail;go_ret;exact ⟨by rw [HF.out];rfl,HB.out _⟩
 ·have qe:((e:Int) == 0)=false:=eqF (by omega);have HF:=hid (show fg 1 s=false by rw [HO.out,decide_eq_false he];rfl);clear HO hcell;go_wp2_with fail;go_ret;exact ⟨by rw [HF.out];rfl,HB.out _⟩
theorem cq (s:List UInt8) (hs:s.length≤140737488351232) (w:World) (hr:dZ w) :
  Calls Tryz.prog 37 #[.string (bs s)] w fun e w'=>e=.returned (.bool (aM s))∧Below w.heap.size w w':=by
 have HW:=hid (tM s hs w hr);have HR:=hid (fun W=>lp s W);have HO:Hid (aM s=(fg 1 s && !ed s)):=hid rfl;have bC:=nb;generalize fg 1 s=b1 at *;generalize ed s=b2 at *;clear hr;cases b1 with
 | false =>
   go_enter Tryz.func37,Tryz.ntmps37
   go_wp2_with fail;refine HW.out.mono ?_;rintro e w1 ⟨rfl,hb1⟩;go_wp2_with fail;go_ret;exact ⟨by rw [HO.out];rfl,hb1⟩
 | true =>
   go_enter Tryz.func37,Tryz.ntmps37
   go_wp2_with fail;refine HW.out.mono ?_;rintro e w1 ⟨rfl,hb1⟩;go_wp2_with fail;refine (HR.out _).mono ?_;rintro e w2 ⟨rfl,hb2⟩;go_wp2_with fail;go_ret;exact ⟨by rw [HO.out];rfl,zdy hb1 hb2⟩
theorem lU (w:World):(callFunc 175 #[]).run Tryz.prog w=.ok (.value (.tuple #[])) w:=run_call_mark0 Tryz.func175 (by kernel_rfl) (by kernel_rfl) (by kernel_rfl) .disable (by kernel_rfl) w
theorem m3 (w:World):(callFunc 177 #[]).run Tryz.prog w=.ok (.value (.tuple #[])) w:=run_call_mark0 Tryz.func177 (by kernel_rfl) (by kernel_rfl) (by kernel_rfl) .enable (by kernel_rfl) w
theorem qy (a:Addr) (w:World):(callFunc 178 #[.pointer (some a)]).run Tryz.prog w=.ok (.value (.tuple #[])) w:=run_call_marked Tryz.func178 (by kernel_rfl) (by kernel_rfl) (by kernel_rfl) .acquire (by kernel_rfl) a w
theorem qU (a:Addr) (w:World):(callFunc 180 #[.pointer (some a)]).run Tryz.prog w=.ok (.value (.tuple #[])) w:=run_call_marked Tryz.func180 (by kernel_rfl) (by kernel_rfl) (by kernel_rfl) .releaseMerge (by kernel_rfl) a w
theorem n6 (a:Addr) (x:Value) (u:FrameMode) (w:World) (hc:w.cell? a=some x) (hz:w.frozen? a=false) :
  CallsD Tryz.prog 135 #[.pointer (some a),.bool true] u w fun e u' w'=>u'=u∧(e=.returned (.tuple #[])∧w'=w.drew.setCell a (.int .u32 1)):=by
 have hc':w.drew.cell? a=some x:=by go_simp
 have hz':w.drew.frozen? a=false:=by go_simp
 have hst:=run_call_store (P:=Tryz.prog) Tryz.func158 (by kernel_rfl) (by kernel_rfl) (by kernel_rfl) (by kernel_rfl) (k:=.u32) (y:=1) hc' hz'
 go_enter_d Tryz.func135,Tryz.ntmps135
 go_wp2
 go_region_calls
 all_goals (go_end0;exact ⟨rfl,rfl⟩)
theorem ul (a:Addr) (w:World) (hc:w.cell? a=some (.int .i32 0)) (hz:w.frozen? a=false) :
  Calls Tryz.prog 156 #[.pointer (some a)] w fun e w'=>e=.returned (.tuple #[])∧w'=w.setCell a (.int .i32 1):=by
 have hd:=lU;have he:=m3;have ha:=qy;have hcas:=run_call_cas_hit (P:=Tryz.prog) Tryz.func176 (by kernel_rfl) (by kernel_rfl) (by kernel_rfl) .i32 (by kernel_rfl) (y:=1) hc hz;have hc':(w.setCell a (.int .i32 1)).cell? a=some (.int .i32 1):=World.cell?_setCell_same w a _ hc;have hcv:=run_convert_to_unsafe (P:=Tryz.prog) (src:=201) (dst:=142) Tryz.underlying201 Tryz.underlying142 (by kernel_rfl) hc';go_enter Tryz.func156,Tryz.ntmps156
 go_wp2
 first | go_end0 | (simp only [Exit.inBlock,Exit.then];refine bodyPost_ret (results_none rfl _ _ _) rfl ?_) | refine bodyPost_ret (results_none rfl _ _ _) rfl ?_
 exact ⟨rfl,rfl⟩
theorem vN (a:Addr) (w:World) (hc:w.cell? a=some (.int .i32 0)) (hz:w.frozen? a=false) :
  Calls Tryz.prog 133 #[.pointer (some a)] w fun e w'=>e=.returned (.tuple #[])∧w'=w.setCell a (.int .i32 1):=by
 go_enter Tryz.func133,Tryz.ntmps133
 go_wp2_with (go_at_call 156;refine (ul _ _ (by assumption) (by assumption)).mono ?_;rintro e w' ⟨rfl,rfl⟩)
 go_end0
 exact ⟨rfl,rfl⟩
theorem ri (a:Addr) (w:World) (hc:w.cell? a=some (.int .i32 1)) (hz:w.frozen? a=false) :
  Calls Tryz.prog 157 #[.pointer (some a)] w fun e w'=>e=.returned (.tuple #[])∧w'=w.setCell a (.int .i32 0):=by
 have hd:=lU;have he:=m3;have hr:=qU;have hadd:=run_call_add (P:=Tryz.prog) Tryz.func181 (by kernel_rfl) (by kernel_rfl) (by kernel_rfl) .i32 (by kernel_rfl) (y:=-1) (s:=0) hc hz (by simp [go_sem];rfl);have hcv:=run_convert_to_unsafe (P:=Tryz.prog) (src:=201) (dst:=142) Tryz.underlying201 Tryz.underlying142 (by kernel_rfl) hc;go_enter Tryz.func157,Tryz.ntmps157
 go_wp2
 go_end0
 exact ⟨rfl,rfl⟩
theorem nu (a:Addr) (u:FrameMode) (w:World) (hc:w.cell? a=some (.int .i32 1)) (hz:w.frozen? a=false) :
  CallsD Tryz.prog 134 #[.pointer (some a)] u w fun e u' w'=>u'=u∧(e=.returned (.tuple #[])∧w'=w.setCell a (.int .i32 0)):=by
 go_enter_d Tryz.func134,Tryz.ntmps134
 go_wp2_with (go_at_call 157;refine (ri _ _ (by assumption) (by assumption)).mono ?_;rintro e w' ⟨rfl,rfl⟩)
 go_end0
 exact ⟨rfl,rfl⟩
theorem sW:(Tryz.prog.info? 9).map (fun i=>(i.zero,i.size,i.bytes))=some (some (.string ⟨#[]⟩),1,16):=by kernel_rfl
def xG:List (List UInt8):=[[34],[92,34],[92],[92,92],[10],[92,110]]
structure Six (w:World) (b o:Nat):Prop where
 lt:b<w.heap.size
 s0:w.cell? ⟨b,o,none⟩=some (.string (bs [34]))
 s1:w.cell? ⟨b,o+1,none⟩=some (.string (bs [92,34]))
 s2:w.cell? ⟨b,o+2,none⟩=some (.string (bs [92]))
 s3:w.cell? ⟨b,o+3,none⟩=some (.string (bs [92,92]))
 s4:w.cell? ⟨b,o+4,none⟩=some (.string (bs [10]))
 s5:w.cell? ⟨b,o+5,none⟩=some (.string (bs [92,110]))
theorem nU {w:World} {v:Value} (h:a9 w 1 v 6 (cb xG)):∃ (b o c:Nat),v=.slice (some ⟨b,o,none⟩) 6 c∧6≤c∧c≤maxLen∧Six w b o:=by
 obtain ⟨_,a,c,rfl,hc,hm,hx⟩:=h.str;obtain ⟨b,o,rfl,aL,hcell⟩:=hx 0 (by decide);exact ⟨b,o,c,rfl,hc,hm,aL,hcell 0 (by decide),hcell 1 (by decide),hcell 2 (by decide),hcell 3 (by decide),hcell 4 (by decide),hcell 5 (by decide)⟩
structure iX (w:World) (b:Nat) (done st:Int) (r v:Value):Prop where
 c0:w.cell? ⟨b,0,none⟩=some (.int .u32 done)
 c1:w.cell? ⟨b,1,none⟩=some (.int .i32 st)
 c2:w.cell? ⟨b,2,none⟩=some (.int .u32 0)
 c3:w.cell? ⟨b,3,none⟩=some r
 c4:w.cell? ⟨b,4,none⟩=some v
 fr:ny w b
theorem iX.past {B:Nat} {w w':World} {b:Nat} {done st:Int} {r v:Value} (h:iX w b done st r v) (hb:Below B w w') (aL:b<B):iX w' b done st r v :=
 ⟨(hb.cell (p:=⟨b,0,none⟩) aL).trans h.1,(hb.cell (p:=⟨b,1,none⟩) aL).trans h.2,(hb.cell (p:=⟨b,2,none⟩) aL).trans h.3,(hb.cell (p:=⟨b,3,none⟩) aL).trans h.4,(hb.cell (p:=⟨b,4,none⟩) aL).trans h.5,h.fr.past hb aL⟩
theorem zz (w:World) (x0 x1 x2 x3 x4:Value) (e:TypeId):(w.alloc (.cells #[x0,x1,x2,x3,x4] e)).cell? ⟨w.heap.size,0,none⟩=some x0∧(w.alloc (.cells #[x0,x1,x2,x3,x4] e)).cell? ⟨w.heap.size,1,none⟩=some x1∧(w.alloc (.cells #[x0,x1,x2,x3,x4] e)).cell? ⟨w.heap.size,2,none⟩=some x2∧(w.alloc (.cells #[x0,x1,x2,x3,x4] e)).cell? ⟨w.heap.size,3,none⟩=some x3∧(w.alloc (.cells #[x0,x1,x2,x3,x4] e)).cell? ⟨w.heap.size,4,none⟩=some x4 :=
 ⟨by rw [World.cell?_alloc_mark];rfl,by rw [World.cell?_alloc_mark];rfl,by rw [World.cell?_alloc_mark];rfl,by rw [World.cell?_alloc_mark];rfl,by rw [World.cell?_alloc_mark];rfl⟩
def uL (w:World) (b:Nat):Prop:=∃ (v:Value) (w1:World),iX w b 0 0 .nilIface v∧a9 w1 1 v 6 (cb xG)∧w1.heap.size≤b∧Below b w1 w
theorem z6 (v:Value) (w:World) (h:a9 w 1 v 6 (cb xG)) :
  Calls Tryz.prog 31 #[v] w fun e w'=>∃ b,e=.returned (.pointer (some ⟨b,0,none⟩))∧uL w' b∧w.heap.size≤b∧b<w'.heap.size∧Below w.heap.size w w':=by
 obtain ⟨i0,hi,hz0,hz1,hz2⟩:=info_parts sW;obtain ⟨b0,o0,c,rfl,hc,hm,_⟩:=nU h;have Hs:=hid h;clear h;go_enter Tryz.func31,Tryz.ntmps31
 go_wp2_with (at_builtin;go_must (refine cg rfl _ _ 48 rfl w.heap.size 9 i0 (.string ⟨#[]⟩) 1 16 Tryz.underlying48 hi hz0 hz1 hz2 rfl (by decide) _ 0 [] rfl ?c1 _ 6 (cb xG) rfl ?c2 ?c3 ?c4 ?c5 ?c6 ?_))
 case c1=>exact ⟨rfl,.inl ⟨rfl,rfl⟩⟩
 case c2=>exact Hs.out
 case c3=>exact qz _
 case c4=>unfold maxLen;omega
 case c5=>omega
 case c6=>simp
 intro v' w1 hown hgrow;have hb1:Below w.heap.size w w1:=(Below.refl _ w).grown hgrow (by simp) (by intro k hk;simp [Value.ownBlock] at hk);have hsl:a9 w1 1 v' 6 (cb xG):=zdK (n:=6) (by exact hown) (by decide);obtain ⟨b1,o1,c1,rfl,hc1,hm1,_⟩:=nU hsl;have Hs1:=hid hsl;clear hown hsl;have HR:=hid (zz w1 (.int .u32 0) (.int .i32 0) (.int .u32 0) .nilIface (.slice (some ⟨b1,o1,none⟩) 6 c1) 109);have HF:=hid (fZ w1 #[.int .u32 0,.int .i32 0,.int .u32 0,.nilIface,.slice (some ⟨b1,o1,none⟩) 6 c1] 109);go_wp2_with fail;go_ret;exact ⟨w1.heap.size,rfl,⟨_,w1,⟨HR.out.1,HR.out.2.1,HR.out.2.2.1,HR.out.2.2.2.1,HR.out.2.2.2.2,HF.out⟩,Hs1.out,nRe _,(Below.refl _ _).alloc (nRe _) _⟩,hb1.size,by simp,hb1.trans ((Below.refl _ _).alloc hb1.size _)⟩
def iW (v:Value):Array Value:=(List.replicate 256 (Value.slice none 0 0)++[v]).toArray
theorem zC (a:Option Addr) (l c:Nat):(iW (.slice a l c)).all (·.oneCell')=true:=by kernel_rfl
theorem lw {w:World} {ops:Array Oper} {rest:List Oper} {o:Oper} {a:Act} {Q:Exit→Act→World→Prop} (hg:o.guard=none) (x:Operand)
  (ho:o.op=.convert 9 41 x) (l:List UInt8) (n:Nat) (hn:l.length=n) (hl:n≤1000000000000) (hx:a.eval x=.string (bs l))
  (h:∀ (k:Nat) (w':World),n≤k→k≤maxLen→(∀ j u,(Lib.byteCells l)[j]? = some u→w'.cell? ⟨w.heap.size,j,none⟩=some u)→w.heap.size<w'.heap.size→Below w.heap.size w w' →
   wpList Tryz.prog ops Q rest (a.put o.dst (.slice (some ⟨w.heap.size,0,none⟩) n k)) w'):wpList Tryz.prog ops Q (o::rest) a w:=by
 subst hn;refine wpList_plain hg fun K hK=>?_
 have hrun:=run_bytes_of_string (P:=Tryz.prog) w 9 41 5 (bs l) Tryz.underlying9 Tryz.underlying41 Tryz.underlying5;have hk1:=grownCap_ge w (bs l).size 0 5;have hk2:=grownCap_le_maxLen w (bs l).size 0 5 (by rw [kt];unfold maxLen;omega);generalize hk:grownCap w (bs l).size 0 5=k at hrun hk1 hk2;have hnew:∀ j u,(Lib.byteCells l)[j]? = some u→(w.drew.alloc (.cells (bytesRow (bs l) k) 5 ((bytesRow (bs l) k).size,(bytesRow (bs l) k).size+1))).cell? ⟨w.heap.size,j,none⟩=some u:=by
  intro j u hj;have e:(w.drew.alloc (.cells (bytesRow (bs l) k) 5 ((bytesRow (bs l) k).size,(bytesRow (bs l) k).size+1))).heap[w.heap.size]? = some (.cells (bytesRow (bs l) k) 5 ((bytesRow (bs l) k).size,(bytesRow (bs l) k).size+1)):=by
   show (w.heap.push _)[w.heap.size]? = _;simp
  have hjl:j<l.length:=by
   have:=(List.getElem?_eq_some_iff.1 hj).1;rwa [bU] at this
  simp only [World.cell?,e];rw [← hj];simp [bytesRow,Lib.byteCells,Array.getElem?_append,hjl];simp [bs,hjl];intro hle;have hle':l.length≤j:=hle;omega
 unfold Oper.wp;simp only [execOp,ho,hx,Sem.run_bind,hrun,Result.andThen_ok];refine hK _ _ (h k _ hk1 hk2 hnew ?_ ?_)
 ·show w.heap.size<(w.heap.push _).size;simp
 ·exact ((Below.refl _ w).drew).alloc (nRe _) _
structure g6 (w:World) (r:Nat) (D:List UInt8):Prop where
 has:∀ c ∈ D,∃ g k:Nat,w.cell? ⟨r,c.toNat,none⟩=some (.slice (some ⟨g,0,none⟩) 2 k)∧2≤k∧k≤maxLen∧g<w.heap.size∧r<g∧∀ j u,(Lib.byteCells (bS c))[j]? = some u→w.cell? ⟨g,j,none⟩=some u
 non:∀ c:UInt8,c ∉ D→w.cell? ⟨r,c.toNat,none⟩=some (.slice none 0 0)
 free:ny w r
 lt:r<w.heap.size
theorem g6.past {B:Nat} {w w':World} {r:Nat} {D:List UInt8} (h:g6 w r D) (hb:Below B w w') (aL:w.heap.size≤B):g6 w' r D:=by
 have hr:r<B:=nL h.lt aL;refine ⟨fun c hc=>?_,fun c hc=>(hb.cell (p:=⟨r,c.toNat,none⟩) hr).trans (h.non c hc),h.free.past hb hr,nL h.lt hb.size⟩;obtain ⟨g,k,h1,h2,h3,h4,h5,h6⟩:=h.has c hc;exact ⟨g,k,(hb.cell (p:=⟨r,c.toNat,none⟩) hr).trans h1,h2,h3,nL h4 hb.size,h5,fun j u hj=>(hb.cell (p:=⟨g,j,none⟩) (nL h4 aL)).trans (h6 j u hj)⟩
theorem g6.store {w:World} {r:Nat} {D:List UInt8} (h:g6 w r D) (v:Value):g6 (w.setCell ⟨r,256,none⟩ v) r D:=by
 have hn:∀ c:UInt8,(⟨r,256,none⟩:Addr)≠⟨r,c.toNat,none⟩:=fun c e=>by
  have h1:=congrArg Addr.off e;have h2:=c.toNat_lt;simp only at h1;omega
 refine ⟨fun c hc=>?_,fun c hc=>(World.cell?_setCell_other _ _ _ _ (hn c)).trans (h.non c hc),fun j=>by rw [World.frozen?_setCell];exact h.free j,by simpa using h.lt⟩;obtain ⟨g,k,h1,h2,h3,h4,h5,h6⟩:=h.has c hc;exact ⟨g,k,(World.cell?_setCell_other _ _ _ _ (hn c)).trans h1,h2,h3,by simpa using h4,h5,fun j u hj=>(World.cell?_setCell_other _ _ _ _ (fun e=>Nat.ne_of_lt h5 (congrArg Addr.block e))).trans (h6 j u hj)⟩
theorem g6.more {w:World} {r:Nat} {D:List UInt8} (h:g6 w r D) {x:UInt8} (hx:x ∉ D) (g k:Nat) (h2:2≤k) (h3:k≤maxLen) (h4:g<w.heap.size) (h5:r<g)
  (h6:∀ j u,(Lib.byteCells (bS x))[j]? = some u→w.cell? ⟨g,j,none⟩=some u):g6 (w.setCell ⟨r,x.toNat,none⟩ (.slice (some ⟨g,0,none⟩) 2 k)) r (D++[x]):=by
 have hn:∀ c:UInt8,c≠x→(⟨r,x.toNat,none⟩:Addr)≠⟨r,c.toNat,none⟩:=fun c hc e=>by
  have h1:=congrArg Addr.off e;simp only at h1;exact hc (UInt8.toNat_inj.1 h1.symm)
 have hg:∀ (g' j:Nat),r<g'→(⟨r,x.toNat,none⟩:Addr)≠⟨g',j,none⟩:=fun g' j h e=>Nat.ne_of_lt h (congrArg Addr.block e)
 refine ⟨fun c hc=>?_,fun c hc=>?_,fun j=>by rw [World.frozen?_setCell];exact h.free j,by simpa using h.lt⟩
 ·rw [List.mem_append,List.mem_singleton] at hc;by_cases hcx:c=x
  ·subst hcx;exact ⟨g,k,World.cell?_setCell_same' _ _ _ (by rw [h.non c hx];rfl),h2,h3,by simpa using h4,h5,fun j u hj=>(World.cell?_setCell_other _ _ _ _ (hg _ _ h5)).trans (h6 j u hj)⟩
  ·obtain ⟨g',k',q1,q2,q3,q4,q5,q6⟩:=h.has c (hc.resolve_right hcx);exact ⟨g',k',(World.cell?_setCell_other _ _ _ _ (hn c hcx)).trans q1,q2,q3,by simpa using q4,q5,fun j u hj=>(World.cell?_setCell_other _ _ _ _ (hg _ _ q5)).trans (q6 j u hj)⟩
 ·rw [List.mem_append,List.mem_singleton,not_or] at hc;exact (World.cell?_setCell_other _ _ _ _ (hn c hc.2)).trans (h.non c hc.1)
theorem zx (v:Value) (c:UInt8):(iW v)[c.toNat]? = some (.slice none 0 0):=by
 have h:=c.toNat_lt;unfold iW;rw [List.getElem?_toArray,List.getElem?_append_left (by simpa using h),List.getElem?_replicate,if_pos (by simpa using h)]
theorem vR (v:Value):(iW v)[256]? = some v:=rfl
theorem za0 (w:World) (r:Nat) (hr:w.heap[r]? = some (.cells (iW (.slice none 0 0)) 160 (0,0))) (v:Value) :
  g6 (w.setRow r (iW v)) r []∧(w.setRow r (iW v)).cell? ⟨r,256,none⟩=some v:=by
 have hc:∀ j,(w.setRow r (iW v)).cell? ⟨r,j,none⟩=(iW v)[j]?:=fun j=>cell_setRow_same w r j _ _ _ _ hr
 have hh:=setRow_heap w r _ (iW v) _ _ hr;refine ⟨⟨fun c hc=>(by cases hc),fun c _=>(hc _).trans (zx v c),fun j=>?_,?_⟩,(hc 256).trans (vR v)⟩
 ·simp [World.frozen?,hh]
 ·exact (aGe.1 hh).1
theorem g6.grown {w w':World} {r n:Nat} {D:List UInt8} (h:g6 w r D) (hg:w.grownBy w' (some n)) (hn:n<r):g6 w' r D:=by
 have hb:∀ k,k<w.heap.size→r≤k→w'.heap[k]? = w.heap[k]?:=fun k hk hr=>hg.block k hk (by simp;omega)
 have hc:∀ k j,k<w.heap.size→r≤k→w'.cell? ⟨k,j,none⟩=w.cell? ⟨k,j,none⟩:=fun k j hk hr=>by simp only [World.cell?,hb k hk hr]
 refine ⟨fun c hc'=>?_,fun c hc'=>(hc _ _ h.lt (nRe _)).trans (h.non c hc'),fun j=>?_,nL h.lt hg.size⟩
 ·obtain ⟨g,k,h1,h2,h3,h4,h5,h6⟩:=h.has c hc';exact ⟨g,k,(hc _ _ h.lt (nRe _)).trans h1,h2,h3,nL h4 hg.size,h5,fun j u hj=>(hc _ _ h4 (Nat.le_of_lt h5)).trans (h6 j u hj)⟩
 ·have:=h.free j;simp only [World.frozen?,hb r h.lt (nRe _)] at this ⊢;exact this
theorem Six.past {B:Nat} {w w':World} {b o:Nat} (h:Six w b o) (hb:Below B w w') (hB:w.heap.size≤B):Six w' b o:=by
 have aL:b<B:=nL h.lt hB;exact ⟨nL h.lt hb.size,(hb.cell (p:=⟨b,o,none⟩) aL).trans h.s0,(hb.cell (p:=⟨b,o+1,none⟩) aL).trans h.s1,(hb.cell (p:=⟨b,o+2,none⟩) aL).trans h.s2,(hb.cell (p:=⟨b,o+3,none⟩) aL).trans h.s3,(hb.cell (p:=⟨b,o+4,none⟩) aL).trans h.s4,(hb.cell (p:=⟨b,o+5,none⟩) aL).trans h.s5⟩
def f7 (m:Nat):UInt8:=if m=0 then 10 else if m=1 then 92 else 34
def cL (m:Nat):List UInt8:=[10,92,34].take m
theorem Six.round {w:World} {b o:Nat} (h:Six w b o) (m:Nat) (hm:m<3) :
  w.cell? ⟨b,o+(4 - 2 * m),none⟩=some (.string (bs [f7 m]))∧w.cell? ⟨b,o+(4 - 2 * m+1),none⟩=some (.string (bs (bS (f7 m))))∧cL (m+1)=cL m++[f7 m]∧f7 m ∉ cL m∧(bS (f7 m)).length=2:=by
 obtain rfl | rfl | rfl:m=0∨m=1∨m=2:=by omega
 ·exact ⟨h.s4,h.s5,rfl,by decide,rfl⟩
 ·exact ⟨h.s2,h.s3,rfl,by decide,rfl⟩
 ·exact ⟨h.s0,h.s1,rfl,by decide,rfl⟩
def tO (D:List UInt8):List (List UInt8):=D.map fun c=>[c]
structure i5 (w:World) (lo r:Nat):Prop where
 tab:g6 w r (cL 3)
 low:lo≤r
 reps:∃ n c:Nat,w.cell? ⟨r,256,none⟩=some (.slice (some ⟨n,0,none⟩) 3 c)∧3≤c∧c≤maxLen∧lo≤n∧n<w.heap.size∧∀ j u,(cb (tO (cL 3)))[j]? = some u→w.cell? ⟨n,j,none⟩=some u
theorem i5.agree {w w':World} {lo r:Nat} (h:i5 w lo r) (hs:w.heap.size≤w'.heap.size) (hc:∀ k j,lo≤k→k<w.heap.size→w'.cell? ⟨k,j,none⟩=w.cell? ⟨k,j,none⟩)
  (hf:∀ k j,lo≤k→k<w.heap.size→w'.frozen? ⟨k,j,none⟩=w.frozen? ⟨k,j,none⟩):i5 w' lo r:=by
 have hlr:=h.low;have hrl:=h.tab.lt;refine ⟨⟨fun c hc'=>?_,fun c hc'=>(hc _ _ hlr hrl).trans (h.tab.non c hc'),fun j=>(hf _ _ hlr hrl).trans (h.tab.free j),nL hrl hs⟩,hlr,?_⟩
 ·obtain ⟨g,k,h1,h2,h3,h4,h5,h6⟩:=h.tab.has c hc';exact ⟨g,k,(hc _ _ hlr hrl).trans h1,h2,h3,nL h4 hs,h5,fun j u hj=>(hc _ _ (by omega) h4).trans (h6 j u hj)⟩
 ·obtain ⟨n,c,h1,h2,h3,h4,h5,h6⟩:=h.reps;exact ⟨n,c,(hc _ _ hlr hrl).trans h1,h2,h3,h4,nL h5 hs,fun j u hj=>(hc _ _ h4 h5).trans (h6 j u hj)⟩
theorem i5.past {B:Nat} {w w':World} {lo r:Nat} (h:i5 w lo r) (hb:Below B w w') (hB:w.heap.size≤B):i5 w' lo r :=
 h.agree hb.size (fun k j _ hk=>hb.cell (p:=⟨k,j,none⟩) (nL hk hB)) (fun k j _ hk=>hb.frozen (p:=⟨k,j,none⟩) (nL hk hB))
theorem i5.store {w:World} {lo r b:Nat} (h:i5 w lo r) (hb:b<lo) (j:Nat) (v:Value):i5 (w.setCell ⟨b,j,none⟩ v) lo r :=
 h.agree (by simp) (fun k i hk _=>World.cell?_setCell_other _ _ _ _ (fun e=>by have:=congrArg Addr.block e;simp only at this;omega)) (fun k i _ _=>by rw [World.frozen?_setCell])
theorem zbb (w:World) (o:Obj) (l:List UInt8) (j:Nat) (u:Value) (h:[Value.string (bs l)][j]? = some u):((w.alloc o).alloc (.cells #[.string (bs l)] 9)).cell? ((⟨w.heap.size+1,0,none⟩:Addr).add j)=some u:=by
 have:=ml (w.alloc o) #[.string (bs l)] 9 (0,0) j u h;rwa [wSz] at this
theorem xm (b b1 o1 c1:Nat) (w:World) (h4:w.cell? ⟨b,4,none⟩=some (.slice (some ⟨b1,o1,none⟩) 6 c1)) (h6:Six w b1 o1) :
  Calls Tryz.prog 100 #[.pointer (some ⟨b,0,none⟩)] w fun e w'=>∃ r,e=.returned (.iface 161 (.pointer (some ⟨r,0,none⟩)))∧i5 w' w.heap.size r∧Below w.heap.size w w':=by
 obtain ⟨i0,hi,hz0,hz1,hz2⟩:=info_parts sW;have H6:=hid h6;obtain ⟨aL,s0,s1,s2,s3,s4,s5⟩:=h6;go_enter Tryz.func100,Tryz.ntmps100
 go_wp2_with fail;refine wp_loop_rounds 4 ?_
 iterate 3 (rw [rounds_succ];go_wp2_with fail)
 rw [rounds_succ];go_wp2_with (at_make;go_must (refine wpList_make_own _ rfl _ _ 48 rfl w.heap.size 9 i0 (.string ⟨#[]⟩) 1 Tryz.underlying48 hi hz0 hz1 .i64 .i64 _ 3 rfl rfl rfl (by rw [hz2];decide) (by decide) (nRe _) ?_);intro w0 hown0 hgrow0;go_must (refine wpList_buildTo rfl 160 _ rfl (some 95) rfl (iW (.slice (some ⟨w.heap.size,0,none⟩) 0 3)) (by kernel_rfl) ?_);go_must (refine Go.Great.wpList_runTo rfl (some 11) rfl (.pointer (some ⟨w0.heap.size,0,none⟩)) (w0.alloc (.cells (iW (.slice none 0 0)) 160)) (by kernel_rfl) ?_);go_must (refine wpList_store_rowTo rfl 160 _ _ rfl rfl w0.heap.size (iW (.slice (some ⟨w.heap.size,0,none⟩) 0 3)) (by kernel_rfl) (by kernel_rfl) 160 (iW (.slice none 0 0)) Array.getElem?_push_size (by kernel_rfl) rfl (zC _ _ _) ?_))
 have hnR:w.heap.size<w0.heap.size:=(hown0.lt _ rfl).2;obtain ⟨htab,htv⟩:=za0 (w0.alloc (.cells (iW (.slice none 0 0)) 160)) w0.heap.size Array.getElem?_push_size (.slice (some ⟨w.heap.size,0,none⟩) 0 3);have hB0:Below w0.heap.size w0 ((w0.alloc (.cells (iW (.slice none 0 0)) 160)).setRow w0.heap.size (iW (.slice (some ⟨w.heap.size,0,none⟩) 0 3))):=below_setRow ((Below.refl _ _).alloc (nRe _) _) (nRe _) _;have hown:=dA hown0 hB0;have hBw:Below w.heap.size w ((w0.alloc (.cells (iW (.slice none 0 0)) 160)).setRow w0.heap.size (iW (.slice (some ⟨w.heap.size,0,none⟩) 0 3))):=((Below.refl _ w).grown hgrow0 (nRe _) (by intro k hk;cases hk)).trans (hB0.mono (Nat.le_of_lt hnR));clear hown0 hgrow0 hB0;generalize (w0.alloc (.cells (iW (.slice none 0 0)) 160)).setRow w0.heap.size (iW (.slice (some ⟨w.heap.size,0,none⟩) 0 3))=W0 at *;generalize w0.heap.size=R at *;have HS0:=hid hBw;have HT0:=hid (And.intro htab (And.intro htv hown));clear htab htv hown hBw h4 s0 s1 s2 s3 s4 s5;go_loopw [12] (fun i wr=>∃ m:Nat,m≤3∧i=.int .i64 (4 - 2 * (m:Int))∧Hid (g6 wr R (cL m)∧wr.cell? ⟨R,256,none⟩=some (.slice (some ⟨w.heap.size,0,none⟩) m 3)∧wr.ownsRow w.heap.size 9 1 (.slice (some ⟨w.heap.size,0,none⟩) m 3) m (cb (tO (cL m))))∧Hid (Below w.heap.size w wr)) (fun i _=>(intOf i+2).toNat)
 case atStart=>exact ⟨0,by omega,rfl,HT0,HS0⟩
 case round =>
  obtain ⟨m,hm3,rfl,HT,HB⟩:=hrel;obtain ⟨htab,htv,hown⟩:=HT.out;by_cases hlt3:m<3
  ·have h6r:=H6.out.past HB.out (nRe _);obtain ⟨t0,t1,e1,e2,e3⟩:=h6r.round m hlt3;have hnon:=htab.non _ e2;have hfr:=htab.free;have hRl:=htab.lt;have hx256:=(f7 m).toNat_lt;have E1:=hid e1;have E2:=hid e2;have hti:((4:Int) - 2 * (m:Int))=((4 - 2 * m:Nat):Int):=by omega
   have hi5:4 - 2 * m+1<6:=by omega
   have Hm:Hid ((4 - 2 * m:Nat)+2 * m=4):=hid (by omega);obtain ⟨x,hxe⟩:∃ x,f7 m=x:=⟨_,rfl⟩;obtain ⟨tx,htx⟩:∃ tx,bS (f7 m)=tx:=⟨_,rfl⟩;rw [htx] at t1 e3;rw [hxe] at t0 hnon hx256 E1 E2 htx;have Htx:=hid htx;rw [hti];generalize 4 - 2 * m=i at *;have hi1:((i:Int)+1).toNat=i+1:=by omega
   have hz256:wr.frozen? ⟨R,256,none⟩=false:=hfr 256;have hzx:wr.frozen? ⟨R,x.toNat,none⟩=false:=hfr x.toNat;have hcv:=ib (i7 wr x);have HTr:=hid htab;have Hown:=hid hown;clear h6r e1 e2 hxe htx hti hown htab hfr;have hnil:∀ W:World,(binOp .eql 41 (.slice none 0 0) (.slice none 0 0)).run Tryz.prog W=.ok (.bool true) W:=fun W=>by kernel_rfl
   go_wp2_with (at_builtin;go_must (refine wpList_append_fits _ rfl _ _ 48 rfl w.heap.size 9 i0 1 Tryz.underlying48 hi hz1 w.heap.size m 3 (cb (tO (cL m))) rfl ?own ⟨wr.heap.size+1,0,none⟩ 1 1 [.string (bs [x])] rfl rfl ?hc (by simp [Value.oneCell']) (by omega) ?_))
   case own=>exact ((Hown.out.alloc _).alloc _)
   case hc=>exact fun j u hj=>zbb _ _ _ j u hj
   intro w3 hown3 hgrow3;have hRne:∀ j:Nat,w3.cell? ⟨R,j,none⟩=wr.cell? ⟨R,j,none⟩:=fun j=>by
    have h1:w3.heap[R]? = ((wr.alloc (.cells #[.int .u8 x.toNat] 5)).alloc (.cells #[.string (bs [x])] 9)).heap[R]?:=hgrow3.block R (by simp;omega) (by simp;omega);have h2:=(((Below.refl wr.heap.size wr).alloc (nRe _) (.cells #[.int .u8 x.toNat] 5)).alloc (by simp) (.cells #[.string (bs [x])] 9)).block R hRl;simp only [World.cell?,h1,h2]
   have htv3:=(hRne 256).trans htv;have HT3:Hid (g6 w3 R (cL m)):=hid ((HTr.out.past (((Below.refl wr.heap.size wr).alloc (nRe _) _).alloc (by simp) _) (nRe _)).grown hgrow3 hnR);have hz3:w3.frozen? ⟨R,256,none⟩=false:=HT3.out.free 256;have HB3:Hid (Below w.heap.size w w3):=hid (((HB.out.alloc (HB.out.size) _).alloc (by simp;have:=HB.out.size;omega) _).grown hgrow3 (by simp;have:=HB.out.size;omega) (by intro k hk;cases hk;exact nRe _));have Hown3:=hid hown3;have hR3:=HT3.out.lt;clear hown3 hgrow3 hRne htv hnon hz256 hzx hcv t0 t1;go_wp2_with (refine lw rfl _ rfl tx 2 e3 (by omega) rfl ?_;intro k5 w5 hk51 hk52 hcell5 hsz5 hb5;have HT5:=hid ((HT3.out.store (.slice (some ⟨w.heap.size,0,none⟩) (m+1) 3)).past hb5 (nRe _));have hcx5:=HT5.out.non x E2.out;have hzx5:w5.frozen? ⟨R,x.toNat,none⟩=false:=HT5.out.free x.toNat)
   have au:R<w3.heap.size:=hR3;have HT6:g6 (w5.setCell ⟨R,x.toNat,none⟩ (.slice (some ⟨w3.heap.size,0,none⟩) 2 k5)) R (cL (m+1)):=by
    rw [E1.out];refine HT5.out.more E2.out _ k5 hk51 hk52 (by simpa using hsz5) au ?_;intro j u hj;rw [Htx.out] at hj;simpa using hcell5 j u hj
   have hne:(⟨R,x.toNat,none⟩:Addr)≠⟨R,256,none⟩:=fun e=>by
    have:=congrArg Addr.off e;simp only at this;omega
   have htv5:w5.cell? ⟨R,256,none⟩=some (.slice (some ⟨w.heap.size,0,none⟩) (m+1) 3):=(hb5.cell (p:=⟨R,256,none⟩) (by simpa using au)).trans (World.cell?_setCell_same' _ _ _ (by rw [htv3];rfl));have hown6:=ownsRow_setCell_other (dA (ownsRow_setCell_other Hown3.out (a:=⟨R,256,none⟩) (by simp [Value.ownBlock];omega) (.slice (some ⟨w.heap.size,0,none⟩) (m+1) 3)) hb5) (a:=⟨R,x.toNat,none⟩) (by simp [Value.ownBlock];omega) (.slice (some ⟨w3.heap.size,0,none⟩) 2 k5);have hones:cb (tO (cL m))++[.string (bs [x])]=cb (tO (cL (m+1))):=by rw [E1.out];simp [tO,cb]
   rw [hones] at hown6;have hHm:=Hm.out;refine ⟨⟨m+1,by omega,by congr 1;omega,hid ⟨HT6,(World.cell?_setCell_other _ _ _ _ hne).trans htv5,hown6⟩,hid (((HB3.out.setCell (p:=⟨R,256,none⟩) (Nat.le_of_lt hnR) _).trans (hb5.mono (by simp;omega))).setCell (p:=⟨R,x.toNat,none⟩) (Nat.le_of_lt hnR) _)⟩,by simp [intOf];omega⟩
  ·obtain rfl:m=3:=by omega
   have HE:Hid (i5 wr w.heap.size R):=hid (by
    obtain ⟨hl,a,c,he,hc,hm,_,hx⟩:=zdK hown (by decide);obtain ⟨n,o,rfl,hlt',cw⟩:=hx (by decide);cases he
    exact ⟨htab,Nat.le_of_lt hnR,_,_,htv,hc,hm,nRe _,hlt',fun j u hj=>by simpa using cw j u hj⟩)
   clear htab htv hown HT;go_wp2_with fail;go_ret;exact ⟨R,rfl,HE.out,HB.out⟩
theorem iX.put0 {w:World} {b:Nat} {d st:Int} {r v:Value} (h:iX w b d st r v) (n:Int):iX (w.setCell ⟨b,0,none⟩ (.int .u32 n)) b n st r v :=
 ⟨World.cell?_setCell_same' _ _ _ (by rw [h.c0];rfl),(World.cell?_setCell_other _ _ _ _ (by simp)).trans h.c1,(World.cell?_setCell_other _ _ _ _ (by simp)).trans h.c2,(World.cell?_setCell_other _ _ _ _ (by simp)).trans h.c3,(World.cell?_setCell_other _ _ _ _ (by simp)).trans h.c4,fun j=>by rw [World.frozen?_setCell];exact h.fr j⟩
theorem iX.put1 {w:World} {b:Nat} {d st:Int} {r v:Value} (h:iX w b d st r v) (n:Int):iX (w.setCell ⟨b,1,none⟩ (.int .i32 n)) b d n r v :=
 ⟨(World.cell?_setCell_other _ _ _ _ (by simp)).trans h.c0,World.cell?_setCell_same' _ _ _ (by rw [h.c1];rfl),(World.cell?_setCell_other _ _ _ _ (by simp)).trans h.c2,(World.cell?_setCell_other _ _ _ _ (by simp)).trans h.c3,(World.cell?_setCell_other _ _ _ _ (by simp)).trans h.c4,fun j=>by rw [World.frozen?_setCell];exact h.fr j⟩
theorem iX.put3 {w:World} {b:Nat} {d st:Int} {r v:Value} (h:iX w b d st r v) (x:Value):iX (w.setCell ⟨b,3,none⟩ x) b d st x v :=
 ⟨(World.cell?_setCell_other _ _ _ _ (by simp)).trans h.c0,(World.cell?_setCell_other _ _ _ _ (by simp)).trans h.c1,(World.cell?_setCell_other _ _ _ _ (by simp)).trans h.c2,World.cell?_setCell_same' _ _ _ (by rw [h.c3];rfl),(World.cell?_setCell_other _ _ _ _ (by simp)).trans h.c4,fun j=>by rw [World.frozen?_setCell];exact h.fr j⟩
theorem iX.put4 {w:World} {b:Nat} {d st:Int} {r v:Value} (h:iX w b d st r v) (x:Value):iX (w.setCell ⟨b,4,none⟩ x) b d st r x :=
 ⟨(World.cell?_setCell_other _ _ _ _ (by simp)).trans h.c0,(World.cell?_setCell_other _ _ _ _ (by simp)).trans h.c1,(World.cell?_setCell_other _ _ _ _ (by simp)).trans h.c2,(World.cell?_setCell_other _ _ _ _ (by simp)).trans h.c3,World.cell?_setCell_same' _ _ _ (by rw [h.c4];rfl),fun j=>by rw [World.frozen?_setCell];exact h.fr j⟩
def uJ (w:World) (b:Nat) (d st:Int):Prop:=∃ r,iX w b d st (.iface 161 (.pointer (some ⟨r,0,none⟩))) (.slice none 0 0)∧∃ lo,b<lo∧i5 w lo r
theorem pr (b b1 o1 c1:Nat) (d st:Int) (r0:Value) (w:World) (hr:iX w b d st r0 (.slice (some ⟨b1,o1,none⟩) 6 c1)) (h6:Six w b1 o1) :
  Calls Tryz.prog 60 #[.pointer (some ⟨b,0,none⟩)] w fun e w'=>e=.returned (.tuple #[])∧uJ w' b d st∧Below b w w':=by
 have aL:b<w.heap.size:=World.block_lt_of_cell? w _ hr.c0;have Hr:=hid hr;have H6:=hid h6;clear hr h6;go_enter Tryz.func60,Tryz.ntmps60
 go_wp2_with (go_at_call 100;refine (xm b b1 o1 c1 _ Hr.out.c4 H6.out).mono ?_;rintro e w1 ⟨r,rfl,hB,hb1⟩;have HR1:=hid (Hr.out.past hb1 aL);have HBu:=hid hB;have q3:=HR1.out.c3;have q4:=HR1.out.c4;have z3:=HR1.out.fr 3;have z4:=HR1.out.fr 4;clear hB)
 go_end0
 exact ⟨rfl,⟨r,(HR1.out.put3 _).put4 _,w.heap.size,aL,(HBu.out.store aL 3 _).store aL 4 _⟩,((hb1.mono (Nat.le_of_lt aL)).setCell (nRe _) _).setCell (nRe _) _⟩
theorem pX (a:Addr) (x:Int) (w:World) (hc:w.cell? a=some (.int .u32 x)) :
  Calls Tryz.prog 98 #[.pointer (some a)] w fun e w'=>e=.returned (.bool (x != 0))∧w'=w:=by
 have hl:=run_call_load (P:=Tryz.prog) Tryz.func132 (by kernel_rfl) (by kernel_rfl) (by kernel_rfl) .u32 (by kernel_rfl) (w:=w) (a:=a) (x:=x) hc;go_enter Tryz.func98,Tryz.ntmps98
 go_wp2
 go_ret;exact ⟨rfl,rfl⟩
theorem zF (b b1 o1 c1:Nat) (r0:Value) (w:World) (hr:iX w b 0 0 r0 (.slice (some ⟨b1,o1,none⟩) 6 c1)) (h6:Six w b1 o1) (hb1b:b1≠b) :
  Calls Tryz.prog 99 #[.pointer (some ⟨b,0,none⟩),.func (.func 60) #[.pointer (some ⟨b,0,none⟩)] #[]] w fun e w'=>e=.returned (.tuple #[])∧uJ w' b 1 0∧Below b w w':=by
 have Hr:=hid hr;have hc1':=hr.c1;have hz1':=hr.fr 1;have HrL:=hid (hr.put1 1);have H6L:Hid (Six (w.setCell ⟨b,1,none⟩ (.int .i32 1)) b1 o1):=hid (by
  have hn:∀ j:Nat,(⟨b,1,none⟩:Addr)≠⟨b1,j,none⟩:=fun j e=>hb1b (congrArg Addr.block e).symm
  exact ⟨by simpa using h6.lt,(World.cell?_setCell_other _ _ _ _ (hn _)).trans h6.s0,(World.cell?_setCell_other _ _ _ _ (hn _)).trans h6.s1,(World.cell?_setCell_other _ _ _ _ (hn _)).trans h6.s2,(World.cell?_setCell_other _ _ _ _ (hn _)).trans h6.s3,(World.cell?_setCell_other _ _ _ _ (hn _)).trans h6.s4,(World.cell?_setCell_other _ _ _ _ (hn _)).trans h6.s5⟩)
 clear hr h6;have bC:=nb
 go_enter_defers Tryz.func99,Tryz.ntmps99
 go_wp2_with (first
  | (go_at_call 133;refine (vN ⟨b,1,none⟩ _ hc1' hz1').mono ?_;rintro e w' ⟨rfl,rfl⟩)
  | (go_at_call 98;refine (pX ⟨b,0,none⟩ 0 _ HrL.out.c0).mono ?_;rintro e w' ⟨rfl,rfl⟩)
  | (go_at_call 60;refine (pr b b1 o1 c1 0 1 r0 _ HrL.out H6L.out).mono ?_;rintro e w2 ⟨rfl,hrd,hb2⟩))
 obtain ⟨r,hR2,lo,hlo,hBu⟩:=hrd;have hlt2:b<w2.heap.size:=World.block_lt_of_cell? w2 _ hR2.c0;have hR2d:=hR2.past ((Below.refl w2.heap.size w2).drew) hlt2;have hR3:=hR2d.put0 1;have hB3:=(hBu.past ((Below.refl w2.heap.size w2).drew) (nRe _)).store hlo 0 (.int .u32 1);refine leaves_cons (f:=135) (args:=#[.pointer (some ⟨b,0,none⟩),.bool true]) (by simp) (by simp [go_sem]) ?_;refine (n6 ⟨b,0,none⟩ (.int .u32 0) .returning _ hR2.c0 (hR2.fr 0)).mono ?_;rintro e u' w'' ⟨rfl,rfl,rfl⟩;refine leaves_cons (f:=134) (args:=#[.pointer (some ⟨b,1,none⟩)]) (by simp [settle]) (by simp [go_sem]) ?_;refine (nu ⟨b,1,none⟩ _ _ hR3.c1 (hR3.fr 1)).mono ?_;rintro e u' w'' ⟨rfl,rfl,rfl⟩;have HE:Hid (uJ ((w2.drew.setCell ⟨b,0,none⟩ (.int .u32 1)).setCell ⟨b,1,none⟩ (.int .i32 0)) b 1 0∧Below b w ((w2.drew.setCell ⟨b,0,none⟩ (.int .u32 1)).setCell ⟨b,1,none⟩ (.int .i32 0))) :=
  hid ⟨⟨r,hR3.put1 0,lo,hlo,hB3.store hlo 1 _⟩,(((((Below.refl b w).setCell (p:=⟨b,1,none⟩) (nRe _) _).trans hb2).drew).setCell (p:=⟨b,0,none⟩) (nRe _) _).setCell (p:=⟨b,1,none⟩) (nRe _) _⟩
 simp [Leaves,settle,results,Tryz.f99];exact HE.out
theorem zck (b b1 o1 c1:Nat) (r0:Value) (w:World) (hr:iX w b 0 0 r0 (.slice (some ⟨b1,o1,none⟩) 6 c1)) (h6:Six w b1 o1) (hb1b:b1≠b) :
  Calls Tryz.prog 59 #[.pointer (some ⟨b,0,none⟩),.func (.func 60) #[.pointer (some ⟨b,0,none⟩)] #[]] w fun e w'=>e=.returned (.tuple #[])∧uJ w' b 1 0∧Below b w w':=by
 have Hr:=hid hr;have H6:=hid h6;clear hr h6;go_enter Tryz.func59,Tryz.ntmps59
 go_wp2_with (first
  | (go_at_call 98;refine (pX ⟨b,0,none⟩ 0 _ Hr.out.c0).mono ?_;rintro e w' ⟨rfl,rfl⟩)
  | (go_at_call 99;refine (zF b b1 o1 c1 r0 _ Hr.out H6.out hb1b).mono ?_;rintro e w2 ⟨rfl,hrd,hb2⟩))
 go_end0
 exact ⟨rfl,hrd,hb2⟩
theorem vC {c:UInt8} (h:c.toNat=10):bS c=[92,110]:=by unfold bS;rw [if_pos h]
theorem qS {c:UInt8} (h1:c.toNat≠10) (h:c.toNat=34∨c.toNat=92):bS c=[92,c]:=by unfold bS;rw [if_neg h1,if_pos h]
theorem vE {c:UInt8} (h1:c.toNat≠10) (h:¬ (c.toNat=34∨c.toNat=92)):bS c=[c]:=by unfold bS;rw [if_neg h1,if_neg h]
theorem vz {c:UInt8} (h:c.toNat=10):ft c=false:=by simp [ft,h]
theorem qV {c:UInt8} (h:c.toNat≠10) (h2:c.toNat<32∨c.toNat=127):ft c=true:=by
 rcases h2 with h2 | h2 <;> simp [ft,h,h2]
theorem ro {c:UInt8} (h2:¬ (c.toNat<32∨c.toNat=127)):ft c=false:=by
 have h3:¬ c.toNat<32:=fun h=>h2 (.inl h)
 have h4:c.toNat≠127:=fun h=>h2 (.inr h)
 simp [ft,h3,h4]
def QAt (s:List UInt8) (k:Nat) (out:List UInt8):Prop:=out=34::(s.take k).flatMap bS∧(s.take k).any ft=false
theorem QAt.step {s:List UInt8} {k:Nat} (h:k<s.length) {out t:List UInt8} (ho:QAt s k out) (hb:ft s[k]=false) (he:bS s[k]=t):QAt s (k+1) (out++t):=by
 obtain ⟨rfl,hq⟩:=ho;subst he;refine ⟨by rw [iR s k h];simp only [List.flatMap_append,List.flatMap_cons,List.flatMap_nil,List.append_nil,List.cons_append],?_⟩;rw [iR s k h,List.any_append,hq];simp [hb]
theorem ms {s:List UInt8} {k:Nat} (h:k<s.length) (hb:ft s[k]=true):dR s=[]:=by
 unfold dR;rw [if_pos (List.any_eq_true.2 ⟨s[k],List.getElem_mem h,hb⟩)]
theorem QAt.end {s out:List UInt8} (h:QAt s s.length out):dR s=out++[34]:=by
 obtain ⟨rfl,hq⟩:=h;rw [List.take_length] at hq ⊢;unfold dR;rw [hq];simp
def hit (c:UInt8):Bool:=decide (c ∈ cL 3)
theorem u6 (c:UInt8):hit c=true ↔ c.toNat=10∨c.toNat=92∨c.toNat=34:=by
 have h:∀ d:UInt8,c=d ↔ c.toNat=d.toNat:=fun d=>UInt8.toNat_inj.symm
 simp [hit,cL,h]
theorem lf {c:UInt8} (h:hit c=true):c ∈ cL 3:=of_decide_eq_true h
theorem kU {c:UInt8} (h:hit c=false):c ∉ cL 3:=of_decide_eq_false h
theorem qH {c:UInt8} (h:hit c=true):(bS c).length=2:=by
 rcases (u6 c).1 h with e | e | e
 ·rw [vC e];rfl
 ·rw [qS (by omega) (.inr e)];rfl
 ·rw [qS (by omega) (.inl e)];rfl
theorem nF {c:UInt8} (h:hit c=false):bS c=[c]:=by
 have h':¬ (c.toNat=10∨c.toNat=92∨c.toNat=34):=fun e=>by rw [(u6 c).2 e] at h;cases h
 exact vE (fun e=>h' (.inl e)) (fun e=>h' (e.elim (fun e=>.inr (.inr e)) (fun e=>.inr (.inl e))))
theorem sq (c:UInt8):(bS c).length=1+(if hit c=true then 1 else 0):=by
 cases h:hit c with
 | true=>rw [qH h];rfl
 | false=>rw [nF h];rfl
def lr (s:List UInt8) (k:Nat):Nat:=s.length+((s.take k).countP hit)
theorem tI {s:List UInt8} {k:Nat} (h:k<s.length):lr s (k+1)=lr s k+(if hit s[k]=true then 1 else 0):=by
 unfold lr;rw [iR s k h,List.countP_append,List.countP_singleton];omega
theorem sw (s:List UInt8):(s.flatMap bS).length=s.length+s.countP hit:=by
 induction s with
 | nil=>rfl
 | cons c r ih=>rw [List.flatMap_cons,lAp,ih,sq,List.countP_cons,lCo];omega
theorem mi (s:List UInt8):lr s s.length=(s.flatMap bS).length:=by rw [sw,lr,List.take_length]
theorem yU {s:List UInt8} {k:Nat} (h:k<s.length):(s.take (k+1)).any hit=((s.take k).any hit || hit s[k]):=by
 rw [iR s k h,List.any_append];simp
theorem mw:∀ {s:List UInt8},s.any hit=false→s.flatMap bS=s
 | [],_=>rfl
 | c::r,h=>by
   rw [List.any_cons,Bool.or_eq_false_iff] at h;rw [List.flatMap_cons,nF h.1,mw h.2];rfl
def j0 (s:List UInt8) (k:Nat):Nat:=s.length+((cL k).map (fun x=>s.count x)).sum
def pC (s:List UInt8) (k:Nat):Bool:=(cL k).any (fun x=>s.count x != 0)
theorem mZ (s:List UInt8):s.countP hit=s.count 10+s.count 92+s.count 34:=by
 induction s with
 | nil=>rfl
 | cons c r ih =>
   simp only [List.countP_cons,List.count_cons,ih];have hb:∀ d:UInt8,(c == d)=decide (c=d):=fun d=>by by_cases h:c=d <;> simp [h]
   simp only [hb];by_cases h1:c=10
   ·subst h1;simp [hit,cL];omega
   ·by_cases h2:c=92
    ·subst h2;simp [hit,cL];omega
    ·by_cases h3:c=34
     ·subst h3;simp [hit,cL];omega
     ·simp [hit,cL,h1,h2,h3]
theorem wW (s:List UInt8):j0 s 3=(s.flatMap bS).length:=by
 rw [sw,mZ];simp [j0,cL];omega
theorem yF (s:List UInt8):pC s 3=s.any hit:=by
 have h:=mZ s;have h1:s.any hit=(s.countP hit != 0):=by
  cases h2:s.any hit with
  | false =>
    have:s.countP hit=0:=List.countP_eq_zero.2 (fun a ha=>by
     have:=List.any_eq_false.1 h2 a ha;exact this)
    simp [this]
  | true =>
    obtain ⟨a,ha,hh⟩:=List.any_eq_true.1 h2;have:0<s.countP hit:=List.countP_pos_iff.2 ⟨a,ha,hh⟩;have hne:s.countP hit≠0:=by omega
    simp [hne]
 rw [h1,h];have e:pC s 3=((s.count 10 != 0) || ((s.count 92 != 0) || (s.count 34 != 0))):=by simp [pC,cL]
 rw [e];generalize s.count 10=a;generalize s.count 92=b;generalize s.count 34=c;cases a <;> cases b <;> cases c <;> first | rfl | (simp [bne];done) | (apply Eq.symm;simp;omega) | (simp;omega)
theorem tG (s:List UInt8) (k:Nat) (h:k<3):j0 s (k+1)=j0 s k+s.count (f7 k)∧pC s (k+1)=(pC s k || (s.count (f7 k) != 0)):=by
 obtain rfl | rfl | rfl:k=0∨k=1∨k=2:=by omega
 ·exact ⟨by simp [j0,cL,f7],by simp [pC,cL,f7]⟩
 ·exact ⟨by simp [j0,cL,f7];omega,by simp [pC,cL,f7]⟩
 ·exact ⟨by simp [j0,cL,f7];omega,by simp [pC,cL,f7,Bool.or_assoc]⟩
theorem zw (s:List UInt8) (k:Nat) (h:k≤3):j0 s k≤4 * s.length:=by
 have h1:s.count 10≤s.length:=List.count_le_length;have h2:s.count 92≤s.length:=List.count_le_length;have h3:s.count 34≤s.length:=List.count_le_length;obtain rfl | rfl | rfl | rfl:k=0∨k=1∨k=2∨k=3:=by omega
 all_goals simp [j0,cL];omega
theorem oc (s:List UInt8) (k:Nat):lr s k≤2 * s.length:=by
 have h1:(s.take k).countP hit≤(s.take k).length:=List.countP_le_length;rw [List.length_take] at h1;unfold lr;omega
theorem zu (s:List UInt8) (x:UInt8):s.count x≤s.length:=List.count_le_length
theorem mU {s:List UInt8} {k:Nat} (h:k<s.length):(s.take (k+1)).flatMap bS=(s.take k).flatMap bS++bS s[k]:=by
 rw [iR s k h,List.flatMap_append];simp only [List.flatMap_cons,List.flatMap_nil,List.append_nil]
theorem sX {s:List UInt8} {k:Nat} (h:k<s.length):((s.take k).flatMap bS).length+(bS s[k]).length≤(s.flatMap bS).length:=by
 have h1:s.flatMap bS=(s.take (k+1)).flatMap bS++(s.drop (k+1)).flatMap bS:=by rw [← List.flatMap_append,List.take_append_drop]
 rw [h1,mU h];simp only [lAp];omega
theorem rP {w:World} {base:Nat} {e:TypeId} {a:Addr} {n c:Nat} {xs:List Value} (h:w.ownsRow base e 1 (.slice (some a) n c) n xs):∃ L:List Value,w.heap[a.block]? = some (.cells L.toArray e (0,0))∧L.length=c:=by
 obtain ⟨_,h | ⟨g,cap,cur,he,_,hh,_,_,hc,_⟩⟩:=h
 ·cases h.1
 ·cases he
  exact ⟨cur.toList,by simpa using hh,by simpa using hc⟩
theorem t9 {s:List UInt8} (h:s.any ft=false):dR s=34::(s.flatMap bS++[34]):=by
 unfold dR;rw [h];rfl
theorem pN (s:List UInt8) (x:UInt8) (w:World) :
  Calls Tryz.prog 57 #[.string (bs s),.string (bs [x])] w fun e w'=>e=.returned (.int .i64 (s.count x:Nat))∧w'=w:=by
 refine (Tryz.strings_Count_one (bs s) x w).mono ?_;rintro e w' ⟨rfl,rfl⟩;exact ⟨rfl,rfl⟩
theorem th (a:Option Addr) (k:Nat) (W:World) (h:a≠none):(binOp .neq 41 (.slice a 2 k) (.slice none 0 0)).run Tryz.prog W=.ok (.bool true) W:=by
 cases a with
 | none=>exact absurd rfl h
 | some a=>kernel_rfl
theorem uo (W:World):(binOp .neq 41 (.slice none 0 0) (.slice none 0 0)).run Tryz.prog W=.ok (.bool false) W:=by kernel_rfl
theorem zba (k:Nat) (h:k<3):(cb (tO (cL 3)))[k]? = some (.string (bs [f7 k]))∧f7 k ∈ cL 3:=by
 obtain rfl | rfl | rfl:k=0∨k=1∨k=2:=by omega
 ·exact ⟨rfl,by decide⟩
 ·exact ⟨rfl,by decide⟩
 ·exact ⟨rfl,by decide⟩
theorem z7 (s:List UInt8) (hs:s.length≤1000000000) (lo r:Nat) (w:World) (hB:i5 w lo r) :
  Calls Tryz.prog 229 #[.pointer (some ⟨r,0,none⟩),.string (bs s)] w fun e w'=>e=.returned (.string (bs (s.flatMap bS)))∧Below w.heap.size w w':=by
 obtain ⟨htab,hlo,n0,cp,h256,hcp,hcm,hln,hn0,hreps⟩:=hB;have HTab:=hid htab;have Hreps:=hid hreps;clear htab hreps;obtain ⟨i8,hj,hj0,hj1,hj2⟩:=info_parts qD;have hNle:(s.flatMap bS).length≤2 * s.length:=by
  have:=oc s s.length;rwa [mi] at this
 unfold maxLen at hcm;by_cases h24:24≤s.length
 ·have h24':(24:Int)≤(s.length:Int):=by omega
  go_enter Tryz.func229,Tryz.ntmps229
  go_wp2_with fail;go_loopw [5,6,32] (fun n c i wr=>∃ k:Nat,k≤3∧i=.int .i64 k∧n=.int .i64 (j0 s k)∧c=.bool (pC s k)∧dS w wr) (fun _ _ i _=>3 - (intOf i).toNat)
  case atStart=>exact ⟨0,by omega,rfl,by simp [j0,cL],by simp [pC,cL],dS.refl _⟩
  case round =>
   obtain ⟨k,hk,rfl,rfl,rfl,d,rfl⟩:=hrel;by_cases aL:k<3
   ·obtain ⟨hs1,ha1⟩:=tG s k aL;obtain ⟨ho1,hmem⟩:=zba k aL;have hcell:=Hreps.out k _ ho1;have cw:=zu s (f7 k);have hsz:=zw s k hk;obtain ⟨g,k',ht,hk1,hk2,-,-,-⟩:=HTab.out.has _ hmem;have hx256:=(f7 k).toNat_lt;have Hs1:=hid hs1;have Ha1:=hid ha1;clear hs1 ha1 ho1 hmem;generalize f7 k=x at *;by_cases hcz:s.count x=0
    ·have q1:((s.count x:Int) != 0)=false:=neF (by omega);go_wp2_with (go_at_call 57;refine (pN s x _).mono ?_;rintro e w' ⟨rfl,rfl⟩)
     refine ⟨⟨k+1,by omega,by go_num,?_,?_,⟨d,rfl⟩⟩,by simp [intOf];omega⟩
     ·rw [Hs1.out,hcz];rfl
     ·rw [Ha1.out,hcz];simp
    ·have q1:((s.count x:Int) != 0)=true:=neT (by omega);go_wp2_with (go_at_call 57;refine (pN s x _).mono ?_;rintro e w' ⟨rfl,rfl⟩)
     any_goals go_quiet (fail)
     any_goals go_wp2_with fail
     refine ⟨⟨k+1,by omega,by go_num,?_,?_,⟨_,rfl⟩⟩,by simp [intOf];omega⟩
     ·rw [Hs1.out];go_num
     ·have hb:(s.count x != 0)=true:=by simp [hcz]
      rw [Ha1.out,hb];simp
   ·obtain rfl:k=3:=by omega
    rw [wW s,yF s];obtain ⟨N,hN⟩:∃ N,(s.flatMap bS).length=N:=⟨_,rfl⟩;rw [hN] at hNle ⊢;have HN:=hid hN;clear hN;have hfl:s.any hit=false→s.flatMap bS=s:=mw;cases ha:s.any hit with
    | false =>
      have HE:=hid (hfl ha);clear hfl;go_wp2_with fail;go_ret;exact ⟨by rw [HE.out];rfl,dS.below ⟨d,rfl⟩⟩
    | true =>
      clear hfl ha;go_wp2_with (at_make;go_must (refine wpList_make_full _ rfl _ _ 41 rfl w.heap.size 5 i8 (.int .u8 0) 1 Tryz.underlying41 hj hj0 hj1 .i64 .i64 _ _ N rfl rfl rfl rfl (by rw [hj2];omega) (by unfold maxLen;omega) (nRe _) ?_);intro w0 hown0 hgrow0)
      have hBw0:Below w.heap.size w w0:=(dS.below ⟨d,rfl⟩).trans (((Below.refl w.heap.size (w.drewN d)).grown hgrow0 (by simp) (by intro k hk;cases hk)));obtain ⟨L0,hL0,hLn⟩:=rP hown0;have HL0:=hid (show _∧_∧List.take 0 L0=Lib.byteCells [] from ⟨hL0,hLn,rfl⟩);have HB0:=hid hBw0;clear hown0 hgrow0 hL0 hLn hBw0;go_loopw [13,14] (fun j i wr=>∃ (k:Nat) (L:List Value),k≤s.length∧i=.int .i64 k∧j=.int .i64 ((s.take k).flatMap bS).length∧Hid (wr.heap[w.heap.size]? = some (.cells L.toArray 5 (0,0))∧L.length=N∧L.take ((s.take k).flatMap bS).length=Lib.byteCells ((s.take k).flatMap bS))∧Hid (Below w.heap.size w wr)) (fun _ i _=>s.length - (intOf i).toNat)
      case atStart=>exact ⟨0,L0,by omega,rfl,rfl,HL0,HB0⟩
      case round =>
       obtain ⟨k,L,hk,rfl,rfl,HL,HB⟩:=hrel;by_cases aL:k<s.length
       ·have hx256:=s[k].toNat_lt;have HF:=hid (mU aL);have hfit:=sX aL;rw [HN.out] at hfit;have hrl:r<w.heap.size:=HTab.out.lt;have hTr:=HTab.out.past HB.out (nRe _);obtain ⟨hrow,hLn,hLt⟩:=HL.out;cases hh:hit s[k] with
        | true =>
          obtain ⟨g,k',ht,hk1,hk2,hg1,-,hgc⟩:=hTr.has _ (lf hh);have hnn:=fun W=>th (some ⟨g,0,none⟩) k' W (by simp)
          have he1:=qH hh;rw [he1] at hfit;obtain ⟨J,hJ⟩:∃ J,((s.take k).flatMap bS).length=J:=⟨_,rfl⟩;rw [hJ] at hfit hLt;have hJ1:J+2≤N:=hfit;have hJle:J≤N:=by omega
          have hJne:¬ N=J:=by omega
          have hJne':¬ J=N:=by omega
          have hadd:∀ j:Nat,(⟨g,0,none⟩:Addr).add j=⟨g,j,none⟩:=fun j=>by unfold Addr.add;split <;> simp_all
          have hxi:(s[k].toNat:Int)<256:=by omega
          have hJi:(J:Int)≤(N:Int):=by omega
          have HJ:=hid hJ;rw [hJ];have HLt:=hid hLt;have Hrow:=hid hrow;have He1:=hid he1;have Hgc:=hid hgc;clear hh he1 hJ hLt hrow hTr hfit hgc;go_wp2_with fail
          go_region_law (refine step_copy_splice rfl _ _ 41 41 rfl 5 Tryz.underlying41 (by kernel_rfl) (some ⟨w.heap.size,J,none⟩) (some ⟨g,0,none⟩) (N - J) (N - J) 2 k' rfl rfl w.heap.size J L 5 Hrow.out (Lib.byteCells (bS s[k])) (by rw [bU,He1.out];simp only [Nat.min_def];split <;> omega) (fun _=>⟨rfl,_,rfl,fun j v hj=>by rw [hadd];exact Hgc.out j v hj⟩) (by rw [bU,He1.out];omega) (fun v hv=>du _ v hv) w.heap.size w (by first | exact HB.out | exact HB.out.drew | exact HB.out.drew.drew | exact HB.out.drew.drew.drew) (nRe _) ?_;intro w4 hg4 hb4)
          all_goals try go_wp2_with fail
          all_goals
           refine ⟨⟨k+1,splice L J (Lib.byteCells (bS s[k])),by omega,by go_num,?_,?_,hid hb4⟩,by simp [intOf];omega⟩
           ·rw [HF.out,lAp,HJ.out,He1.out];rw [bU,He1.out];congr 1;unfold wrap64;omega
           ·rw [HF.out,lAp,HJ.out,He1.out];have iI:(Lib.byteCells (bS s[k])).length=2:=by rw [bU,He1.out]
            refine hid ⟨hg4.out,by rw [length_splice _ _ _ (by rw [iI];omega)];omega,?_⟩;have hl2:(L.take J++Lib.byteCells (bS s[k])).length=J+2:=by rw [lAp,iI,List.length_take];omega
            unfold splice;rw [← List.append_assoc,List.take_append_of_le_length (by rw [hl2];exact nRe _),List.take_of_length_le (by rw [hl2];exact nRe _),HLt.out,dt]
        | false =>
          have ht:=hTr.non _ (kU hh);have hnn:=uo;have he1:=nF hh;rw [he1] at hfit;have Hh:=hid he1;obtain ⟨J,hJ⟩:∃ J,((s.take k).flatMap bS).length=J:=⟨_,rfl⟩;rw [hJ] at hfit hLt;have hJ1:J+1≤N:=hfit;have HJ:=hid hJ;rw [hJ];have hJL:J<L.length:=by omega
          have hcJ:wr.cell? ⟨w.heap.size,J,none⟩=some L[J]:=by simp [World.cell?,hrow,hJL]
          have hzJ:wr.frozen? ⟨w.heap.size,J,none⟩=false:=by simp [World.frozen?,hrow]
          have HLt:=hid hLt;have Hrow:=hid hrow;clear hh he1 hJ hLt hrow hTr hfit;go_wp2_with fail;refine ⟨⟨k+1,L.set J (.int .u8 s[k].toNat),by omega,by go_num,?_,?_,?_⟩,by simp [intOf];omega⟩
          ·rw [HF.out,Hh.out,lAp,HJ.out];rfl
          ·rw [HF.out,Hh.out,lAp,HJ.out];refine hid ⟨?_,by rw [List.length_set];exact hLn,?_⟩
           ·rw [setCell_eq_setRow wr _ J L.toArray _ _ _ Hrow.out,setRow_heap wr _ _ _ _ _ Hrow.out];simp
           ·rw [show J+[s[k]].length=J+1 from rfl,List.take_succ_eq_append_getElem (by rw [List.length_set];exact hJL),List.take_set_of_le (nRe J),HLt.out,List.getElem_set_self];simp [Lib.byteCells]
          ·exact hid (HB.out.setCell (p:=⟨w.heap.size,J,none⟩) (nRe _) _)
       ·obtain rfl:k=s.length:=by omega
        obtain ⟨hrow,hLn,hLt⟩:=HL.out;rw [List.take_length] at hLt;have hcv:(convert 41 9 (.slice (some ⟨w.heap.size,0,none⟩) N N)).run Tryz.prog wr=.ok (.string (bs (s.flatMap bS))) wr:=by
         refine ib (n:=N) ⟨by rw [bU,HN.out];omega,_,N,rfl,nRe _,by unfold maxLen;omega,fun e=>(by cases e),fun _=>⟨w.heap.size,0,rfl,(aGe.1 hrow).1,fun j u hj=>?_⟩⟩;have hjl:=(List.getElem?_eq_some_iff.1 hj).1;rw [bU,HN.out] at hjl;rw [← hLt,List.getElem?_take,if_pos (by rw [HN.out];exact hjl)] at hj;simpa [World.cell?,hrow] using hj
        clear hrow hLn hLt;go_wp2_with fail;go_ret;exact ⟨rfl,HB.out⟩
 ·have h24':¬ (24:Int)≤(s.length:Int):=by omega
  go_enter Tryz.func229,Tryz.ntmps229
  go_wp2_with fail;go_loopw [5,6,10] (fun n c i wr=>∃ k:Nat,k≤s.length∧i=.int .i64 k∧n=.int .i64 (lr s k)∧c=.bool ((s.take k).any hit)∧dS w wr) (fun _ _ i _=>s.length - (intOf i).toNat)
  case atStart=>exact ⟨0,by omega,rfl,by simp [lr],by simp,dS.refl _⟩
  case round =>
   obtain ⟨k,hk,rfl,rfl,rfl,d,rfl⟩:=hrel;by_cases aL:k<s.length
   ·have Hs1:=hid (tI aL);have Ha1:=hid (yU aL);have hsz:=oc s k;have hx256:=s[k].toNat_lt;cases hh:hit s[k] with
    | true =>
      obtain ⟨g,k',ht,hk1,hk2,-,-,-⟩:=HTab.out.has _ (lf hh);have hnn:=fun W=>th (some ⟨g,0,none⟩) k' W (by simp)
      have Hh:=hid hh;clear hh;go_wp2_with fail;refine ⟨⟨k+1,by omega,by go_num,?_,?_,⟨_,rfl⟩⟩,by simp [intOf];omega⟩
      ·rw [Hs1.out,Hh.out];go_num
      ·rw [Ha1.out,Hh.out];simp
    | false =>
      have ht:=HTab.out.non _ (kU hh);have hnn:=uo;have Hh:=hid hh;clear hh;go_wp2_with fail;refine ⟨⟨k+1,by omega,by go_num,?_,?_,⟨_,rfl⟩⟩,by simp [intOf];omega⟩
      ·rw [Hs1.out,Hh.out];rfl
      ·rw [Ha1.out,Hh.out];simp
   ·obtain rfl:k=s.length:=by omega
    rw [mi s,List.take_length];obtain ⟨N,hN⟩:∃ N,(s.flatMap bS).length=N:=⟨_,rfl⟩;rw [hN] at hNle ⊢;have HN:=hid hN;clear hN;have hfl:s.any hit=false→s.flatMap bS=s:=mw;cases ha:s.any hit with
    | false =>
      have HE:=hid (hfl ha);clear hfl;go_wp2_with fail;go_ret;exact ⟨by rw [HE.out];rfl,dS.below ⟨d,rfl⟩⟩
    | true =>
      clear hfl ha;go_wp2_with (at_make;go_must (refine wpList_make_full _ rfl _ _ 41 rfl w.heap.size 5 i8 (.int .u8 0) 1 Tryz.underlying41 hj hj0 hj1 .i64 .i64 _ _ N rfl rfl rfl rfl (by rw [hj2];omega) (by unfold maxLen;omega) (nRe _) ?_);intro w0 hown0 hgrow0)
      have hBw0:Below w.heap.size w w0:=(dS.below ⟨d,rfl⟩).trans (((Below.refl w.heap.size (w.drewN d)).grown hgrow0 (by simp) (by intro k hk;cases hk)));obtain ⟨L0,hL0,hLn⟩:=rP hown0;have HL0:=hid (show _∧_∧List.take 0 L0=Lib.byteCells [] from ⟨hL0,hLn,rfl⟩);have HB0:=hid hBw0;clear hown0 hgrow0 hL0 hLn hBw0;go_loopw [13,14] (fun j i wr=>∃ (k:Nat) (L:List Value),k≤s.length∧i=.int .i64 k∧j=.int .i64 ((s.take k).flatMap bS).length∧Hid (wr.heap[w.heap.size]? = some (.cells L.toArray 5 (0,0))∧L.length=N∧L.take ((s.take k).flatMap bS).length=Lib.byteCells ((s.take k).flatMap bS))∧Hid (Below w.heap.size w wr)) (fun _ i _=>s.length - (intOf i).toNat)
      case atStart=>exact ⟨0,L0,by omega,rfl,rfl,HL0,HB0⟩
      case round =>
       obtain ⟨k,L,hk,rfl,rfl,HL,HB⟩:=hrel;by_cases aL:k<s.length
       ·have hx256:=s[k].toNat_lt;have HF:=hid (mU aL);have hfit:=sX aL;rw [HN.out] at hfit;have hrl:r<w.heap.size:=HTab.out.lt;have hTr:=HTab.out.past HB.out (nRe _);obtain ⟨hrow,hLn,hLt⟩:=HL.out;cases hh:hit s[k] with
        | true =>
          obtain ⟨g,k',ht,hk1,hk2,hg1,-,hgc⟩:=hTr.has _ (lf hh);have hnn:=fun W=>th (some ⟨g,0,none⟩) k' W (by simp)
          have he1:=qH hh;rw [he1] at hfit;obtain ⟨J,hJ⟩:∃ J,((s.take k).flatMap bS).length=J:=⟨_,rfl⟩;rw [hJ] at hfit hLt;have hJ1:J+2≤N:=hfit;have hJle:J≤N:=by omega
          have hJne:¬ N=J:=by omega
          have hJne':¬ J=N:=by omega
          have hadd:∀ j:Nat,(⟨g,0,none⟩:Addr).add j=⟨g,j,none⟩:=fun j=>by unfold Addr.add;split <;> simp_all
          have hxi:(s[k].toNat:Int)<256:=by omega
          have hJi:(J:Int)≤(N:Int):=by omega
          have HJ:=hid hJ;rw [hJ];have HLt:=hid hLt;have Hrow:=hid hrow;have He1:=hid he1;have Hgc:=hid hgc;clear hh he1 hJ hLt hrow hTr hfit hgc;go_wp2_with fail
          go_region_law (refine step_copy_splice rfl _ _ 41 41 rfl 5 Tryz.underlying41 (by kernel_rfl) (some ⟨w.heap.size,J,none⟩) (some ⟨g,0,none⟩) (N - J) (N - J) 2 k' rfl rfl w.heap.size J L 5 Hrow.out (Lib.byteCells (bS s[k])) (by rw [bU,He1.out];simp only [Nat.min_def];split <;> omega) (fun _=>⟨rfl,_,rfl,fun j v hj=>by rw [hadd];exact Hgc.out j v hj⟩) (by rw [bU,He1.out];omega) (fun v hv=>du _ v hv) w.heap.size w (by first | exact HB.out | exact HB.out.drew | exact HB.out.drew.drew | exact HB.out.drew.drew.drew) (nRe _) ?_;intro w4 hg4 hb4)
          all_goals try go_wp2_with fail
          all_goals
           refine ⟨⟨k+1,splice L J (Lib.byteCells (bS s[k])),by omega,by go_num,?_,?_,hid hb4⟩,by simp [intOf];omega⟩
           ·rw [HF.out,lAp,HJ.out,He1.out];rw [bU,He1.out];congr 1;unfold wrap64;omega
           ·rw [HF.out,lAp,HJ.out,He1.out];have iI:(Lib.byteCells (bS s[k])).length=2:=by rw [bU,He1.out]
            refine hid ⟨hg4.out,by rw [length_splice _ _ _ (by rw [iI];omega)];omega,?_⟩;have hl2:(L.take J++Lib.byteCells (bS s[k])).length=J+2:=by rw [lAp,iI,List.length_take];omega
            unfold splice;rw [← List.append_assoc,List.take_append_of_le_length (by rw [hl2];exact nRe _),List.take_of_length_le (by rw [hl2];exact nRe _),HLt.out,dt]
        | false =>
          have ht:=hTr.non _ (kU hh);have hnn:=uo;have he1:=nF hh;rw [he1] at hfit;have Hh:=hid he1;obtain ⟨J,hJ⟩:∃ J,((s.take k).flatMap bS).length=J:=⟨_,rfl⟩;rw [hJ] at hfit hLt;have hJ1:J+1≤N:=hfit;have HJ:=hid hJ;rw [hJ];have hJL:J<L.length:=by omega
          have hcJ:wr.cell? ⟨w.heap.size,J,none⟩=some L[J]:=by simp [World.cell?,hrow,hJL]
          have hzJ:wr.frozen? ⟨w.heap.size,J,none⟩=false:=by simp [World.frozen?,hrow]
          have HLt:=hid hLt;have Hrow:=hid hrow;clear hh he1 hJ hLt hrow hTr hfit;go_wp2_with fail;refine ⟨⟨k+1,L.set J (.int .u8 s[k].toNat),by omega,by go_num,?_,?_,?_⟩,by simp [intOf];omega⟩
          ·rw [HF.out,Hh.out,lAp,HJ.out];rfl
          ·rw [HF.out,Hh.out,lAp,HJ.out];refine hid ⟨?_,by rw [List.length_set];exact hLn,?_⟩
           ·rw [setCell_eq_setRow wr _ J L.toArray _ _ _ Hrow.out,setRow_heap wr _ _ _ _ _ Hrow.out];simp
           ·rw [show J+[s[k]].length=J+1 from rfl,List.take_succ_eq_append_getElem (by rw [List.length_set];exact hJL),List.take_set_of_le (nRe J),HLt.out,List.getElem_set_self];simp [Lib.byteCells]
          ·exact hid (HB.out.setCell (p:=⟨w.heap.size,J,none⟩) (nRe _) _)
       ·obtain rfl:k=s.length:=by omega
        obtain ⟨hrow,hLn,hLt⟩:=HL.out;rw [List.take_length] at hLt;have hcv:(convert 41 9 (.slice (some ⟨w.heap.size,0,none⟩) N N)).run Tryz.prog wr=.ok (.string (bs (s.flatMap bS))) wr:=by
         refine ib (n:=N) ⟨by rw [bU,HN.out];omega,_,N,rfl,nRe _,by unfold maxLen;omega,fun e=>(by cases e),fun _=>⟨w.heap.size,0,rfl,(aGe.1 hrow).1,fun j u hj=>?_⟩⟩;have hjl:=(List.getElem?_eq_some_iff.1 hj).1;rw [bU,HN.out] at hjl;rw [← hLt,List.getElem?_take,if_pos (by rw [HN.out];exact hjl)] at hj;simpa [World.cell?,hrow] using hj
        clear hrow hLn hLt;go_wp2_with fail;go_ret;exact ⟨rfl,HB.out⟩
end Go.Proofs.YtfgiihpopngbkaaGreatDoor
