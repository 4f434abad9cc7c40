/- Lemmas and walks that the statement needs: RpWord, MayPlain, NodeRead, ParseOpen, ParseEat, RpAll, Builder. -/
import Derived.Test.YtfgiihpopngbkaaGreatDoorP04
import Derived.Shelf.Strings.BuilderK
namespace Go.Proofs.YtfgiihpopngbkaaGreatDoor
set_option maxRecDepth 100000
set_option maxHeartbeats 8000000
open Go.RowKit
open Nat renaming lt_of_lt_of_le→nL,le_trans→nT
open List renaming length_cons→lCo
open Nat renaming le_refl→nRe
open Go.World renaming size_alloc→wSz
open _root_.Array renaming getElem?_eq_some_iff→aGe
open Go renaming cell_of_row→cRo,heap_alloc_new→hAn,heap_setCell_same→hSs,heap_setCell_other→hSo
theorem pB (s:List UInt8) (w:World) :
  Calls Tryz.prog 145 #[.string (bs s)] w fun e w'=>e=.returned (.bool (ed s))∧Below w.heap.size w w':=by
 have HO:=hid (show ed s=(s == [102,111,114] || s == [105,110] || s == [105,102] || s == [101,108,115,101] || s == [114,117,108,101] || s == [110,111,116]) from rfl);rw [HO.out];clear HO;cases q0:(s == [102,111,114]) with
 | true =>
   go_enter Tryz.func145,Tryz.ntmps145
   go_wp2_with fail;go_ret;exact ⟨rfl,Below.refl _ _⟩
 | false =>
   cases q1:(s == [105,110]) with
   | true =>
     go_enter Tryz.func145,Tryz.ntmps145
     go_wp2_with fail;go_ret;exact ⟨rfl,Below.refl _ _⟩
   | false =>
     cases q2:(s == [105,102]) with
     | true =>
       go_enter Tryz.func145,Tryz.ntmps145
       go_wp2_with fail;go_ret;exact ⟨rfl,Below.refl _ _⟩
     | false =>
       cases q3:(s == [101,108,115,101]) with
       | true =>
         go_enter Tryz.func145,Tryz.ntmps145
         go_wp2_with fail;go_ret;exact ⟨rfl,Below.refl _ _⟩
       | false =>
         cases q4:(s == [114,117,108,101]) with
         | true =>
           go_enter Tryz.func145,Tryz.ntmps145
           go_wp2_with fail;go_ret;exact ⟨rfl,Below.refl _ _⟩
         | false =>
           cases q5:(s == [110,111,116]) with
           | true =>
             go_enter Tryz.func145,Tryz.ntmps145
             go_wp2_with fail;go_ret;exact ⟨rfl,Below.refl _ _⟩
           | false =>
             go_enter Tryz.func145,Tryz.ntmps145
             go_wp2_with fail;go_ret;exact ⟨rfl,Below.refl _ _⟩
theorem kv (s:List UInt8) (w:World) :
  Calls Tryz.prog 146 #[.string (bs s)] w fun e w'=>e=.returned (.bool (cY s))∧Below w.heap.size w w':=by
 have HO:=hid (show cY s=(s == [116,101,120,116] || s == [98,111,111,108] || s == [105,110,116] || s == [116,101,120,116,115] || s == [102,105,108,101,115] || s == [108,97,98,101,108,115]) from rfl);rw [HO.out];clear HO;cases q0:(s == [116,101,120,116]) with
 | true =>
   go_enter Tryz.func146,Tryz.ntmps146
   go_wp2_with fail;go_ret;exact ⟨rfl,Below.refl _ _⟩
 | false =>
   cases q1:(s == [98,111,111,108]) with
   | true =>
     go_enter Tryz.func146,Tryz.ntmps146
     go_wp2_with fail;go_ret;exact ⟨rfl,Below.refl _ _⟩
   | false =>
     cases q2:(s == [105,110,116]) with
     | true =>
       go_enter Tryz.func146,Tryz.ntmps146
       go_wp2_with fail;go_ret;exact ⟨rfl,Below.refl _ _⟩
     | false =>
       cases q3:(s == [116,101,120,116,115]) with
       | true =>
         go_enter Tryz.func146,Tryz.ntmps146
         go_wp2_with fail;go_ret;exact ⟨rfl,Below.refl _ _⟩
       | false =>
         cases q4:(s == [102,105,108,101,115]) with
         | true =>
           go_enter Tryz.func146,Tryz.ntmps146
           go_wp2_with fail;go_ret;exact ⟨rfl,Below.refl _ _⟩
         | false =>
           cases q5:(s == [108,97,98,101,108,115]) with
           | true =>
             go_enter Tryz.func146,Tryz.ntmps146
             go_wp2_with fail;go_ret;exact ⟨rfl,Below.refl _ _⟩
           | false =>
             go_enter Tryz.func146,Tryz.ntmps146
             go_wp2_with fail;go_ret;exact ⟨rfl,Below.refl _ _⟩
theorem cV (s:List UInt8) (hs:s.length≤1000000000000) (w:World) :
  Calls Tryz.prog 119 #[.string (bs s)] w fun e w'=>e=.returned (.bool (aM s))∧Below w.heap.size w w':=by
 obtain ⟨l,e,⟨p,q⟩,hx⟩:∃ l e pq,eg s=(l,e,pq):=⟨_,_,_,rfl⟩;have HA:=hid (show Calls Tryz.prog 144 #[.string (bs s)] w (xQ l e p q w) by
  refine (sK s (by omega) w).mono ?_;rw [hx];rintro E w' ⟨v,rfl,h1,h2⟩;exact ⟨v,rfl,h1,h2⟩)
 have HR:=hid (fun W=>pB s W);have HN:Hid (aM s=(fg 1 s && !ed s)):=hid rfl;generalize ed s=rb at *;have HO:Hid (fg 1 s=(decide (e=0) && decide (ip l=[(1,s)]))):=hid (by unfold fg;rw [hx]);have bC:=nb;clear hx;go_enter Tryz.func119,Tryz.ntmps119
 go_wp2_with fail;refine HA.out.mono ?_;rintro E w2 ⟨v,rfl,hv,hb2⟩;clear HA;obtain ⟨-,a,c,rfl,hc,hm,hcell⟩:=hv.toks;have HB:=hid (fun o=>zdy hb2 (ag w2 o));clear hb2 hv;by_cases he:e=0
 ·have qe:((e:Int) == 0)=true:=eqT (by omega);by_cases h1:l.length=1
  ·have ql:((l.length:Int) == 1)=true:=eqT (by omega);obtain ⟨b,off,rfl,hb,hc4⟩:=hcell 0 (by omega);obtain ⟨k0,k1,-,-⟩:=hc4 0 (by omega);obtain ⟨t,ht⟩:∃ t,l=[t]:=by
    match l,h1 with
    | [t],_=>exact ⟨t,rfl⟩
   have hg:l[0]=t:=by subst ht;rfl
   rw [hg] at k0 k1;rw [Nat.zero_mul,Nat.add_zero] at k0 k1;have hlp:(0:Int)<(l.length:Int):=by omega
   replace HO:=hid (show fg 1 s=((t.1 == 1) && (t.2.1 == s)) by
    rw [HO.out,ht,he];show (decide (0=0) && decide ([(t.1,t.2.1)]=[(1,s)]))=_;rw [Bool.eq_iff_iff];simp)
   clear hc4 hcell ht hg;cases q1:((t.1:Int) == 1) with
   | false =>
     have e1:(t.1 == 1)=false:=by have:=q1;simp at this ⊢;omega
     go_wp2_with fail;go_ret;exact ⟨by rw [HN.out];rw [HO.out,e1];rfl,HB.out _⟩
   | true =>
     have e1:(t.1 == 1)=true:=by have:=q1;simp at this ⊢;omega
     cases q2:(t.2.1 == s) with
     | true =>
       go_wp2_with fail;refine (HR.out _).mono ?_;rintro e w3 ⟨rfl,hb3⟩;have HB3:=hid (zdy (HB.out _) hb3);go_wp2_with fail;go_ret;exact ⟨by rw [HN.out,HO.out,e1,q2];rfl,HB3.out⟩
     | false =>
       go_wp2_with fail;go_ret;exact ⟨by rw [HN.out];rw [HO.out,e1,q2];rfl,HB.out _⟩
  ·have ql:((l.length:Int) == 1)=false:=eqF (by omega);have hf:fg 1 s=false:=by
    rw [HO.out,he];have:ip l≠[(1,s)]:=fun e=>h1 (by have:=congrArg List.length e;simpa [ip] using this)
    rw [decide_eq_false this];rfl
   have HF:=hid hf;clear hf HO hcell;go_wp2_with fail;go_ret;exact ⟨by rw [HN.out];rw [HF.out];rfl,HB.out _⟩
 ·have qe:((e:Int) == 0)=false:=eqF (by omega);have HF:=hid (show fg 1 s=false by rw [HO.out,decide_eq_false he];rfl);clear HO hcell;go_wp2_with fail;go_ret;exact ⟨by rw [HN.out];rw [HF.out];rfl,HB.out _⟩
theorem m5 (s:List UInt8) (hs:s.length≤1000000000000) (w:World) :
  Calls Tryz.prog 122 #[.string (bs s)] w fun e w'=>e=.returned (.bool (fg 2 s))∧Below w.heap.size w w':=by
 obtain ⟨l,e,⟨p,q⟩,hx⟩:∃ l e pq,eg s=(l,e,pq):=⟨_,_,_,rfl⟩;have HA:=hid (show Calls Tryz.prog 144 #[.string (bs s)] w (xQ l e p q w) by
  refine (sK s (by omega) w).mono ?_;rw [hx];rintro E w' ⟨v,rfl,h1,h2⟩;exact ⟨v,rfl,h1,h2⟩)
 have HO:Hid (fg 2 s=(decide (e=0) && decide (ip l=[(2,s)]))):=hid (by unfold fg;rw [hx]);have bC:=nb;clear hx;go_enter Tryz.func122,Tryz.ntmps122
 go_wp2_with fail;refine HA.out.mono ?_;rintro E w2 ⟨v,rfl,hv,hb2⟩;clear HA;obtain ⟨-,a,c,rfl,hc,hm,hcell⟩:=hv.toks;have HB:=hid (fun o=>zdy hb2 (ag w2 o));clear hb2 hv;by_cases he:e=0
 ·have qe:((e:Int) == 0)=true:=eqT (by omega);by_cases h1:l.length=1
  ·have ql:((l.length:Int) == 1)=true:=eqT (by omega);obtain ⟨b,off,rfl,hb,hc4⟩:=hcell 0 (by omega);obtain ⟨k0,k1,-,-⟩:=hc4 0 (by omega);obtain ⟨t,ht⟩:∃ t,l=[t]:=by
    match l,h1 with
    | [t],_=>exact ⟨t,rfl⟩
   have hg:l[0]=t:=by subst ht;rfl
   rw [hg] at k0 k1;rw [Nat.zero_mul,Nat.add_zero] at k0 k1;have hlp:(0:Int)<(l.length:Int):=by omega
   replace HO:=hid (show fg 2 s=((t.1 == 2) && (t.2.1 == s)) by
    rw [HO.out,ht,he];show (decide (0=0) && decide ([(t.1,t.2.1)]=[(2,s)]))=_;rw [Bool.eq_iff_iff];simp)
   clear hc4 hcell ht hg;cases q1:((t.1:Int) == 2) with
   | false =>
     have e1:(t.1 == 2)=false:=by have:=q1;simp at this ⊢;omega
     go_wp2_with fail;go_ret;exact ⟨by rw [HO.out,e1];rfl,HB.out _⟩
   | true =>
     have e1:(t.1 == 2)=true:=by have:=q1;simp at this ⊢;omega
     cases q2:(t.2.1 == s) with
     | true =>
       go_wp2_with fail;go_ret;exact ⟨by rw [HO.out,e1,q2];rfl,HB.out _⟩
     | false =>
       go_wp2_with fail;go_ret;exact ⟨by rw [HO.out,e1,q2];rfl,HB.out _⟩
  ·have ql:((l.length:Int) == 1)=false:=eqF (by omega);have hf:fg 2 s=false:=by
    rw [HO.out,he];have:ip l≠[(2,s)]:=fun e=>h1 (by have:=congrArg List.length e;simpa [ip] using this)
    rw [decide_eq_false this];rfl
   have HF:=hid hf;clear hf HO hcell;go_wp2_with fail;go_ret;exact ⟨by rw [HF.out];rfl,HB.out _⟩
 ·have qe:((e:Int) == 0)=false:=eqF (by omega);have HF:=hid (show fg 2 s=false by rw [HO.out,decide_eq_false he];rfl);clear HO hcell;go_wp2_with fail;go_ret;exact ⟨by rw [HF.out];rfl,HB.out _⟩
def Tr.kd (x:Tr):Int:=x.top.1
def Tr.tx (x:Tr):List UInt8:=x.top.2
def mE (x:Tr):Bool:=isE x.kd && okT x
def mA (x:Tr):Bool:=x.kd == 15 && okT x
def mP (x:Tr):Bool:=x.kd == 7 && okT x
def mB (x:Tr):Bool:=x.kd == 8 && okT x
def mS (x:Tr):Bool:=isS x.kd && okT x
theorem bX (k:Int) (t:List UInt8) (l:List Tr):(Tr.mk k t l).kd=k:=rfl
theorem jN (k:Int) (t:List UInt8) (l:List Tr):(Tr.mk k t l).tx=t:=rfl
theorem mt (q:Int→Bool):∀ l:List Tr,((bD l).all (fun x=>q x.1) && ee l)=l.all (fun x=>q x.kd && okT x)
 | []=>by rw [j8,eF];rfl
 | x::r=>by
   have ih:=mt q r;rw [l8,bM,List.all_cons,List.all_cons,← ih];show ((q x.kd && _) && (okT x && _))=((q x.kd && okT x) && (_ && _));cases q x.kd <;> cases okT x <;> simp
theorem nV:∀ l:List Tr,ee l=l.all okT
 | []=>by rw [eF];rfl
 | x::r=>by rw [bM,List.all_cons,nV r]
theorem zq (t:List UInt8) (l:List Tr):mE (.mk 9 t l)=(l.isEmpty && aM t):=by
 unfold mE;rw [d7,bX];cases l with
 | nil=>rw [j8,eF,Bool.and_true];rfl
 | cons x r=>rfl
theorem vq (t:List UInt8) (l:List Tr):mE (.mk 10 t l)=(l.isEmpty && fg 2 t):=by
 unfold mE;rw [d7,bX];cases l with
 | nil=>rw [j8,eF,Bool.and_true];rfl
 | cons x r=>rfl
theorem zk (t:List UInt8) (l:List Tr):mE (.mk 11 t l)=(l.isEmpty && !(t.any ft)):=by
 unfold mE;rw [d7,bX];cases l with
 | nil=>rw [j8,eF,Bool.and_true];rfl
 | cons x r=>rfl
theorem uK (t:List UInt8) (l:List Tr):mE (.mk 12 t l)=(t.isEmpty && l.all mE):=by
 unfold mE;rw [d7,bX];show (true && ((t.isEmpty && (bD l).all (fun x=>isE x.1)) && ee l))=_;rw [Bool.true_and,Bool.and_assoc,mt isE]
def kG:List Tr→Bool
 | []=>true
 | [_]=>false
 | a::b::r=>a.kd == 11 && mE a && mE b && kG r
theorem vi:∀ l:List Tr,(nk (bD l) && ee l)=kG l
 | []=>by rw [j8,eF];rfl
 | [x]=>rfl
 | a::b::r=>by
   have ih:=vi r;rw [l8,l8,bM,bM];show ((a.kd == 11 && isE a.kd && isE b.kd && nk (bD r)) && _)=(a.kd == 11 && (isE a.kd && okT a) && (isE b.kd && okT b) && kG r);rw [← ih];cases a.kd == 11 <;> cases isE a.kd <;> cases isE b.kd <;> cases okT a <;> cases okT b <;> simp
theorem uP (t:List UInt8) (l:List Tr):mE (.mk 13 t l)=(t.isEmpty && kG l):=by
 unfold mE;rw [d7,bX];show (true && ((t.isEmpty && nk (bD l)) && ee l))=_;rw [Bool.true_and,Bool.and_assoc,vi]
theorem vh (t:List UInt8) (l:List Tr):mE (.mk 14 t l)=(aM t && l.all mA):=by
 unfold mE;rw [d7,bX];show (true && ((aM t && (bD l).all (fun x=>x.1 == 15)) && ee l))=_;rw [Bool.true_and,Bool.and_assoc,mt (fun k=>k == 15)];rfl
theorem kE (t:List UInt8) (l:List Tr):mE (.mk 16 t l)=(decide (l.length=if t=cj then 1 else 2) && (opB t || t == cj) && l.all mE):=by
 unfold mE;rw [d7,bX];show (true && ((if t=cj then lq (bD l) else opB t && tX (bD l)) && ee l))=_;rw [Bool.true_and];have ha:=mt isE l;by_cases ht:t=cj
 ·rw [if_pos ht,if_pos ht];have hb:(t == cj)=true:=by simpa using ht
  rw [hb]
  match l,ha with
  | [],_=>rfl
  | [a],ha=>rw [← ha];simp [lq,bD,Tr.top]
  | a::b::r,_=>simp [lq,bD]
 ·rw [if_neg ht,if_neg ht];have hb:(t == cj)=false:=by simpa using ht
  rw [hb]
  match l,ha with
  | [],_=>simp [tX,bD]
  | [a],_=>simp [tX,bD]
  | [a,b],ha=>rw [← ha];cases opB t <;> simp [tX,bD,Bool.and_assoc]
  | a::b::c::r,_=>simp [tX,bD]
theorem zbA {k:Int} (t:List UInt8) (l:List Tr) (h:isE k=false):mE (.mk k t l)=false:=by unfold mE;rw [bX,h];rfl
def iA:List Tr→Bool
 | [a]=>mE a
 | _=>false
theorem ye:∀ l:List Tr,(lq (bD l) && ee l)=iA l
 | []=>rfl
 | [a]=>by rw [bM,eF,Bool.and_true];rfl
 | _::_::_=>rfl
theorem kI (t:List UInt8) (l:List Tr):mA (.mk 15 t l)=((t.isEmpty || aM t) && iA l):=by
 unfold mA;rw [d7,bX];show (true && (((t.isEmpty || aM t) && lq (bD l)) && ee l))=_;rw [Bool.true_and,Bool.and_assoc,ye]
theorem zbx {k:Int} (t:List UInt8) (l:List Tr) (h:(k == 15)=false):mA (.mk k t l)=false:=by unfold mA;rw [bX,h];rfl
theorem xu {t:List UInt8} (h:cY t=true):aM t=true:=by
 have h1:=sv (oB h) (.inl rfl) (by
  unfold cY at h;simp only [Bool.or_eq_true,beq_iff_eq] at h;rcases h with ((((rfl | rfl) | rfl) | rfl) | rfl) | rfl <;> decide)
 unfold aM;rw [h1];unfold cY at h;simp only [Bool.or_eq_true,beq_iff_eq] at h;rcases h with ((((rfl | rfl) | rfl) | rfl) | rfl) | rfl <;> decide
def f5 (a:Tr):Bool:=a.kd == 9 && cY a.tx && a.kids.isEmpty
theorem vb (a:Tr):(a.kd == 9 && cY a.tx && okT a)=f5 a:=by
 cases a with
 | mk k t l =>
   rw [bX,jN];unfold f5;rw [bX,jN];by_cases hk:k=9
   ·subst hk;have:=zq t l;unfold mE at this;rw [show isE (Tr.mk 9 t l).kd=true from rfl,Bool.true_and] at this;rw [this];cases ht:cY t with
    | false=>simp
    | true=>rw [xu ht];simp [Tr.kids]
   ·rw [show (k == 9)=false by simpa using hk];rfl
def eT:List Tr→Bool
 | [a]=>f5 a
 | [a,b]=>f5 a && mE b
 | _=>false
theorem jl (t:List UInt8) (l:List Tr):mP (.mk 7 t l)=(aM t && eT l):=by
 unfold mP;rw [d7,bX];show (true && ((aM t && oU (bD l)) && ee l))=_;rw [Bool.true_and,Bool.and_assoc];congr 1
 match l with
 | []=>rfl
 | [a]=>rw [bM,eF,Bool.and_true];exact vb a
 | [a,b] =>
   rw [bM,bM,eF,Bool.and_true];show ((a.kd == 9 && cY a.tx && isE b.kd) && (okT a && okT b))=(f5 a && (isE b.kd && okT b));rw [← vb a];cases a.kd == 9 <;> cases cY a.tx <;> cases isE b.kd <;> cases okT a <;> cases okT b <;> rfl
 | _::_::_::_=>rfl
theorem zbw {k:Int} (t:List UInt8) (l:List Tr) (h:(k == 7)=false):mP (.mk k t l)=false:=by unfold mP;rw [bX,h];rfl
theorem zbe (t:List UInt8) (l:List Tr):mB (.mk 8 t l)=(t.isEmpty && l.all mS):=by
 unfold mB;rw [d7,bX];show (true && ((t.isEmpty && (bD l).all (fun x=>isS x.1)) && ee l))=_;rw [Bool.true_and,Bool.and_assoc,mt isS];rfl
theorem zbv {k:Int} (t:List UInt8) (l:List Tr) (h:(k == 8)=false):mB (.mk k t l)=false:=by unfold mB;rw [bX,h];rfl
theorem xE (t:List UInt8) (l:List Tr):mS (.mk 2 t l)=(aM t && iA l):=by
 unfold mS;rw [d7,bX];show (true && ((aM t && lq (bD l)) && ee l))=_;rw [Bool.true_and,Bool.and_assoc,ye]
def doM:List Tr→Bool
 | [a]=>a.kd == 14 && mE a
 | _=>false
theorem pA (t:List UInt8) (l:List Tr):mS (.mk 3 t l)=(t.isEmpty && doM l):=by
 unfold mS;rw [d7,bX];show (true && ((t.isEmpty && (match bD l with | [a]=>a.1 == 14 | _=>false)) && ee l))=_;rw [Bool.true_and,Bool.and_assoc];congr 1
 match l with
 | []=>rfl
 | [a] =>
   rw [bM,eF,Bool.and_true];show ((a.kd == 14) && okT a)=(a.kd == 14 && (isE a.kd && okT a));by_cases h:a.kd=14
   ·rw [h];rfl
   ·rw [show (a.kd == 14)=false by simpa using h];rfl
 | _::_::_=>rfl
def ln:List Tr→Bool
 | [a,b]=>mE a && mB b
 | _=>false
theorem zbV:∀ l:List Tr,(zaa (bD l) && ee l)=ln l
 | []=>rfl
 | [_]=>rfl
 | [a,b]=>by
   rw [bM,bM,eF,Bool.and_true];show ((isE a.kd && b.kd == 8) && (okT a && okT b))=((isE a.kd && okT a) && (b.kd == 8 && okT b));cases isE a.kd <;> cases b.kd == 8 <;> cases okT a <;> cases okT b <;> rfl
 | _::_::_::_=>rfl
theorem vT (t:List UInt8) (l:List Tr):mS (.mk 4 t l)=(aM t && ln l):=by
 unfold mS;rw [d7,bX];show (true && ((aM t && zaa (bD l)) && ee l))=_;rw [Bool.true_and,Bool.and_assoc,zbV]
def ifM:List Tr→Bool
 | [a,b]=>mE a && mB b
 | [a,b,c]=>mE a && mB b && mB c
 | _=>false
theorem pk (t:List UInt8) (l:List Tr):mS (.mk 5 t l)=(t.isEmpty && ifM l):=by
 unfold mS;rw [d7,bX];show (true && ((t.isEmpty && ifB (bD l)) && ee l))=_;rw [Bool.true_and,Bool.and_assoc];congr 1
 match l with
 | []=>rfl
 | [_]=>rfl
 | [a,b] =>
   rw [bM,bM,eF,Bool.and_true];show ((isE a.kd && b.kd == 8) && (okT a && okT b))=((isE a.kd && okT a) && (b.kd == 8 && okT b));cases isE a.kd <;> cases b.kd == 8 <;> cases okT a <;> cases okT b <;> rfl
 | [a,b,c] =>
   rw [bM,bM,bM,eF,Bool.and_true];show ((isE a.kd && b.kd == 8 && c.kd == 8) && (okT a && (okT b && okT c)))=((isE a.kd && okT a) && (b.kd == 8 && okT b) && (c.kd == 8 && okT c));cases isE a.kd <;> cases b.kd == 8 <;> cases c.kd == 8 <;> cases okT a <;> cases okT b <;> cases okT c <;> rfl
 | _::_::_::_::_=>rfl
def oh (l:List Tr):Bool:=match l.getLast? with | some b=>l.dropLast.all mP && mB b | none=>false
theorem vn:∀ l:List Tr,(m9 (bD l) && ee l)=oh l
 | []=>rfl
 | [a]=>by
   rw [bM,eF,Bool.and_true];show ((a.kd == 8) && okT a)=(true && (a.kd == 8 && okT a));rw [Bool.true_and]
 | a::b::r=>by
   have ih:=vn (b::r);rw [bM];show ((a.kd == 7 && m9 (bD (b::r))) && (okT a && ee (b::r)))=_;unfold oh at ih ⊢;rw [List.getLast?_cons_cons,List.dropLast_cons_cons,List.all_cons];cases e:(b::r).getLast? with
   | none=>simp at e
   | some z =>
     rw [e] at ih;simp only at ih ⊢;show _=((a.kd == 7 && okT a) && (b::r).dropLast.all mP && mB z);rw [Bool.and_assoc (a.kd == 7 && okT a),← ih];cases a.kd == 7 <;> cases okT a <;> simp
theorem wl (t:List UInt8) (l:List Tr):mS (.mk 6 t l)=(aM t && oh l):=by
 unfold mS;rw [d7,bX];show (true && ((aM t && m9 (bD l)) && ee l))=_;rw [Bool.true_and,Bool.and_assoc,vn]
theorem zby {k:Int} (t:List UInt8) (l:List Tr) (h:isS k=false):mS (.mk k t l)=false:=by unfold mS;rw [bX,h];rfl
mutual
def NM.tr:NM→Tr
 | .mk k t _ _ ks _ _=>.mk k t (NM.trs ks)
def NM.trs:List NM→List Tr
 | []=>[]
 | x::r=>x.tr::NM.trs r
end
theorem aq (k:Int) (t:List UInt8) (l c:Int) (ks:List NM) (a:Option Addr) (m:Nat):(NM.mk k t l c ks a m).tr=.mk k t (NM.trs ks):=by rw [NM.tr]
theorem ar:NM.trs []=[]:=by rw [NM.trs]
theorem ai (x:NM) (r:List NM):NM.trs (x::r)=x.tr::NM.trs r:=by rw [NM.trs]
theorem bR:∀ l:List NM,NM.trs l=l.map NM.tr
 | []=>by rw [ar];rfl
 | x::r=>by rw [ai,bR r];rfl
theorem cK (l:List NM):(NM.trs l).length=l.length:=by rw [bR,List.length_map]
mutual
theorem zcZ:∀ {x:NM} {n:Nd},x.is n→x.tr=n.tr
 | .mk k t l c ks _ _,.mk k' t' p ks',h=>by
   unfold NM.is at h;obtain ⟨rfl,rfl,-,-,h⟩:=h;rw [aq,uO,qw h]
theorem qw:∀ {x:List NM} {n:List Nd},zdI x n→NM.trs x=Nd.trs n
 | [],[],_=>by rw [ar,uX]
 | x::r,y::s,h=>by unfold zdI at h;rw [ai,lA,zcZ h.1,qw h.2]
 | [],_::_,h=>by unfold zdI at h;exact h.elim
 | _::_,[],h=>by unfold zdI at h;exact h.elim
end
abbrev aR:Nat→Prop:=fun _=>True
theorem am.any {P:Nat→Prop} {w:World} {x:NM} (h:am P w x):am aR w x:=am.less (fun _ _ _=>trivial) h
theorem am.below {w w':World} {x:NM} (h:am aR w x) (hb:Below w.heap.size w w'):am aR w' x:=am.keep (d9.of_below hb) h
structure dn (w:World) (b o:Nat) (v:NM):Prop where
 c0:w.cell? ⟨b,o,none⟩=some (.int .i64 v.k)
 c1:w.cell? ⟨b,o+1,none⟩=some (.string (bs v.t))
 c2:w.cell? ⟨b,o+2,none⟩=some (.int .i64 v.l)
 c3:w.cell? ⟨b,o+3,none⟩=some (.int .i64 v.c)
 c4:w.cell? ⟨b,o+4,none⟩=some v.sl
theorem aj {w:World} {b o:Nat} {k l c:Int} {t:List UInt8} {ks:List NM} {a:Option Addr} {m:Nat} (h:dn w b o (.mk k t l c ks a m)) :
  w.cell? ⟨b,o,none⟩=some (.int .i64 k)∧w.cell? ⟨b,o+1,none⟩=some (.string (bs t))∧w.cell? ⟨b,o+2,none⟩=some (.int .i64 l)∧w.cell? ⟨b,o+3,none⟩=some (.int .i64 c)∧w.cell? ⟨b,o+4,none⟩=some (.slice a ks.length m):=⟨h.c0,h.c1,h.c2,h.c3,h.c4⟩
theorem dn.keep {w w':World} {b o:Nat} {v:NM} (h:dn w b o v) (e:w'.heap[b]? = w.heap[b]?):dn w' b o v :=
 ⟨(World.cell?_of_block (w:=w) e).trans h.c0,(World.cell?_of_block (w:=w) e).trans h.c1,(World.cell?_of_block (w:=w) e).trans h.c2,(World.cell?_of_block (w:=w) e).trans h.c3,(World.cell?_of_block (w:=w) e).trans h.c4⟩
theorem se (l:List NM):∀ k (h:k<l.length),(aW l)[k * 5]? = some (.int .i64 l[k].k)∧(aW l)[k * 5+1]? = some (.string (bs l[k].t))∧(aW l)[k * 5+2]? = some (.int .i64 l[k].l)∧(aW l)[k * 5+3]? = some (.int .i64 l[k].c)∧(aW l)[k * 5+4]? = some l[k].sl:=by
 induction l with
 | nil=>intro k h;simp at h
 | cons v l ih =>
   intro k h;cases v with
   | mk vk vt vl vc vks va vm =>
   have e:aW (.mk vk vt vl vc vks va vm::l)=.int .i64 vk::.string (bs vt)::.int .i64 vl::.int .i64 vc::.slice va vks.length vm::aW l:=rfl;cases k with
   | zero=>rw [e];exact ⟨rfl,rfl,rfl,rfl,rfl⟩
   | succ k =>
     have:=ih k (by simpa using h);rw [e,show (k+1) * 5=k * 5+1+1+1+1+1 by omega];simpa using this
structure cn (w:World) (v:Value) (ks:List NM):Prop where
 row:a9 w 5 v ks.length (aW ks)
 held:aP aR w ks
theorem cn.below {w w':World} {v:Value} {ks:List NM} (h:cn w v ks) (hb:Below w.heap.size w w'):cn w' v ks:=⟨h.row.below hb (nRe _),aP.keep (d9.of_below hb) h.held⟩
theorem am.kidsAt {w:World} {k l c:Int} {t:List UInt8} {ks:List NM} {a:Option Addr} {m:Nat} (h:am aR w (.mk k t l c ks a m)):cn w (.slice a ks.length m) ks :=
 ⟨(ia h).1.1,(ia h).2⟩
theorem cn.nodes {w:World} {v:Value} {ks:List NM} (h:cn w v ks):∃ a c,v=.slice a ks.length c∧ks.length≤c∧c≤maxLen ∧
  (∀ k,k<ks.length→∃ b off,a=some ⟨b,off,none⟩∧b<w.heap.size∧∀ j (hj:j<ks.length),dn w b (off+j * 5) ks[j]):=by
 obtain ⟨hl,a,c,rfl,hc,hm,-,hx⟩:=h.row;refine ⟨a,c,rfl,hc,hm,fun k hk=>?_⟩;obtain ⟨b,off,rfl,aL,hcell⟩:=hx (by intro e;have:=be ks;rw [e] at this;simp at this;omega);refine ⟨b,off,rfl,aL,fun j hj=>?_⟩;have hg:=se ks j hj;exact ⟨hcell _ _ hg.1,by rw [Nat.add_assoc];exact hcell _ _ hg.2.1,by rw [Nat.add_assoc];exact hcell _ _ hg.2.2.1,by rw [Nat.add_assoc];exact hcell _ _ hg.2.2.2.1,by rw [Nat.add_assoc];exact hcell _ _ hg.2.2.2.2⟩
theorem cn.take {w:World} {a:Option Addr} {c:Nat} {ks:List NM} (h:cn w (.slice a ks.length c) ks) (n:Nat) (hn:n≤ks.length):cn w (.slice a n c) (ks.take n):=by
 have aF:(ks.take n).length=n:=by rw [List.length_take];omega
 obtain ⟨hl,a',c',e,hc,hm,h0,hx⟩:=h.row;simp only [Value.slice.injEq,true_and] at e;obtain ⟨rfl,rfl⟩:=e;refine ⟨⟨be _,a,c,by rw [aF],by rw [aF];omega,hm,h0,fun hne=>?_⟩,?_⟩
 ·have hks:aW ks≠[]:=by
   intro e;have h1:=be ks;rw [e] at h1;have:ks=[]:=by cases ks with | nil=>rfl | cons x r=>simp at h1
   subst this;simp [aW] at hne
  obtain ⟨b,off,ha,hb,hcell⟩:=hx hks;refine ⟨b,off,ha,hb,fun j u hu=>hcell j u ?_⟩;have hs:aW ks=aW (ks.take n)++aW (ks.drop n):=by rw [← ke,List.take_append_drop]
  rw [hs,List.getElem?_append_left (List.getElem?_eq_some_iff.1 hu).1];exact hu
 ·have:∀ (l:List NM) (m:Nat),aP aR w l→aP aR w (l.take m):=by
   intro l;induction l with
   | nil=>intro m _;cases m <;> exact fF
   | cons x r ih =>
     intro m hh;cases m with
     | zero=>exact fF
     | succ m=>unfold aP at hh;show aP aR w (x::r.take m);unfold aP;exact ⟨hh.1,ih m hh.2⟩
  exact this ks n h.held
theorem cn.tail {w:World} {b off c:Nat} {x:NM} {ks:List NM} (h:cn w (.slice (some ⟨b,off,none⟩) (ks.length+1) c) (x::ks)) (a:Option Addr) (ha:ks≠[]→a=some ⟨b,off+5,none⟩) (hz:a=none→c=1):cn w (.slice a ks.length (c - 1)) ks:=by
 obtain ⟨hl,a',c',e,hc,hm,h0,hx⟩:=h.row;simp only [Value.slice.injEq] at e;obtain ⟨rfl,-,rfl⟩:=e;have hh:=h.held;unfold aP at hh;simp only [lCo] at hc;refine ⟨⟨be _,a,c - 1,rfl,by omega,by omega,fun e=>by rw [hz e],fun hne=>?_⟩,hh.2⟩;have hks:ks≠[]:=by rintro rfl;simp [aW] at hne
 obtain ⟨b',off',e,hb,hcell⟩:=hx (by rw [gE];intro e;have:=NM.cells_len x;simp at e;rw [e.1] at this;simp at this);simp only [Option.some.injEq,Addr.mk.injEq] at e;obtain ⟨rfl,rfl,-⟩:=e;refine ⟨b,off+5,ha hks,hb,fun j u hu=>?_⟩;have:=hcell (j+5) u (by rw [gE,List.getElem?_append_right (by rw [NM.cells_len];omega),NM.cells_len];simpa using hu);rw [show off+5+j=off+(j+5) by omega];exact this
theorem cn.get {w:World} {v:Value} {ks:List NM} (h:cn w v ks) (k:Nat) (hk:k<ks.length):am aR w ks[k]:=fG h.held k hk
mutual
def NM.hi:NM→Nat
 | .mk _ _ _ _ ks _ _=>zdP ks+1
def zdP:List NM→Nat
 | []=>0
 | x::r=>max x.hi (zdP r)
end
theorem ij (k:Int) (t:List UInt8) (l c:Int) (ks:List NM) (a:Option Addr) (m:Nat):(NM.mk k t l c ks a m).hi=zdP ks+1:=by rw [NM.hi]
theorem iq:∀ {ks:List NM} {N:Nat},zdP ks≤N→∀ k (h:k<ks.length),ks[k].hi≤N
 | [],_,_,k,h=>by simp at h
 | x::r,N,hN,k,h=>by
   rw [zdP] at hN;cases k with
   | zero=>show x.hi≤N;omega
   | succ k=>exact iq (by omega) k (by simpa using h)
theorem fp {k l c:Int} {t:List UInt8} {x:NM} {a:Option Addr} {m:Nat} {w:World} (h:am aR w (.mk k t l c [x] a m)):∃ kb ko,a=some ⟨kb,ko,none⟩∧kb<w.heap.size∧1≤m∧m≤2 ^ 63 - 1∧Hid (dn w kb ko x)∧Hid (am aR w x):=by
 obtain ⟨la,lc,hv,iI,hlm,hx⟩:=h.kidsAt.nodes;obtain ⟨kb,ko,ve,bk,cw⟩:=hx 0 (by simp);obtain ⟨rfl,rfl⟩:a=la∧m=lc:=by simpa using hv
 exact ⟨kb,ko,ve,bk,by simpa using iI,hlm,hid (by simpa using cw 0 (by simp)),hid (h.kidsAt.get 0 (by simp))⟩
theorem iM {k l c:Int} {t:List UInt8} {x y:NM} {a:Option Addr} {m:Nat} {w:World} (h:am aR w (.mk k t l c [x,y] a m)):∃ kb ko,a=some ⟨kb,ko,none⟩∧kb<w.heap.size∧2≤m∧m≤2 ^ 63 - 1∧Hid (dn w kb ko x)∧Hid (am aR w x)∧Hid (dn w kb (ko+5) y)∧Hid (am aR w y):=by
 obtain ⟨la,lc,hv,iI,hlm,hx⟩:=h.kidsAt.nodes;obtain ⟨kb,ko,ve,bk,cw⟩:=hx 0 (by simp);obtain ⟨rfl,rfl⟩:a=la∧m=lc:=by simpa using hv
 exact ⟨kb,ko,ve,bk,by simpa using iI,hlm,hid (by simpa using cw 0 (by simp)),hid (h.kidsAt.get 0 (by simp)),hid (by simpa using cw 1 (by simp)),hid (h.kidsAt.get 1 (by simp))⟩
theorem xU {k l c:Int} {t:List UInt8} {x y z:NM} {a:Option Addr} {m:Nat} {w:World} (h:am aR w (.mk k t l c [x,y,z] a m)):∃ kb ko,a=some ⟨kb,ko,none⟩∧kb<w.heap.size∧3≤m∧m≤2 ^ 63 - 1∧Hid (dn w kb ko x)∧Hid (am aR w x)∧Hid (dn w kb (ko+5) y)∧Hid (am aR w y)∧Hid (dn w kb (ko+10) z)∧Hid (am aR w z):=by
 obtain ⟨la,lc,hv,iI,hlm,hx⟩:=h.kidsAt.nodes;obtain ⟨kb,ko,ve,bk,cw⟩:=hx 0 (by simp);obtain ⟨rfl,rfl⟩:a=la∧m=lc:=by simpa using hv
 exact ⟨kb,ko,ve,bk,by simpa using iI,hlm,hid (by simpa using cw 0 (by simp)),hid (h.kidsAt.get 0 (by simp)),hid (by simpa using cw 1 (by simp)),hid (h.kidsAt.get 1 (by simp)),hid (by simpa using cw 2 (by simp)),hid (h.kidsAt.get 2 (by simp))⟩
structure aV (g:Nat) (w w':World):Prop where
 os:w'.os=w.os
 tape:w'.tape=w.tape
 output:w'.output=w.output
 size:w.heap.size≤w'.heap.size
 block:∀ k,k<w.heap.size→k≠g→w'.heap[k]? = w.heap[k]?
theorem aV.of_below {g:Nat} {w w':World} (h:Below w.heap.size w w'):aV g w w':=⟨h.os,h.tape,h.output,h.size,fun k hk _=>h.block k hk⟩
theorem aV.refl (g:Nat) (w:World):aV g w w:=⟨rfl,rfl,rfl,nRe _,fun _ _ _=>rfl⟩
theorem aV.trans {g:Nat} {w w1 w2:World} (h:aV g w w1) (k:aV g w1 w2):aV g w w2 :=
 ⟨k.os.trans h.os,k.tape.trans h.tape,k.output.trans h.output,nT h.size k.size,fun i hi hne=>(k.block i (nL hi h.size) hne).trans (h.block i hi hne)⟩
theorem aV.below {g:Nat} {w w1 w2:World} (h:aV g w w1) (hb:Below w1.heap.size w1 w2):aV g w w2:=h.trans (aV.of_below hb)
theorem aV.set {g:Nat} {w w1:World} (h:aV g w w1) (j:Nat) (v:Value):aV g w (w1.setCell ⟨g,j,none⟩ v) :=
 ⟨h.os,h.tape,h.output,nT h.size (by simp [World.setCell]),fun k hk hne=>(hSo w1 ⟨g,j,none⟩ k v hne).trans (h.block k hk hne)⟩
theorem aV.set_new {g:Nat} {w w1:World} (h:aV g w w1) {b:Nat} (hb:w.heap.size≤b) (j:Nat) (v:Value):aV g w (w1.setCell ⟨b,j,none⟩ v) :=
 ⟨h.os,h.tape,h.output,nT h.size (by simp [World.setCell]),fun k hk hne=>(hSo w1 ⟨b,j,none⟩ k v (by show k≠b;omega)).trans (h.block k hk hne)⟩
theorem aV.new {g:Nat} {w w1:World} (h:aV g w w1) (o:Obj):aV g w (w1.alloc o):=h.below (ag w1 o)
theorem aV.same {g:Nat} {w w':World} (h:aV g w w') {P:Nat→Prop} (hP:∀ b,P b→b≠g):d9 P w w':=⟨h.size,fun k hk hl=>h.block k hk (hP k hl)⟩
theorem aV.row {g:Nat} {w w':World} (h:aV g w w') {b:Nat} {o:Obj} (hr:w.heap[b]? = some o) (hne:b≠g):w'.heap[b]? = some o:=(h.block b (aGe.1 hr).1 hne).trans hr
theorem obw (g:Nat) {w w':World} (h:Below w.heap.size w w'):aV g w w':=aV.of_below h
theorem kr {g:Nat} {w w':World} {b:Nat} {o:Obj} (h:aV g w w') (hr:Hid (w.heap[b]? = some o)) (hne:b≠g):Hid (w'.heap[b]? = some o):=hid (h.row hr.out hne)
theorem kb {g:Nat} {w w1 w2:World} (h:Hid (aV g w w1)) (k:aV g w1 w2):Hid (aV g w w2):=hid (h.out.trans k)
theorem kh {g:Nat} {w w':World} {P:Nat→Prop} {x:NM} (h:aV g w w') (hP:Hid (∀ b,P b→b≠g)) (hx:Hid (am P w x)):Hid (am P w' x):=hid (am.keep (h.same hP.out) hx.out)
theorem aw {w:World} {b:Nat} {cs:Array Value} {t:TypeId} (h:w.heap[b]? = some (.cells cs t (0,0))) (j:Nat):w.frozen? ⟨b,j,none⟩=false:=Lib.frozen_of_heap h j
theorem PS.row {w:World} {g:Nat} {en:Pl} {l:List Tok} {d:Nat} (h:PS w g en l d):∃ a c,w.heap[g]? = some (.cells (zan (.slice a l.length c) en d) 56 (0,0)):=by
 obtain ⟨a,c,hg,_⟩:=h;exact ⟨a,c,hg⟩
theorem uY (g:Nat) (en:Pl) (l:List Tok) (w:World) (h:PSw w g en l) :
  Calls Tryz.prog 63 #[.pointer (some ⟨g,0,none⟩),.bool false] w fun e w'=>e=.panicked [gT 3 (atT en l 0).2.2]∧Below w.heap.size w w':=by
 have H:=hid (fun W (hW:Below w.heap.size w W)=>sH 3 g en l W (h.keep hW));clear h;go_enter Tryz.func63,Tryz.ntmps63
 go_wp2_with fail;refine (H.out _ (ag w _)).mono ?_;rintro e w1 ⟨rfl,hb1⟩;go_wp2_with fail;exact ⟨rfl,rfl,zdy (ag w _) hb1⟩
theorem bz {w:World} {b:Nat} {o:Obj} (h:w.heap[b]? = some o) (o':Obj):(w.alloc o').heap[b]? = some o:=(Below.heap_alloc w o' b (aGe.1 h).1).trans h
theorem rL {w w1:World} {g z:Nat} {en:Pl} {d:Nat} {v0 v x0 x1 x2 x3 y0 y1 y2 y3:Value} {T:TypeId} (hg:w1.heap[g]? = some (.cells (zan v0 en d) 56 (0,0))) (hz:w1.heap[z]? = some (.cells #[x0,x1,x2,x3] T (0,0))) (hne:g≠z)
  (hb:Below w.heap.size w w1) (hwz:w.heap.size≤z) (o:Obj) :
  ∃ W,W=(((((w1.setCell ⟨g,0,none⟩ v).setCell ⟨z,0,none⟩ y0).setCell ⟨z,1,none⟩ y1).setCell ⟨z,2,none⟩ y2).setCell ⟨z,3,none⟩ y3).alloc o ∧
    W.heap[g]? = some (.cells (zan v en d) 56 (0,0))∧W.heap[z]? = some (.cells #[y0,y1,y2,y3] T (0,0))∧aV g w W∧w1.heap.size≤W.heap.size∧∀ k,k<w1.heap.size→k≠g→k≠z→W.heap[k]? = w1.heap[k]?:=by
 have hzl:=(aGe.1 hz).1;have hgl:=(aGe.1 hg).1;have oth:∀ k,k≠z→((((w1.setCell ⟨g,0,none⟩ v).setCell ⟨z,0,none⟩ y0).setCell ⟨z,1,none⟩ y1).setCell ⟨z,2,none⟩ y2 |>.setCell ⟨z,3,none⟩ y3).heap[k]? = (w1.setCell ⟨g,0,none⟩ v).heap[k]?:=fun k hk=>by
  rw [hSo _ ⟨z,3,none⟩ k _ hk,hSo _ ⟨z,2,none⟩ k _ hk,hSo _ ⟨z,1,none⟩ k _ hk,hSo _ ⟨z,0,none⟩ k _ hk]
 refine ⟨_,rfl,?_,?_,?_,?_,?_⟩
 ·refine bz ((oth g hne).trans (hSs _ g 0 _ _ v hg)) o
 ·refine bz (qd ((hSo w1 ⟨g,0,none⟩ z v (Ne.symm hne)).trans hz) _ _ _ _) o
 ·exact (((((((aV.of_below hb).set 0 v).set_new hwz 0 y0).set_new hwz 1 y1).set_new hwz 2 y2).set_new hwz 3 y3).new o)
 ·simp [World.setCell]
 ·intro k hk h1 h2;rw [Below.heap_alloc _ _ _ (by simpa [World.setCell] using hk),oth k h2];exact hSo w1 ⟨g,0,none⟩ k v h1
theorem sm (g:Nat) (en:Pl) (t:Tok) (r:List Tok) (d:Nat) (w:World) (h:PS w g en (t::r) d) :
  Calls Tryz.prog 63 #[.pointer (some ⟨g,0,none⟩),.bool true] w fun e w'=>e=.returned (wK t)∧PS w' g en r d∧aV g w w':=by
 have H:=hid (fun W (hW:Below w.heap.size w W)=>eI 0 g en (t::r) d W (h.keep hW));have HP:=hid (fun W (hW:Below w.heap.size w W)=>(h.keep hW));have hgl:=h.lt;clear h;go_enter Tryz.func63,Tryz.ntmps63
 go_wp2_with fail;refine (H.out _ (ag w _)).mono ?_;rintro e w1 ⟨rfl,hb1⟩;have hbw:=zdy (ag w (.cells #[.int .i64 0,.string ⟨#[]⟩,.int .i64 0,.int .i64 0] 46)) hb1;have hr:=hb1.block w.heap.size (by simp);rw [hAn] at hr;obtain ⟨a,c,hg,hc,hm,ht,hd,hn⟩:=HP.out w1 hbw;have c0:=cRo w1 g 0 _ _ _ hg;have f0:=aw hg 0;have q0:w1.cell? ⟨w.heap.size,0,none⟩=some (.int .i64 0):=cRo w1 _ 0 _ _ _ hr;have q1:w1.cell? ⟨w.heap.size,1,none⟩=some (.string ⟨#[]⟩):=cRo w1 _ 1 _ _ _ hr;have q2:w1.cell? ⟨w.heap.size,2,none⟩=some (.int .i64 0):=cRo w1 _ 2 _ _ _ hr;have q3:w1.cell? ⟨w.heap.size,3,none⟩=some (.int .i64 0):=cRo w1 _ 3 _ _ _ hr;have k0:=aw hr 0;have k1:=aw hr 1;have k2:=aw hr 2;have k3:=aw hr 3;have hne:g≠w.heap.size:=by omega
 have hsz:=hbw.size;have hsz1:=hb1.size;rw [wSz] at hsz1;have hgl1:g<w1.heap.size:=by omega
 have hwl1:w.heap.size<w1.heap.size:=by omega
 have hne':w.heap.size≠g:=by omega
 clear hsz;obtain ⟨b,off,rfl,hbg,hbs,htok⟩:=ht (by simp);have e0:atT en (t::r) 0=t:=rfl;rw [e0];have HT:=hid htok;have HG:=hid hg;have HZ:=hid hr;have fo:b≠w.heap.size:=by omega
 have hbg':b≠g:=by omega
 clear ht hr hg htok e0 H HP;have hM:c≤9223372036854775807:=by unfold maxLen at hm;omega
 simp only [lCo] at hc hn c0;by_cases hcc:c=1
 ·have hc1:((c:Int) == 1)=true:=eqT (by omega);go_wp2_with fail;obtain ⟨W,hW,g1,g2,g3,g4,g5⟩:=rL (en:=en) (d:=d) (v:=.slice (some ⟨b,off,none⟩) r.length 0) (y0:=.int .i64 t.1) (y1:=.string (bs t.2.1)) (y2:=.int .i64 t.2.2.1) (y3:=.int .i64 t.2.2.2) HG.out HZ.out hne hbw (nRe _) (.cells #[.int .i64 t.1,.string (bs t.2.1),.int .i64 t.2.2.1,.int .i64 t.2.2.2] 46);rw [← hW];refine br Tryz.underlying46 w.heap.size g2 ⟨rfl,⟨_,_,g1,by omega,by omega,fun hne=>absurd (List.length_eq_zero_iff.1 (by omega)) hne,hd,by omega⟩,g3⟩
 ·have hc1:((c:Int) == 1)=false:=eqF (by omega);have hc2:1<c:=by omega
  go_wp2_with fail;obtain ⟨W,hW,g1,g2,g3,g4,g5⟩:=rL (en:=en) (d:=d) (v:=.slice (some ⟨b,off+4,none⟩) r.length (c - 1)) (y0:=.int .i64 t.1) (y1:=.string (bs t.2.1)) (y2:=.int .i64 t.2.2.1) (y3:=.int .i64 t.2.2.2) HG.out HZ.out hne hbw (nRe _) (.cells #[.int .i64 t.1,.string (bs t.2.1),.int .i64 t.2.2.1,.int .i64 t.2.2.2] 46);rw [← hW];refine br Tryz.underlying46 w.heap.size g2 ⟨rfl,⟨_,_,g1,by omega,by omega,fun hne=>⟨b,off+4,rfl,hbg,by omega,fun j hj=>?_⟩,hd,by omega⟩,g3⟩;have:=HT.out (j+1) (Nat.succ_lt_succ hj);rw [show off+(j+1) * 4=off+4+j * 4 by omega] at this;exact this.same (g5 b hbs hbg' fo)
theorem jk {en:Pl} {is:Bool} {l:List Tok} {t:Tok} {r:List Tok} (h:bl en is l=.ok t r):is=true∧l=t::r:=by
 unfold bl at h;cases is with
 | false=>cases h
 | true=>cases l with
   | nil=>cases h
   | cons t' r'=>simp only [if_true] at h;cases h;exact ⟨rfl,rfl⟩
theorem pG {en:Pl} {is:Bool} {l:List Tok} {e:Nat} {p:Pl} (h:bl en is l=.bad e p):is=false∧e=3∧p=(atT en l 0).2.2:=by
 unfold bl at h;cases is with
 | false=>simp only [Bool.false_eq_true,if_false] at h;cases h;exact ⟨rfl,rfl,rfl⟩
 | true=>cases l with
   | nil=>cases h
   | cons t' r'=>cases h
theorem c9 {en:Pl} {is:Bool} {l:List Tok} {t:Tok} {r:List Tok} (h:bl en is l=.ok t r) {g d:Nat} {w:World} (hp:PS w g en l d) :
  Calls Tryz.prog 63 #[.pointer (some ⟨g,0,none⟩),.bool is] w fun e w'=>e=.returned (wK t)∧PS w' g en r d∧aV g w w':=by
 obtain ⟨rfl,rfl⟩:=jk h;exact sm g en t r d w hp
theorem cc {en:Pl} {is:Bool} {l:List Tok} {er:Nat} {p:Pl} (h:bl en is l=.bad er p) {g d:Nat} {w:World} (hp:PS w g en l d) :
  Calls Tryz.prog 63 #[.pointer (some ⟨g,0,none⟩),.bool is] w fun e w'=>e=.panicked [gT er p]∧aV g w w':=by
 obtain ⟨rfl,rfl,rfl⟩:=pG h;exact (uY g en l w hp.w).mono fun _ _ ⟨h1,h2⟩=>⟨h1,aV.of_below h2⟩
theorem fV {en:Pl} {s:List UInt8} {l:List Tok} {t:Tok} {r:List Tok} (h:cB en s l=.ok t r) {g d:Nat} {w:World} (hp:PS w g en l d) :
  Calls Tryz.prog 69 #[.pointer (some ⟨g,0,none⟩),.string (bs s)] w fun e w'=>e=.returned (.tuple #[])∧PS w' g en r d∧aV g w w':=by
 have H1:=ch 0 s g en l d w hp;have H2:=hid (fun W (hW:Below w.heap.size w W)=>c9 h (hp.keep hW));clear h hp;generalize aT l 0 s=b at *;go_enter Tryz.func69,Tryz.ntmps69
 go_wp2_with fail;refine H1.mono ?_;rintro e w1 ⟨rfl,hb1⟩;go_wp2_with fail;refine (H2.out w1 hb1).mono ?_;rintro e w2 ⟨rfl,hp2,hb2⟩;go_wp2_with fail
 go_end0
 exact ⟨rfl,hp2,(aV.of_below hb1).trans hb2⟩
theorem eM {en:Pl} {s:List UInt8} {l:List Tok} {er:Nat} {p:Pl} (h:cB en s l=.bad er p) {g d:Nat} {w:World} (hp:PS w g en l d) :
  Calls Tryz.prog 69 #[.pointer (some ⟨g,0,none⟩),.string (bs s)] w fun e w'=>e=.panicked [gT er p]∧aV g w w':=by
 have H1:=ch 0 s g en l d w hp;have H2:=hid (fun W (hW:Below w.heap.size w W)=>cc h (hp.keep hW));clear h hp;generalize aT l 0 s=b at *;go_enter Tryz.func69,Tryz.ntmps69
 go_wp2_with fail;refine H1.mono ?_;rintro e w1 ⟨rfl,hb1⟩;go_wp2_with fail;refine (H2.out w1 hb1).mono ?_;rintro e w2 ⟨rfl,hb2⟩;go_wp2_with fail;exact ⟨rfl,rfl,(aV.of_below hb1).trans hb2⟩
theorem PS.deep {w:World} {g:Nat} {en:Pl} {l:List Tok} {d d':Nat} (h:PS w g en l d) (hd:d'≤60):PS (w.setCell ⟨g,3,none⟩ (.int .i64 (d':Int))) g en l d':=by
 obtain ⟨a,c,hg,hc,hm,ht,_,hn⟩:=h;refine ⟨a,c,hSs _ g 3 _ _ _ hg,hc,hm,ht.same (by simp [World.setCell]) (fun b hb _=>hSo w ⟨g,3,none⟩ b _ (by show b≠g;omega)),hd,hn⟩
theorem PS.cells {w:World} {g:Nat} {en:Pl} {l:List Tok} {d:Nat} (h:PS w g en l d):w.cell? ⟨g,3,none⟩=some (.int .i64 (d:Int))∧w.frozen? ⟨g,3,none⟩=false:=by
 obtain ⟨a,c,hg,_⟩:=h;exact ⟨cRo w g 3 _ _ _ hg,aw hg 3⟩
theorem PS.d60 {w:World} {g:Nat} {en:Pl} {l:List Tok} {d:Nat} (h:PS w g en l d):d≤60:=by
 obtain ⟨a,c,_,_,_,_,h,_⟩:=h;exact h
theorem jQ {en:Pl} {s:List UInt8} {l:List Tok} {t:Tok} {r:List Tok} (h:cB en s l=.ok t r) {g d:Nat} {w:World} (hp:PS w g en l (d+1)) :
  Calls Tryz.prog 104 #[.pointer (some ⟨g,0,none⟩),.string (bs s)] w fun e w'=>e=.returned (.tuple #[])∧PS w' g en r d∧aV g w w':=by
 have H:=fV h hp;have hd:=hp.d60;clear h hp;go_enter Tryz.func104,Tryz.ntmps104
 go_wp2_with fail;refine H.mono ?_;rintro e w1 ⟨rfl,hp1,hb1⟩;obtain ⟨c3,f3⟩:=hp1.cells;have HP:=hp1.deep (d':=d) (by omega);have e1:((d+1:Nat):Int)=(d:Int)+1:=by omega
 rw [e1] at c3;clear hp1 e1;go_wp2_with fail
 go_end0
 exact ⟨rfl,HP,hb1.set 3 _⟩
theorem jb {en:Pl} {s:List UInt8} {l:List Tok} {er:Nat} {p:Pl} (h:cB en s l=.bad er p) {g d:Nat} {w:World} (hp:PS w g en l d) :
  Calls Tryz.prog 104 #[.pointer (some ⟨g,0,none⟩),.string (bs s)] w fun e w'=>e=.panicked [gT er p]∧aV g w w':=by
 have H:=eM h hp;clear h hp;go_enter Tryz.func104,Tryz.ntmps104
 go_wp2_with fail;refine H.mono ?_;rintro e w1 ⟨rfl,hb1⟩;go_wp2_with fail;exact ⟨rfl,rfl,hb1⟩
theorem zay {en:Pl} {is:Bool} {d:Nat} {l:List Tok} {t:Tok} {r:List Tok} (h:dW en is d l=.ok t r):is=true∧l=t::r∧d<60:=by
 unfold dW at h;split at h
 ·cases h
 ·rename_i hn;obtain ⟨rfl,rfl⟩:=jk h;exact ⟨rfl,rfl,by simpa using hn⟩
theorem xj {en:Pl} {is:Bool} {d:Nat} {l:List Tok} {e:Nat} {p:Pl} (h:dW en is d l=.bad e p):p=(atT en l 0).2.2∧((is=true∧60≤d∧e=6)∨(is=false∧e=3)):=by
 unfold dW at h;split at h
 ·rename_i hn;cases h;exact ⟨rfl,.inl ⟨hn.1,hn.2,rfl⟩⟩
 ·obtain ⟨rfl,rfl,rfl⟩:=pG h;exact ⟨rfl,.inr ⟨rfl,rfl⟩⟩
theorem PS.upto {w w':World} {g:Nat} {en:Pl} {l:List Tok} {d:Nat} (h:PS w g en l d) (hs:w.heap.size≤w'.heap.size) (e:∀ k,k≤g→w'.heap[k]? = w.heap[k]?):PS w' g en l d:=by
 obtain ⟨a,c,hg,hc,hm,ht,hd⟩:=h;exact ⟨a,c,(e g (nRe _)).trans hg,hc,hm,ht.same hs (fun b hb _=>e b (by omega)),hd⟩
structure zdo (w:World) (b:Nat) (x0 x1 x2 x3:Value):Prop where
 c0:w.cell? ⟨b,0,none⟩=some x0
 c1:w.cell? ⟨b,1,none⟩=some x1
 c2:w.cell? ⟨b,2,none⟩=some x2
 c3:w.cell? ⟨b,3,none⟩=some x3
 f0:w.frozen? ⟨b,0,none⟩=false
 f1:w.frozen? ⟨b,1,none⟩=false
 f2:w.frozen? ⟨b,2,none⟩=false
 f3:w.frozen? ⟨b,3,none⟩=false
theorem hC {w:World} {b:Nat} {x0 x1 x2 x3:Value} {T:TypeId} (h:w.heap[b]? = some (.cells #[x0,x1,x2,x3] T (0,0))):zdo w b x0 x1 x2 x3 :=
 ⟨cRo w b 0 _ _ _ h,cRo w b 1 _ _ _ h,cRo w b 2 _ _ _ h,cRo w b 3 _ _ _ h,aw h 0,aw h 1,aw h 2,aw h 3⟩
structure zds (w:World) (b:Nat) (x0 x1 x2 x3 x4:Value):Prop where
 c0:w.cell? ⟨b,0,none⟩=some x0
 c1:w.cell? ⟨b,1,none⟩=some x1
 c2:w.cell? ⟨b,2,none⟩=some x2
 c3:w.cell? ⟨b,3,none⟩=some x3
 c4:w.cell? ⟨b,4,none⟩=some x4
 f0:w.frozen? ⟨b,0,none⟩=false
 f1:w.frozen? ⟨b,1,none⟩=false
 f2:w.frozen? ⟨b,2,none⟩=false
 f3:w.frozen? ⟨b,3,none⟩=false
 f4:w.frozen? ⟨b,4,none⟩=false
theorem eV {w:World} {b:Nat} {x0 x1 x2 x3 x4:Value} {T:TypeId} (h:w.heap[b]? = some (.cells #[x0,x1,x2,x3,x4] T (0,0))):zds w b x0 x1 x2 x3 x4 :=
 ⟨cRo w b 0 _ _ _ h,cRo w b 1 _ _ _ h,cRo w b 2 _ _ _ h,cRo w b 3 _ _ _ h,cRo w b 4 _ _ _ h,aw h 0,aw h 1,aw h 2,aw h 3,aw h 4⟩
theorem r5 {w:World} {b:Nat} {x0 x1 x2 x3 x4:Value} {T:TypeId} (h:w.heap[b]? = some (.cells #[x0,x1,x2,x3,x4] T (0,0))):w.cell? ⟨b,0,none⟩=some x0∧w.cell? ⟨b,1,none⟩=some x1∧w.cell? ⟨b,2,none⟩=some x2∧w.cell? ⟨b,3,none⟩=some x3∧w.cell? ⟨b,4,none⟩=some x4 :=
 ⟨cRo w b 0 _ _ _ h,cRo w b 1 _ _ _ h,cRo w b 2 _ _ _ h,cRo w b 3 _ _ _ h,cRo w b 4 _ _ _ h⟩
theorem kK (w:World) (z:Nat) (y0 y1 y2 y3:Value) (k:Nat) (hk:k≠z):((((w.setCell ⟨z,0,none⟩ y0).setCell ⟨z,1,none⟩ y1).setCell ⟨z,2,none⟩ y2).setCell ⟨z,3,none⟩ y3).heap[k]? = w.heap[k]?:=by
 rw [hSo _ ⟨z,3,none⟩ k _ hk,hSo _ ⟨z,2,none⟩ k _ hk,hSo _ ⟨z,1,none⟩ k _ hk,hSo _ ⟨z,0,none⟩ k _ hk]
theorem ov (w:World) (z:Nat) (y0 y1 y2 y3 y4:Value) (k:Nat) (hk:k≠z):(((((w.setCell ⟨z,0,none⟩ y0).setCell ⟨z,1,none⟩ y1).setCell ⟨z,2,none⟩ y2).setCell ⟨z,3,none⟩ y3).setCell ⟨z,4,none⟩ y4).heap[k]? = w.heap[k]?:=by
 rw [hSo _ ⟨z,4,none⟩ k _ hk,kK _ _ _ _ _ _ k hk]
theorem jr {w w1:World} {g z:Nat} {en:Pl} {l:List Tok} {d:Nat} {T:TypeId} {x0 x1 x2 x3:Value} (hp:PS w1 g en l d) (hb:aV g w w1) (hz:w1.heap[z]? = some (.cells #[x0,x1,x2,x3] T (0,0))) (hwz:w.heap.size≤z) (hgz:g<z) (y0 y1 y2 y3:Value) :
  ∃ W,W=(((w1.setCell ⟨z,0,none⟩ y0).setCell ⟨z,1,none⟩ y1).setCell ⟨z,2,none⟩ y2).setCell ⟨z,3,none⟩ y3∧PS W g en l d∧aV g w W∧W.heap[z]? = some (.cells #[y0,y1,y2,y3] T (0,0))∧W.heap.size=w1.heap.size∧∀ k,k≠z→W.heap[k]? = w1.heap[k]? :=
 ⟨_,rfl,hp.upto (by simp [World.setCell]) (fun k hk=>kK _ _ _ _ _ _ k (by omega)),(((hb.set_new hwz 0 y0).set_new hwz 1 y1).set_new hwz 2 y2).set_new hwz 3 y3,qd hz _ _ _ _,by simp [World.setCell],fun k hk=>kK _ _ _ _ _ _ k hk⟩
theorem cu {w w1:World} {g z:Nat} {en:Pl} {l:List Tok} {d:Nat} {T:TypeId} {x0 x1 x2 x3 x4:Value} (hp:PS w1 g en l d) (hb:aV g w w1) (hz:w1.heap[z]? = some (.cells #[x0,x1,x2,x3,x4] T (0,0))) (hwz:w.heap.size≤z) (hgz:g<z) (y0 y1 y2 y3 y4:Value) :
  ∃ W,W=((((w1.setCell ⟨z,0,none⟩ y0).setCell ⟨z,1,none⟩ y1).setCell ⟨z,2,none⟩ y2).setCell ⟨z,3,none⟩ y3).setCell ⟨z,4,none⟩ y4∧PS W g en l d∧aV g w W∧W.heap[z]? = some (.cells #[y0,y1,y2,y3,y4] T (0,0))∧W.heap.size=w1.heap.size∧∀ k,k≠z→W.heap[k]? = w1.heap[k]? :=
 ⟨_,rfl,hp.upto (by simp [World.setCell]) (fun k hk=>ov _ _ _ _ _ _ _ k (by omega)),((((hb.set_new hwz 0 y0).set_new hwz 1 y1).set_new hwz 2 y2).set_new hwz 3 y3).set_new hwz 4 y4,vH hz _ _ _ _ _,by simp [World.setCell],fun k hk=>ov _ _ _ _ _ _ _ k hk⟩
abbrev pn:Obj:=.cells #[.int .i64 0,.string ⟨#[]⟩,.int .i64 0,.int .i64 0] 46
theorem km {en:Pl} {is:Bool} {l:List Tok} {t:Tok} {r:List Tok} {d:Nat} (h:dW en is d l=.ok t r) {g:Nat} {w:World} (hp:PS w g en l d) :
  Calls Tryz.prog 103 #[.pointer (some ⟨g,0,none⟩),.bool is] w fun e w'=>e=.returned (wK t)∧PS w' g en r (d+1)∧aV g w w':=by
 obtain ⟨rfl,rfl,hd⟩:=zay h;have hgl:=hp.lt;obtain ⟨c3,f3⟩:=hp.cells;have e1:((d+1:Nat):Int)=(d:Int)+1:=by omega
 have HT:=hid (fun (W:World) (hW:PS W g en (t::r) (d+1))=>sm g en t r (d+1) W hW);have hP0:=(hp.deep (d':=d+1) (by omega)).keep (ag _ pn);rw [e1] at hP0;have HT1:=HT.out _ hP0;have HB:=hid (((aV.refl g w).set 3 (.int .i64 ((d:Int)+1))).new pn);have HZ:Hid (((w.setCell ⟨g,3,none⟩ (.int .i64 ((d:Int)+1))).alloc pn).heap[w.heap.size]? = some pn):=hid (by
  have:=hAn (w.setCell ⟨g,3,none⟩ (.int .i64 ((d:Int)+1))) pn;simpa [World.setCell] using this)
 have hd':¬ (60≤(d:Int)):=by omega
 have hne:g≠w.heap.size:=by omega
 have hne':w.heap.size≠g:=by omega
 clear h hp e1 HT hP0;go_enter Tryz.func103,Tryz.ntmps103
 go_wp2_with fail;refine HT1.mono ?_;rintro e w1 ⟨rfl,hp1,hb1⟩;have hz:=hb1.row HZ.out hne';have hb:=HB.out.trans hb1;have HW:=hid (jr hp1 hb hz (nRe _) hgl (.int .i64 t.1) (.string (bs t.2.1)) (.int .i64 t.2.2.1) (.int .i64 t.2.2.2));obtain ⟨q0,q1,q2,q3,k0,k1,k2,k3⟩:=hC hz;clear hp1 hb1 hz hb HB HZ;go_wp2_with fail;obtain ⟨W,hW,hp2,hb2,hz2,-,-⟩:=HW.out;rw [← hW];refine br Tryz.underlying46 w.heap.size hz2 ⟨rfl,hp2,hb2⟩
theorem ji {en:Pl} {is:Bool} {l:List Tok} {er:Nat} {p:Pl} {d:Nat} (h:dW en is d l=.bad er p) {g:Nat} {w:World} (hp:PS w g en l d) :
  Calls Tryz.prog 103 #[.pointer (some ⟨g,0,none⟩),.bool is] w fun e w'=>e=.panicked [gT er p]∧aV g w w':=by
 have hgl:=hp.lt;have h60:=hp.d60;obtain ⟨c3,f3⟩:=hp.cells;have hb0:=ag w pn;obtain ⟨rfl,⟨rfl,hd,rfl⟩ | ⟨rfl,rfl⟩⟩:=xj h
 ·have H:=sH 6 g en l _ (hp.w.keep hb0);have hd':(60:Int)≤(d:Int):=by omega
  clear h hp;go_enter Tryz.func103,Tryz.ntmps103
  go_wp2_with fail;refine H.mono ?_;rintro e w1 ⟨rfl,hb1⟩;go_wp2_with fail;exact ⟨rfl,rfl,aV.of_below (zdy hb0 hb1)⟩
 ·have HB:=hid (((aV.refl g w).set 3 (.int .i64 ((d:Int)+1))).new pn);have H:Hid (Calls Tryz.prog 63 #[.pointer (some ⟨g,0,none⟩),.bool false] ((w.setCell ⟨g,3,none⟩ (.int .i64 ((d:Int)+1))).alloc pn) fun e w'=>e=.panicked [gT 3 (atT en l 0).2.2]∧aV g ((w.setCell ⟨g,3,none⟩ (.int .i64 ((d:Int)+1))).alloc pn) w'):=hid
   ((uY g en l _ ((hp.w.deep _).keep (ag _ pn))).mono fun _ _ ⟨h1,h2⟩=>⟨h1,aV.of_below h2⟩)
  clear h hp;go_enter Tryz.func103,Tryz.ntmps103
  go_wp2_with fail;refine H.out.mono ?_;rintro e w1 ⟨rfl,hb1⟩;go_wp2_with fail;exact ⟨rfl,rfl,HB.out.trans hb1⟩
theorem y5 (p:NM→Bool) (v:Value) (ks:List NM) (w:World) (hl:cn w v ks) (aF:ks.length≤10000000)
  (h:∀ j (hj:j<ks.length) W,Below w.heap.size w W→Calls Tryz.prog 85 #[ks[j].val] W fun e w'=>e=.returned (.bool (p ks[j]))∧Below W.heap.size W w') :
  Calls Tryz.prog 44 #[v,.int .i64 1] w fun e w'=>e=.returned (.bool (ks.all p))∧Below w.heap.size w w':=by
 have bC:=nb;have HS:=hid (fun W (hW:Below w.heap.size w W)=>hl.below hW);have HC:=hid h;obtain ⟨la,lc,rfl,iI,hlm,-⟩:=hl.nodes;unfold maxLen at hlm;clear hl h;go_enter Tryz.func44,Tryz.ntmps44
 go_wp2_with fail;go_loopw [9] (fun i wr=>∃ j:Nat,j≤ks.length∧i=.int .i64 j∧Below w.heap.size w wr∧Hid ((ks.take j).all p=true)) (fun i _=>ks.length - (intOf i).toNat)
 case atStart=>exact ⟨0,by omega,rfl,Below.refl _ _,hid rfl⟩
 case round =>
  obtain ⟨j,hj,rfl,hbw,HA⟩:=hrel;have hsz:=hbw.size;by_cases aL:j<ks.length
  ·have hd:decide (j<ks.length)=true:=decide_eq_true aL;obtain ⟨la',lc',hv,-,-,hx⟩:=(HS.out _ hbw).nodes;obtain ⟨lb,lo,rfl,hlb,cw⟩:=hx j aL;obtain ⟨rfl,rfl⟩:la=some ⟨lb,lo,none⟩∧lc=lc':=by simpa using hv
   have hfc:=cw j aL;have HCj:=hid (fun o=>HC.out j aL _ (zdy hbw (ag wr o)));have HN:=hid (show (ks.take (j+1)).all p=((ks.take j).all p && p ks[j]) by rw [List.take_succ_eq_append_getElem aL,List.all_append];simp);have HF:=hid (fun hp:p ks[j]=false=>(show ks.all p=false by
    cases e:ks.all p with
    | false=>rfl
    | true=>rw [List.all_eq_true.1 e ks[j] (List.getElem_mem aL)] at hp;cases hp))
   generalize ks[j]=x at *;cases x with
   | mk k t l c kk a m =>
   generalize p (.mk k t l c kk a m)=pb at *;change Hid (∀ o,Calls _ _ #[aB k t l c (.slice a kk.length m)] _ _) at HCj;obtain ⟨c0,c1,c2,c3,c4⟩:=aj hfc;clear cw hx hv;go_wp2_with fail;refine (HCj.out _).mono ?_;rintro e w1 ⟨rfl,hb1⟩;have HB1:=hid (zdy hbw (zdy (ag wr _) hb1));clear hb1;cases pb with
   | false =>
     go_wp2_with fail;go_ret;exact ⟨by rw [HF.out (by simp)];rfl,HB1.out⟩
   | true =>
     go_wp2_with fail
     go_round
     case rel=>exact ⟨j+1,by omega,by go_num,HB1.out,hid (by rw [HN.out,HA.out];rfl)⟩
     case measure=>simp [intOf];omega
  ·have hd:decide (j<ks.length)=false:=decide_eq_false aL;have HT:=hid (show ks.all p=true by have:=HA.out;rwa [List.take_of_length_le (by omega)] at this);go_wp2_with fail;go_ret;exact ⟨by rw [HT.out];rfl,hbw⟩
theorem ui (p:NM→Bool) (v:Value) (ks:List NM) (w:World) (hl:cn w v ks) (aF:ks.length≤10000000)
  (h:∀ j (hj:j<ks.length) W,Below w.heap.size w W→Calls Tryz.prog 86 #[ks[j].val] W fun e w'=>e=.returned (.bool (p ks[j]))∧Below W.heap.size W w') :
  Calls Tryz.prog 44 #[v,.int .i64 2] w fun e w'=>e=.returned (.bool (ks.all p))∧Below w.heap.size w w':=by
 have bC:=nb;have HS:=hid (fun W (hW:Below w.heap.size w W)=>hl.below hW);have HC:=hid h;obtain ⟨la,lc,rfl,iI,hlm,-⟩:=hl.nodes;unfold maxLen at hlm;clear hl h;go_enter Tryz.func44,Tryz.ntmps44
 go_wp2_with fail;go_loopw [9] (fun i wr=>∃ j:Nat,j≤ks.length∧i=.int .i64 j∧Below w.heap.size w wr∧Hid ((ks.take j).all p=true)) (fun i _=>ks.length - (intOf i).toNat)
 case atStart=>exact ⟨0,by omega,rfl,Below.refl _ _,hid rfl⟩
 case round =>
  obtain ⟨j,hj,rfl,hbw,HA⟩:=hrel;have hsz:=hbw.size;by_cases aL:j<ks.length
  ·have hd:decide (j<ks.length)=true:=decide_eq_true aL;obtain ⟨la',lc',hv,-,-,hx⟩:=(HS.out _ hbw).nodes;obtain ⟨lb,lo,rfl,hlb,cw⟩:=hx j aL;obtain ⟨rfl,rfl⟩:la=some ⟨lb,lo,none⟩∧lc=lc':=by simpa using hv
   have hfc:=cw j aL;have HCj:=hid (fun o=>HC.out j aL _ (zdy hbw (ag wr o)));have HN:=hid (show (ks.take (j+1)).all p=((ks.take j).all p && p ks[j]) by rw [List.take_succ_eq_append_getElem aL,List.all_append];simp);have HF:=hid (fun hp:p ks[j]=false=>(show ks.all p=false by
    cases e:ks.all p with
    | false=>rfl
    | true=>rw [List.all_eq_true.1 e ks[j] (List.getElem_mem aL)] at hp;cases hp))
   generalize ks[j]=x at *;cases x with
   | mk k t l c kk a m =>
   generalize p (.mk k t l c kk a m)=pb at *;change Hid (∀ o,Calls _ _ #[aB k t l c (.slice a kk.length m)] _ _) at HCj;obtain ⟨c0,c1,c2,c3,c4⟩:=aj hfc;clear cw hx hv;go_wp2_with fail;refine (HCj.out _).mono ?_;rintro e w1 ⟨rfl,hb1⟩;have HB1:=hid (zdy hbw (zdy (ag wr _) hb1));clear hb1;cases pb with
   | false =>
     go_wp2_with fail;go_ret;exact ⟨by rw [HF.out (by simp)];rfl,HB1.out⟩
   | true =>
     go_wp2_with fail
     go_round
     case rel=>exact ⟨j+1,by omega,by go_num,HB1.out,hid (by rw [HN.out,HA.out];rfl)⟩
     case measure=>simp [intOf];omega
  ·have hd:decide (j<ks.length)=false:=decide_eq_false aL;have HT:=hid (show ks.all p=true by have:=HA.out;rwa [List.take_of_length_le (by omega)] at this);go_wp2_with fail;go_ret;exact ⟨by rw [HT.out];rfl,hbw⟩
theorem zbF (p:NM→Bool) (v:Value) (ks:List NM) (w:World) (hl:cn w v ks) (aF:ks.length≤10000000)
  (h:∀ j (hj:j<ks.length) W,Below w.heap.size w W→Calls Tryz.prog 87 #[ks[j].val] W fun e w'=>e=.returned (.bool (p ks[j]))∧Below W.heap.size W w') :
  Calls Tryz.prog 44 #[v,.int .i64 3] w fun e w'=>e=.returned (.bool (ks.all p))∧Below w.heap.size w w':=by
 have bC:=nb;have HS:=hid (fun W (hW:Below w.heap.size w W)=>hl.below hW);have HC:=hid h;obtain ⟨la,lc,rfl,iI,hlm,-⟩:=hl.nodes;unfold maxLen at hlm;clear hl h;go_enter Tryz.func44,Tryz.ntmps44
 go_wp2_with fail;go_loopw [9] (fun i wr=>∃ j:Nat,j≤ks.length∧i=.int .i64 j∧Below w.heap.size w wr∧Hid ((ks.take j).all p=true)) (fun i _=>ks.length - (intOf i).toNat)
 case atStart=>exact ⟨0,by omega,rfl,Below.refl _ _,hid rfl⟩
 case round =>
  obtain ⟨j,hj,rfl,hbw,HA⟩:=hrel;have hsz:=hbw.size;by_cases aL:j<ks.length
  ·have hd:decide (j<ks.length)=true:=decide_eq_true aL;obtain ⟨la',lc',hv,-,-,hx⟩:=(HS.out _ hbw).nodes;obtain ⟨lb,lo,rfl,hlb,cw⟩:=hx j aL;obtain ⟨rfl,rfl⟩:la=some ⟨lb,lo,none⟩∧lc=lc':=by simpa using hv
   have hfc:=cw j aL;have HCj:=hid (fun o=>HC.out j aL _ (zdy hbw (ag wr o)));have HN:=hid (show (ks.take (j+1)).all p=((ks.take j).all p && p ks[j]) by rw [List.take_succ_eq_append_getElem aL,List.all_append];simp);have HF:=hid (fun hp:p ks[j]=false=>(show ks.all p=false by
    cases e:ks.all p with
    | false=>rfl
    | true=>rw [List.all_eq_true.1 e ks[j] (List.getElem_mem aL)] at hp;cases hp))
   generalize ks[j]=x at *;cases x with
   | mk k t l c kk a m =>
   generalize p (.mk k t l c kk a m)=pb at *;change Hid (∀ o,Calls _ _ #[aB k t l c (.slice a kk.length m)] _ _) at HCj;obtain ⟨c0,c1,c2,c3,c4⟩:=aj hfc;clear cw hx hv;go_wp2_with fail;refine (HCj.out _).mono ?_;rintro e w1 ⟨rfl,hb1⟩;have HB1:=hid (zdy hbw (zdy (ag wr _) hb1));clear hb1;cases pb with
   | false =>
     go_wp2_with fail;go_ret;exact ⟨by rw [HF.out (by simp)];rfl,HB1.out⟩
   | true =>
     go_wp2_with fail
     go_round
     case rel=>exact ⟨j+1,by omega,by go_num,HB1.out,hid (by rw [HN.out,HA.out];rfl)⟩
     case measure=>simp [intOf];omega
  ·have hd:decide (j<ks.length)=false:=decide_eq_false aL;have HT:=hid (show ks.all p=true by have:=HA.out;rwa [List.take_of_length_le (by omega)] at this);go_wp2_with fail;go_ret;exact ⟨by rw [HT.out];rfl,hbw⟩
theorem lS:(Tryz.prog.info? 64).map (·.size)=some 2:=by kernel_rfl
theorem pD:(Tryz.prog.info? 5).map (fun i=>(i.zero,i.size,i.bytes))=some (some (.int .u8 0),1,1):=by kernel_rfl
set_option maxRecDepth 100000 in
theorem oW (b:Nat) (w:World) (h0:w.cell? ⟨b,0,none⟩=some (.pointer (some ⟨b,0,none⟩))) :
  Calls Tryz.prog 84 #[.pointer (some ⟨b,0,none⟩)] w fun e w'=>e=.returned (.tuple #[])∧w'=w:=by
 obtain ⟨j,hj,_⟩:=Option.map_eq_some_iff.1 lS;go_enter Tryz.func84,Tryz.ntmps84
 go_wp2
 rw [Lib.run_neq_ptr_same w _ Tryz.underlying62 hj]
 go_wp2
 go_end0
 exact ⟨rfl,rfl⟩
theorem i9 (l r:List UInt8):Lib.byteCells (l++r)=Lib.byteCells l++Lib.byteCells r:=by simp [Lib.byteCells]
theorem pw (l:List UInt8):Lib.strCells (bs l)=Lib.byteCells l:=by
 simp [Lib.strCells,Lib.byteCells,bs]
theorem var?_kept {P:Program} {w w':World} {n:String} {cs:Array Value} (hv:w.var? P n=some cs) (hb:Below w.heap.size w w'):w'.var? P n=some cs:=by
 unfold World.var? at hv ⊢;cases hg:P.globalNamed n with
 | none=>simp [hg] at hv
 | some g =>
   simp only [hg,Option.bind_some] at hv ⊢;by_cases aL:g<w.heap.size
   ·rw [hb.block g aL];exact hv
   ·rw [Array.getElem?_eq_none (by omega)] at hv;simp at hv
theorem r9 {P:Program} {w w':World} {n:String} {k:IntKind} {zs:List Int} (h:Lib.TabIs P w n k zs) (hb:Below w.heap.size w w'):Lib.TabIs P w' n k zs:=var?_kept h hb
def mW (w:World):Prop:=Lib.TabIs Tryz.prog w "internal/strconv.uint64pow10" .u64 Lib.pow10Tab
theorem mW.below {w w':World} (h:mW w) (hb:Below w.heap.size w w'):mW w':=r9 h hb
theorem uc (w:World) (k:Nat) (os:Array Obj):Below w.heap.size w (Go.Sort.grow (w.drewN k) os):=by
 refine ⟨rfl,rfl,rfl,?_,fun i hi=>?_⟩
 ·simp [Go.Sort.grow,World.drewN]
 ·simp [Go.Sort.grow,World.drewN,Array.getElem?_append,hi]
end Go.Proofs.YtfgiihpopngbkaaGreatDoor
