/- Lemmas for TopFoundUpto: F44, F60, F61, F62, F63, F41, F42, F43. -/
import Derived.Test.YtlbipokkdiiaiaaGreatDoorF06
import Derived.Lib.TrimByte
import Derived.Test.YtlbipokkdiiaiaaGreatDoorF16
import Derived.Test.YtlbipokkdiiaiaaGreatDoorF08
import Derived.Test.YtlbipokkdiiaiaaGreatDoorF10
namespace Go.Proofs.YtlbipokkdiiaiaaGreatDoor
open Go.RowKit
def fA:Txt:=[42,42]
def jt (c:UInt8):Bool:=dS [97,c,97]&&c !=47
def sJ (s:Txt):Bool:=match s with
 |[]=>true
 |c::r=>(jt c||c==63||c==42)&&!(Lib.hasPrefix (c::r) fA)
def kY:Txt→Bool
 |[]=>true
 |c::s=>sJ (c::s)&&kY s
def eN (s:Txt):Bool:=if s=fA then true else kY s&&(decide (1≤s.length)&&decide (s.length≤64)&&s !=[46]&&s !=[46,46])
def cW (s:Txt):List Txt:=(Lib.splitB (bs [47]) 0 (Lib.countB (bs s) (bs [47])) (bs s)).map fun x=>x.data.toList
def kX (p:Txt):Bool:=decide ((cW p).length≤16)&&(cW p).all eN
theorem sk (s:Txt):kY s=true↔∀k,k<s.length→sJ (s.drop k)=true:=by
 induction s with
 |nil=>simp[kY]
 |cons c s ih=>
  simp only[kY,Bool.and_eq_true,ih]
  constructor
  ·intro h k hk
   cases k with
   |zero=>exact h.1
   |succ k=>simpa using h.2 k (by simpa using hk)
  ·intro h
   exact⟨h 0 (by simp),fun k hk=>by simpa using h (k+1) (by simpa using hk)⟩
theorem qc (s:Txt):(cW s).length=Lib.countB (bs s) (bs [47])+1:=by
 unfold cW
 rw[List.length_map]
 exact Lib.splitB_all (bs [47]) (by rw[bf];exact Nat.le_refl _) 0 (Lib.countB (bs s) (bs [47])) (bs s) rfl
theorem jr (s:Txt):(cW s).length≤s.length+1:=by
 rw[qc s]
 have h1:=Lib.countB_le (bs [47]) (by rw[bf];exact Nat.le_refl _) (bs s).size (bs s) (Nat.le_refl _)
 rw[bf] at h1
 omega
structure rW where
 i:Nat
 k:Nat
 star:Option Nat
 from_:Nat
 deriving DecidableEq
def kg (p s:Txt) (x:rW):Option rW:=
 if x.k<s.length then
  if x.i<p.length∧p[x.i]?=some 42 then some ⟨x.i+1,x.k,some x.i,x.k⟩
  else if x.i<p.length∧(p[x.i]?=some 63∨p[x.i]?=s[x.k]?) then some ⟨x.i+1,x.k+1,x.star,x.from_⟩
  else match x.star with
   |some j=>some ⟨j+1,x.from_+1,x.star,x.from_+1⟩
   |none=>none
 else none
def o7:Option Nat→Nat
 |none=>0
 |some j=>j+1
def lD (p s:Txt) (x:rW):Nat:=(p.length+1-o7 x.star)*((s.length+2)*(p.length+2))+(s.length+1-x.from_)*(p.length+2)+(p.length+1-x.i)
structure zd3 (p s:Txt) (x:rW):Prop where
 i:x.i≤p.length
 k:x.k≤s.length
 at_:x.from_≤x.k
 st:o7 x.star≤x.i
theorem jd (p s:Txt) (x y:rW) (hi:zd3 p s x) (h:kg p s x=some y):zd3 p s y∧lD p s y<lD p s x:=by
 obtain⟨h1,h2,h3,h4⟩:=hi
 unfold kg at h
 split at h
 ·rename_i hk
  split at h
  ·rename_i hc
   simp only[Option.some.injEq] at h
   subst h
   refine⟨⟨hc.1,h2,Nat.le_refl _,Nat.le_refl _⟩,?_⟩
   show(p.length+1-(x.i+1))*((s.length+2)*(p.length+2))+(s.length+1-x.k)*(p.length+2)+(p.length+1-(x.i+1))<lD p s x
   unfold lD
   have e1:(p.length+1-(x.i+1))+1≤p.length+1-o7 x.star:=by omega
   have e2:=Nat.mul_le_mul_right ((s.length+2)*(p.length+2)) e1
   generalize hK:(s.length+2)*(p.length+2)=K at *
   rw[Nat.add_mul,Nat.one_mul] at e2
   have e3:(s.length+1-x.k)*(p.length+2)+(p.length+1-(x.i+1))<K:=by
    rw[←hK]
    have e4:(s.length+1-x.k)*(p.length+2)≤(s.length+1)*(p.length+2):=Nat.mul_le_mul_right _ (by omega)
    have e5:(s.length+2)*(p.length+2)=(s.length+1)*(p.length+2)+(p.length+2):=by rw[←Nat.succ_mul]
    omega
   generalize (p.length+1-(x.i+1))*K=K1 at *
   generalize (p.length+1-o7 x.star)*K=K2 at *
   generalize (s.length+1-x.from_)*(p.length+2)=K3 at *
   generalize (s.length+1-x.k)*(p.length+2)=K4 at *
   omega
  ·split at h
   ·rename_i hc
    simp only[Option.some.injEq] at h
    subst h
    refine⟨⟨hc.1,hk,Nat.le_succ_of_le h3,Nat.le_succ_of_le h4⟩,?_⟩
    unfold lD
    simp only
    have:=hc.1
    omega
   ·cases hs:x.star with
    |none=>rw[hs] at h;cases h
    |some j=>
     rw[hs] at h h4
     simp only[Option.some.injEq] at h
     subst h
     simp only[o7] at h4
     refine⟨⟨by simp only;omega,by simp only;omega,Nat.le_refl _,Nat.le_refl _⟩,?_⟩
     unfold lD
     simp only[hs]
     have e1:(s.length+1-(x.from_+1))+1≤s.length+1-x.from_:=by omega
     have e2:=Nat.mul_le_mul_right (p.length+2) e1
     rw[Nat.add_mul,Nat.one_mul] at e2
     omega
 ·cases h
def yA:rW:=⟨0,0,none,0⟩
noncomputable def rL (p s:Txt):Bool:=if(pj (kg p s) yA).k<s.length then false else decide (Lib.trimB (p.drop (pj (kg p s) yA).i) 42=[])
def kh (f:List Txt→Bool):List Txt→Bool
 |[]=>f []
 |x::m=>f (x::m)||kh f m
noncomputable def pf (p:Txt) (ps:List Txt) (f:List Txt→Bool) (n:List Txt):Bool:=
 if p≠fA then(match n with|[]=>false|x::m=>rL p x&&f m) else if ps=[] then !n.isEmpty else kh f n
noncomputable def bK:List Txt→List Txt→Bool
 |[]=>fun n=>n.isEmpty
 |p::ps=>pf p ps (bK ps)
theorem zbf (n:List Txt):bK [] n=n.isEmpty:=rfl
theorem ql (p:Txt) (ps n:List Txt) (h:p≠fA):bK (p::ps) n=(match n with|[]=>false|x::m=>rL p x&&bK ps m):=by
 show pf p ps (bK ps) n=_
 unfold pf
 rw[if_pos h]
theorem xS (n:List Txt):bK [fA] n=!n.isEmpty:=by
 show pf fA [] (bK []) n=_
 unfold pf
 rw[if_neg (by simp),if_pos rfl]
theorem yj (ps n:List Txt) (h:ps≠[]):bK (fA::ps) n=(bK ps n||(match n with|[]=>false|_::m=>bK (fA::ps) m)):=by
 have e:∀n,bK (fA::ps) n=kh (bK ps) n:=fun n=>by
  show pf fA ps (bK ps) n=_
  unfold pf
  rw[if_neg (by simp),if_neg h]
 rw[e]
 cases n with
 |nil=>simp[kh]
 |cons x m=>simp only[kh,e]
noncomputable def eJ (p s:Txt):Bool:=kX p&&dS s&&bK (cW p) (cW s)
open Exec Go.Shelf
attribute [local go_sem] Oper.semAt_some
set_option maxRecDepth 100000
theorem sH (s:Txt) (n:Nat):(Lib.splitB (bs [47]) 0 n (bs s)).map Value.string=ac ((Lib.splitB (bs [47]) 0 n (bs s)).map fun x=>x.data.toList):=by
 unfold ac
 rw[List.map_map]
 exact List.map_congr_left fun x _=>congrArg Value.string (kr x).symm
theorem lX (s:Txt) (w:World) (hs:s.length≤2000000) (hm:bE w):
 Calls Tryz.prog 179 #[.string (bs s),.string ⟨#[47]⟩] w fun e w'=>∃v,e=.returned v∧w'.ownsRow w.heap.size 9 1 v (cW s).length (ac (cW s))∧Below w.heap.size w w':=by
 obtain⟨m,hm⟩:=hm
 have h1:=Tryz.strings_Split (bs s) (bs [47]) m w (by rw[bf];omega) hm (by rw[bf];exact Nat.le_refl _)
 rw[sH,←qc] at h1
 have hll:=jr s
 refine h1.mono ?_
 rintro e w' ⟨rfl,rfl⟩
 have e1:((Lib.splitB (bs [47]) 0 (Lib.countB (bs s) (bs [47])) (bs s)).map fun x=>x.data.toList)=cW s:=rfl
 rw[e1]
 exact⟨_,rfl,⟨by simp[ac],.inr ⟨w.heap.size,_,_,rfl,Nat.le_refl _,heap_alloc_new w _,Nat.le_refl _,by unfold maxLen;omega,by simp[ac],by rw[Nat.mul_one];exact List.take_of_length_le (by simp[ac])⟩⟩,ab _ _⟩
theorem uJ (c:UInt8) (w:World):Calls Tryz.prog 222 #[.int .u8 (c.toNat:Int)] w fun e w'=>e=.returned (.bool (jt c))∧Below w.heap.size w w':=by
 obtain⟨q,hq⟩:∃q,dS [97,c,97]=q:=⟨_,rfl⟩
 have HM:=hid (fun(W:World)=>ja [97,c,97] (by simp) q hq W)
 have hg:jt c=(q&&c !=47):=by unfold jt;rw[hq]
 rw[hg]
 have hb1:=ab w (.cells #[.int .u8 (c.toNat:Int)] 5)
 have hn1:=heap_alloc_new w (.cells #[.int .u8 (c.toNat:Int)] 5)
 have hcv:(convert 49 9 (.slice (some ⟨w.heap.size,0,none⟩) 1 1)).run Tryz.prog (w.alloc (.cells #[.int .u8 (c.toNat:Int)] 5))=.ok (.string (bs [c])) (w.alloc (.cells #[.int .u8 (c.toNat:Int)] 5)):=oU (W:=w.alloc (.cells #[.int .u8 (c.toNat:Int)] 5)) (b:=w.heap.size) (off:=0) (cap:=1) (l:=[c]) (ak (cs:=Lib.byteCells [c]) hn1)
 have HB:=hid hb1
 clear hg hq hb1 hn1
 by_cases hc:c=47
 ·have E:((c.toNat:Int) !=47)=false:=by rw[hc];rfl
  have E2:(c !=47)=false:=by rw[hc];rfl
  rw[E2]
  clear hc
  cases q with
  |true=>
   go_enter Tryz.func222,Tryz.ntmps222
   go_wp2_with (go_at_call 51;refine(HM.out _).mono ?_;rintro e W2 ⟨rfl,hb2⟩)
   go_ret
   exact⟨rfl,Below.chain HB.out hb2⟩
  |false=>
   go_enter Tryz.func222,Tryz.ntmps222
   go_wp2_with (go_at_call 51;refine(HM.out _).mono ?_;rintro e W2 ⟨rfl,hb2⟩)
   go_ret
   exact⟨rfl,Below.chain HB.out hb2⟩
 ·have E:((c.toNat:Int) !=47)=true:=neT (fun e=>hc (UInt8.toNat_inj.1 (by have h:(47:UInt8).toNat=47:=rfl;omega)))
  have E2:(c !=47)=true:=by simpa using hc
  rw[E2]
  clear hc
  cases q with
  |true=>
   go_enter Tryz.func222,Tryz.ntmps222
   go_wp2_with (go_at_call 51;refine(HM.out _).mono ?_;rintro e W2 ⟨rfl,hb2⟩)
   go_ret
   exact⟨rfl,Below.chain HB.out hb2⟩
  |false=>
   go_enter Tryz.func222,Tryz.ntmps222
   go_wp2_with (go_at_call 51;refine(HM.out _).mono ?_;rintro e W2 ⟨rfl,hb2⟩)
   go_ret
   exact⟨rfl,Below.chain HB.out hb2⟩
theorem zdG (s:Txt) (k:Nat) (hk:k<s.length):sJ (s.drop k)=((jt s[k]||s[k]==63||s[k]==42)&&!(Lib.hasPrefix (s.drop k) fA)):=by
 rw[jw s k hk]
 rfl
set_option maxHeartbeats 8000000 in
theorem yI (s:Txt) (w:World) (hs:s.length≤2000000):Calls Tryz.prog 181 #[.string (bs s)] w fun e w'=>e=.returned (.bool (eN s))∧Below w.heap.size w w':=by
 by_cases h0:s=fA
 ·subst h0
  unfold fA
  go_enter Tryz.func181,Tryz.ntmps181
  go_wp2
  go_ret
  exact⟨rfl,Below.refl _ _⟩
 ·have e0:(s==[42,42])=false:=by simpa[fA] using h0
  have hg:eN s=(kY s&&(decide (1≤s.length)&&decide (s.length≤64)&&s !=[46]&&s !=[46,46])):=by unfold eN;rw[if_neg h0]
  have HG:=hid hg
  have HP:=hid (fun c w=>uJ c w)
  clear hg h0
  go_enter Tryz.func181,Tryz.ntmps181
  go_wp2_with fail
  go_loopw [8] (fun i wr=>∃k:Nat,k≤s.length∧i=.int .i64 k∧(∀j,j<k→sJ (s.drop j)=true)∧Below w.heap.size w wr) (fun i _=>s.length-(intOf i).toNat)
  case atStart=>exact⟨0,Nat.zero_le _,rfl,fun j h=>absurd h (Nat.not_lt_zero _),Below.refl _ _⟩
  case round=>
   obtain⟨k,hk,rfl,hall,hbw⟩:=hrel
   have HA:=hid hall
   have HB:=hid hbw
   clear hall hbw
   by_cases aK:k<s.length
   ·have hgk:=zdG s k aK
    obtain⟨bp,hbp⟩:∃bp,Lib.hasPrefix (s.drop k) fA=bp:=⟨_,rfl⟩
    obtain⟨q,hq⟩:∃q,jt s[k]=q:=⟨_,rfl⟩
    have HPk:=hid (fun W=>HP.out s[k] W)
    rw[hq] at HPk
    rw[hq,hbp] at hgk
    have htk:(s.drop k).take (s.length-k)=s.drop k:=List.take_of_length_le (by rw[List.length_drop];exact Nat.le_refl _)
    have HGK:=hid hgk
    have hbad:sJ (s.drop k)=false→eN s=false:=fun h=>by
     rw[HG.out]
     have:kY s=false:=by
      cases hx:kY s with
      |false=>rfl
      |true=>rw[(sk s).1 hx k aK] at h;cases h
     rw[this];rfl
    have HBAD:=hid hbad
    clear hgk hbad hq
    have HH:=hid (fun W=>show Calls Tryz.prog 131 #[.string (bs (s.drop k)),.string ⟨#[42,42]⟩] W fun e W'=>e=.returned (.bool bp)∧W'=W from by
     have h:=Tryz.strings_HasPrefix (bs (s.drop k)) (bs [42,42]) W
     rw[←hbp]
     exact h)
    clear hbp
    cases q with
    |true=>
     cases bp with
     |true=>
      have HV:=hid (HBAD.out (by rw[HGK.out];simp))
      go_wp2_with first|(go_at_call 222;refine(HPk.out _).mono ?_;rintro e W2 ⟨rfl,hb2⟩)|(go_at_call 131;refine(HH.out _).mono ?_;rintro e W3 ⟨rfl,rfl⟩)
      go_ret
      exact⟨by rw[HV.out];rfl,Below.chain HB.out hb2⟩
     |false=>
      have HV:=hid (show sJ (s.drop k)=true by rw[HGK.out];simp)
      go_wp2_with first|(go_at_call 222;refine(HPk.out _).mono ?_;rintro e W2 ⟨rfl,hb2⟩)|(go_at_call 131;refine(HH.out _).mono ?_;rintro e W3 ⟨rfl,rfl⟩)
      exact⟨⟨k+1,by omega,by go_num,fun j hj=>by
       by_cases e:j=k
       ·subst e;exact HV.out
       ·exact HA.out j (by omega),Below.chain HB.out hb2⟩,by simp[intOf];omega⟩
    |false=>
     by_cases h63:s[k]=63
     ·have E1:((s[k].toNat:Int) !=63)=false:=neF (by rw[h63];rfl)
      have E1':(s[k]==63)=true:=by rw[h63];rfl
      rw[E1'] at HGK
      clear h63
      cases bp with
      |true=>
       have HV:=hid (HBAD.out (by rw[HGK.out];simp))
       go_wp2_with first|(go_at_call 222;refine(HPk.out _).mono ?_;rintro e W2 ⟨rfl,hb2⟩)|(go_at_call 131;refine(HH.out _).mono ?_;rintro e W3 ⟨rfl,rfl⟩)
       go_ret
       exact⟨by rw[HV.out];rfl,Below.chain HB.out hb2⟩
      |false=>
       have HV:=hid (show sJ (s.drop k)=true by rw[HGK.out];simp)
       go_wp2_with first|(go_at_call 222;refine(HPk.out _).mono ?_;rintro e W2 ⟨rfl,hb2⟩)|(go_at_call 131;refine(HH.out _).mono ?_;rintro e W3 ⟨rfl,rfl⟩)
       exact⟨⟨k+1,by omega,by go_num,fun j hj=>by
        by_cases e:j=k
        ·subst e;exact HV.out
        ·exact HA.out j (by omega),Below.chain HB.out hb2⟩,by simp[intOf];omega⟩
     ·have E1:((s[k].toNat:Int) !=63)=true:=neT (fun e=>h63 (UInt8.toNat_inj.1 (by have h:(63:UInt8).toNat=63:=rfl;omega)))
      have E1':(s[k]==63)=false:=by simpa using h63
      rw[E1'] at HGK
      clear h63
      by_cases h42:s[k]=42
      ·have E2:((s[k].toNat:Int) !=42)=false:=neF (by rw[h42];rfl)
       have E2':(s[k]==42)=true:=by rw[h42];rfl
       rw[E2'] at HGK
       clear h42
       cases bp with
       |true=>
        have HV:=hid (HBAD.out (by rw[HGK.out];simp))
        go_wp2_with first|(go_at_call 222;refine(HPk.out _).mono ?_;rintro e W2 ⟨rfl,hb2⟩)|(go_at_call 131;refine(HH.out _).mono ?_;rintro e W3 ⟨rfl,rfl⟩)
        go_ret
        exact⟨by rw[HV.out];rfl,Below.chain HB.out hb2⟩
       |false=>
        have HV:=hid (show sJ (s.drop k)=true by rw[HGK.out];simp)
        go_wp2_with first|(go_at_call 222;refine(HPk.out _).mono ?_;rintro e W2 ⟨rfl,hb2⟩)|(go_at_call 131;refine(HH.out _).mono ?_;rintro e W3 ⟨rfl,rfl⟩)
        exact⟨⟨k+1,by omega,by go_num,fun j hj=>by
         by_cases e:j=k
         ·subst e;exact HV.out
         ·exact HA.out j (by omega),Below.chain HB.out hb2⟩,by simp[intOf];omega⟩
      ·have E2:((s[k].toNat:Int) !=42)=true:=neT (fun e=>h42 (UInt8.toNat_inj.1 (by have h:(42:UInt8).toNat=42:=rfl;omega)))
       have E2':(s[k]==42)=false:=by simpa using h42
       rw[E2'] at HGK
       clear h42
       have HV:=hid (HBAD.out (by rw[HGK.out];simp))
       go_wp2_with first|(go_at_call 222;refine(HPk.out _).mono ?_;rintro e W2 ⟨rfl,hb2⟩)
       go_ret
       exact⟨by rw[HV.out];rfl,Below.chain HB.out hb2⟩
   ·obtain rfl:k=s.length:=by omega
    have hga:kY s=true:=(sk s).2 HA.out
    have HV:=hid (show eN s=(decide (1≤s.length)&&decide (s.length≤64)&&s !=[46]&&s !=[46,46]) by rw[HG.out,hga];rfl)
    clear hga HG HA
    by_cases h1:1≤s.length
    ·by_cases h2:s.length≤64
     ·by_cases h3:s=[46]
      ·subst h3
       clear HV
       go_wp2_with fail
       go_ret
       exact⟨rfl,HB.out⟩
      ·by_cases h4:s=[46,46]
       ·subst h4
        clear HV
        go_wp2_with fail
        go_ret
        exact⟨rfl,HB.out⟩
       ·have E3:(s==[46])=false:=by simpa using h3
        have E4:(s==[46,46])=false:=by simpa using h4
        have HW:=hid (show eN s=true by rw[HV.out,bne,bne,E3,E4,decide_eq_true h1,decide_eq_true h2];rfl)
        clear h3 h4 HV
        go_wp2_with fail
        go_ret
        exact⟨by rw[HW.out];first|rfl|simp[E3,E4],HB.out⟩
     ·have HW:=hid (show eN s=false by rw[HV.out,decide_eq_false h2];simp)
      clear HV
      go_wp2_with fail
      go_ret
      exact⟨by rw[HW.out];rfl,HB.out⟩
    ·have HW:=hid (show eN s=false by rw[HV.out,decide_eq_false h1];rfl)
     clear HV
     go_wp2_with fail
     go_ret
     exact⟨by rw[HW.out];rfl,HB.out⟩
theorem xF (s:Txt) (w:World) (hs:s.length≤2000000):Calls Tryz.prog 180 #[.string (bs s)] w fun e w'=>e=.returned (.bool (!eN s))∧Below w.heap.size w w':=by
 have HP:=hid (yI s w hs)
 generalize eN s=q at *
 go_enter Tryz.func180,Tryz.ntmps180
 go_wp2_with (go_at_call 181;refine HP.out.mono ?_;rintro e W2 ⟨rfl,hb2⟩)
 go_ret
 exact⟨rfl,hb2⟩
theorem iP (s:Txt):∀x∈cW s,x.length≤s.length:=by
 intro x hx
 unfold cW at hx
 obtain⟨y,hy,rfl⟩:=List.mem_map.1 hx
 have:=gW (bs [47]) _ _ y hy
 rw[bf] at this
 exact this
theorem zcQ (l:List Txt) (P:Txt→Bool):(l.any fun s=>!P s)=!(l.all P):=by
 induction l with
 |nil=>rfl
 |cons x l ih=>rw[List.any_cons,List.all_cons,ih,Bool.not_and]
theorem uf (p:Txt) (w:World) (hs:p.length≤1500000) (hm:bE w):Calls Tryz.prog 140 #[.string (bs p)] w fun e w'=>e=.returned (.bool (kX p))∧Below w.heap.size w w':=by
 have HS:=hid (lX p w (by omega) hm)
 have hll:=jr p
 have HG:=hid (show kX p=(decide ((cW p).length≤16)&&(cW p).all eN) from rfl)
 have HSH:=hid (iP p)
 clear hm
 generalize cW p=ls at *
 generalize kX p=q at *
 have HF:=hid (fun(W:World) (v:Value) (h:bn W v ls)=>gH v ls 180 #[] (enters_of Tryz.func180 (by kernel_rfl) rfl) (fun s=>!eN s) W h (by omega) fun W' _ s hs'=>xF s W' (by have:=HSH.out s hs';omega))
 go_enter Tryz.func140,Tryz.ntmps140
 go_upto_region 2 with(go_at_call 179;refine HS.out.mono ?_;rintro e W1 ⟨v,rfl,ho,hb1⟩)
 have ht:bn W1 v ls:=am.of_owns ho (by unfold maxLen;omega)
 have hA:=HF.out _ _ ht
 obtain⟨a,c,rfl⟩:=az ho
 rw[zcQ] at hA
 have HA:=hid hA
 clear hA HF ho ht HS
 by_cases h1:ls.length≤16
 ·cases hq:ls.all eN with
  |true=>
   rw[hq] at HA
   have HQ:=hid (show q=true by rw[HG.out,hq,decide_eq_true h1];rfl)
   clear hq HG
   go_wp2_with (go_at_call 141;refine HA.out.mono ?_;rintro e W2 ⟨rfl,hb2⟩)
   go_ret
   exact⟨by rw[HQ.out];rfl,Below.chain hb1 hb2⟩
  |false=>
   rw[hq] at HA
   have HQ:=hid (show q=false by rw[HG.out,hq];simp)
   clear hq HG
   go_wp2_with (go_at_call 141;refine HA.out.mono ?_;rintro e W2 ⟨rfl,hb2⟩)
   go_ret
   exact⟨by rw[HQ.out];rfl,Below.chain hb1 hb2⟩
 ·have HQ:=hid (show q=false by rw[HG.out,decide_eq_false h1];rfl)
  clear HG
  go_wp2_with fail
  go_ret
  exact⟨by rw[HQ.out];rfl,hb1⟩
def tB:Option Nat→Int
 |none=> -1
 |some j=>(j:Int)
theorem zew (p s:Txt) (i k f:Nat) (st:Option Nat) (hk:k<s.length) (hi:i<p.length) (h:p[i]=42):kg p s ⟨i,k,st,f⟩=some ⟨i+1,k,some i,k⟩:=by
 unfold kg
 rw[if_pos hk,if_pos ⟨hi,by simp only;rw[List.getElem?_eq_getElem hi,h]⟩]
theorem zc9 (p s:Txt) (i k f:Nat) (st:Option Nat) (hk:k<s.length) (hi:i<p.length) (h0:p[i]≠42) (h:p[i]=63∨p[i]=s[k]):kg p s ⟨i,k,st,f⟩=some ⟨i+1,k+1,st,f⟩:=by
 unfold kg
 rw[if_pos hk,if_neg (fun e=>h0 (by have:=e.2;simp only at this;rw[List.getElem?_eq_getElem hi] at this;exact Option.some.inj this)),if_pos ⟨hi,by
  simp only
  rw[List.getElem?_eq_getElem hi,List.getElem?_eq_getElem hk]
  rcases h with h|h
  ·exact .inl (by rw[h])
  ·exact .inr (by rw[h])⟩]
theorem zc7 (p s:Txt) (i k f:Nat) (st:Option Nat) (hk:k<s.length) (h:∀hi:i<p.length,p[i]≠42∧p[i]≠63∧p[i]≠s[k]):kg p s ⟨i,k,st,f⟩=st.map fun j=>⟨j+1,f+1,st,f+1⟩:=by
 unfold kg
 rw[if_pos hk,if_neg (fun e=>(h e.1).1 (by have:=e.2;simp only at this;rw[List.getElem?_eq_getElem e.1] at this;exact Option.some.inj this)),if_neg (fun e=>by
  obtain⟨e1,e2⟩:=e
  simp only at e1 e2
  rw[List.getElem?_eq_getElem e1,List.getElem?_eq_getElem hk] at e2
  rcases e2 with e2|e2
  ·exact(h e1).2.1 (Option.some.inj e2)
  ·exact(h e1).2.2 (Option.some.inj e2))]
 cases st<;>rfl
theorem zbH (p s:Txt) (x:rW) (hk:¬x.k<s.length):kg p s x=none:=by unfold kg;rw[if_neg hk]
theorem rV {p s:Txt} {x:rW} (h:bT (kg p s) yA x) (h0:kg p s x=none):rL p s=if x.k<s.length then false else decide (Lib.trimB (p.drop x.i) 42=[]):=by
 unfold rL
 rw[eD h h0]
theorem u8T {c d:UInt8} (h:c=d):((c.toNat:Int)==(d.toNat:Int))=true:=eqT (by rw[h])
theorem u8F {c d:UInt8} (h:c≠d):((c.toNat:Int)==(d.toNat:Int))=false:=eqF (fun e=>h (UInt8.toNat_inj.1 (by omega)))
set_option maxHeartbeats 8000000 in
theorem zbP (p s:Txt) (w:World) (hp:p.length≤2000000) (hs:s.length≤2000000):Calls Tryz.prog 251 #[.string (bs p),.string (bs s)] w fun e w'=>e=.returned (.bool (rL p s))∧Below w.heap.size w w':=by
 go_enter Tryz.func251,Tryz.ntmps251
 go_wp2_with fail
 go_loopg [5,6,7,8] (lD p s yA) (fun gk vi vk vs va wr=>∃x:rW,gk=lD p s x∧bT (kg p s) yA x∧zd3 p s x∧vi=.int .i64 (x.i:Int)∧vk=.int .i64 (x.k:Int)∧vs=.int .i64 (tB x.star)∧va=.int .i64 (x.from_:Int)∧Below w.heap.size w wr)
 case atStart=>exact⟨yA,rfl,.refl _,⟨Nat.zero_le _,Nat.zero_le _,Nat.le_refl _,Nat.le_refl _⟩,rfl,rfl,rfl,rfl,Below.refl _ _⟩
 case round=>
  obtain⟨⟨i,k,st,f⟩,rfl,hst,hI,rfl,rfl,rfl,rfl,hbw⟩:=hrel
  have HST:=hid hst
  have HI:=hid hI
  have HB:=hid hbw
  obtain⟨i1,i2,i3,i4⟩:=hI
  simp only at i1 i2 i3 i4
  clear hst hbw
  simp only
  by_cases hk:k<s.length
  ·by_cases hi:i<p.length
   ·by_cases h42:p[i]=42
    ·have E1:((p[i].toNat:Int)==42)=true:=eqT (by rw[h42];rfl)
     have hs1:=zew p s i k f st hk hi h42
     have HS:=hid (And.intro hs1 (jd p s _ _ HI.out hs1))
     clear hs1 h42
     go_wp2_with fail
     go_roundg (lD p s ⟨i+1,k,some i,k⟩)
     case measure=>exact HS.out.2.2
     case rel=>exact⟨⟨i+1,k,some i,k⟩,rfl,HST.out.tail HS.out.1,HS.out.2.1,by go_num,by go_num,rfl,by go_num,HB.out⟩
    ·have E1:((p[i].toNat:Int)==42)=false:=eqF (fun e=>h42 (UInt8.toNat_inj.1 (by have h:(42:UInt8).toNat=42:=rfl;omega)))
     by_cases h63:p[i]=63
     ·have E2:((p[i].toNat:Int)==63)=true:=eqT (by rw[h63];rfl)
      have hs1:=zc9 p s i k f st hk hi h42 (.inl h63)
      have HS:=hid (And.intro hs1 (jd p s _ _ HI.out hs1))
      clear hs1 h42 h63
      go_upto_region 7 with fail
      refine aC (by kernel_rfl) (by kernel_rfl) ?_
      repeat(refine WQ.step (fun K hK=>?_);go_simp;first|(refine hK _ ?_;clear hK K)|(apply Exists.intro;refine⟨fun W hW=>?_,hK _ ?_⟩;(first|with_reducible rfl|(go_simp;first|rfl|exact⟨rfl,rfl⟩|(simp;done)));clear hK K))
      refine WQ.nil ?_
      intro wq hwq
      go_wp2_with fail
      go_roundg (lD p s ⟨i+1,k+1,st,f⟩)
      case measure=>exact HS.out.2.2
      case rel=>exact⟨⟨i+1,k+1,st,f⟩,rfl,HST.out.tail HS.out.1,HS.out.2.1,by go_num,by go_num,rfl,rfl,Below.chain HB.out hwq⟩
     ·have E2:((p[i].toNat:Int)==63)=false:=eqF (fun e=>h63 (UInt8.toNat_inj.1 (by have h:(63:UInt8).toNat=63:=rfl;omega)))
      by_cases hss:p[i]=s[k]
      ·have E3:((p[i].toNat:Int)==(s[k].toNat:Int))=true:=u8T hss
       have hs1:=zc9 p s i k f st hk hi h42 (.inr hss)
       have HS:=hid (And.intro hs1 (jd p s _ _ HI.out hs1))
       clear hs1 h42 h63 hss
       go_upto_region 7 with fail
       refine aC (by kernel_rfl) (by kernel_rfl) ?_
       repeat(refine WQ.step (fun K hK=>?_);go_simp;first|(refine hK _ ?_;clear hK K)|(apply Exists.intro;refine⟨fun W hW=>?_,hK _ ?_⟩;(first|with_reducible rfl|(go_simp;first|rfl|exact⟨rfl,rfl⟩|(simp;done)));clear hK K))
       refine WQ.nil ?_
       intro wq hwq
       go_wp2_with fail
       go_roundg (lD p s ⟨i+1,k+1,st,f⟩)
       case measure=>exact HS.out.2.2
       case rel=>exact⟨⟨i+1,k+1,st,f⟩,rfl,HST.out.tail HS.out.1,HS.out.2.1,by go_num,by go_num,rfl,rfl,Below.chain HB.out hwq⟩
      ·have E3:((p[i].toNat:Int)==(s[k].toNat:Int))=false:=u8F hss
       have hC:=zc7 p s i k f st hk fun _=>⟨h42,h63,hss⟩
       clear h42 h63 hss
       cases st with
       |none=>
        have HV:=hid (show rL p s=false by rw[rV HST.out (hC.trans rfl),if_pos hk])
        unfold tB
        clear hC
        go_upto_region 7 with fail
        refine aC (by kernel_rfl) (by kernel_rfl) ?_
        repeat(refine WQ.step (fun K hK=>?_);go_simp;first|(refine hK _ ?_;clear hK K)|(apply Exists.intro;refine⟨fun W hW=>?_,hK _ ?_⟩;(first|with_reducible rfl|(go_simp;first|rfl|exact⟨rfl,rfl⟩|(simp;done)));clear hK K))
        refine WQ.nil ?_
        intro wq hwq
        go_wp2_with fail
        go_ret
        exact⟨by rw[HV.out];rfl,Below.chain HB.out hwq⟩
       |some j=>
        have HS:=hid (And.intro (hC.trans rfl) (jd p s _ ⟨j+1,f+1,some j,f+1⟩ HI.out (hC.trans rfl)))
        unfold tB
        clear hC
        simp only[o7] at i4
        go_upto_region 7 with fail
        refine aC (by kernel_rfl) (by kernel_rfl) ?_
        repeat(refine WQ.step (fun K hK=>?_);go_simp;first|(refine hK _ ?_;clear hK K)|(apply Exists.intro;refine⟨fun W hW=>?_,hK _ ?_⟩;(first|with_reducible rfl|(go_simp;first|rfl|exact⟨rfl,rfl⟩|(simp;done)));clear hK K))
        refine WQ.nil ?_
        intro wq hwq
        go_wp2_with fail
        go_roundg (lD p s ⟨j+1,f+1,some j,f+1⟩)
        case measure=>exact HS.out.2.2
        case rel=>exact⟨⟨j+1,f+1,some j,f+1⟩,rfl,HST.out.tail HS.out.1,HS.out.2.1,by go_num,by go_num,rfl,by go_num,Below.chain HB.out hwq⟩
   ·have hC:=zc7 p s i k f st hk fun h=>absurd h hi
    cases st with
    |none=>
     have HV:=hid (show rL p s=false by rw[rV HST.out (hC.trans rfl),if_pos hk])
     unfold tB
     clear hC
     go_upto_region 7 with fail
     refine aC (by kernel_rfl) (by kernel_rfl) ?_
     repeat(refine WQ.step (fun K hK=>?_);go_simp;first|(refine hK _ ?_;clear hK K)|(apply Exists.intro;refine⟨fun W hW=>?_,hK _ ?_⟩;(first|with_reducible rfl|(go_simp;first|rfl|exact⟨rfl,rfl⟩|(simp;done)));clear hK K))
     refine WQ.nil ?_
     intro wq hwq
     go_wp2_with fail
     go_ret
     exact⟨by rw[HV.out];rfl,Below.chain HB.out hwq⟩
    |some j=>
     have HS:=hid (And.intro (hC.trans rfl) (jd p s _ ⟨j+1,f+1,some j,f+1⟩ HI.out (hC.trans rfl)))
     unfold tB
     clear hC
     simp only[o7] at i4
     go_upto_region 7 with fail
     refine aC (by kernel_rfl) (by kernel_rfl) ?_
     repeat(refine WQ.step (fun K hK=>?_);go_simp;first|(refine hK _ ?_;clear hK K)|(apply Exists.intro;refine⟨fun W hW=>?_,hK _ ?_⟩;(first|with_reducible rfl|(go_simp;first|rfl|exact⟨rfl,rfl⟩|(simp;done)));clear hK K))
     refine WQ.nil ?_
     intro wq hwq
     go_wp2_with fail
     go_roundg (lD p s ⟨j+1,f+1,some j,f+1⟩)
     case measure=>exact HS.out.2.2
     case rel=>exact⟨⟨j+1,f+1,some j,f+1⟩,rfl,HST.out.tail HS.out.1,HS.out.2.1,by go_num,by go_num,rfl,by go_num,Below.chain HB.out hwq⟩
  ·have HV:=hid (rV HST.out (zbH p s _ hk))
   have HT:=hid (fun W=>Tryz.strings_Trim_one (bs (p.drop i)) 42 (by decide) W (by rw[bf,List.length_drop];omega))
   simp only at HV
   rw[if_neg hk] at HV
   have htk:(p.drop i).take (p.length-i)=p.drop i:=List.take_of_length_le (by rw[List.length_drop];exact Nat.le_refl _)
   go_wp2_with (go_at_call 302;refine(HT.out _).mono ?_;rintro e W2 ⟨rfl,hW2⟩)
   go_ret
   refine⟨?_,Below.chain HB.out ?_⟩
   ·rw[HV.out]
    show Ending.returned (.bool (Lib.trimB (p.drop i) 42).isEmpty)=_
    cases Lib.trimB (p.drop i) 42<;>simp
   ·rcases hW2 with rfl|rfl
    ·exact Below.refl _ _
    ·exact eP.below ⟨1,rfl⟩
end Go.Proofs.YtlbipokkdiiaiaaGreatDoor
namespace Go.Proofs.YtlbipokkdiiaiaaGreatDoor
open Go.RowKit
def cC:gB→Bool
 |.line _=>true
 |.told _ _=>false
structure bV (r:au):Prop where
 fc:fi r
 cm:r.cmds.length≤400
 kl:r.known.length≤500
 tl:r.top.tail.all cC=true
 nu:nuL r≤1000+r.known.length*30000000
 pl:r.asks.length≤65536∧r.over.path.length≤65536
theorem bV.mu {r:au} (h:bV r):muL r≤1000000000000:=by
 have h1:=h.nu
 have h2:=h.kl
 have h3:=eZ r
 unfold muL
 omega
theorem zdH {k:KnL} (h:k.data.length≤65536):lnK k≤65538:=by
 unfold lnK
 have:=bw k.data
 omega
theorem zbS (env:Txt→Option Txt) {r r':au} (h:bM env r=some r'):nuL r'≤nuL r:=by
 have h1:=np env r r' h
 have h2:=eZ r
 unfold muL at h1
 omega
theorem zf (l:List Txt) (t:List gB) (h:t.all cC=true):(l.map gB.line++t).all cC=true:=by
 rw[List.all_append,h,Bool.and_true]
 induction l with
 |nil=>rfl
 |cons x l _=>simp[cC]
theorem cN {l:List gB} (h:l.all cC=true):l.tail.all cC=true:=by
 cases l with
 |nil=>rfl
 |cons t l=>simp only[List.all_cons,Bool.and_eq_true] at h;exact h.2
theorem lE (r:au) (s:Txt):(cY r s).top=r.top:=by unfold cY;split<;>rfl
theorem vW (r:au) (t:cS) (k:KnL) (h:r.top.all cC=true):(bq r t k).top.all cC=true:=by
 cases t with
 |read=>simp only[bq];split;rw[lE];exact h;exact h
 |try_=>simp only[bq];split;rw[lE];exact h;exact h
 |scan=>
  simp only[bq];split
  ·exact zf _ _ h
  ·exact h
theorem vm (r:au) (p:Txt) (t:cS) (h:r.top.all cC=true):(cx r p t).top.tail.all cC=true:=by
 unfold cx
 split
 ·exact cN (vW r t _ h)
 ·split
  ·exact cN h
  ·exact h
theorem zcO (env:Txt→Option Txt) {r r':au} (ht:r.top.tail.all cC=true) (h:bM env r=some r'):r'.top.tail.all cC=true:=by
 unfold bM at h
 split at h
 ·cases h
 ·split at h
  ·rename_i s t e
   simp only[Option.some.injEq] at h
   subst h
   rw[e] at ht
   have ht':t.all cC=true:=ht
   unfold fS
   split
   ·split
    ·rw[lE];exact cN ht'
    ·split
     ·exact cN ht'
     ·exact vm {r with top:=t,seen:=_::r.seen} _ _ ht'
   ·rw[lE];exact cN ht'
  ·rename_i p k t e
   simp only[Option.some.injEq] at h
   subst h
   rw[e] at ht
   exact cN (vW {r with top:=t} k _ ht)
  ·rename_i e
   have ht':r.top.all cC=true:=by rw[e];rfl
   split at h
   ·rename_i c l hc
    simp only[Option.some.injEq] at h
    subst h
    exact nD (fun x=>x.top.tail.all cC=true) env {r with cmds:=l} _ _ _ _ _ (fun t _=>vm _ _ _ ht') (vm _ _ _ ht') (fun x=>by rw[lE];exact cN ht') (fun e=>cN ht') (cN ht') (cN ht') (fun x=>by unfold jB;rw[lE];exact cN ht') (fun x=>cN ht')
   ·simp only[Option.some.injEq] at h
    subst h
    exact cN ht'
def fE (r:au):Prop:=r.asks.length≤65536∧r.over.path.length≤65536
theorem mf {r:au} (h:fE r) (s:Txt):fE (cY r s):=by unfold cY;split;exact⟨h.1,Nat.zero_le _⟩;exact h
theorem wT {r:au} (h:fE r) (t:cS) (k:KnL):fE (bq r t k):=by
 cases t with
 |read=>simp only[bq];split;exact mf h _;exact⟨h.1,Nat.zero_le _⟩
 |try_=>simp only[bq];split;exact mf h _;exact h
 |scan=>simp only[bq];split;exact h;exact⟨h.1,Nat.zero_le _⟩
theorem vB {r:au} (h:fE r) (p:Txt) (t:cS) (hp:p.length≤65536):fE (cx r p t):=by
 unfold cx
 split
 ·exact wT h t _
 ·split
  ·exact⟨h.1,Nat.zero_le _⟩
  ·exact⟨hp,h.2⟩
theorem uD {l:List Txt} (h:∀x∈l,x.length≤65536) (i:Nat):(l.getD i []).length≤65536:=by
 rw[List.getD_eq_getElem?_getD]
 cases hx:l[i]? with
 |none=>exact Nat.zero_le _
 |some s=>exact h s (List.mem_of_getElem? hx)
theorem zcz (env:Txt→Option Txt) {r r':au} (hf:fi r) (h:fE r) (hs:bM env r=some r'):fE r':=by
 unfold bM at hs
 split at hs
 ·cases hs
 ·split at hs
  ·rename_i s t e
   simp only[Option.some.injEq] at hs
   subst hs
   have hsl:=hf.ln s (by rw[e];exact List.mem_cons_self ..)
   unfold fS
   split
   ·rename_i a b hw
    have hb:b.length≤65536:=Nat.le_trans (fp s b (by rw[hw];simp)).2 hsl
    split
    ·exact mf (r:={r with top:=t}) h _
    ·split
     ·exact h
     ·exact vB (r:={r with top:=t,seen:=_::r.seen}) h _ _ hb
   ·exact mf (r:={r with top:=t}) h _
  ·rename_i p k t e
   simp only[Option.some.injEq] at hs
   subst hs
   exact wT (r:={r with top:=t}) h k _
  ·split at hs
   ·rename_i c l hc
    simp only[Option.some.injEq] at hs
    subst hs
    have hw:=uD (hf.cm c (by rw[hc];exact List.mem_cons_self ..)).wl
    exact nD fE env {r with cmds:=l} _ _ _ _ _ (fun t _=>vB (r:={r with cmds:=l}) h _ _ (hw 1)) (vB (r:={r with cmds:=l,word:=c.words.getD 2 [],seen:=[c.words.getD 1 []]}) h _ _ (hw 1)) (fun x=>mf (r:={r with cmds:=l}) h _) (fun e=>⟨h.1,Nat.zero_le _⟩) ⟨h.1,hw 1⟩ h (fun x=>by unfold jB;exact mf (r:={r with cmds:=l,buffer:=[]}) h _) (fun x=>h)
   ·simp only[Option.some.injEq] at hs
    subst hs
    exact⟨h.1,Nat.zero_le _⟩
theorem bV.step (env:Txt→Option Txt) {r r':au} (h:bV r) (hs:bM env r=some r'):bV r':=by
 have h1:=wA env r r' hs
 exact⟨jo env h.fc hs,Nat.le_trans h1.cmds h.cm,by rw[h1.known];exact h.kl,zcO env h.tl hs,by rw[h1.known];exact Nat.le_trans (zbS env hs) h.nu,zcz env h.fc h.pl hs⟩
theorem bV.steps (env:Txt→Option Txt) {r r':au} (h:bV r) (hs:bT (bM env) r r'):bV r':=by
 induction hs with
 |refl a=>exact h
 |step h2 _ ih=>exact ih (h.step env h2)
theorem bV.settle (env:Txt→Option Txt) {r r':au} (h:bV r) (h1:bT (bM env) r r') (h2:bM env r'=none):eY env r=r'∧bV r':=⟨eD h1 h2,h.steps env h1⟩
theorem bV.over {r:au} (h:bV r) (o:DoL) (ho:o.path.length≤65536):bV {r with over:=o}:=⟨⟨h.fc.buf,h.fc.kn,h.fc.ln,h.fc.cm,h.fc.nd⟩,h.cm,h.kl,h.tl,h.nu,h.pl.1,ho⟩
theorem zfZ (l:List bB) (hl:l.length≤400) (hc:∀c∈l,lw c):bV (lK l):=
 ⟨⟨Nat.zero_le _,fun k hk=>(List.not_mem_nil hk).elim,fun s hs=>(List.not_mem_nil hs).elim,hc,.nil⟩,hl,Nat.zero_le _,rfl,by
   have:nuL (lK l)=l.length*2:=by simp[nuL,lK,mK,sK,gb]
   rw[this];omega,Nat.zero_le _,Nat.zero_le _⟩
theorem zcq (l:List KnL) (k:KnL) (t:gB):twL (l++[k]) t≤twL l t+(ap k.data).length:=by
 cases t with
 |line s=>exact Nat.le_add_right _ _
 |told p t=>
  simp only[twL]
  rw[List.find?_append]
  cases l.find? (fun k=>decide (k.path=p)) with
  |some x=>simp only[Option.some_or];omega
  |none=>
   simp only[Option.none_or]
   by_cases e:k.path=p
   ·rw[List.find?_cons_of_pos (by simpa using e)];simp only;omega
   ·rw[List.find?_cons_of_neg (by simpa using e)];simp only[List.find?_nil];omega
theorem xa (l:List KnL) (k:KnL) (t:List gB) (h:t.tail.all cC=true):gb (l++[k]) t≤gb l t+(ap k.data).length:=by
 have hl:∀t:List gB,t.all cC=true→gb (l++[k]) t=gb l t:=by
  intro t ht
  unfold gb
  induction t with
  |nil=>rfl
  |cons x t ih=>
   simp only[List.all_cons,Bool.and_eq_true] at ht
   simp only[List.map_cons,List.sum_cons]
   rw[ih ht.2]
   cases x with
   |line s=>rfl
   |told p t=>cases ht.1
 cases t with
 |nil=>exact Nat.le_add_right _ _
 |cons x t=>
  have h1:=hl t h
  have h2:=zcq l k x
  have e1:gb (l++[k]) (x::t)=twL (l++[k]) x+gb (l++[k]) t:=rfl
  have e2:gb l (x::t)=twL l x+gb l t:=rfl
  rw[e1,e2,h1]
  omega
theorem bV.told {r:au} (h:bV r) (k:KnL) (hk:k.data.length≤65536) (hn:r.knows k.path=none) (hl:r.known.length<500):bV (gS r k):=by
 have h1:=zdH hk
 refine⟨⟨h.fc.buf,fun x hx=>?_,h.fc.ln,h.fc.cm,?_⟩,h.cm,?_,h.tl,?_,Nat.zero_le _,h.pl.2⟩
 ·rcases List.mem_append.1 hx with e|e
  ·exact h.fc.kn x e
  ·rw[List.mem_singleton.1 e];exact hk
 ·show((r.known++[k]).map (·.path)).Nodup
  rw[List.map_append]
  refine List.nodup_append.2 ⟨h.fc.nd,by simp,?_⟩
  intro a ha b hb e
  simp only[List.map_cons,List.map_nil,List.mem_singleton] at hb
  obtain⟨x,hx,rfl⟩:=List.mem_map.1 ha
  have:=List.find?_eq_none.1 hn x hx
  simp only[decide_eq_true_eq] at this
  exact this (e.trans hb)
 ·show(r.known++[k]).length≤500
  rw[List.length_append]
  simp only[List.length_cons,List.length_nil]
  omega
 ·have hnu:=h.nu
  have htop:=xa r.known k r.top h.tl
  have hmk:mK (r.known++[k])=mK r.known+lnK k:=by unfold mK;simp
  have hsk:sK (r.known++[k]) r.seen≤sK r.known r.seen+lnK k:=by
   unfold sK
   rw[List.filter_append,List.map_append,List.sum_append]
   refine Nat.add_le_add_left ?_ _
   rw[List.filter_cons]
   split
   ·simp
   ·simp
  have hln:(ap k.data).length≤lnK k:=Nat.le_succ _
  have e1:nuL (gS r k)=r.cmds.length*(mK (r.known++[k])+2)+sK (r.known++[k]) r.seen+gb (r.known++[k]) r.top:=rfl
  have e2:nuL r=r.cmds.length*(mK r.known+2)+sK r.known r.seen+gb r.known r.top:=rfl
  have e3:(gS r k).known.length=r.known.length+1:=by
   show(r.known++[k]).length=_
   rw[List.length_append];rfl
  have h5:r.cmds.length*lnK k≤400*65538:=Nat.mul_le_mul h.cm h1
  have h6:r.cmds.length*(mK r.known+lnK k+2)=r.cmds.length*(mK r.known+2)+r.cmds.length*lnK k:=by
   rw[←Nat.mul_add];congr 1;omega
  rw[e1,e3,hmk,h6]
  rw[e2] at hnu
  omega
open Exec Go.Shelf
attribute [local go_sem] Oper.semAt_some
set_option maxRecDepth 100000
theorem mI:cZ 321 4:=⟨_,Tryz.underlying321,rfl,by kernel_rfl⟩
def doC (d:DoL):List Value:=[.int .i64 (d.kind:Int),.string (bs d.path),.string (bs d.data),.int .i64 (d.why:Int)]
theorem kH (d:DoL):∀u∈doC d,u.oneCell'=true:=by
 intro u hu
 simp only[doC,List.mem_cons,List.not_mem_nil,or_false] at hu
 rcases hu with rfl|rfl|rfl|rfl<;>rfl
theorem zai {w:World} {g km:Nat} {tv ev:Value} {r:au} (h:w.heap[g]?=some (.cells (iC tv ev km r).toArray 323 (0,0))):w.rangeAt g 6 (doC r.over):=fun j u hu=>by
 have e:iC tv ev km r=[tv,ev,.string (bs r.buffer),.map (some km),.string (bs r.asks),.bool r.waits]++doC r.over:=rfl
 rw[e] at h
 have h1:=ak h (6+j) u (by rw[List.getElem?_append_right (by simp)];simpa using hu)
 simpa using h1
structure mr (w:World) (x:Nat):Prop where
 at_:w.heap[x]?=some (.cells (doC do0).toArray 321 (0,0))
theorem mr.cell0 {w:World} {x:Nat} (h:mr w x) (v:Value) (hv:w.cell? ⟨x,0,none⟩=some v):∃n,v=.int .i64 n:=by
 rw[cell_of_row _ _ 0 _ _ _ h.at_] at hv
 exact⟨0,(Option.some.inj hv).symm⟩
section
variable {B g km mb x:Nat} {D:Nat→Prop} {env:List (Txt×Txt)} {r:au} {w w':World} {tv ev:Value} {vs cs:List Value} {word:Txt}
theorem aH.other {b:Nat} {v:Value} (h:aH D w b v) (hx:mr w x) (ht:aX x w w') (hv:∀n,v≠.int .i64 n):aH D w' b v:=by
 have hne:b≠x:=fun e=>by
  subst e
  obtain⟨n,hn⟩:=hx.cell0 v h.2.2
  exact hv n hn
 exact⟨Nat.lt_of_lt_of_le h.1 ht.foot.size,h.2.1,(World.cell?_of_block (ht.foot.block b h.1 hne)).trans h.2.2⟩
theorem dl.other {t:cS} {v:Value} (h:dl D g mb word w t v) (hx:mr w x) (ht:aX x w w'):dl D g mb word w' t v:=by
 cases t with
 |read=>
  obtain⟨b1,b2,rfl,h1,h2⟩:=h
  exact⟨b1,b2,rfl,h1.other hx ht (by simp),h2.other hx ht (by simp)⟩
 |try_=>
  obtain⟨b1,rfl,h1⟩:=h
  exact⟨b1,rfl,h1.other hx ht (by simp)⟩
 |scan=>
  obtain⟨b1,b2,b3,b4,b5,rfl,h1,h2,h3,h4,h5⟩:=h
  exact⟨b1,b2,b3,b4,b5,rfl,h1.other hx ht (by simp),h2.other hx ht (by simp),h3.other hx ht (by simp),h4.other hx ht (by simp),h5.other hx ht (by simp)⟩
theorem yF {t:cS} {v:Value} (h:dl D g mb word w t v) (n:Int):v≠.int .i64 n:=by
 cases t with
 |read=>obtain⟨b1,b2,rfl, -⟩:=h;simp
 |try_=>obtain⟨b1,rfl, -⟩:=h;simp
 |scan=>obtain⟨b1,b2,b3,b4,b5,rfl, -⟩:=h;simp
theorem fY.other {t:gB} {v:Value} (h:fY D g mb word w t v) (hx:mr w x) (ht:aX x w w'):fY D g mb word w' t v:=by
 cases t with
 |line s=>
  obtain⟨b0,b1,b2,b3,rfl,h0,h1,h2,h3⟩:=h
  exact⟨b0,b1,b2,b3,rfl,h0.other hx ht (by simp),h1.other hx ht (by simp),h2.other hx ht (by simp),h3.other hx ht (by simp)⟩
 |told p t=>
  obtain⟨b0,b1,b2,tv,rfl,h0,h1,h2,h3⟩:=h
  exact⟨b0,b1,b2,tv,rfl,h0.other hx ht (yF h1),h1.other hx ht,h2.other hx ht (by simp),h3.other hx ht (by simp)⟩
theorem dr.other {c:bB} {v:Value} (h:dr B D g w c v) (hx:mr w x) (hB:B≤x) (ht:aX x w w'):dr B D g w' c v:=by
 obtain⟨b0,b1,wv,rfl,h0,⟨h1,h2⟩,h3,h4,h5⟩:=h
 have hb1:b1≠x:=fun e=>by
  subst e
  rw[hx.at_] at h2
  have:=Option.some.inj h2
  simp at this
 exact⟨b0,b1,wv,rfl,h0.other hx ht (by simp),⟨h1,(ht.foot.block b1 (lx (hid h2)) hb1).trans h2⟩,dE h3 ht.foot.size fun k hk hl=>ht.foot.block k hl fun e=>by have:=h5 k hk;omega,fun k hk=>⟨(h4 k hk).1,Nat.lt_of_lt_of_le (h4 k hk).2 ht.foot.size⟩,h5⟩
theorem aM.other (h:aM B D g env r w tv ev km mb vs cs) (hx:mr w x) (hB:B≤x) (hD:¬D x) (ht:aX x w w'):aM B D g env r w' tv ev km mb vs cs:=by
 have hne:∀k,D k→k≠x:=fun k hk e=>hD (e▸hk)
 refine⟨(ht.foot.block g (lx (hid h.at_)) (hne g h.dg)).trans h.at_,aU h.row fun k hk=>ht.foot.block k (h.row.lt k hk).2 (hne k (h.dt k hk)),h.top.imp fun _ _ k=>k.other hx ht,h.cmd.imp fun _ _ k=>k.other hx hB ht,de h.env ht.foot.size fun k hk hl=>ht.foot.block k hl fun e=>?_,fun k hk=>⟨(h.eno k hk).1,Nat.lt_of_lt_of_le (h.eno k hk).2 ht.foot.size⟩,(ht.foot.block km (lx (hid h.kn)) (hne km h.dk)).trans h.kn,fun e=>?_,h.dg,h.dk,h.dt,fun k hk=>⟨(h.db k hk).1,Nat.lt_of_lt_of_le (h.db k hk).2 ht.foot.size⟩,h.sm,h.eb⟩
 ·have:=h.eb k hk
  omega
 ·have h1:=h.seen e
  exact⟨(ht.foot.block mb (lx (hid h1.1)) (hne mb h1.2.1)).trans h1.1,h1.2⟩
end
section
variable {B g:Nat} {D:Nat→Prop} {env:List (Txt×Txt)} {r:au} {w:World}
theorem bC.db (h:bC B D g env r w):∀k,D k→B≤k∧k<w.heap.size:=by
 obtain⟨tv,ev,km,mb,vs,cs,h⟩:=h
 exact h.db
theorem bC.lt (h:bC B D g env r w):g<w.heap.size:=by
 obtain⟨tv,ev,km,mb,vs,cs,h⟩:=h
 exact lx (hid h.at_)
set_option maxHeartbeats 8000000 in
theorem zk (h:bC B D g env r w) (hg:aL B w) (hok:bV r) (hev:∀x∈env,x.2.length≤1000000000000000):
 Calls Tryz.prog 198 #[.pointer (some ⟨g,0,none⟩)] w fun e w2=>∃d r',bO (dB env) r=(d,r')∧bV r'∧d.path.length≤65536∧e=.returned (.agg (doC d).toArray)∧aB B D g env r' w w2:=by
 have HC:=hid (fun(W:World) (hb:Below w.heap.size w W)=>oD (h.below hb) (hg.below hb) hok.fc hok.mu hev)
 have HOK:=hid hok
 have HDB:=hid h.db
 have HG:=hid h.lt
 clear h hg hok
 go_enter Tryz.func198,Tryz.ntmps198
 go_upto_region 1 with(refine zaA (ty:=321) (zs:=(doC do0).toArray) (by kernel_rfl) ?_;intro W1 hb1 hn1 hs1)
 go_upto_region 3 with fail
 go_upto_region 4 with(go_at_call 201;refine(HC.out _ hb1).mono ?_;rintro e W2 ⟨rfl,r',hst,hnone,hfc,hgo⟩)
 obtain⟨hse,hok'⟩:=HOK.out.settle _ hst hnone
 obtain⟨D2,hd2,hf2,tv,ev,km,mb,vs,cs,hR⟩:=hgo
 have hn2:=(hf2.block w.heap.size (by omega) (fun e=>by have:=(HDB.out _ e).2;omega)).trans hn1
 have hz2:=hf2.size
 have hzl:(doC do0).toArray.size=4:=rfl
 have hgl:=lx (hid hR.at_)
 have hgne:g≠w.heap.size:=fun e=>by have:=HG.out;omega
 have HR:=hid hR
 have HF:=hid (And.intro hd2 hf2)
 have HN2:=hid hn2
 obtain⟨-, -, -, -,c4,c5,c6,c7,c8,c9⟩:=ay hR.at_
 have hfin2:∀W3,Below W2.heap.size W2 W3→∀W5 W6 D5,(∀j,D5 j→D2 j∨W3.heap.size≤j)→aw D2 W3 W5→∀r2,bC B D5 g env r2 W5→aX w.heap.size W5 W6→aB B D g env r2 w W6:=by
  intro W3 h3 W5 W6 D5 hd5 hf5 r2 hR5 ht6
  have hz3:=h3.size
  have hD5:∀j,D5 j→D j∨W1.heap.size≤j:=fun j hj=>by
   rcases hd5 j hj with e|e
   ·exact hd2 j e
   ·exact .inr (by omega)
  have hfo:aw D W1 W5:=(hf2.then h3).trans hf5 fun j hj e=>by
   rcases hd2 j e with e|e
   ·exact e
   ·omega
  obtain⟨tv5,ev5,km5,mb5,vs5,cs5,hR5⟩:=hR5
  have hnd:¬D5 w.heap.size:=fun e=>by
   rcases hD5 _ e with e|e
   ·have:=(HDB.out _ e).2;omega
   ·omega
  have hx2:¬D2 w.heap.size:=fun e=>by
   rcases hd2 _ e with e|e
   ·have:=(HDB.out _ e).2;omega
   ·omega
  have hx5:mr W5 w.heap.size:=⟨(hf5.block _ (by omega) hx2).trans ((h3.block _ (by omega)).trans HN2.out)⟩
  have hBx:B≤w.heap.size:=by have:=(hR5.db g hR5.dg).1;have:=HG.out;omega
  have h6:=hR5.other hx5 hBx hnd ht6
  have hf6:=ht6.foot
  have hz5:=hfo.size
  exact⟨D5,fun j hj=>by
   rcases hD5 j hj with e|e
   ·exact .inl e
   ·exact .inr (by omega),⟨hf6.os.trans (hfo.os.trans hb1.os),hf6.tape.trans (hfo.tape.trans hb1.tape),hf6.output.trans (hfo.output.trans hb1.output),by have:=hf6.size;omega,fun k hk hkd=>(hf6.block k (by omega) (by omega)).trans ((hfo.block k (by omega) hkd).trans (hb1.block k hk))⟩,tv5,ev5,km5,mb5,vs5,cs5,h6⟩
 have HFIN2:=hid hfin2
 clear hfin2
 have HRT:=hid (And.intro hse (And.intro hok' hnone))
 clear hR hd2 hf2 hn1 hb1 hse hok' hst hnone hfc HC HOK
 cases hw:r'.waits with
 |true=>
  rw[hw] at c5
  have hdo:bO (dB env) r=(⟨1,r'.asks,[],0⟩,r'):=by unfold bO;rw[HRT.out.1,if_pos hw]
  have HDO:=hid hdo
  clear hdo hw
  go_wp2_with first|(refine dQ (xs:=(doC ⟨1,r'.asks,[],0⟩).toArray) mI HN2.out hzl rfl (kH _) ?_;intro W4 ht4 hn4 hs4)
  refine br1 w.heap.size hn4 ⟨_,r',HDO.out,HRT.out.2.1,HRT.out.2.1.pl.1,rfl,?_⟩ (hu:=Tryz.underlying321)
  exact HFIN2.out W2 (Below.refl _ _) W2 W4 D2 (fun j e=>.inl e) (aw.refl _ _) _ ⟨tv,ev,km,mb,vs,cs,HR.out⟩ ht4
 |false=>
  rw[hw] at c5
  have hrg:=zai HR.out.at_
  have HW:=hid hw
  clear hw c6 c7 c8 c9
  go_upto_region 7 with first|(refine bX mI hrg rfl ?_)|(refine eS (xs:=(doC r'.over).toArray) mI rfl (kH _) ?_;intro W3 hb3 hn3 hs3)
  have k0:W3.cell? ⟨W2.heap.size,0,none⟩=some (.int .i64 (r'.over.kind:Int)):=(cell_of_row _ _ 0 _ _ _ hn3).trans rfl
  have HN3:=hid hn3
  by_cases hk:r'.over.kind=2
  ·have E:((r'.over.kind:Int)==2)=true:=eqT (by omega)
   have hdo:bO (dB env) r=(r'.over,{r' with over:=do0}):=by
    unfold bO
    rw[HRT.out.1,if_neg (by rw[HW.out];exact Bool.false_ne_true),if_pos hk]
   have HDO:=hid hdo
   have hat3:=(hb3.block g hgl).trans HR.out.at_
   obtain⟨-, -, -, -, -, -,c6,c7,c8,c9⟩:=ay hat3
   have hfz:∀k,W3.frozen? ⟨g,k,none⟩=false:=fun k=>Lib.frozen_of_heap hat3 k
   have g6:=hfz 6
   have g7:=hfz 7
   have g8:=hfz 8
   have g9:=hfz 9
   have HAT:=hid hat3
   clear hdo hfz hn3 hat3
   go_upto_region 9 with fail
   obtain⟨n1,t1⟩:=aq HAT.out 6 (.int .i64 0)
   obtain⟨n2,t2⟩:=aq n1 7 (.string ⟨#[]⟩)
   obtain⟨n3,t3⟩:=aq n2 8 (.string ⟨#[]⟩)
   obtain⟨n4,t4⟩:=aq n3 9 (.int .i64 0)
   have HTT:=hid (((t1.trans t2).trans t3).trans t4)
   have HN4:=hid n4
   clear n1 t1 n2 t2 n3 t3 n4 t4 g6 g7 g8 g9 c6 c7 c8 c9 k0
   generalize (((W3.setCell ⟨g,6,none⟩ (.int .i64 0)).setCell ⟨g,7,none⟩ (.string ⟨#[]⟩)).setCell ⟨g,8,none⟩ (.string ⟨#[]⟩)).setCell ⟨g,9,none⟩ (.int .i64 0)=W5 at *
   have hn5:=(HTT.out.foot.block W2.heap.size (by have:=HG.out;omega) (by have:=HG.out;omega)).trans HN3.out
   have hm5:=(HTT.out.foot.block w.heap.size (by have:=HG.out;omega) (by have:=HG.out;omega)).trans ((hb3.block w.heap.size (by have:=HG.out;omega)).trans HN2.out)
   have hgo:=(HR.out.below hb3).go (r':={r' with over:=do0}) HTT.out (HN4.out.trans rfl) rfl rfl rfl rfl rfl ⟨HR.out.sm.buf,HR.out.sm.kn,HR.out.sm.ln,HR.out.sm.cm,HR.out.sm.tl,HR.out.sm.nd⟩
   have HGO:=hid hgo
   clear hgo
   go_wp2_with first|(refine bX mI (ak hn5) rfl ?_)|(refine dQ (xs:=(doC r'.over).toArray) mI hm5 hzl rfl (kH _) ?_;intro W6 ht6 hn6 hs6)
   refine br1 w.heap.size hn6 ⟨_,_,HDO.out,HRT.out.2.1.over do0 (Nat.zero_le _),HRT.out.2.1.pl.2,rfl,?_⟩ (hu:=Tryz.underlying321)
   obtain⟨D5,hd5,hf5,hR5⟩:=HGO.out
   exact HFIN2.out W3 hb3 W5 W6 D5 hd5 hf5 _ hR5 ht6
  ·have E:((r'.over.kind:Int)==2)=false:=eqF (by omega)
   have hdo:bO (dB env) r=(r'.over,r'):=by
    unfold bO
    rw[HRT.out.1,if_neg (by rw[HW.out];exact Bool.false_ne_true),if_neg hk]
   have HDO:=hid hdo
   have hm3:=(hb3.block w.heap.size (by have:=HG.out;omega)).trans HN2.out
   clear hdo hn3
   go_wp2_with first|(refine bX mI (ak HN3.out) rfl ?_)|(refine dQ (xs:=(doC r'.over).toArray) mI hm3 hzl rfl (kH _) ?_;intro W6 ht6 hn6 hs6)
   refine br1 w.heap.size hn6 ⟨_,_,HDO.out,HRT.out.2.1,HRT.out.2.1.pl.2,rfl,?_⟩ (hu:=Tryz.underlying321)
   exact HFIN2.out W3 hb3 W3 W6 D2 (fun j e=>.inl e) (aw.refl _ _) _ ⟨tv,ev,km,mb,vs,cs,HR.out.below hb3⟩ ht6
end
theorem zap {w:World} {r:Nat} {l:List KnL} (hm:w.heap[r]?=some (knO l)) (k:KnL) (hb:∀x∈l,x.path≠k.path):
 ∃W,(Instr.mapUpdate 318 (.map (some r)) (.string (bs k.path)) (knV k)).run Tryz.prog w=.ok () W∧aX r w W∧W.heap[r]?=some (knO (l++[k])):=by
 have ht:Tryz.prog.underlying 318=some (.map 9 98):=by kernel_rfl
 have hr:r<w.heap.size:=(Array.getElem?_eq_some_iff.1 hm).1
 unfold knO at hm
 have hk:∀e∈knE l,∃x,e.key=du x:=fun e he=>by obtain⟨q,_,h,_⟩:=nh he;exact⟨q.path,h⟩
 have hc:=cU.check w false k.path
 unfold du at hc
 have h1:(Instr.findKey 9 (.string (bs k.path)) (knE l)).run Tryz.prog w=.ok none w:=by
  rcases cU.find w k.path (knE l) hk with⟨h1,h2⟩|⟨j,x,h1,h2,h3⟩
  ·exact h1
  ·obtain⟨q,hq,hq1,hq2⟩:=nh (List.mem_of_getElem? h2)
   exact absurd (cU.inj _ _ (h3.symm.trans hq1)).symm (hb q hq)
 refine⟨dX w r (knO (l++[k])),?_,e7 hr _,jp hr _⟩
 have he:knO (l++[k])=.map ((knE l).toArray.push ⟨.string (bs k.path),knV k,l.length⟩) (l.length+1):=by
  simp[knO,knE,List.zipIdx_append,du]
 rw[he]
 simp[Instr.mapUpdate,run_underlying ht,MapKept.run_getObj_map hm,hc,h1,MapKept.run_setObj_map _ hm,Result.andThen,dX]
section
variable {B g km mb:Nat} {D:Nat→Prop} {env:List (Txt×Txt)} {r r':au} {w w':World} {tv ev:Value} {vs cs:List Value}
theorem aM.tell (h:aM B D g env r w tv ev km mb vs cs) (ht:aw (fun k=>k=g∨k=km) w w') (hn:w'.heap[g]?=some (.cells (iC tv ev km r').toArray 323 (0,0))) (hk:w'.heap[km]?=some (knO r'.known))
 (e1:r'.cmds=r.cmds) (e2:r'.top=r.top) (e3:r'.word=r.word) (e4:r'.seen=r.seen) (hs:cV r'):aB B D g env r' w w':=by
 have hf:aw D w w':=ht.mono fun i _ e=>by
  rcases e with e|e
  ·exact e▸h.dg
  ·exact e▸h.dk
 have hd:∀j,D j→D j∨w.heap.size≤j:=fun j e=>.inl e
 have hgk:∀k,tv.ownBlock=some k→¬(k=g∨k=km):=fun k hk e=>by
  obtain⟨-,⟨h1, -⟩|⟨b,cap,cur,h1, -,h2, -⟩⟩:=h.row
  ·rw[h1] at hk;cases hk
  ·rw[h1] at hk
   have:b=k:=Option.some.inj hk
   subst this
   rcases e with e|e
   ·subst e
    rw[h.at_] at h2
    have:=Option.some.inj h2
    simp at this
   ·subst e
    rw[h.kn] at h2
    cases h2
 refine⟨D,fun _ e=>.inl e,hf,tv,ev,km,mb,vs,cs,hn,aU h.row fun k hk=>ht.block k (h.row.lt k hk).2 (hgk k hk),?_,?_,de h.env hf.size fun k hk hl=>hf.block k hl (h.eno k hk).1,fun k hk=>⟨(h.eno k hk).1,Nat.lt_of_lt_of_le (h.eno k hk).2 hf.size⟩,hk,fun e=>?_,h.dg,h.dk,h.dt,fun k hk=>⟨(h.db k hk).1,Nat.lt_of_lt_of_le (h.db k hk).2 hf.size⟩,hs,h.eb⟩
 ·rw[e2,e3];exact h.top.imp fun _ _ k=>k.go hf hd
 ·rw[e1];exact h.cmd.imp fun _ _ k=>k.go hf hd
 ·rw[e2] at e
  rw[e4]
  have h1:=h.seen e
  refine⟨(ht.block _ (lx (hid h1.1)) (fun e=>?_)).trans h1.1,h1.2⟩
  rcases e with e|e
  ·have:=h1.1;rw[e,h.at_] at this;cases this
  ·exact h1.2.2 e
theorem vC {α:Type} {f:α→Option α} {a b:α} (h:bT f a b) (h0:f a=none):b=a:=by
 cases h with
 |refl=>rfl
 |step h1 _=>rw[h0] at h1;cases h1
set_option maxHeartbeats 8000000 in
theorem qY (h:bC B D g env r w) (hg:aL B w) (hok:bV r) (hev:∀x∈env,x.2.length≤1000000000000000) (hw:r.waits=true) (k:KnL) (hka:k.path=r.asks) (hkn:r.knows k.path=none) (hkl:r.known.length<500) (hkd:k.data.length≤65536):
 Calls Tryz.prog 159 #[.pointer (some ⟨g,0,none⟩),knV k] w fun e w2=>e=.returned (.int .i64 0)∧bV (gS r k)∧aB B D g env (gS r k) w w2:=by
 have HC:=hid (fun(W:World) (hb:Below w.heap.size w W)=>oD (h.below hb) (hg.below hb) hok.fc hok.mu hev)
 have HS:=hid (ua (dB env) r hw)
 have HT:=hid (hok.told k hkd hkn hkl)
 have HN:=hid hkn
 have HDB:=hid h.db
 unfold knV
 clear h hg hok hkn
 go_enter Tryz.func159,Tryz.ntmps159
 go_upto_region 3 with(refine df eO ?_;intro W1 hb1 hn1 hs1)
 go_upto_region 4 with(go_at_call 201;refine(HC.out _ hb1).mono ?_;rintro e W2 ⟨rfl,r',hst,hnone,hfc,hgo⟩)
 have hrr:=vC hst HS.out
 subst hrr
 clear hst hnone hfc HC HS
 obtain⟨D2,hd2,hf2,tv,ev,km,mb,vs,cs,hR⟩:=hgo
 have hn2:=(hf2.block w.heap.size (by omega) (fun e=>by have:=(HDB.out _ e).2;omega)).trans hn1
 obtain⟨c0,c1,c2,c3,c4,c5,c6,c7,c8,c9⟩:=ay hR.at_
 rw[hw] at c5
 have k0:W2.cell? ⟨w.heap.size,0,none⟩=some (.string (bs k.path)):=(cell_of_row _ _ 0 _ _ _ hn2).trans rfl
 have k1:W2.cell? ⟨w.heap.size,1,none⟩=some (.bool k.is):=(cell_of_row _ _ 1 _ _ _ hn2).trans rfl
 have k2:W2.cell? ⟨w.heap.size,2,none⟩=some (.string (bs k.data)):=(cell_of_row _ _ 2 _ _ _ hn2).trans rfl
 rw[hka] at k0
 have e6:decide (65536<(k.data.length:Int))=false:=decide_eq_false (by omega)
 have eas:(r'.asks !=r'.asks)=false:=bne_self_eq_false _
 have HR:=hid hR
 have HF:=hid (And.intro hd2 hf2)
 have HB1:=hid hb1
 have HZ:=hid (show W1.heap.size≤W2.heap.size∧W1.heap.size=w.heap.size+1 from⟨hf2.size,hs1⟩)
 clear hR hd2 hf2 hn1 hn2 hb1 hs1 c0 c1 c2 c6 c7 c8 c9
 go_upto_region 6 with fail
 refine aC (by kernel_rfl) (by kernel_rfl) ?_
 repeat(refine WQ.step (fun K hK=>?_);go_simp;first|(refine hK _ ?_;clear hK K)|(apply Exists.intro;refine⟨fun W hW=>?_,hK _ ?_⟩;(first|with_reducible rfl|(have y0:=Below.keeps hW k0;have y1:=Below.keeps hW c4;go_simp;first|rfl|exact⟨rfl,rfl⟩|(simp;done)));clear hK K))
 refine WQ.nil ?_
 intro wq hwq
 have HQ:=hid hwq
 have q0:=Below.keeps hwq k0
 have q1:=Below.keeps hwq k1
 have q2:=Below.keeps hwq k2
 have q3:=Below.keeps hwq c3
 have q4:=Below.keeps hwq c4
 have q5:=Below.keeps hwq c5
 clear hwq k0 k1 k2 c3 c4 c5
 have hfin:∀(wt W8:World),aM B D2 g env r' wt tv ev km mb vs cs→aw (fun k=>k=g∨k=km) wt W8→W8.heap[g]?=some (.cells (iC tv ev km (gS r' k)).toArray 323 (0,0))→W8.heap[km]?=some (knO (r'.known++[k]))→Below W2.heap.size W2 wt→aB B D g env (gS r' k) w W8:=fun wt W8 h1 h2 h3 h4 h5=>by
  have hg1:aB B D2 g env (gS r' k) wt W8:=h1.tell h2 h3 h4 rfl rfl rfl rfl (HT.out.fc.r HT.out.mu)
  exact aB.ahead HB1.out (aB.then HF.out.1 HF.out.2 (aB.ahead h5 hg1))
 have HFIN:=hid hfin
 clear hfin
 cases hq:k.is with
 |true=>
  rw[hq] at q1
  go_upto_region 10 with fail
  have hkv:(Value.agg #[.string (bs r'.asks),.bool true,.string (bs k.data)])=knV k:=by unfold knV;rw[hq,hka]
  have HKV:=hid hkv
  clear hkv hq
  refine ar 9 (by kernel_rfl) (by kernel_rfl) ?_
  simp only[List.take_succ_cons,List.take_zero,List.drop_succ_cons,List.drop_zero]
  repeat(refine WQ.step (fun K hK=>?_);go_simp;first|(refine hK _ ?_;clear hK K)|(apply Exists.intro;refine⟨fun W hW=>?_,hK _ ?_⟩;(first|with_reducible rfl|(have y0:=Below.keeps hW q0;have y1:=Below.keeps hW q1;have y2:=Below.keeps hW q2;have y3:=Below.keeps hW q3;have y4:=Below.keeps hW q4;go_simp;first|rfl|exact⟨rfl,rfl⟩|(simp;done)));clear hK K))
  refine WQ.nil ?_
  intro wt hwt
  have HB:=hid (Below.chain HQ.out hwt)
  have HRt:=hid (HR.out.below HB.out)
  obtain⟨W7,hup,ht7,hn7⟩:=zap HRt.out.kn k (fun x hx=>by
   have:=List.find?_eq_none.1 HN.out x hx
   simpa using this)
  rw[hka,←HKV.out] at hup
  have hat7:=(ht7.foot.block g (lx (hid HRt.out.at_)) (fun e=>by have h1:=HRt.out.kn;rw[←e,HRt.out.at_] at h1;cases h1)).trans HRt.out.at_
  obtain⟨-, -, -, -,p4,p5, -⟩:=ay hat7
  have f4:W7.frozen? ⟨g,4,none⟩=false:=Lib.frozen_of_heap hat7 4
  have f5:W7.frozen? ⟨g,5,none⟩=false:=Lib.frozen_of_heap hat7 5
  rw[hw] at p5
  have HH:=hid (And.intro ht7 (And.intro hn7 hat7))
  clear ht7 hn7 hat7 hwt q0 q1 q2 q3 q4 q5
  go_wp2_with fail
  go_ret
  obtain⟨ht7,hn7,hat7⟩:=HH.out
  obtain⟨n1,t1⟩:=aq hat7 4 (.string ⟨#[]⟩)
  obtain⟨n2,t2⟩:=aq n1 5 (.bool false)
  refine⟨rfl,HT.out,HFIN.out _ _ HRt.out (((ht7.foot.mono fun _ _ e=>.inr e).chain ((t1.trans t2).foot.mono fun _ _ e=>.inl e))) (n2.trans rfl) ?_ HB.out⟩
  exact((t1.trans t2).foot.block km (lx (hid hn7)) (fun e=>by rw[e,hat7] at hn7;cases hn7)).trans hn7
 |false=>
  rw[hq] at q1
  go_upto_region 10 with fail
  have hkv:(Value.agg #[.string (bs r'.asks),.bool false,.string (bs k.data)])=knV k:=by unfold knV;rw[hq,hka]
  have HKV:=hid hkv
  clear hkv hq
  refine ar 9 (by kernel_rfl) (by kernel_rfl) ?_
  simp only[List.take_succ_cons,List.take_zero,List.drop_succ_cons,List.drop_zero]
  repeat(refine WQ.step (fun K hK=>?_);go_simp;first|(refine hK _ ?_;clear hK K)|(apply Exists.intro;refine⟨fun W hW=>?_,hK _ ?_⟩;(first|with_reducible rfl|(have y0:=Below.keeps hW q0;have y1:=Below.keeps hW q1;have y2:=Below.keeps hW q2;have y3:=Below.keeps hW q3;have y4:=Below.keeps hW q4;go_simp;first|rfl|exact⟨rfl,rfl⟩|(simp;done)));clear hK K))
  refine WQ.nil ?_
  intro wt hwt
  have HB:=hid (Below.chain HQ.out hwt)
  have HRt:=hid (HR.out.below HB.out)
  obtain⟨W7,hup,ht7,hn7⟩:=zap HRt.out.kn k (fun x hx=>by
   have:=List.find?_eq_none.1 HN.out x hx
   simpa using this)
  rw[hka,←HKV.out] at hup
  have hat7:=(ht7.foot.block g (lx (hid HRt.out.at_)) (fun e=>by have h1:=HRt.out.kn;rw[←e,HRt.out.at_] at h1;cases h1)).trans HRt.out.at_
  obtain⟨-, -, -, -,p4,p5, -⟩:=ay hat7
  have f4:W7.frozen? ⟨g,4,none⟩=false:=Lib.frozen_of_heap hat7 4
  have f5:W7.frozen? ⟨g,5,none⟩=false:=Lib.frozen_of_heap hat7 5
  rw[hw] at p5
  have HH:=hid (And.intro ht7 (And.intro hn7 hat7))
  clear ht7 hn7 hat7 hwt q0 q1 q2 q3 q4 q5
  go_wp2_with fail
  go_ret
  obtain⟨ht7,hn7,hat7⟩:=HH.out
  obtain⟨n1,t1⟩:=aq hat7 4 (.string ⟨#[]⟩)
  obtain⟨n2,t2⟩:=aq n1 5 (.bool false)
  refine⟨rfl,HT.out,HFIN.out _ _ HRt.out (((ht7.foot.mono fun _ _ e=>.inr e).chain ((t1.trans t2).foot.mono fun _ _ e=>.inl e))) (n2.trans rfl) ?_ HB.out⟩
  exact((t1.trans t2).foot.block km (lx (hid hn7)) (fun e=>by rw[e,hat7] at hn7;cases hn7)).trans hn7
end
end Go.Proofs.YtlbipokkdiiaiaaGreatDoor
