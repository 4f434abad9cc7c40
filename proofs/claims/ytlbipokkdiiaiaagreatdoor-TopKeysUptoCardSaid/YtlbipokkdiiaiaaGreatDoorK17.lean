/- Lemmas for TopKeysUpto: F44, F60, F61, F62, F63, F41, F42, F43. -/
import Derived.Test.YtlbipokkdiiaiaaGreatDoorK06
import Derived.Lib.TrimByte
import Derived.Test.YtlbipokkdiiaiaaGreatDoorK16
import Derived.Test.YtlbipokkdiiaiaaGreatDoorK08
import Derived.Test.YtlbipokkdiiaiaaGreatDoorK11
namespace Go.Proofs.YtlbipokkdiiaiaaGreatDoor
open Go.RowKit
def ft:Txt:=[42,42]
def jv (c:UInt8):Bool:=dY [97,c,97]&&c !=47
def tz (s:Txt):Bool:=match s with
 |[]=>true
 |c::r=>(jv c||c==63||c==42)&&!(Lib.hasPrefix (c::r) ft)
def lD:Txt→Bool
 |[]=>true
 |c::s=>tz (c::s)&&lD s
def eI (s:Txt):Bool:=if s=ft then true else lD s&&(decide (1≤s.length)&&decide (s.length≤64)&&s !=[46]&&s !=[46,46])
def cX (s:Txt):List Txt:=(Lib.splitB (bs [47]) 0 (Lib.countB (bs s) (bs [47])) (bs s)).map fun x=>x.data.toList
def lu (p:Txt):Bool:=decide ((cX p).length≤16)&&(cX p).all eI
theorem tL (s:Txt):lD s=true↔∀k,k<s.length→tz (s.drop k)=true:=by
 induction s with
 |nil=>simp[lD]
 |cons c s ih=>
  simp only[lD,Bool.and_eq_true,ih]
  constructor
  ·intro h k hk
   cases k with
   |zero=>exact h.1
   |succ k=>simpa using h.2 k (by simpa using hk)
  ·intro h
   exact⟨h 0 (by simp),fun k hk=>by simpa using h (k+1) (by simpa using hk)⟩
theorem qY (s:Txt):(cX s).length=Lib.countB (bs s) (bs [47])+1:=by
 unfold cX
 rw[List.length_map]
 exact Lib.splitB_all (bs [47]) (by rw[aV];exact Nat.le_refl _) 0 (Lib.countB (bs s) (bs [47])) (bs s) rfl
theorem jh (s:Txt):(cX s).length≤s.length+1:=by
 rw[qY s]
 have h1:=Lib.countB_le (bs [47]) (by rw[aV];exact Nat.le_refl _) (bs s).size (bs s) (Nat.le_refl _)
 rw[aV] at h1
 omega
structure rG where
 i:Nat
 k:Nat
 star:Option Nat
 from_:Nat
 deriving DecidableEq
def jY (p s:Txt) (x:rG):Option rG:=
 if x.k<s.length then
  if x.i<p.length∧p[x.i]?=some 42 then some ⟨x.i+1,x.k,some x.i,x.k⟩
  else if x.i<p.length∧(p[x.i]?=some 63∨p[x.i]?=s[x.k]?) then some ⟨x.i+1,x.k+1,x.star,x.from_⟩
  else match x.star with
   |some j=>some ⟨j+1,x.from_+1,x.star,x.from_+1⟩
   |none=>none
 else none
def nS:Option Nat→Nat
 |none=>0
 |some j=>j+1
def ma (p s:Txt) (x:rG):Nat:=(p.length+1-nS x.star)*((s.length+2)*(p.length+2))+(s.length+1-x.from_)*(p.length+2)+(p.length+1-x.i)
structure zes (p s:Txt) (x:rG):Prop where
 i:x.i≤p.length
 k:x.k≤s.length
 at_:x.from_≤x.k
 st:nS x.star≤x.i
theorem ja (p s:Txt) (x y:rG) (hi:zes p s x) (h:jY p s x=some y):zes p s y∧ma p s y<ma p s x:=by
 obtain⟨h1,h2,h3,h4⟩:=hi
 unfold jY at h
 split at h
 ·rename_i hk
  split at h
  ·rename_i hc
   simp only[Option.some.injEq] at h
   subst h
   refine⟨⟨hc.1,h2,Nat.le_refl _,Nat.le_refl _⟩,?_⟩
   show(p.length+1-(x.i+1))*((s.length+2)*(p.length+2))+(s.length+1-x.k)*(p.length+2)+(p.length+1-(x.i+1))<ma p s x
   unfold ma
   have e1:(p.length+1-(x.i+1))+1≤p.length+1-nS x.star:=by omega
   have e2:=Nat.mul_le_mul_right ((s.length+2)*(p.length+2)) e1
   generalize hK:(s.length+2)*(p.length+2)=K at *
   rw[Nat.add_mul,Nat.one_mul] at e2
   have e3:(s.length+1-x.k)*(p.length+2)+(p.length+1-(x.i+1))<K:=by
    rw[←hK]
    have e4:(s.length+1-x.k)*(p.length+2)≤(s.length+1)*(p.length+2):=Nat.mul_le_mul_right _ (by omega)
    have e5:(s.length+2)*(p.length+2)=(s.length+1)*(p.length+2)+(p.length+2):=by rw[←Nat.succ_mul]
    omega
   generalize (p.length+1-(x.i+1))*K=K1 at *
   generalize (p.length+1-nS x.star)*K=K2 at *
   generalize (s.length+1-x.from_)*(p.length+2)=K3 at *
   generalize (s.length+1-x.k)*(p.length+2)=K4 at *
   omega
  ·split at h
   ·rename_i hc
    simp only[Option.some.injEq] at h
    subst h
    refine⟨⟨hc.1,hk,Nat.le_succ_of_le h3,Nat.le_succ_of_le h4⟩,?_⟩
    unfold ma
    simp only
    have:=hc.1
    omega
   ·cases hs:x.star with
    |none=>rw[hs] at h;cases h
    |some j=>
     rw[hs] at h h4
     simp only[Option.some.injEq] at h
     subst h
     simp only[nS] at h4
     refine⟨⟨by simp only;omega,by simp only;omega,Nat.le_refl _,Nat.le_refl _⟩,?_⟩
     unfold ma
     simp only[hs]
     have e1:(s.length+1-(x.from_+1))+1≤s.length+1-x.from_:=by omega
     have e2:=Nat.mul_le_mul_right (p.length+2) e1
     rw[Nat.add_mul,Nat.one_mul] at e2
     omega
 ·cases h
def xU:rG:=⟨0,0,none,0⟩
noncomputable def sv (p s:Txt):Bool:=if(pi (jY p s) xU).k<s.length then false else decide (Lib.trimB (p.drop (pi (jY p s) xU).i) 42=[])
def ly (f:List Txt→Bool):List Txt→Bool
 |[]=>f []
 |x::m=>f (x::m)||ly f m
noncomputable def oE (p:Txt) (ps:List Txt) (f:List Txt→Bool) (n:List Txt):Bool:=
 if p≠ft then(match n with|[]=>false|x::m=>sv p x&&f m) else if ps=[] then !n.isEmpty else ly f n
noncomputable def bN:List Txt→List Txt→Bool
 |[]=>fun n=>n.isEmpty
 |p::ps=>oE p ps (bN ps)
theorem zao (n:List Txt):bN [] n=n.isEmpty:=rfl
theorem qP (p:Txt) (ps n:List Txt) (h:p≠ft):bN (p::ps) n=(match n with|[]=>false|x::m=>sv p x&&bN ps m):=by
 show oE p ps (bN ps) n=_
 unfold oE
 rw[if_pos h]
theorem xK (n:List Txt):bN [ft] n=!n.isEmpty:=by
 show oE ft [] (bN []) n=_
 unfold oE
 rw[if_neg (by simp),if_pos rfl]
theorem xV (ps n:List Txt) (h:ps≠[]):bN (ft::ps) n=(bN ps n||(match n with|[]=>false|_::m=>bN (ft::ps) m)):=by
 have e:∀n,bN (ft::ps) n=ly (bN ps) n:=fun n=>by
  show oE ft ps (bN ps) n=_
  unfold oE
  rw[if_neg (by simp),if_neg h]
 rw[e]
 cases n with
 |nil=>simp[ly]
 |cons x m=>simp only[ly,e]
noncomputable def dJ (p s:Txt):Bool:=lu p&&dY s&&bN (cX p) (cX s)
open Exec Go.Shelf
attribute [local go_sem] Oper.semAt_some
set_option maxRecDepth 100000
theorem sS (s:Txt) (n:Nat):(Lib.splitB (bs [47]) 0 n (bs s)).map Value.string=ag ((Lib.splitB (bs [47]) 0 n (bs s)).map fun x=>x.data.toList):=by
 unfold ag
 rw[List.map_map]
 exact List.map_congr_left fun x _=>congrArg Value.string (kI x).symm
theorem lG (s:Txt) (w:World) (hs:s.length≤2000000) (hm:bE w):
 Calls Tryz.prog 179 #[.string (bs s),.string ⟨#[47]⟩] w fun e w'=>∃v,e=.returned v∧w'.ownsRow w.heap.size 9 1 v (cX s).length (ag (cX s))∧Below w.heap.size w w':=by
 obtain⟨m,hm⟩:=hm
 have h1:=Tryz.strings_Split (bs s) (bs [47]) m w (by rw[aV];omega) hm (by rw[aV];exact Nat.le_refl _)
 rw[sS,←qY] at h1
 have hll:=jh s
 refine h1.mono ?_
 rintro e w' ⟨rfl,rfl⟩
 have e1:((Lib.splitB (bs [47]) 0 (Lib.countB (bs s) (bs [47])) (bs s)).map fun x=>x.data.toList)=cX s:=rfl
 rw[e1]
 exact⟨_,rfl,⟨by simp[ag],.inr ⟨w.heap.size,_,_,rfl,Nat.le_refl _,heap_alloc_new w _,Nat.le_refl _,by unfold maxLen;omega,by simp[ag],by rw[Nat.mul_one];exact List.take_of_length_le (by simp[ag])⟩⟩,ab _ _⟩
theorem vq (c:UInt8) (w:World):Calls Tryz.prog 222 #[.int .u8 (c.toNat:Int)] w fun e w'=>e=.returned (.bool (jv c))∧Below w.heap.size w w':=by
 obtain⟨q,hq⟩:∃q,dY [97,c,97]=q:=⟨_,rfl⟩
 have HM:=hid (fun(W:World)=>i6 [97,c,97] (by simp) q hq W)
 have hg:jv c=(q&&c !=47):=by unfold jv;rw[hq]
 rw[hg]
 have hb1:=ab w (.cells #[.int .u8 (c.toNat:Int)] 5)
 have hn1:=heap_alloc_new w (.cells #[.int .u8 (c.toNat:Int)] 5)
 have hcv:(convert 49 9 (.slice (some ⟨w.heap.size,0,none⟩) 1 1)).run Tryz.prog (w.alloc (.cells #[.int .u8 (c.toNat:Int)] 5))=.ok (.string (bs [c])) (w.alloc (.cells #[.int .u8 (c.toNat:Int)] 5)):=nI (W:=w.alloc (.cells #[.int .u8 (c.toNat:Int)] 5)) (b:=w.heap.size) (off:=0) (cap:=1) (l:=[c]) (af (cs:=Lib.byteCells [c]) hn1)
 have HB:=hid hb1
 clear hg hq hb1 hn1
 by_cases hc:c=47
 ·have E:((c.toNat:Int) !=47)=false:=by rw[hc];rfl
  have E2:(c !=47)=false:=by rw[hc];rfl
  rw[E2]
  clear hc
  cases q with
  |true=>
   go_enter Tryz.func222,Tryz.ntmps222
   go_wp2_with (go_at_call 51;refine(HM.out _).mono ?_;rintro e W2 ⟨rfl,hb2⟩)
   go_ret
   exact⟨rfl,Below.chain HB.out hb2⟩
  |false=>
   go_enter Tryz.func222,Tryz.ntmps222
   go_wp2_with (go_at_call 51;refine(HM.out _).mono ?_;rintro e W2 ⟨rfl,hb2⟩)
   go_ret
   exact⟨rfl,Below.chain HB.out hb2⟩
 ·have E:((c.toNat:Int) !=47)=true:=neT (fun e=>hc (UInt8.toNat_inj.1 (by have h:(47:UInt8).toNat=47:=rfl;omega)))
  have E2:(c !=47)=true:=by simpa using hc
  rw[E2]
  clear hc
  cases q with
  |true=>
   go_enter Tryz.func222,Tryz.ntmps222
   go_wp2_with (go_at_call 51;refine(HM.out _).mono ?_;rintro e W2 ⟨rfl,hb2⟩)
   go_ret
   exact⟨rfl,Below.chain HB.out hb2⟩
  |false=>
   go_enter Tryz.func222,Tryz.ntmps222
   go_wp2_with (go_at_call 51;refine(HM.out _).mono ?_;rintro e W2 ⟨rfl,hb2⟩)
   go_ret
   exact⟨rfl,Below.chain HB.out hb2⟩
theorem zdV (s:Txt) (k:Nat) (hk:k<s.length):tz (s.drop k)=((jv s[k]||s[k]==63||s[k]==42)&&!(Lib.hasPrefix (s.drop k) ft)):=by
 rw[jj s k hk]
 rfl
set_option maxHeartbeats 8000000 in
theorem zg (s:Txt) (w:World) (hs:s.length≤2000000):Calls Tryz.prog 181 #[.string (bs s)] w fun e w'=>e=.returned (.bool (eI s))∧Below w.heap.size w w':=by
 by_cases h0:s=ft
 ·subst h0
  unfold ft
  go_enter Tryz.func181,Tryz.ntmps181
  go_wp2
  go_ret
  exact⟨rfl,Below.refl _ _⟩
 ·have e0:(s==[42,42])=false:=by simpa[ft] using h0
  have hg:eI s=(lD s&&(decide (1≤s.length)&&decide (s.length≤64)&&s !=[46]&&s !=[46,46])):=by unfold eI;rw[if_neg h0]
  have HG:=hid hg
  have HP:=hid (fun c w=>vq c w)
  clear hg h0
  go_enter Tryz.func181,Tryz.ntmps181
  go_wp2_with fail
  go_loopw [8] (fun i wr=>∃k:Nat,k≤s.length∧i=.int .i64 k∧(∀j,j<k→tz (s.drop j)=true)∧Below w.heap.size w wr) (fun i _=>s.length-(intOf i).toNat)
  case atStart=>exact⟨0,Nat.zero_le _,rfl,fun j h=>absurd h (Nat.not_lt_zero _),Below.refl _ _⟩
  case round=>
   obtain⟨k,hk,rfl,hall,hbw⟩:=hrel
   have HA:=hid hall
   have HB:=hid hbw
   clear hall hbw
   by_cases aH:k<s.length
   ·have hgk:=zdV s k aH
    obtain⟨bp,hbp⟩:∃bp,Lib.hasPrefix (s.drop k) ft=bp:=⟨_,rfl⟩
    obtain⟨q,hq⟩:∃q,jv s[k]=q:=⟨_,rfl⟩
    have HPk:=hid (fun W=>HP.out s[k] W)
    rw[hq] at HPk
    rw[hq,hbp] at hgk
    have htk:(s.drop k).take (s.length-k)=s.drop k:=List.take_of_length_le (by rw[List.length_drop];exact Nat.le_refl _)
    have HGK:=hid hgk
    have hbad:tz (s.drop k)=false→eI s=false:=fun h=>by
     rw[HG.out]
     have:lD s=false:=by
      cases hx:lD s with
      |false=>rfl
      |true=>rw[(tL s).1 hx k aH] at h;cases h
     rw[this];rfl
    have HBAD:=hid hbad
    clear hgk hbad hq
    have HH:=hid (fun W=>show Calls Tryz.prog 131 #[.string (bs (s.drop k)),.string ⟨#[42,42]⟩] W fun e W'=>e=.returned (.bool bp)∧W'=W from by
     have h:=Tryz.strings_HasPrefix (bs (s.drop k)) (bs [42,42]) W
     rw[←hbp]
     exact h)
    clear hbp
    cases q with
    |true=>
     cases bp with
     |true=>
      have HV:=hid (HBAD.out (by rw[HGK.out];simp))
      go_wp2_with first|(go_at_call 222;refine(HPk.out _).mono ?_;rintro e W2 ⟨rfl,hb2⟩)|(go_at_call 131;refine(HH.out _).mono ?_;rintro e W3 ⟨rfl,rfl⟩)
      go_ret
      exact⟨by rw[HV.out];rfl,Below.chain HB.out hb2⟩
     |false=>
      have HV:=hid (show tz (s.drop k)=true by rw[HGK.out];simp)
      go_wp2_with first|(go_at_call 222;refine(HPk.out _).mono ?_;rintro e W2 ⟨rfl,hb2⟩)|(go_at_call 131;refine(HH.out _).mono ?_;rintro e W3 ⟨rfl,rfl⟩)
      exact⟨⟨k+1,by omega,by go_num,fun j hj=>by
       by_cases e:j=k
       ·subst e;exact HV.out
       ·exact HA.out j (by omega),Below.chain HB.out hb2⟩,by simp[intOf];omega⟩
    |false=>
     by_cases h63:s[k]=63
     ·have E1:((s[k].toNat:Int) !=63)=false:=neF (by rw[h63];rfl)
      have E1':(s[k]==63)=true:=by rw[h63];rfl
      rw[E1'] at HGK
      clear h63
      cases bp with
      |true=>
       have HV:=hid (HBAD.out (by rw[HGK.out];simp))
       go_wp2_with first|(go_at_call 222;refine(HPk.out _).mono ?_;rintro e W2 ⟨rfl,hb2⟩)|(go_at_call 131;refine(HH.out _).mono ?_;rintro e W3 ⟨rfl,rfl⟩)
       go_ret
       exact⟨by rw[HV.out];rfl,Below.chain HB.out hb2⟩
      |false=>
       have HV:=hid (show tz (s.drop k)=true by rw[HGK.out];simp)
       go_wp2_with first|(go_at_call 222;refine(HPk.out _).mono ?_;rintro e W2 ⟨rfl,hb2⟩)|(go_at_call 131;refine(HH.out _).mono ?_;rintro e W3 ⟨rfl,rfl⟩)
       exact⟨⟨k+1,by omega,by go_num,fun j hj=>by
        by_cases e:j=k
        ·subst e;exact HV.out
        ·exact HA.out j (by omega),Below.chain HB.out hb2⟩,by simp[intOf];omega⟩
     ·have E1:((s[k].toNat:Int) !=63)=true:=neT (fun e=>h63 (UInt8.toNat_inj.1 (by have h:(63:UInt8).toNat=63:=rfl;omega)))
      have E1':(s[k]==63)=false:=by simpa using h63
      rw[E1'] at HGK
      clear h63
      by_cases h42:s[k]=42
      ·have E2:((s[k].toNat:Int) !=42)=false:=neF (by rw[h42];rfl)
       have E2':(s[k]==42)=true:=by rw[h42];rfl
       rw[E2'] at HGK
       clear h42
       cases bp with
       |true=>
        have HV:=hid (HBAD.out (by rw[HGK.out];simp))
        go_wp2_with first|(go_at_call 222;refine(HPk.out _).mono ?_;rintro e W2 ⟨rfl,hb2⟩)|(go_at_call 131;refine(HH.out _).mono ?_;rintro e W3 ⟨rfl,rfl⟩)
        go_ret
        exact⟨by rw[HV.out];rfl,Below.chain HB.out hb2⟩
       |false=>
        have HV:=hid (show tz (s.drop k)=true by rw[HGK.out];simp)
        go_wp2_with first|(go_at_call 222;refine(HPk.out _).mono ?_;rintro e W2 ⟨rfl,hb2⟩)|(go_at_call 131;refine(HH.out _).mono ?_;rintro e W3 ⟨rfl,rfl⟩)
        exact⟨⟨k+1,by omega,by go_num,fun j hj=>by
         by_cases e:j=k
         ·subst e;exact HV.out
         ·exact HA.out j (by omega),Below.chain HB.out hb2⟩,by simp[intOf];omega⟩
      ·have E2:((s[k].toNat:Int) !=42)=true:=neT (fun e=>h42 (UInt8.toNat_inj.1 (by have h:(42:UInt8).toNat=42:=rfl;omega)))
       have E2':(s[k]==42)=false:=by simpa using h42
       rw[E2'] at HGK
       clear h42
       have HV:=hid (HBAD.out (by rw[HGK.out];simp))
       go_wp2_with first|(go_at_call 222;refine(HPk.out _).mono ?_;rintro e W2 ⟨rfl,hb2⟩)
       go_ret
       exact⟨by rw[HV.out];rfl,Below.chain HB.out hb2⟩
   ·obtain rfl:k=s.length:=by omega
    have hga:lD s=true:=(tL s).2 HA.out
    have HV:=hid (show eI s=(decide (1≤s.length)&&decide (s.length≤64)&&s !=[46]&&s !=[46,46]) by rw[HG.out,hga];rfl)
    clear hga HG HA
    by_cases h1:1≤s.length
    ·by_cases h2:s.length≤64
     ·by_cases h3:s=[46]
      ·subst h3
       clear HV
       go_wp2_with fail
       go_ret
       exact⟨rfl,HB.out⟩
      ·by_cases h4:s=[46,46]
       ·subst h4
        clear HV
        go_wp2_with fail
        go_ret
        exact⟨rfl,HB.out⟩
       ·have E3:(s==[46])=false:=by simpa using h3
        have E4:(s==[46,46])=false:=by simpa using h4
        have HW:=hid (show eI s=true by rw[HV.out,bne,bne,E3,E4,decide_eq_true h1,decide_eq_true h2];rfl)
        clear h3 h4 HV
        go_wp2_with fail
        go_ret
        exact⟨by rw[HW.out];first|rfl|simp[E3,E4],HB.out⟩
     ·have HW:=hid (show eI s=false by rw[HV.out,decide_eq_false h2];simp)
      clear HV
      go_wp2_with fail
      go_ret
      exact⟨by rw[HW.out];rfl,HB.out⟩
    ·have HW:=hid (show eI s=false by rw[HV.out,decide_eq_false h1];rfl)
     clear HV
     go_wp2_with fail
     go_ret
     exact⟨by rw[HW.out];rfl,HB.out⟩
theorem zG (s:Txt) (w:World) (hs:s.length≤2000000):Calls Tryz.prog 180 #[.string (bs s)] w fun e w'=>e=.returned (.bool (!eI s))∧Below w.heap.size w w':=by
 have HP:=hid (zg s w hs)
 generalize eI s=q at *
 go_enter Tryz.func180,Tryz.ntmps180
 go_wp2_with (go_at_call 181;refine HP.out.mono ?_;rintro e W2 ⟨rfl,hb2⟩)
 go_ret
 exact⟨rfl,hb2⟩
theorem iJ (s:Txt):∀x∈cX s,x.length≤s.length:=by
 intro x hx
 unfold cX at hx
 obtain⟨y,hy,rfl⟩:=List.mem_map.1 hx
 have:=gY (bs [47]) _ _ y hy
 rw[aV] at this
 exact this
theorem zcf (l:List Txt) (P:Txt→Bool):(l.any fun s=>!P s)=!(l.all P):=by
 induction l with
 |nil=>rfl
 |cons x l ih=>rw[List.any_cons,List.all_cons,ih,Bool.not_and]
theorem ur (p:Txt) (w:World) (hs:p.length≤1500000) (hm:bE w):Calls Tryz.prog 140 #[.string (bs p)] w fun e w'=>e=.returned (.bool (lu p))∧Below w.heap.size w w':=by
 have HS:=hid (lG p w (by omega) hm)
 have hll:=jh p
 have HG:=hid (show lu p=(decide ((cX p).length≤16)&&(cX p).all eI) from rfl)
 have HSH:=hid (iJ p)
 clear hm
 generalize cX p=ls at *
 generalize lu p=q at *
 have HF:=hid (fun(W:World) (v:Value) (h:aO W v ls)=>gL v ls 180 #[] (enters_of Tryz.func180 (by kernel_rfl) rfl) (fun s=>!eI s) W h (by omega) fun W' _ s hs'=>zG s W' (by have:=HSH.out s hs';omega))
 go_enter Tryz.func140,Tryz.ntmps140
 go_upto_region 2 with(go_at_call 179;refine HS.out.mono ?_;rintro e W1 ⟨v,rfl,ho,hb1⟩)
 have ht:aO W1 v ls:=ap.of_owns ho (by unfold maxLen;omega)
 have hA:=HF.out _ _ ht
 obtain⟨a,c,rfl⟩:=ax ho
 rw[zcf] at hA
 have HA:=hid hA
 clear hA HF ho ht HS
 by_cases h1:ls.length≤16
 ·cases hq:ls.all eI with
  |true=>
   rw[hq] at HA
   have HQ:=hid (show q=true by rw[HG.out,hq,decide_eq_true h1];rfl)
   clear hq HG
   go_wp2_with (go_at_call 141;refine HA.out.mono ?_;rintro e W2 ⟨rfl,hb2⟩)
   go_ret
   exact⟨by rw[HQ.out];rfl,Below.chain hb1 hb2⟩
  |false=>
   rw[hq] at HA
   have HQ:=hid (show q=false by rw[HG.out,hq];simp)
   clear hq HG
   go_wp2_with (go_at_call 141;refine HA.out.mono ?_;rintro e W2 ⟨rfl,hb2⟩)
   go_ret
   exact⟨by rw[HQ.out];rfl,Below.chain hb1 hb2⟩
 ·have HQ:=hid (show q=false by rw[HG.out,decide_eq_false h1];rfl)
  clear HG
  go_wp2_with fail
  go_ret
  exact⟨by rw[HQ.out];rfl,hb1⟩
def tx:Option Nat→Int
 |none=> -1
 |some j=>(j:Int)
theorem zeI (p s:Txt) (i k f:Nat) (st:Option Nat) (hk:k<s.length) (hi:i<p.length) (h:p[i]=42):jY p s ⟨i,k,st,f⟩=some ⟨i+1,k,some i,k⟩:=by
 unfold jY
 rw[if_pos hk,if_pos ⟨hi,by simp only;rw[List.getElem?_eq_getElem hi,h]⟩]
theorem zdJ (p s:Txt) (i k f:Nat) (st:Option Nat) (hk:k<s.length) (hi:i<p.length) (h0:p[i]≠42) (h:p[i]=63∨p[i]=s[k]):jY p s ⟨i,k,st,f⟩=some ⟨i+1,k+1,st,f⟩:=by
 unfold jY
 rw[if_pos hk,if_neg (fun e=>h0 (by have:=e.2;simp only at this;rw[List.getElem?_eq_getElem hi] at this;exact Option.some.inj this)),if_pos ⟨hi,by
  simp only
  rw[List.getElem?_eq_getElem hi,List.getElem?_eq_getElem hk]
  rcases h with h|h
  ·exact .inl (by rw[h])
  ·exact .inr (by rw[h])⟩]
theorem zdz (p s:Txt) (i k f:Nat) (st:Option Nat) (hk:k<s.length) (h:∀hi:i<p.length,p[i]≠42∧p[i]≠63∧p[i]≠s[k]):jY p s ⟨i,k,st,f⟩=st.map fun j=>⟨j+1,f+1,st,f+1⟩:=by
 unfold jY
 rw[if_pos hk,if_neg (fun e=>(h e.1).1 (by have:=e.2;simp only at this;rw[List.getElem?_eq_getElem e.1] at this;exact Option.some.inj this)),if_neg (fun e=>by
  obtain⟨e1,e2⟩:=e
  simp only at e1 e2
  rw[List.getElem?_eq_getElem e1,List.getElem?_eq_getElem hk] at e2
  rcases e2 with e2|e2
  ·exact(h e1).2.1 (Option.some.inj e2)
  ·exact(h e1).2.2 (Option.some.inj e2))]
 cases st<;>rfl
theorem zc3 (p s:Txt) (x:rG) (hk:¬x.k<s.length):jY p s x=none:=by unfold jY;rw[if_neg hk]
theorem sc {p s:Txt} {x:rG} (h:bY (jY p s) xU x) (h0:jY p s x=none):sv p s=if x.k<s.length then false else decide (Lib.trimB (p.drop x.i) 42=[]):=by
 unfold sv
 rw[fw h h0]
theorem u8T {c d:UInt8} (h:c=d):((c.toNat:Int)==(d.toNat:Int))=true:=eqT (by rw[h])
theorem u8F {c d:UInt8} (h:c≠d):((c.toNat:Int)==(d.toNat:Int))=false:=eqF (fun e=>h (UInt8.toNat_inj.1 (by omega)))
set_option maxHeartbeats 8000000 in
theorem zdm (p s:Txt) (w:World) (hp:p.length≤2000000) (hs:s.length≤2000000):Calls Tryz.prog 251 #[.string (bs p),.string (bs s)] w fun e w'=>e=.returned (.bool (sv p s))∧Below w.heap.size w w':=by
 go_enter Tryz.func251,Tryz.ntmps251
 go_wp2_with fail
 go_loopg [5,6,7,8] (ma p s xU) (fun gk vi vk vs va wr=>∃x:rG,gk=ma p s x∧bY (jY p s) xU x∧zes p s x∧vi=.int .i64 (x.i:Int)∧vk=.int .i64 (x.k:Int)∧vs=.int .i64 (tx x.star)∧va=.int .i64 (x.from_:Int)∧Below w.heap.size w wr)
 case atStart=>exact⟨xU,rfl,.refl _,⟨Nat.zero_le _,Nat.zero_le _,Nat.le_refl _,Nat.le_refl _⟩,rfl,rfl,rfl,rfl,Below.refl _ _⟩
 case round=>
  obtain⟨⟨i,k,st,f⟩,rfl,hst,hI,rfl,rfl,rfl,rfl,hbw⟩:=hrel
  have HST:=hid hst
  have HI:=hid hI
  have HB:=hid hbw
  obtain⟨i1,i2,i3,i4⟩:=hI
  simp only at i1 i2 i3 i4
  clear hst hbw
  simp only
  by_cases hk:k<s.length
  ·by_cases hi:i<p.length
   ·by_cases h42:p[i]=42
    ·have E1:((p[i].toNat:Int)==42)=true:=eqT (by rw[h42];rfl)
     have hs1:=zeI p s i k f st hk hi h42
     have HS:=hid (And.intro hs1 (ja p s _ _ HI.out hs1))
     clear hs1 h42
     go_wp2_with fail
     go_roundg (ma p s ⟨i+1,k,some i,k⟩)
     case measure=>exact HS.out.2.2
     case rel=>exact⟨⟨i+1,k,some i,k⟩,rfl,HST.out.tail HS.out.1,HS.out.2.1,by go_num,by go_num,rfl,by go_num,HB.out⟩
    ·have E1:((p[i].toNat:Int)==42)=false:=eqF (fun e=>h42 (UInt8.toNat_inj.1 (by have h:(42:UInt8).toNat=42:=rfl;omega)))
     by_cases h63:p[i]=63
     ·have E2:((p[i].toNat:Int)==63)=true:=eqT (by rw[h63];rfl)
      have hs1:=zdJ p s i k f st hk hi h42 (.inl h63)
      have HS:=hid (And.intro hs1 (ja p s _ _ HI.out hs1))
      clear hs1 h42 h63
      go_upto_region 7 with fail
      refine aC (by kernel_rfl) (by kernel_rfl) ?_
      repeat(refine WQ.step (fun K hK=>?_);go_simp;first|(refine hK _ ?_;clear hK K)|(apply Exists.intro;refine⟨fun W hW=>?_,hK _ ?_⟩;(first|with_reducible rfl|(go_simp;first|rfl|exact⟨rfl,rfl⟩|(simp;done)));clear hK K))
      refine WQ.nil ?_
      intro wq hwq
      go_wp2_with fail
      go_roundg (ma p s ⟨i+1,k+1,st,f⟩)
      case measure=>exact HS.out.2.2
      case rel=>exact⟨⟨i+1,k+1,st,f⟩,rfl,HST.out.tail HS.out.1,HS.out.2.1,by go_num,by go_num,rfl,rfl,Below.chain HB.out hwq⟩
     ·have E2:((p[i].toNat:Int)==63)=false:=eqF (fun e=>h63 (UInt8.toNat_inj.1 (by have h:(63:UInt8).toNat=63:=rfl;omega)))
      by_cases hss:p[i]=s[k]
      ·have E3:((p[i].toNat:Int)==(s[k].toNat:Int))=true:=u8T hss
       have hs1:=zdJ p s i k f st hk hi h42 (.inr hss)
       have HS:=hid (And.intro hs1 (ja p s _ _ HI.out hs1))
       clear hs1 h42 h63 hss
       go_upto_region 7 with fail
       refine aC (by kernel_rfl) (by kernel_rfl) ?_
       repeat(refine WQ.step (fun K hK=>?_);go_simp;first|(refine hK _ ?_;clear hK K)|(apply Exists.intro;refine⟨fun W hW=>?_,hK _ ?_⟩;(first|with_reducible rfl|(go_simp;first|rfl|exact⟨rfl,rfl⟩|(simp;done)));clear hK K))
       refine WQ.nil ?_
       intro wq hwq
       go_wp2_with fail
       go_roundg (ma p s ⟨i+1,k+1,st,f⟩)
       case measure=>exact HS.out.2.2
       case rel=>exact⟨⟨i+1,k+1,st,f⟩,rfl,HST.out.tail HS.out.1,HS.out.2.1,by go_num,by go_num,rfl,rfl,Below.chain HB.out hwq⟩
      ·have E3:((p[i].toNat:Int)==(s[k].toNat:Int))=false:=u8F hss
       have hC:=zdz p s i k f st hk fun _=>⟨h42,h63,hss⟩
       clear h42 h63 hss
       cases st with
       |none=>
        have HV:=hid (show sv p s=false by rw[sc HST.out (hC.trans rfl),if_pos hk])
        unfold tx
        clear hC
        go_upto_region 7 with fail
        refine aC (by kernel_rfl) (by kernel_rfl) ?_
        repeat(refine WQ.step (fun K hK=>?_);go_simp;first|(refine hK _ ?_;clear hK K)|(apply Exists.intro;refine⟨fun W hW=>?_,hK _ ?_⟩;(first|with_reducible rfl|(go_simp;first|rfl|exact⟨rfl,rfl⟩|(simp;done)));clear hK K))
        refine WQ.nil ?_
        intro wq hwq
        go_wp2_with fail
        go_ret
        exact⟨by rw[HV.out];rfl,Below.chain HB.out hwq⟩
       |some j=>
        have HS:=hid (And.intro (hC.trans rfl) (ja p s _ ⟨j+1,f+1,some j,f+1⟩ HI.out (hC.trans rfl)))
        unfold tx
        clear hC
        simp only[nS] at i4
        go_upto_region 7 with fail
        refine aC (by kernel_rfl) (by kernel_rfl) ?_
        repeat(refine WQ.step (fun K hK=>?_);go_simp;first|(refine hK _ ?_;clear hK K)|(apply Exists.intro;refine⟨fun W hW=>?_,hK _ ?_⟩;(first|with_reducible rfl|(go_simp;first|rfl|exact⟨rfl,rfl⟩|(simp;done)));clear hK K))
        refine WQ.nil ?_
        intro wq hwq
        go_wp2_with fail
        go_roundg (ma p s ⟨j+1,f+1,some j,f+1⟩)
        case measure=>exact HS.out.2.2
        case rel=>exact⟨⟨j+1,f+1,some j,f+1⟩,rfl,HST.out.tail HS.out.1,HS.out.2.1,by go_num,by go_num,rfl,by go_num,Below.chain HB.out hwq⟩
   ·have hC:=zdz p s i k f st hk fun h=>absurd h hi
    cases st with
    |none=>
     have HV:=hid (show sv p s=false by rw[sc HST.out (hC.trans rfl),if_pos hk])
     unfold tx
     clear hC
     go_upto_region 7 with fail
     refine aC (by kernel_rfl) (by kernel_rfl) ?_
     repeat(refine WQ.step (fun K hK=>?_);go_simp;first|(refine hK _ ?_;clear hK K)|(apply Exists.intro;refine⟨fun W hW=>?_,hK _ ?_⟩;(first|with_reducible rfl|(go_simp;first|rfl|exact⟨rfl,rfl⟩|(simp;done)));clear hK K))
     refine WQ.nil ?_
     intro wq hwq
     go_wp2_with fail
     go_ret
     exact⟨by rw[HV.out];rfl,Below.chain HB.out hwq⟩
    |some j=>
     have HS:=hid (And.intro (hC.trans rfl) (ja p s _ ⟨j+1,f+1,some j,f+1⟩ HI.out (hC.trans rfl)))
     unfold tx
     clear hC
     simp only[nS] at i4
     go_upto_region 7 with fail
     refine aC (by kernel_rfl) (by kernel_rfl) ?_
     repeat(refine WQ.step (fun K hK=>?_);go_simp;first|(refine hK _ ?_;clear hK K)|(apply Exists.intro;refine⟨fun W hW=>?_,hK _ ?_⟩;(first|with_reducible rfl|(go_simp;first|rfl|exact⟨rfl,rfl⟩|(simp;done)));clear hK K))
     refine WQ.nil ?_
     intro wq hwq
     go_wp2_with fail
     go_roundg (ma p s ⟨j+1,f+1,some j,f+1⟩)
     case measure=>exact HS.out.2.2
     case rel=>exact⟨⟨j+1,f+1,some j,f+1⟩,rfl,HST.out.tail HS.out.1,HS.out.2.1,by go_num,by go_num,rfl,by go_num,Below.chain HB.out hwq⟩
  ·have HV:=hid (sc HST.out (zc3 p s _ hk))
   have HT:=hid (fun W=>Tryz.strings_Trim_one (bs (p.drop i)) 42 (by decide) W (by rw[aV,List.length_drop];omega))
   simp only at HV
   rw[if_neg hk] at HV
   have htk:(p.drop i).take (p.length-i)=p.drop i:=List.take_of_length_le (by rw[List.length_drop];exact Nat.le_refl _)
   go_wp2_with (go_at_call 302;refine(HT.out _).mono ?_;rintro e W2 ⟨rfl,hW2⟩)
   go_ret
   refine⟨?_,Below.chain HB.out ?_⟩
   ·rw[HV.out]
    show Ending.returned (.bool (Lib.trimB (p.drop i) 42).isEmpty)=_
    cases Lib.trimB (p.drop i) 42<;>simp
   ·rcases hW2 with rfl|rfl
    ·exact Below.refl _ _
    ·exact kU.below ⟨1,rfl⟩
end Go.Proofs.YtlbipokkdiiaiaaGreatDoor
namespace Go.Proofs.YtlbipokkdiiaiaaGreatDoor
open Go.RowKit
def cC:gm→Bool
 |.line _=>true
 |.told _ _=>false
structure bW (r:aw):Prop where
 fc:fh r
 cm:r.cmds.length≤400
 kl:r.known.length≤500
 tl:r.top.tail.all cC=true
 nu:nuL r≤1000+r.known.length*30000000
 pl:r.asks.length≤65536∧r.over.path.length≤65536
theorem bW.mu {r:aw} (h:bW r):muL r≤1000000000000:=by
 have h1:=h.nu
 have h2:=h.kl
 have h3:=eX r
 unfold muL
 omega
theorem zdZ {k:KnL} (h:k.data.length≤65536):lnK k≤65538:=by
 unfold lnK
 have:=bt k.data
 omega
theorem zdx (env:Txt→Option Txt) {r r':aw} (h:bO env r=some r'):nuL r'≤nuL r:=by
 have h1:=nD env r r' h
 have h2:=eX r
 unfold muL at h1
 omega
theorem zbB (l:List Txt) (t:List gm) (h:t.all cC=true):(l.map gm.line++t).all cC=true:=by
 rw[List.all_append,h,Bool.and_true]
 induction l with
 |nil=>rfl
 |cons x l ih=>simp[cC]
theorem cM {l:List gm} (h:l.all cC=true):l.tail.all cC=true:=by
 cases l with
 |nil=>rfl
 |cons t l=>simp only[List.all_cons,Bool.and_eq_true] at h;exact h.2
theorem ml (r:aw) (s:Txt):(cZ r s).top=r.top:=by unfold cZ;split<;>rfl
theorem xA (r:aw) (t:cR) (k:KnL) (h:r.top.all cC=true):(bn r t k).top.all cC=true:=by
 cases t with
 |read=>simp only[bn];split;rw[ml];exact h;exact h
 |try_=>simp only[bn];split;rw[ml];exact h;exact h
 |scan=>
  simp only[bn];split
  ·exact zbB _ _ h
  ·exact h
theorem uO (r:aw) (p:Txt) (t:cR) (h:r.top.all cC=true):(cy r p t).top.tail.all cC=true:=by
 unfold cy
 split
 ·exact cM (xA r t _ h)
 ·split
  ·exact cM h
  ·exact h
theorem zcO (env:Txt→Option Txt) {r r':aw} (ht:r.top.tail.all cC=true) (h:bO env r=some r'):r'.top.tail.all cC=true:=by
 unfold bO at h
 split at h
 ·cases h
 ·split at h
  ·rename_i s t e
   simp only[Option.some.injEq] at h
   subst h
   rw[e] at ht
   have ht':t.all cC=true:=ht
   unfold fS
   split
   ·split
    ·rw[ml];exact cM ht'
    ·split
     ·exact cM ht'
     ·exact uO {r with top:=t,seen:=_::r.seen} _ _ ht'
   ·rw[ml];exact cM ht'
  ·rename_i p k t e
   simp only[Option.some.injEq] at h
   subst h
   rw[e] at ht
   exact cM (xA {r with top:=t} k _ ht)
  ·rename_i e
   have ht':r.top.all cC=true:=by rw[e];rfl
   split at h
   ·rename_i c l hc
    simp only[Option.some.injEq] at h
    subst h
    exact nB (fun x=>x.top.tail.all cC=true) env {r with cmds:=l} _ _ _ _ _ (fun t _=>uO _ _ _ ht') (uO _ _ _ ht') (fun x=>by rw[ml];exact cM ht') (fun e=>cM ht') (cM ht') (cM ht') (fun x=>by unfold jx;rw[ml];exact cM ht') (fun x=>cM ht')
   ·simp only[Option.some.injEq] at h
    subst h
    exact cM ht'
def fx (r:aw):Prop:=r.asks.length≤65536∧r.over.path.length≤65536
theorem lI {r:aw} (h:fx r) (s:Txt):fx (cZ r s):=by unfold cZ;split;exact⟨h.1,Nat.zero_le _⟩;exact h
theorem wK {r:aw} (h:fx r) (t:cR) (k:KnL):fx (bn r t k):=by
 cases t with
 |read=>simp only[bn];split;exact lI h _;exact⟨h.1,Nat.zero_le _⟩
 |try_=>simp only[bn];split;exact lI h _;exact h
 |scan=>simp only[bn];split;exact h;exact⟨h.1,Nat.zero_le _⟩
theorem wg {r:aw} (h:fx r) (p:Txt) (t:cR) (hp:p.length≤65536):fx (cy r p t):=by
 unfold cy
 split
 ·exact wK h t _
 ·split
  ·exact⟨h.1,Nat.zero_le _⟩
  ·exact⟨hp,h.2⟩
theorem vX {l:List Txt} (h:∀x∈l,x.length≤65536) (i:Nat):(l.getD i []).length≤65536:=by
 rw[List.getD_eq_getElem?_getD]
 cases hx:l[i]? with
 |none=>exact Nat.zero_le _
 |some s=>exact h s (List.mem_of_getElem? hx)
theorem zds (env:Txt→Option Txt) {r r':aw} (hf:fh r) (h:fx r) (hs:bO env r=some r'):fx r':=by
 unfold bO at hs
 split at hs
 ·cases hs
 ·split at hs
  ·rename_i s t e
   simp only[Option.some.injEq] at hs
   subst hs
   have hsl:=hf.ln s (by rw[e];exact List.mem_cons_self ..)
   unfold fS
   split
   ·rename_i a b hw
    have hb:b.length≤65536:=Nat.le_trans (fd s b (by rw[hw];simp)).2 hsl
    split
    ·exact lI (r:={r with top:=t}) h _
    ·split
     ·exact h
     ·exact wg (r:={r with top:=t,seen:=_::r.seen}) h _ _ hb
   ·exact lI (r:={r with top:=t}) h _
  ·rename_i p k t e
   simp only[Option.some.injEq] at hs
   subst hs
   exact wK (r:={r with top:=t}) h k _
  ·split at hs
   ·rename_i c l hc
    simp only[Option.some.injEq] at hs
    subst hs
    have hw:=vX (hf.cm c (by rw[hc];exact List.mem_cons_self ..)).wl
    exact nB fx env {r with cmds:=l} _ _ _ _ _ (fun t _=>wg (r:={r with cmds:=l}) h _ _ (hw 1)) (wg (r:={r with cmds:=l,word:=c.words.getD 2 [],seen:=[c.words.getD 1 []]}) h _ _ (hw 1)) (fun x=>lI (r:={r with cmds:=l}) h _) (fun e=>⟨h.1,Nat.zero_le _⟩) ⟨h.1,hw 1⟩ h (fun x=>by unfold jx;exact lI (r:={r with cmds:=l,buffer:=[]}) h _) (fun x=>h)
   ·simp only[Option.some.injEq] at hs
    subst hs
    exact⟨h.1,Nat.zero_le _⟩
theorem bW.step (env:Txt→Option Txt) {r r':aw} (h:bW r) (hs:bO env r=some r'):bW r':=by
 have h1:=wG env r r' hs
 exact⟨jk env h.fc hs,Nat.le_trans h1.cmds h.cm,by rw[h1.known];exact h.kl,zcO env h.tl hs,by rw[h1.known];exact Nat.le_trans (zdx env hs) h.nu,zds env h.fc h.pl hs⟩
theorem bW.steps (env:Txt→Option Txt) {r r':aw} (h:bW r) (hs:bY (bO env) r r'):bW r':=by
 induction hs with
 |refl a=>exact h
 |step h2 _ ih=>exact ih (h.step env h2)
theorem bW.settle (env:Txt→Option Txt) {r r':aw} (h:bW r) (h1:bY (bO env) r r') (h2:bO env r'=none):eU env r=r'∧bW r':=⟨fw h1 h2,h.steps env h1⟩
theorem bW.over {r:aw} (h:bW r) (o:DoL) (ho:o.path.length≤65536):bW {r with over:=o}:=⟨⟨h.fc.buf,h.fc.kn,h.fc.ln,h.fc.cm,h.fc.nd⟩,h.cm,h.kl,h.tl,h.nu,h.pl.1,ho⟩
theorem zgn (l:List bS) (hl:l.length≤400) (hc:∀c∈l,lp c):bW (lO l):=
 ⟨⟨Nat.zero_le _,fun k hk=>(List.not_mem_nil hk).elim,fun s hs=>(List.not_mem_nil hs).elim,hc,.nil⟩,hl,Nat.zero_le _,rfl,by
   have:nuL (lO l)=l.length*2:=by simp[nuL,lO,mK,sK,fV]
   rw[this];omega,Nat.zero_le _,Nat.zero_le _⟩
theorem zch (l:List KnL) (k:KnL) (t:gm):twL (l++[k]) t≤twL l t+(aq k.data).length:=by
 cases t with
 |line s=>exact Nat.le_add_right _ _
 |told p t=>
  simp only[twL]
  rw[List.find?_append]
  cases l.find? (fun k=>decide (k.path=p)) with
  |some x=>simp only[Option.some_or];omega
  |none=>
   simp only[Option.none_or]
   by_cases e:k.path=p
   ·rw[List.find?_cons_of_pos (by simpa using e)];simp only;omega
   ·rw[List.find?_cons_of_neg (by simpa using e)];simp only[List.find?_nil];omega
theorem zq (l:List KnL) (k:KnL) (t:List gm) (h:t.tail.all cC=true):fV (l++[k]) t≤fV l t+(aq k.data).length:=by
 have hl:∀t:List gm,t.all cC=true→fV (l++[k]) t=fV l t:=by
  intro t ht
  unfold fV
  induction t with
  |nil=>rfl
  |cons x t ih=>
   simp only[List.all_cons,Bool.and_eq_true] at ht
   simp only[List.map_cons,List.sum_cons]
   rw[ih ht.2]
   cases x with
   |line s=>rfl
   |told p t=>cases ht.1
 cases t with
 |nil=>exact Nat.le_add_right _ _
 |cons x t=>
  have h1:=hl t h
  have h2:=zch l k x
  have e1:fV (l++[k]) (x::t)=twL (l++[k]) x+fV (l++[k]) t:=rfl
  have e2:fV l (x::t)=twL l x+fV l t:=rfl
  rw[e1,e2,h1]
  omega
theorem bW.told {r:aw} (h:bW r) (k:KnL) (hk:k.data.length≤65536) (hn:r.knows k.path=none) (hl:r.known.length<500):bW (gD r k):=by
 have h1:=zdZ hk
 refine⟨⟨h.fc.buf,fun x hx=>?_,h.fc.ln,h.fc.cm,?_⟩,h.cm,?_,h.tl,?_,Nat.zero_le _,h.pl.2⟩
 ·rcases List.mem_append.1 hx with e|e
  ·exact h.fc.kn x e
  ·rw[List.mem_singleton.1 e];exact hk
 ·show((r.known++[k]).map (·.path)).Nodup
  rw[List.map_append]
  refine List.nodup_append.2 ⟨h.fc.nd,by simp,?_⟩
  intro a ha b hb e
  simp only[List.map_cons,List.map_nil,List.mem_singleton] at hb
  obtain⟨x,hx,rfl⟩:=List.mem_map.1 ha
  have:=List.find?_eq_none.1 hn x hx
  simp only[decide_eq_true_eq] at this
  exact this (e.trans hb)
 ·show(r.known++[k]).length≤500
  rw[List.length_append]
  simp only[List.length_cons,List.length_nil]
  omega
 ·have hnu:=h.nu
  have htop:=zq r.known k r.top h.tl
  have hmk:mK (r.known++[k])=mK r.known+lnK k:=by unfold mK;simp
  have hsk:sK (r.known++[k]) r.seen≤sK r.known r.seen+lnK k:=by
   unfold sK
   rw[List.filter_append,List.map_append,List.sum_append]
   refine Nat.add_le_add_left ?_ _
   rw[List.filter_cons]
   split
   ·simp
   ·simp
  have hln:(aq k.data).length≤lnK k:=Nat.le_succ _
  have e1:nuL (gD r k)=r.cmds.length*(mK (r.known++[k])+2)+sK (r.known++[k]) r.seen+fV (r.known++[k]) r.top:=rfl
  have e2:nuL r=r.cmds.length*(mK r.known+2)+sK r.known r.seen+fV r.known r.top:=rfl
  have e3:(gD r k).known.length=r.known.length+1:=by
   show(r.known++[k]).length=_
   rw[List.length_append];rfl
  have h5:r.cmds.length*lnK k≤400*65538:=Nat.mul_le_mul h.cm h1
  have h6:r.cmds.length*(mK r.known+lnK k+2)=r.cmds.length*(mK r.known+2)+r.cmds.length*lnK k:=by
   rw[←Nat.mul_add];congr 1;omega
  rw[e1,e3,hmk,h6]
  rw[e2] at hnu
  omega
open Exec Go.Shelf
attribute [local go_sem] Oper.semAt_some
set_option maxRecDepth 100000
theorem mL:cY 321 4:=⟨_,Tryz.underlying321,rfl,by kernel_rfl⟩
def doC (d:DoL):List Value:=[.int .i64 (d.kind:Int),.string (bs d.path),.string (bs d.data),.int .i64 (d.why:Int)]
theorem kC (d:DoL):∀u∈doC d,u.oneCell'=true:=by
 intro u hu
 simp only[doC,List.mem_cons,List.not_mem_nil,or_false] at hu
 rcases hu with rfl|rfl|rfl|rfl<;>rfl
theorem zaI {w:World} {g km:Nat} {tv ev:Value} {r:aw} (h:w.heap[g]?=some (.cells (iF tv ev km r).toArray 323 (0,0))):w.rangeAt g 6 (doC r.over):=fun j u hu=>by
 have e:iF tv ev km r=[tv,ev,.string (bs r.buffer),.map (some km),.string (bs r.asks),.bool r.waits]++doC r.over:=rfl
 rw[e] at h
 have h1:=af h (6+j) u (by rw[List.getElem?_append_right (by simp)];simpa using hu)
 simpa using h1
structure mz (w:World) (x:Nat):Prop where
 at_:w.heap[x]?=some (.cells (doC do0).toArray 321 (0,0))
theorem mz.cell0 {w:World} {x:Nat} (h:mz w x) (v:Value) (hv:w.cell? ⟨x,0,none⟩=some v):∃n,v=.int .i64 n:=by
 rw[cell_of_row _ _ 0 _ _ _ h.at_] at hv
 exact⟨0,(Option.some.inj hv).symm⟩
section
variable {B g km mb x:Nat} {D:Nat→Prop} {env:List (Txt×Txt)} {r:aw} {w w':World} {tv ev:Value} {vs cs:List Value} {word:Txt}
theorem aI.other {b:Nat} {v:Value} (h:aI D w b v) (hx:mz w x) (ht:bg x w w') (hv:∀n,v≠.int .i64 n):aI D w' b v:=by
 have hne:b≠x:=fun e=>by
  subst e
  obtain⟨n,hn⟩:=hx.cell0 v h.2.2
  exact hv n hn
 exact⟨Nat.lt_of_lt_of_le h.1 ht.foot.size,h.2.1,(World.cell?_of_block (ht.foot.block b h.1 hne)).trans h.2.2⟩
theorem dm.other {t:cR} {v:Value} (h:dm D g mb word w t v) (hx:mz w x) (ht:bg x w w'):dm D g mb word w' t v:=by
 cases t with
 |read=>
  obtain⟨b1,b2,rfl,h1,h2⟩:=h
  exact⟨b1,b2,rfl,h1.other hx ht (by simp),h2.other hx ht (by simp)⟩
 |try_=>
  obtain⟨b1,rfl,h1⟩:=h
  exact⟨b1,rfl,h1.other hx ht (by simp)⟩
 |scan=>
  obtain⟨b1,b2,b3,b4,b5,rfl,h1,h2,h3,h4,h5⟩:=h
  exact⟨b1,b2,b3,b4,b5,rfl,h1.other hx ht (by simp),h2.other hx ht (by simp),h3.other hx ht (by simp),h4.other hx ht (by simp),h5.other hx ht (by simp)⟩
theorem zB {t:cR} {v:Value} (h:dm D g mb word w t v) (n:Int):v≠.int .i64 n:=by
 cases t with
 |read=>obtain⟨b1,b2,rfl, -⟩:=h;simp
 |try_=>obtain⟨b1,rfl, -⟩:=h;simp
 |scan=>obtain⟨b1,b2,b3,b4,b5,rfl, -⟩:=h;simp
theorem fH.other {t:gm} {v:Value} (h:fH D g mb word w t v) (hx:mz w x) (ht:bg x w w'):fH D g mb word w' t v:=by
 cases t with
 |line s=>
  obtain⟨b0,b1,b2,b3,rfl,h0,h1,h2,h3⟩:=h
  exact⟨b0,b1,b2,b3,rfl,h0.other hx ht (by simp),h1.other hx ht (by simp),h2.other hx ht (by simp),h3.other hx ht (by simp)⟩
 |told p t=>
  obtain⟨b0,b1,b2,tv,rfl,h0,h1,h2,h3⟩:=h
  exact⟨b0,b1,b2,tv,rfl,h0.other hx ht (zB h1),h1.other hx ht,h2.other hx ht (by simp),h3.other hx ht (by simp)⟩
theorem dr.other {c:bS} {v:Value} (h:dr B D g w c v) (hx:mz w x) (hB:B≤x) (ht:bg x w w'):dr B D g w' c v:=by
 obtain⟨b0,b1,wv,rfl,h0,⟨h1,h2⟩,h3,h4,h5⟩:=h
 have hb1:b1≠x:=fun e=>by
  subst e
  rw[hx.at_] at h2
  have:=Option.some.inj h2
  simp at this
 exact⟨b0,b1,wv,rfl,h0.other hx ht (by simp),⟨h1,(ht.foot.block b1 (lx (hid h2)) hb1).trans h2⟩,dE h3 ht.foot.size fun k hk hl=>ht.foot.block k hl fun e=>by have:=h5 k hk;omega,fun k hk=>⟨(h4 k hk).1,Nat.lt_of_lt_of_le (h4 k hk).2 ht.foot.size⟩,h5⟩
theorem aN.other (h:aN B D g env r w tv ev km mb vs cs) (hx:mz w x) (hB:B≤x) (hD:¬D x) (ht:bg x w w'):aN B D g env r w' tv ev km mb vs cs:=by
 have hne:∀k,D k→k≠x:=fun k hk e=>hD (e▸hk)
 refine⟨(ht.foot.block g (lx (hid h.at_)) (hne g h.dg)).trans h.at_,aJ h.row fun k hk=>ht.foot.block k (h.row.lt k hk).2 (hne k (h.dt k hk)),h.top.imp fun _ _ k=>k.other hx ht,h.cmd.imp fun _ _ k=>k.other hx hB ht,eP h.env ht.foot.size fun k hk hl=>ht.foot.block k hl fun e=>?_,fun k hk=>⟨(h.eno k hk).1,Nat.lt_of_lt_of_le (h.eno k hk).2 ht.foot.size⟩,(ht.foot.block km (lx (hid h.kn)) (hne km h.dk)).trans h.kn,fun e=>?_,h.dg,h.dk,h.dt,fun k hk=>⟨(h.db k hk).1,Nat.lt_of_lt_of_le (h.db k hk).2 ht.foot.size⟩,h.sm,h.eb⟩
 ·have:=h.eb k hk
  omega
 ·have h1:=h.seen e
  exact⟨(ht.foot.block mb (lx (hid h1.1)) (hne mb h1.2.1)).trans h1.1,h1.2⟩
end
section
variable {B g:Nat} {D:Nat→Prop} {env:List (Txt×Txt)} {r:aw} {w:World}
theorem bA.db (h:bA B D g env r w):∀k,D k→B≤k∧k<w.heap.size:=by
 obtain⟨tv,ev,km,mb,vs,cs,h⟩:=h
 exact h.db
theorem bA.lt (h:bA B D g env r w):g<w.heap.size:=by
 obtain⟨tv,ev,km,mb,vs,cs,h⟩:=h
 exact lx (hid h.at_)
set_option maxHeartbeats 8000000 in
theorem zY (h:bA B D g env r w) (hg:aM B w) (hok:bW r) (hev:∀x∈env,x.2.length≤1000000000000000):
 Calls Tryz.prog 198 #[.pointer (some ⟨g,0,none⟩)] w fun e w2=>∃d r',bP (bH env) r=(d,r')∧bW r'∧d.path.length≤65536∧e=.returned (.agg (doC d).toArray)∧aD B D g env r' w w2:=by
 have HC:=hid (fun(W:World) (hb:Below w.heap.size w W)=>nH (h.below hb) (hg.below hb) hok.fc hok.mu hev)
 have HOK:=hid hok
 have HDB:=hid h.db
 have HG:=hid h.lt
 clear h hg hok
 go_enter Tryz.func198,Tryz.ntmps198
 go_upto_region 1 with(refine zbn (ty:=321) (zs:=(doC do0).toArray) (by kernel_rfl) ?_;intro W1 hb1 hn1 hs1)
 go_upto_region 3 with fail
 go_upto_region 4 with(go_at_call 201;refine(HC.out _ hb1).mono ?_;rintro e W2 ⟨rfl,r',hst,hnone,hfc,hgo⟩)
 obtain⟨hse,hok'⟩:=HOK.out.settle _ hst hnone
 obtain⟨D2,hd2,hf2,tv,ev,km,mb,vs,cs,hR⟩:=hgo
 have hn2:=(hf2.block w.heap.size (by omega) (fun e=>by have:=(HDB.out _ e).2;omega)).trans hn1
 have hz2:=hf2.size
 have hzl:(doC do0).toArray.size=4:=rfl
 have hgl:=lx (hid hR.at_)
 have hgne:g≠w.heap.size:=fun e=>by have:=HG.out;omega
 have HR:=hid hR
 have HF:=hid (And.intro hd2 hf2)
 have HN2:=hid hn2
 obtain⟨-, -, -, -,c4,c5,c6,c7,c8,c9⟩:=aA hR.at_
 have hfin2:∀W3,Below W2.heap.size W2 W3→∀W5 W6 D5,(∀j,D5 j→D2 j∨W3.heap.size≤j)→az D2 W3 W5→∀r2,bA B D5 g env r2 W5→bg w.heap.size W5 W6→aD B D g env r2 w W6:=by
  intro W3 h3 W5 W6 D5 hd5 hf5 r2 hR5 ht6
  have hz3:=h3.size
  have hD5:∀j,D5 j→D j∨W1.heap.size≤j:=fun j hj=>by
   rcases hd5 j hj with e|e
   ·exact hd2 j e
   ·exact .inr (by omega)
  have hfo:az D W1 W5:=(hf2.then h3).trans hf5 fun j hj e=>by
   rcases hd2 j e with e|e
   ·exact e
   ·omega
  obtain⟨tv5,ev5,km5,mb5,vs5,cs5,hR5⟩:=hR5
  have hnd:¬D5 w.heap.size:=fun e=>by
   rcases hD5 _ e with e|e
   ·have:=(HDB.out _ e).2;omega
   ·omega
  have hx2:¬D2 w.heap.size:=fun e=>by
   rcases hd2 _ e with e|e
   ·have:=(HDB.out _ e).2;omega
   ·omega
  have hx5:mz W5 w.heap.size:=⟨(hf5.block _ (by omega) hx2).trans ((h3.block _ (by omega)).trans HN2.out)⟩
  have hBx:B≤w.heap.size:=by have:=(hR5.db g hR5.dg).1;have:=HG.out;omega
  have h6:=hR5.other hx5 hBx hnd ht6
  have hf6:=ht6.foot
  have hz5:=hfo.size
  exact⟨D5,fun j hj=>by
   rcases hD5 j hj with e|e
   ·exact .inl e
   ·exact .inr (by omega),⟨hf6.os.trans (hfo.os.trans hb1.os),hf6.tape.trans (hfo.tape.trans hb1.tape),hf6.output.trans (hfo.output.trans hb1.output),by have:=hf6.size;omega,fun k hk hkd=>(hf6.block k (by omega) (by omega)).trans ((hfo.block k (by omega) hkd).trans (hb1.block k hk))⟩,tv5,ev5,km5,mb5,vs5,cs5,h6⟩
 have HFIN2:=hid hfin2
 clear hfin2
 have HRT:=hid (And.intro hse (And.intro hok' hnone))
 clear hR hd2 hf2 hn1 hb1 hse hok' hst hnone hfc HC HOK
 cases hw:r'.waits with
 |true=>
  rw[hw] at c5
  have hdo:bP (bH env) r=(⟨1,r'.asks,[],0⟩,r'):=by unfold bP;rw[HRT.out.1,if_pos hw]
  have HDO:=hid hdo
  clear hdo hw
  go_wp2_with first|(refine fp (xs:=(doC ⟨1,r'.asks,[],0⟩).toArray) mL HN2.out hzl rfl (kC _) ?_;intro W4 ht4 hn4 hs4)
  refine br1 w.heap.size hn4 ⟨_,r',HDO.out,HRT.out.2.1,HRT.out.2.1.pl.1,rfl,?_⟩ (hu:=Tryz.underlying321)
  exact HFIN2.out W2 (Below.refl _ _) W2 W4 D2 (fun j e=>.inl e) (az.refl _ _) _ ⟨tv,ev,km,mb,vs,cs,HR.out⟩ ht4
 |false=>
  rw[hw] at c5
  have hrg:=zaI HR.out.at_
  have HW:=hid hw
  clear hw c6 c7 c8 c9
  go_upto_region 7 with first|(refine bC mL hrg rfl ?_)|(refine eB (xs:=(doC r'.over).toArray) mL rfl (kC _) ?_;intro W3 hb3 hn3 hs3)
  have k0:W3.cell? ⟨W2.heap.size,0,none⟩=some (.int .i64 (r'.over.kind:Int)):=(cell_of_row _ _ 0 _ _ _ hn3).trans rfl
  have HN3:=hid hn3
  by_cases hk:r'.over.kind=2
  ·have E:((r'.over.kind:Int)==2)=true:=eqT (by omega)
   have hdo:bP (bH env) r=(r'.over,{r' with over:=do0}):=by
    unfold bP
    rw[HRT.out.1,if_neg (by rw[HW.out];exact Bool.false_ne_true),if_pos hk]
   have HDO:=hid hdo
   have hat3:=(hb3.block g hgl).trans HR.out.at_
   obtain⟨-, -, -, -, -, -,c6,c7,c8,c9⟩:=aA hat3
   have hfz:∀k,W3.frozen? ⟨g,k,none⟩=false:=fun k=>Lib.frozen_of_heap hat3 k
   have g6:=hfz 6
   have g7:=hfz 7
   have g8:=hfz 8
   have g9:=hfz 9
   have HAT:=hid hat3
   clear hdo hfz hn3 hat3
   go_upto_region 9 with fail
   obtain⟨n1,t1⟩:=au HAT.out 6 (.int .i64 0)
   obtain⟨n2,t2⟩:=au n1 7 (.string ⟨#[]⟩)
   obtain⟨n3,t3⟩:=au n2 8 (.string ⟨#[]⟩)
   obtain⟨n4,t4⟩:=au n3 9 (.int .i64 0)
   have HTT:=hid (((t1.trans t2).trans t3).trans t4)
   have HN4:=hid n4
   clear n1 t1 n2 t2 n3 t3 n4 t4 g6 g7 g8 g9 c6 c7 c8 c9 k0
   generalize (((W3.setCell ⟨g,6,none⟩ (.int .i64 0)).setCell ⟨g,7,none⟩ (.string ⟨#[]⟩)).setCell ⟨g,8,none⟩ (.string ⟨#[]⟩)).setCell ⟨g,9,none⟩ (.int .i64 0)=W5 at *
   have hn5:=(HTT.out.foot.block W2.heap.size (by have:=HG.out;omega) (by have:=HG.out;omega)).trans HN3.out
   have hm5:=(HTT.out.foot.block w.heap.size (by have:=HG.out;omega) (by have:=HG.out;omega)).trans ((hb3.block w.heap.size (by have:=HG.out;omega)).trans HN2.out)
   have hgo:=(HR.out.below hb3).go (r':={r' with over:=do0}) HTT.out (HN4.out.trans rfl) rfl rfl rfl rfl rfl ⟨HR.out.sm.buf,HR.out.sm.kn,HR.out.sm.ln,HR.out.sm.cm,HR.out.sm.tl,HR.out.sm.nd⟩
   have HGO:=hid hgo
   clear hgo
   go_wp2_with first|(refine bC mL (af hn5) rfl ?_)|(refine fp (xs:=(doC r'.over).toArray) mL hm5 hzl rfl (kC _) ?_;intro W6 ht6 hn6 hs6)
   refine br1 w.heap.size hn6 ⟨_,_,HDO.out,HRT.out.2.1.over do0 (Nat.zero_le _),HRT.out.2.1.pl.2,rfl,?_⟩ (hu:=Tryz.underlying321)
   obtain⟨D5,hd5,hf5,hR5⟩:=HGO.out
   exact HFIN2.out W3 hb3 W5 W6 D5 hd5 hf5 _ hR5 ht6
  ·have E:((r'.over.kind:Int)==2)=false:=eqF (by omega)
   have hdo:bP (bH env) r=(r'.over,r'):=by
    unfold bP
    rw[HRT.out.1,if_neg (by rw[HW.out];exact Bool.false_ne_true),if_neg hk]
   have HDO:=hid hdo
   have hm3:=(hb3.block w.heap.size (by have:=HG.out;omega)).trans HN2.out
   clear hdo hn3
   go_wp2_with first|(refine bC mL (af HN3.out) rfl ?_)|(refine fp (xs:=(doC r'.over).toArray) mL hm3 hzl rfl (kC _) ?_;intro W6 ht6 hn6 hs6)
   refine br1 w.heap.size hn6 ⟨_,_,HDO.out,HRT.out.2.1,HRT.out.2.1.pl.2,rfl,?_⟩ (hu:=Tryz.underlying321)
   exact HFIN2.out W3 hb3 W3 W6 D2 (fun j e=>.inl e) (az.refl _ _) _ ⟨tv,ev,km,mb,vs,cs,HR.out.below hb3⟩ ht6
end
theorem zb0 {w:World} {r:Nat} {l:List KnL} (hm:w.heap[r]?=some (knO l)) (k:KnL) (hb:∀x∈l,x.path≠k.path):
 ∃W,(Instr.mapUpdate 318 (.map (some r)) (.string (bs k.path)) (knV k)).run Tryz.prog w=.ok () W∧bg r w W∧W.heap[r]?=some (knO (l++[k])):=by
 have ht:Tryz.prog.underlying 318=some (.map 9 98):=by kernel_rfl
 have hr:r<w.heap.size:=(Array.getElem?_eq_some_iff.1 hm).1
 unfold knO at hm
 have hk:∀e∈knE l,∃x,e.key=cL x:=fun e he=>by obtain⟨q,_,h,_⟩:=np he;exact⟨q.path,h⟩
 have hc:=cn.check w false k.path
 unfold cL at hc
 have h1:(Instr.findKey 9 (.string (bs k.path)) (knE l)).run Tryz.prog w=.ok none w:=by
  rcases cn.find w k.path (knE l) hk with⟨h1,h2⟩|⟨j,x,h1,h2,h3⟩
  ·exact h1
  ·obtain⟨q,hq,hq1,hq2⟩:=np (List.mem_of_getElem? h2)
   exact absurd (cn.inj _ _ (h3.symm.trans hq1)).symm (hb q hq)
 refine⟨cS w r (knO (l++[k])),?_,dj hr _,fA hr _⟩
 have he:knO (l++[k])=.map ((knE l).toArray.push ⟨.string (bs k.path),knV k,l.length⟩) (l.length+1):=by
  simp[knO,knE,List.zipIdx_append,cL]
 rw[he]
 simp[Instr.mapUpdate,run_underlying ht,MapKept.run_getObj_map hm,hc,h1,MapKept.run_setObj_map _ hm,Result.andThen,cS]
section
variable {B g km mb:Nat} {D:Nat→Prop} {env:List (Txt×Txt)} {r r':aw} {w w':World} {tv ev:Value} {vs cs:List Value}
theorem aN.tell (h:aN B D g env r w tv ev km mb vs cs) (ht:az (fun k=>k=g∨k=km) w w') (hn:w'.heap[g]?=some (.cells (iF tv ev km r').toArray 323 (0,0))) (hk:w'.heap[km]?=some (knO r'.known))
 (e1:r'.cmds=r.cmds) (e2:r'.top=r.top) (e3:r'.word=r.word) (e4:r'.seen=r.seen) (hs:dp r'):aD B D g env r' w w':=by
 have hf:az D w w':=ht.mono fun i _ e=>by
  rcases e with e|e
  ·exact e▸h.dg
  ·exact e▸h.dk
 have hd:∀j,D j→D j∨w.heap.size≤j:=fun j e=>.inl e
 have hgk:∀k,tv.ownBlock=some k→¬(k=g∨k=km):=fun k hk e=>by
  obtain⟨-,⟨h1, -⟩|⟨b,cap,cur,h1, -,h2, -⟩⟩:=h.row
  ·rw[h1] at hk;cases hk
  ·rw[h1] at hk
   have:b=k:=Option.some.inj hk
   subst this
   rcases e with e|e
   ·subst e
    rw[h.at_] at h2
    have:=Option.some.inj h2
    simp at this
   ·subst e
    rw[h.kn] at h2
    cases h2
 refine⟨D,fun _ e=>.inl e,hf,tv,ev,km,mb,vs,cs,hn,aJ h.row fun k hk=>ht.block k (h.row.lt k hk).2 (hgk k hk),?_,?_,eP h.env hf.size fun k hk hl=>hf.block k hl (h.eno k hk).1,fun k hk=>⟨(h.eno k hk).1,Nat.lt_of_lt_of_le (h.eno k hk).2 hf.size⟩,hk,fun e=>?_,h.dg,h.dk,h.dt,fun k hk=>⟨(h.db k hk).1,Nat.lt_of_lt_of_le (h.db k hk).2 hf.size⟩,hs,h.eb⟩
 ·rw[e2,e3];exact h.top.imp fun _ _ k=>k.go hf hd
 ·rw[e1];exact h.cmd.imp fun _ _ k=>k.go hf hd
 ·rw[e2] at e
  rw[e4]
  have h1:=h.seen e
  refine⟨(ht.block _ (lx (hid h1.1)) (fun e=>?_)).trans h1.1,h1.2⟩
  rcases e with e|e
  ·have:=h1.1;rw[e,h.at_] at this;cases this
  ·exact h1.2.2 e
theorem uU {α:Type} {f:α→Option α} {a b:α} (h:bY f a b) (h0:f a=none):b=a:=by
 cases h with
 |refl=>rfl
 |step h1 _=>rw[h0] at h1;cases h1
set_option maxHeartbeats 8000000 in
theorem qu (h:bA B D g env r w) (hg:aM B w) (hok:bW r) (hev:∀x∈env,x.2.length≤1000000000000000) (hw:r.waits=true) (k:KnL) (hka:k.path=r.asks) (hkn:r.knows k.path=none) (hkl:r.known.length<500) (hkd:k.data.length≤65536):
 Calls Tryz.prog 159 #[.pointer (some ⟨g,0,none⟩),knV k] w fun e w2=>e=.returned (.int .i64 0)∧bW (gD r k)∧aD B D g env (gD r k) w w2:=by
 have HC:=hid (fun(W:World) (hb:Below w.heap.size w W)=>nH (h.below hb) (hg.below hb) hok.fc hok.mu hev)
 have HS:=hid (ut (bH env) r hw)
 have HT:=hid (hok.told k hkd hkn hkl)
 have HN:=hid hkn
 have HDB:=hid h.db
 unfold knV
 clear h hg hok hkn
 go_enter Tryz.func159,Tryz.ntmps159
 go_upto_region 3 with(refine cI iC ?_;intro W1 hb1 hn1 hs1)
 go_upto_region 4 with(go_at_call 201;refine(HC.out _ hb1).mono ?_;rintro e W2 ⟨rfl,r',hst,hnone,hfc,hgo⟩)
 have hrr:=uU hst HS.out
 subst hrr
 clear hst hnone hfc HC HS
 obtain⟨D2,hd2,hf2,tv,ev,km,mb,vs,cs,hR⟩:=hgo
 have hn2:=(hf2.block w.heap.size (by omega) (fun e=>by have:=(HDB.out _ e).2;omega)).trans hn1
 obtain⟨c0,c1,c2,c3,c4,c5,c6,c7,c8,c9⟩:=aA hR.at_
 rw[hw] at c5
 have k0:W2.cell? ⟨w.heap.size,0,none⟩=some (.string (bs k.path)):=(cell_of_row _ _ 0 _ _ _ hn2).trans rfl
 have k1:W2.cell? ⟨w.heap.size,1,none⟩=some (.bool k.is):=(cell_of_row _ _ 1 _ _ _ hn2).trans rfl
 have k2:W2.cell? ⟨w.heap.size,2,none⟩=some (.string (bs k.data)):=(cell_of_row _ _ 2 _ _ _ hn2).trans rfl
 rw[hka] at k0
 have e6:decide (65536<(k.data.length:Int))=false:=decide_eq_false (by omega)
 have eas:(r'.asks !=r'.asks)=false:=bne_self_eq_false _
 have HR:=hid hR
 have HF:=hid (And.intro hd2 hf2)
 have HB1:=hid hb1
 have HZ:=hid (show W1.heap.size≤W2.heap.size∧W1.heap.size=w.heap.size+1 from⟨hf2.size,hs1⟩)
 clear hR hd2 hf2 hn1 hn2 hb1 hs1 c0 c1 c2 c6 c7 c8 c9
 go_upto_region 6 with fail
 refine aC (by kernel_rfl) (by kernel_rfl) ?_
 repeat(refine WQ.step (fun K hK=>?_);go_simp;first|(refine hK _ ?_;clear hK K)|(apply Exists.intro;refine⟨fun W hW=>?_,hK _ ?_⟩;(first|with_reducible rfl|(have y0:=Below.keeps hW k0;have y1:=Below.keeps hW c4;go_simp;first|rfl|exact⟨rfl,rfl⟩|(simp;done)));clear hK K))
 refine WQ.nil ?_
 intro wq hwq
 have HQ:=hid hwq
 have q0:=Below.keeps hwq k0
 have q1:=Below.keeps hwq k1
 have q2:=Below.keeps hwq k2
 have q3:=Below.keeps hwq c3
 have q4:=Below.keeps hwq c4
 have q5:=Below.keeps hwq c5
 clear hwq k0 k1 k2 c3 c4 c5
 have hfin:∀(wt W8:World),aN B D2 g env r' wt tv ev km mb vs cs→az (fun k=>k=g∨k=km) wt W8→W8.heap[g]?=some (.cells (iF tv ev km (gD r' k)).toArray 323 (0,0))→W8.heap[km]?=some (knO (r'.known++[k]))→Below W2.heap.size W2 wt→aD B D g env (gD r' k) w W8:=fun wt W8 h1 h2 h3 h4 h5=>by
  have hg1:aD B D2 g env (gD r' k) wt W8:=h1.tell h2 h3 h4 rfl rfl rfl rfl (HT.out.fc.r HT.out.mu)
  exact aD.ahead HB1.out (aD.then HF.out.1 HF.out.2 (aD.ahead h5 hg1))
 have HFIN:=hid hfin
 clear hfin
 cases hq:k.is with
 |true=>
  rw[hq] at q1
  go_upto_region 10 with fail
  have hkv:(Value.agg #[.string (bs r'.asks),.bool true,.string (bs k.data)])=knV k:=by unfold knV;rw[hq,hka]
  have HKV:=hid hkv
  clear hkv hq
  refine ar 9 (by kernel_rfl) (by kernel_rfl) ?_
  simp only[List.take_succ_cons,List.take_zero,List.drop_succ_cons,List.drop_zero]
  repeat(refine WQ.step (fun K hK=>?_);go_simp;first|(refine hK _ ?_;clear hK K)|(apply Exists.intro;refine⟨fun W hW=>?_,hK _ ?_⟩;(first|with_reducible rfl|(have y0:=Below.keeps hW q0;have y1:=Below.keeps hW q1;have y2:=Below.keeps hW q2;have y3:=Below.keeps hW q3;have y4:=Below.keeps hW q4;go_simp;first|rfl|exact⟨rfl,rfl⟩|(simp;done)));clear hK K))
  refine WQ.nil ?_
  intro wt hwt
  have HB:=hid (Below.chain HQ.out hwt)
  have HRt:=hid (HR.out.below HB.out)
  obtain⟨W7,hup,ht7,hn7⟩:=zb0 HRt.out.kn k (fun x hx=>by
   have:=List.find?_eq_none.1 HN.out x hx
   simpa using this)
  rw[hka,←HKV.out] at hup
  have hat7:=(ht7.foot.block g (lx (hid HRt.out.at_)) (fun e=>by have h1:=HRt.out.kn;rw[←e,HRt.out.at_] at h1;cases h1)).trans HRt.out.at_
  obtain⟨-, -, -, -,p4,p5, -⟩:=aA hat7
  have f4:W7.frozen? ⟨g,4,none⟩=false:=Lib.frozen_of_heap hat7 4
  have f5:W7.frozen? ⟨g,5,none⟩=false:=Lib.frozen_of_heap hat7 5
  rw[hw] at p5
  have HH:=hid (And.intro ht7 (And.intro hn7 hat7))
  clear ht7 hn7 hat7 hwt q0 q1 q2 q3 q4 q5
  go_wp2_with fail
  go_ret
  obtain⟨ht7,hn7,hat7⟩:=HH.out
  obtain⟨n1,t1⟩:=au hat7 4 (.string ⟨#[]⟩)
  obtain⟨n2,t2⟩:=au n1 5 (.bool false)
  refine⟨rfl,HT.out,HFIN.out _ _ HRt.out (((ht7.foot.mono fun _ _ e=>.inr e).chain ((t1.trans t2).foot.mono fun _ _ e=>.inl e))) (n2.trans rfl) ?_ HB.out⟩
  exact((t1.trans t2).foot.block km (lx (hid hn7)) (fun e=>by rw[e,hat7] at hn7;cases hn7)).trans hn7
 |false=>
  rw[hq] at q1
  go_upto_region 10 with fail
  have hkv:(Value.agg #[.string (bs r'.asks),.bool false,.string (bs k.data)])=knV k:=by unfold knV;rw[hq,hka]
  have HKV:=hid hkv
  clear hkv hq
  refine ar 9 (by kernel_rfl) (by kernel_rfl) ?_
  simp only[List.take_succ_cons,List.take_zero,List.drop_succ_cons,List.drop_zero]
  repeat(refine WQ.step (fun K hK=>?_);go_simp;first|(refine hK _ ?_;clear hK K)|(apply Exists.intro;refine⟨fun W hW=>?_,hK _ ?_⟩;(first|with_reducible rfl|(have y0:=Below.keeps hW q0;have y1:=Below.keeps hW q1;have y2:=Below.keeps hW q2;have y3:=Below.keeps hW q3;have y4:=Below.keeps hW q4;go_simp;first|rfl|exact⟨rfl,rfl⟩|(simp;done)));clear hK K))
  refine WQ.nil ?_
  intro wt hwt
  have HB:=hid (Below.chain HQ.out hwt)
  have HRt:=hid (HR.out.below HB.out)
  obtain⟨W7,hup,ht7,hn7⟩:=zb0 HRt.out.kn k (fun x hx=>by
   have:=List.find?_eq_none.1 HN.out x hx
   simpa using this)
  rw[hka,←HKV.out] at hup
  have hat7:=(ht7.foot.block g (lx (hid HRt.out.at_)) (fun e=>by have h1:=HRt.out.kn;rw[←e,HRt.out.at_] at h1;cases h1)).trans HRt.out.at_
  obtain⟨-, -, -, -,p4,p5, -⟩:=aA hat7
  have f4:W7.frozen? ⟨g,4,none⟩=false:=Lib.frozen_of_heap hat7 4
  have f5:W7.frozen? ⟨g,5,none⟩=false:=Lib.frozen_of_heap hat7 5
  rw[hw] at p5
  have HH:=hid (And.intro ht7 (And.intro hn7 hat7))
  clear ht7 hn7 hat7 hwt q0 q1 q2 q3 q4 q5
  go_wp2_with fail
  go_ret
  obtain⟨ht7,hn7,hat7⟩:=HH.out
  obtain⟨n1,t1⟩:=au hat7 4 (.string ⟨#[]⟩)
  obtain⟨n2,t2⟩:=au n1 5 (.bool false)
  refine⟨rfl,HT.out,HFIN.out _ _ HRt.out (((ht7.foot.mono fun _ _ e=>.inr e).chain ((t1.trans t2).foot.mono fun _ _ e=>.inl e))) (n2.trans rfl) ?_ HB.out⟩
  exact((t1.trans t2).foot.block km (lx (hid hn7)) (fun e=>by rw[e,hat7] at hn7;cases hn7)).trans hn7
end
end Go.Proofs.YtlbipokkdiiaiaaGreatDoor
