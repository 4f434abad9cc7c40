/- Lemmas and walks that the statement needs: May, Page, PageText, ParseCall, ParseEntry. -/
import Derived.Test.YtfgiihpopngbkaaGreatDoorM13
import Derived.Test.YtfgiihpopngbkaaGreatDoorM14
import Derived.Test.YtfgiihpopngbkaaGreatDoorM15
import Derived.Test.YtfgiihpopngbkaaGreatDoorM07
import Derived.Test.YtfgiihpopngbkaaGreatDoorM09
import Derived.Test.YtfgiihpopngbkaaGreatDoorM10
import Derived.Test.YtfgiihpopngbkaaGreatDoorM11
import Derived.Test.YtfgiihpopngbkaaGreatDoorM12
import Derived.Test.YtfgiihpopngbkaaGreatDoorM03
import Derived.Test.YtfgiihpopngbkaaGreatDoorM06
import Derived.Deep.DeepCutAuto
namespace Go.Proofs.YtfgiihpopngbkaaGreatDoor
set_option maxRecDepth 100000
open Go.RowKit
open List renaming setIfInBounds_toArray→sA,set_cons_zero→sB,set_cons_succ→sC
open Nat renaming lt_of_lt_of_le→nL,le_trans→nT
structure MaySays (x:NM):Prop where
 e:Says 38 mE x
 a:Says 74 mA x
 p:Says 40 mP x
 b:Says 39 mB x
 s:Says 23 mS x
theorem may_says:∀ (N:Nat) (x:NM),x.hi≤N→x.fit→MaySays x
 | 0,.mk k t l c ks a m,h,_=>by rw [hi_mk] at h;omega
 | N+1,.mk k t l c ks a m,h,hf=>by
   rw [hi_mk] at h;obtain ⟨ht,hk,hfs⟩:=fit_mk hf;have ih:∀ j (hj:j<ks.length),MaySays ks[j]:=fun j hj=>may_says N ks[j] (his_get (by omega) j hj) (fits_get hfs j hj)
   refine ⟨?_,?_,?_,?_,?_⟩
   ·intro w hw hh;by_cases h9:k=9
    ·subst h9;exact mayE_9 t l c ks a m w hw hh ht hk
    by_cases h10:k=10
    ·subst h10;exact mayE_10 t l c ks a m w hw hh ht hk
    by_cases h11:k=11
    ·subst h11;exact mayE_11 t l c ks a m w hw hh ht hk
    by_cases h12:k=12
    ·subst h12;exact mayE_12 t l c ks a m w hw hh ht hk (fun j hj=>(ih j hj).e)
    by_cases h13:k=13
    ·subst h13;exact mayE_13 t l c ks a m w hw hh ht hk (fun j hj=>(ih j hj).e)
    by_cases h14:k=14
    ·subst h14;exact mayE_14 t l c ks a m w hw hh ht hk (fun j hj=>(ih j hj).a)
    by_cases h16:k=16
    ·subst h16;by_cases hn:t=wNot
     ·by_cases h1:ks.length=1
      ·exact mayE_16n t l c ks a m w hw hh ht hk hn h1 (fun j hj=>(ih j hj).e)
      ·exact mayE_16n0 t l c ks a m w hw hh ht hk hn h1 (fun j hj=>(ih j hj).e)
     ·by_cases h2:ks.length=2
      ·exact mayE_16o t l c ks a m w hw hh ht hk hn h2 (fun j hj=>(ih j hj).e)
      ·exact mayE_16o0 t l c ks a m w hw hh ht hk hn h2 (fun j hj=>(ih j hj).e)
    exact mayE_no k t l c ks a m w (by unfold isE;simp [h9,h10,h11,h12,h13,h14,h16])
   ·intro w hw hh;by_cases h15:k=15
    ·subst h15;by_cases h1:ks.length=1
     ·match ks,h1,ih,hh with
      | [.mk kx tx lx cx ksx ax mx],_,ih,hh =>
        have hx:=(ih 0 (by simp)).e;cases t with
        | nil=>exact mayA_e l c kx tx lx cx ksx ax mx a m w hw hh ht hx
        | cons tc tr=>exact mayA_n tc tr l c kx tx lx cx ksx ax mx a m w hw hh ht hx
     ·cases t with
      | nil=>exact mayA_e0 l c ks a m w hw hh ht h1
      | cons tc tr=>exact mayA_n0 tc tr l c ks a m w hw hh ht h1
    ·exact mayA_no k t l c ks a m w hw hh ht (by simpa using h15)
   ·intro w hw hh;by_cases h7:k=7
    ·subst h7
     match ks,ih,hh with
     | [],_,hh=>exact mayP_0 t l c [] a m w hw hh ht rfl
     | [.mk kx tx lx cx ksx ax mx],ih,hh =>
       by_cases h9:kx=9
       ·have h9':(kx == 9)=true:=by simpa using h9
        by_cases hk0:ksx=[]
        ·have hm:1≤m:=by
          obtain ⟨la,lc,hv,hc,-⟩:=hh.kidsAt.nodes;obtain ⟨-,rfl⟩:a=la∧m=lc:=by simpa using hv
          simpa using hc
         by_cases h1:m=1
         ·exact mayP_1d t l c kx tx lx cx ksx ax mx a m w hw hh ht h9' hk0 h1
         ·exact mayP_1c t l c kx tx lx cx ksx ax mx a m w hw hh ht h9' hk0 (by omega)
        ·exact mayP_1b t l c kx tx lx cx ksx ax mx a m w hw hh ht h9' hk0
       ·exact mayP_1a t l c kx tx lx cx ksx ax mx a m w hw hh ht (by simpa using h9)
     | [.mk kx tx lx cx ksx ax mx,.mk ky ty ly cy ksy ay my],ih,hh =>
       by_cases h9:kx=9
       ·have h9':(kx == 9)=true:=by simpa using h9
        by_cases hk0:ksx=[]
        ·exact mayP_2c t l c kx tx lx cx ksx ax mx ky ty ly cy ksy ay my a m w hw hh ht h9' hk0 (ih 1 (by simp)).e
        ·exact mayP_2b t l c kx tx lx cx ksx ax mx ky ty ly cy ksy ay my a m w hw hh ht h9' hk0
       ·exact mayP_2a t l c kx tx lx cx ksx ax mx ky ty ly cy ksy ay my a m w hw hh ht (by simpa using h9)
     | x::y::z::r,_,hh=>exact mayP_3 t l c (x::y::z::r) a m w hw hh ht (by simp)
    ·exact mayP_no k t l c ks a m w hw hh ht (by simpa using h7)
   ·intro w hw hh;by_cases h8:k=8
    ·subst h8;exact mayB_8 t l c ks a m w hw hh ht hk (fun j hj=>(ih j hj).s)
    ·exact mayB_no k t l c ks a m w (by simpa using h8)
   ·intro w hw hh;by_cases h2:k=2
    ·subst h2;by_cases h1:ks.length=1
     ·match ks,h1,ih,hh with
      | [.mk kx tx lx cx ksx ax mx],_,ih,hh=>exact mayS_2 t l c kx tx lx cx ksx ax mx a m w hw hh ht (ih 0 (by simp)).e
     ·exact mayS_20 t l c ks a m w hw hh ht h1
    by_cases h3:k=3
    ·subst h3;cases t with
     | cons tc tr=>exact mayS_3t tc tr l c ks a m w hw hh ht
     | nil =>
       by_cases h1:ks.length=1
       ·match ks,h1,ih,hh with
        | [.mk kx tx lx cx ksx ax mx],_,ih,hh =>
          by_cases h14:kx=14
          ·exact mayS_3 l c kx tx lx cx ksx ax mx a m w hw hh ht (by simpa using h14) (ih 0 (by simp)).e
          ·exact mayS_3k l c kx tx lx cx ksx ax mx a m w hw hh ht (by simpa using h14)
       ·exact mayS_30 l c ks a m w hw hh ht h1
    by_cases h4:k=4
    ·subst h4;by_cases h1:ks.length=2
     ·match ks,h1,ih,hh with
      | [.mk kx tx lx cx ksx ax mx,.mk ky ty ly cy ksy ay my],_,ih,hh=>exact mayS_4 t l c kx tx lx cx ksx ax mx ky ty ly cy ksy ay my a m w hw hh ht (ih 0 (by simp)).e (ih 1 (by simp)).b
     ·exact mayS_40 t l c ks a m w hw hh ht h1
    by_cases h5:k=5
    ·subst h5;cases t with
     | cons tc tr=>exact mayS_5t tc tr l c ks a m w hw hh ht
     | nil =>
       by_cases h1:ks.length=2
       ·match ks,h1,ih,hh with
        | [.mk kx tx lx cx ksx ax mx,.mk ky ty ly cy ksy ay my],_,ih,hh=>exact mayS_52 l c kx tx lx cx ksx ax mx ky ty ly cy ksy ay my a m w hw hh ht (ih 0 (by simp)).e (ih 1 (by simp)).b
       ·by_cases h31:ks.length=3
        ·match ks,h31,ih,hh with
         | [.mk kx tx lx cx ksx ax mx,.mk ky ty ly cy ksy ay my,.mk kz tz lz cz ksz az mz],_,ih,hh=>exact mayS_53 l c kx tx lx cx ksx ax mx ky ty ly cy ksy ay my kz tz lz cz ksz az mz a m w hw hh ht (ih 0 (by simp)).e (ih 1 (by simp)).b (ih 2 (by simp)).b
        ·exact mayS_50 l c ks a m w hw hh ht h1 h31
    by_cases h6:k=6
    ·subst h6;by_cases h0:ks=[]
     ·exact mayS_60 t l c ks a m w hw hh ht h0
     ·obtain ⟨n,hn⟩:∃ n,ks.length=n+1:=⟨ks.length - 1,by have:=List.length_pos_iff.2 h0;omega⟩;have hzb:=(ih n (by omega)).b;obtain ⟨kz,tz,lz,cz,ksz,az,mz,hz⟩:∃ kz tz lz cz ksz az mz,ks[n]=NM.mk kz tz lz cz ksz az mz:=by cases ks[n];exact ⟨_,_,_,_,_,_,_,rfl⟩
      rw [hz] at hzb;have H:=mayS_6 t l c ks a m w hw hh ht n kz tz lz cz ksz az mz hn hk hz (fun j hj=>(ih j (by omega)).p) hzb;rw [← hn] at H;exact H
    exact mayS_no k t l c ks a m w hw hh ht (by unfold isS;simp [h2,h3,h4,h5,h6])
theorem dict_all:∀ l:List Tr,dictE l=true→l.all mE=true
 | [],_=>rfl
 | [_],h=>by cases h
 | a::b::r,h=>by
   have h':(a.kd == 11 && mE a && mE b && dictE r)=true:=h;simp only [Bool.and_eq_true] at h';rw [List.all_cons,List.all_cons,h'.1.1.2,h'.1.2,dict_all r h'.2];rfl
theorem name_ne' {t:List UInt8} (h:nameS t=true):t≠[]:=by
 rintro rfl;exact absurd h (by decide)
theorem trs_all {p:Tr→Bool} {ks:List NM} (h:(NM.trs ks).all p=true):∀ j (hj:j<ks.length),p ks[j].tr=true:=by
 intro j hj;rw [all_tr] at h;exact List.all_eq_true.1 h ks[j] (List.getElem_mem hj)
structure PutsAll (pb N:Nat) (x:NM):Prop where
 e:mE x.tr=true→Puts 80 pb (fun n=>oP n x.tr) x
 a:mA x.tr=true→Puts 79 pb (fun n=>oP n x.tr) x
 p:mP x.tr=true→Puts 83 pb (fun n=>oP n x.tr) x
 b:mB x.tr=true→∀ T,T+N≤99990→PutsT T 81 pb (fun n=>oP n x.tr) x
 s:mS x.tr=true→∀ T,T+N≤99990→PutsT T 42 pb (fun n=>oP n x.tr) x
theorem named_oP (t:List UInt8) (x:Tr) (n:Nat):oP n (.mk 15 t [x])=namedP n (.mk 15 t [x]):=by
 rw [oP_mk,oPs_map];show putP n 15 t _ _=_;unfold putP namedP;rw [show (Tr.mk 15 t [x]).tx=t from rfl];by_cases h:t=[]
 ·simp [h,Tr.kids]
 ·simp [h,Tr.kids]
theorem puts_all (pb:Nat):∀ (N:Nat) (x:NM),x.hi≤N→x.fit→PutsAll pb N x
 | 0,.mk k t l c ks a m,h,_=>by rw [hi_mk] at h;omega
 | N+1,.mk k t l c ks a m,h,hf=>by
   rw [hi_mk] at h;obtain ⟨ht,hk,hfs⟩:=fit_mk hf;have ih:∀ j (hj:j<ks.length),PutsAll pb N ks[j]:=fun j hj=>puts_all pb N ks[j] (his_get (by omega) j hj) (fits_get hfs j hj)
   refine ⟨?_,?_,?_,?_,?_⟩
   ·intro hm;have hE:isE k=true:=by unfold mE at hm;rw [ntr_mk,kd_mk] at hm;simp only [Bool.and_eq_true] at hm;exact hm.1
    unfold isE at hE;simp only [Bool.or_eq_true,beq_iff_eq] at hE;rw [ntr_mk] at hm;rcases hE with (((((rfl | rfl) | rfl) | rfl) | rfl) | rfl) | rfl
    ·exact expr_9 pb t l c ks a m
    ·exact expr_10 pb t l c ks a m
    ·exact expr_11 pb t l c ks a m ht
    ·rw [mE_12,Bool.and_eq_true] at hm;exact expr_12 pb t l c ks a m hk (fun j hj=>(ih j hj).e (trs_all hm.2 j hj))
    ·rw [mE_13,Bool.and_eq_true] at hm;exact expr_13 pb t l c ks a m hk (fun j hj=>(ih j hj).e (trs_all (dict_all _ hm.2) j hj))
    ·rw [mE_14,Bool.and_eq_true] at hm;exact expr_14 pb t l c ks a m hk (fun j hj=>(ih j hj).a (trs_all hm.2 j hj))
    ·rw [mE_16] at hm;simp only [Bool.and_eq_true,decide_eq_true_eq] at hm;obtain ⟨⟨hl,-⟩,ha⟩:=hm;rw [ntrs_len] at hl;have hk':=trs_all ha;by_cases hn:t=wNot
     ·rw [if_pos hn] at hl;subst hn
      match ks,hl,ih,hk' with
      | [.mk kx tx lx cx ksx ax mx],_,ih,hk'=>exact expr_16n pb l c kx tx lx cx ksx ax mx a m ((ih 0 (by simp)).e (hk' 0 (by simp)))
     ·rw [if_neg hn] at hl
      match ks,hl,ih,hk' with
      | [.mk kx tx lx cx ksx ax mx,.mk ky ty ly cy ksy ay my],_,ih,hk' =>
        exact expr_16o pb t l c kx tx lx cx ksx ax mx ky ty ly cy ksy ay my a m (by simpa [wNot] using hn) ((ih 0 (by simp)).e (hk' 0 (by simp))) ((ih 1 (by simp)).e (hk' 1 (by simp)))
   ·intro hm;have hE:k=15:=by unfold mA at hm;rw [ntr_mk,kd_mk] at hm;simp only [Bool.and_eq_true,beq_iff_eq] at hm;exact hm.1
    subst hE;rw [ntr_mk,mA_15,Bool.and_eq_true] at hm
    match ks,hm,ih with
    | [],hm,_=>rw [ntrs_nil] at hm;exact absurd hm.2 (by decide)
    | _::_::_,hm,_=>rw [ntrs_cons,ntrs_cons] at hm;exact absurd hm.2 (by simp [oneM])
    | [.mk kx tx lx cx ksx ax mx],hm,ih =>
      rw [ntrs_cons,ntrs_nil] at hm;have hx:=(ih 0 (by simp)).e hm.2;have e:(fun n=>oP n (NM.mk 15 t l c [.mk kx tx lx cx ksx ax mx] a m).tr)=fun n=>namedP n (NM.mk 15 t l c [.mk kx tx lx cx ksx ax mx] a m).tr:=funext fun n=>by
       rw [ntr_mk,ntrs_cons,ntrs_nil];exact named_oP t _ n
      rw [e];cases t with
      | nil=>exact named_e pb 15 l c kx tx lx cx ksx ax mx a m hx
      | cons tc tr=>exact named_n pb 15 (tc::tr) l c kx tx lx cx ksx ax mx a m rfl hx
   ·intro hm;have hE:k=7:=by unfold mP at hm;rw [ntr_mk,kd_mk] at hm;simp only [Bool.and_eq_true,beq_iff_eq] at hm;exact hm.1
    subst hE;rw [ntr_mk,mP_7,Bool.and_eq_true] at hm
    match ks,hm,ih with
    | [],hm,_=>rw [ntrs_nil] at hm;exact absurd hm.2 (by decide)
    | _::_::_::_,hm,_=>rw [ntrs_cons,ntrs_cons,ntrs_cons] at hm;exact absurd hm.2 (by simp [paramM])
    | [.mk kx tx lx cx ksx ax mx],_,_=>exact param_1 pb t l c kx tx lx cx ksx ax mx a m
    | [.mk kx tx lx cx ksx ax mx,.mk ky ty ly cy ksy ay my],hm,ih =>
      rw [ntrs_cons,ntrs_cons,ntrs_nil] at hm;have hy:mE (NM.mk ky ty ly cy ksy ay my).tr=true:=by have:=hm.2;unfold paramM at this;simp only [Bool.and_eq_true] at this;exact this.2
      exact param_2 pb t l c kx tx lx cx ksx ax mx ky ty ly cy ksy ay my a m ((ih 1 (by simp)).e hy)
   ·intro hm T hT;have hE:k=8:=by unfold mB at hm;rw [ntr_mk,kd_mk] at hm;simp only [Bool.and_eq_true,beq_iff_eq] at hm;exact hm.1
    subst hE;rw [ntr_mk,mB_8,Bool.and_eq_true] at hm;exact block_8 pb t l c ks a m T (by omega) (fun acc tb w v h hl htb hlen=>stmts_any pb (T+1) ks hk (fun j hj acc tb w h hh htb hlen=>(ih j hj).s (trs_all hm.2 j hj) (T+1) (by omega) acc tb w h hh htb hlen) acc tb w v h hl htb (by omega) hlen)
   ·intro hm T hT;have hE:isS k=true:=by unfold mS at hm;rw [ntr_mk,kd_mk] at hm;simp only [Bool.and_eq_true] at hm;exact hm.1
    unfold isS at hE;simp only [Bool.or_eq_true,beq_iff_eq] at hE;rw [ntr_mk] at hm;rcases hE with (((rfl | rfl) | rfl) | rfl) | rfl
    ·rw [mS_2,Bool.and_eq_true] at hm
     match ks,hm,ih with
     | [],hm,_=>rw [ntrs_nil] at hm;exact absurd hm.2 (by decide)
     | _::_::_,hm,_=>rw [ntrs_cons,ntrs_cons] at hm;exact absurd hm.2 (by simp [oneM])
     | [.mk kx tx lx cx ksx ax mx],hm,ih =>
       rw [ntrs_cons,ntrs_nil] at hm;have htn:=name_ne' hm.1;exact stmt_2 pb t l c kx tx lx cx ksx ax mx a m T (by omega) htn (named_n pb 2 t l c kx tx lx cx ksx ax mx a m (by simpa using htn) ((ih 0 (by simp)).e hm.2))
    ·rw [mS_3,Bool.and_eq_true] at hm;obtain ⟨h1,h2⟩:=hm;have h1':t=[]:=by simpa using h1
     subst h1'
     match ks,h2,ih with
     | [],h2,_=>rw [ntrs_nil] at h2;exact absurd h2 (by decide)
     | _::_::_,h2,_=>rw [ntrs_cons,ntrs_cons] at h2;exact absurd h2 (by simp [doM])
     | [.mk kx tx lx cx ksx ax mx],h2,ih =>
       rw [ntrs_cons,ntrs_nil] at h2;have hx:mE (NM.mk kx tx lx cx ksx ax mx).tr=true:=by unfold doM at h2;simp only [Bool.and_eq_true] at h2;exact h2.2
       exact stmt_3 pb l c kx tx lx cx ksx ax mx a m T (by omega) ((ih 0 (by simp)).e hx)
    ·rw [mS_4,Bool.and_eq_true] at hm;obtain ⟨h1,h2⟩:=hm
     match ks,h2,ih with
     | [],h2,_=>rw [ntrs_nil] at h2;exact absurd h2 (by decide)
     | [_],h2,_=>rw [ntrs_cons,ntrs_nil] at h2;exact absurd h2 (by simp [forM])
     | _::_::_::_,h2,_=>rw [ntrs_cons,ntrs_cons,ntrs_cons] at h2;exact absurd h2 (by simp [forM])
     | [.mk kx tx lx cx ksx ax mx,.mk ky ty ly cy ksy ay my],h2,ih =>
       rw [ntrs_cons,ntrs_cons,ntrs_nil] at h2;unfold forM at h2;simp only [Bool.and_eq_true] at h2;exact stmt_4 pb t l c kx tx lx cx ksx ax mx ky ty ly cy ksy ay my a m T (by omega) ((ih 0 (by simp)).e h2.1) ((ih 1 (by simp)).b h2.2 T (by omega))
    ·rw [mS_5,Bool.and_eq_true] at hm;obtain ⟨h1,h2⟩:=hm;have h1':t=[]:=by simpa using h1
     subst h1'
     match ks,h2,ih with
     | [],h2,_=>rw [ntrs_nil] at h2;exact absurd h2 (by decide)
     | [_],h2,_=>rw [ntrs_cons,ntrs_nil] at h2;exact absurd h2 (by simp [ifM])
     | _::_::_::_::_,h2,_=>rw [ntrs_cons,ntrs_cons,ntrs_cons,ntrs_cons] at h2;exact absurd h2 (by simp [ifM])
     | [.mk kx tx lx cx ksx ax mx,.mk ky ty ly cy ksy ay my],h2,ih =>
       rw [ntrs_cons,ntrs_cons,ntrs_nil] at h2;unfold ifM at h2;simp only [Bool.and_eq_true] at h2;exact stmt_52 pb l c kx tx lx cx ksx ax mx ky ty ly cy ksy ay my a m T (by omega) ((ih 0 (by simp)).e h2.1) ((ih 1 (by simp)).b h2.2 T (by omega))
     | [.mk kx tx lx cx ksx ax mx,.mk ky ty ly cy ksy ay my,.mk kz tz lz cz ksz az mz],h2,ih =>
       rw [ntrs_cons,ntrs_cons,ntrs_cons,ntrs_nil] at h2;unfold ifM at h2;simp only [Bool.and_eq_true] at h2;exact stmt_53 pb l c kx tx lx cx ksx ax mx ky ty ly cy ksy ay my kz tz lz cz ksz az mz a m T (by omega) ((ih 0 (by simp)).e h2.1.1) ((ih 1 (by simp)).b h2.1.2 T (by omega)) ((ih 2 (by simp)).b h2.2 T (by omega))
    ·rw [mS_6,Bool.and_eq_true] at hm;obtain ⟨h1,h2⟩:=hm;by_cases h0:ks=[]
     ·subst h0;rw [ntrs_nil] at h2;exact absurd h2 (by decide)
     obtain ⟨n,hn⟩:∃ n,ks.length=n+1:=⟨ks.length - 1,by have:=List.length_pos_iff.2 h0;omega⟩;obtain ⟨kz,tz,lz,cz,ksz,az,mz,hz⟩:∃ kz tz lz cz ksz az mz,ks[n]=NM.mk kz tz lz cz ksz az mz:=by cases ks[n];exact ⟨_,_,_,_,_,_,_,rfl⟩
     have hsp:ks=ks.take n++[NM.mk kz tz lz cz ksz az mz]:=by
      have h1:ks.take (n+1)=ks:=List.take_of_length_le (by omega);rw [List.take_succ_eq_append_getElem (by omega),hz] at h1;exact h1.symm
     have e:NM.trs ks=(ks.take n).map NM.tr++[(NM.mk kz tz lz cz ksz az mz).tr]:=by
      rw [ntrs_map];exact (congrArg (List.map NM.tr) hsp).trans (by rw [List.map_append];rfl)
     unfold ruleM at h2;rw [e,List.getLast?_concat,List.dropLast_concat,List.all_map] at h2;simp only [Bool.and_eq_true] at h2;have hb:=(ih n (by omega)).b (by rw [hz];exact h2.2) T (by omega);rw [hz] at hb;exact stmt_6 pb t l c ks a m n kz tz lz cz ksz az mz hn hz (by omega) T (by omega) (fun j hj=>(ih j (by omega)).p (by
      have:=List.all_eq_true.1 h2.1 ks[j] (by rw [List.mem_take_iff_getElem];exact ⟨j,by omega,rfl⟩);exact this)) hb
set_option maxHeartbeats 2000000 in
theorem ptext_any (B b:Nat) (l:List UInt8) (t:Nat) (w:World) (h:PageAt B b l t w) (h0:l≠[]) :
  Calls Tryz.prog 25 #[.pointer (some ⟨b,0,none⟩)] w fun e w'=>e=.returned (.string (bs l))∧Below B w w':=by
 obtain ⟨p,hB,v,hbk,hown⟩:∃ p,PageP B b p l t w:=h.elim (fun h=>⟨_,h⟩) (fun h=>⟨_,h⟩);have hne:=Lib.ownBlock_neF hown hbk page_ne;have hl0:l.length≠0:=by simpa using h0
 obtain ⟨g,cap,cur,fz,rfl,hbg,hg,hfz,hnc,hcm,hcs,htake⟩:∃ g cap cur fz,v=.slice (some ⟨g,0,none⟩) l.length cap∧B≤g∧w.heap[g]? = some (.cells cur 5 fz)∧fz.2≤l.length * 1∧l.length≤cap∧cap≤maxLen∧cur.size=cap * 1∧cur.toList.take (l.length * 1)=Lib.byteCells l:=by
  rcases hown.2 with ⟨_,hz⟩ | ⟨g,cap,cur,fz,hv,r⟩
  ·exact absurd hz hl0
  ·exact ⟨g,cap,cur,fz,hv,r⟩
 have hSD:∀ W:World,(Builtin.unsafeSliceData_ #[41] 85 #[.slice (some ⟨g,0,none⟩) l.length cap]).run Tryz.prog W=.ok (.pointer (some ⟨g,0,none⟩)) W :=
  fun W=>Lib.run_unsafeSliceData_row _ _ _ _ _ _ (by omega)
 have hUS:(Builtin.unsafeString_ #[85,3] 9 #[.pointer (some ⟨g,0,none⟩),.int .i64 l.length]).run Tryz.prog w.drew=.ok (.string (bs l)) (w.drew.freeze ⟨g,0,none⟩ l.length):=by
  refine Lib.run_unsafeString_row w.drew 85 3 9 5 Tryz.underlying85 (by kernel_rfl) g cur.size (by have hg':w.drew.heap[g]? = some (.cells cur 5 fz):=hg;simp [World.shape?,hg']) l h0 (by omega) (by unfold maxLen at hcm;omega) ?_;intro j x hx;exact hown.cells (g:=g) rfl j (.int .u8 x.toNat) (by simp [Lib.byteCells,hx])
 have hgb:b≠g:=fun e=>hne (by rw [e];rfl)
 have hbel:=hid (Lib.below_freeze (Below.drew (Below.refl B w)) (p:=⟨g,0,none⟩) hbg l.length);have HS2:=hid (show (w.drew.freeze ⟨g,0,none⟩ l.length).heap[b]? = some (.cells #[p,.slice (some ⟨g,0,none⟩) l.length cap,.int .i64 (t:Int)] 66 (0,0)) by
  have hbk':w.drew.heap[b]? = _:=hbk;rw [← hbk'];unfold World.freeze;split <;> simp [Array.getElem?_modify,Ne.symm hgb])
 clear hown hne hl0 hbg hg hfz hnc hcm hcs htake h h0;go_enter Tryz.func25,Tryz.ntmps25
 go_wp2_with fail;refine wp_region_wh (S:=fun W=>W.heap[b]? = some (.cells #[p,.slice (some ⟨g,0,none⟩) l.length cap,.int .i64 (t:Int)] 66 (0,0))) (by kernel_rfl) ?_;have hS:w.drew.heap[b]? = some (.cells #[p,.slice (some ⟨g,0,none⟩) l.length cap,.int .i64 (t:Int)] 66 (0,0)):=hbk;refine WH.tk 0 (some 3) (.pointer (some ⟨b,0,none⟩)) hS ?_;(try simp only [Act.put,sA,sB,sC]);refine WH.tk 1 (some 4) (.pointer (some ⟨b,0,none⟩)) hS ?_;(try simp only [Act.put,sA,sB,sC]);refine WH.tk 2 (some 5) (.pointer (some ⟨b,1,none⟩)) hS ?_;(try simp only [Act.put,sA,sB,sC]);refine WH.take 3 (some 6) rfl rfl (by kernel_rfl) (by kernel_rfl) (by kernel_rfl) (fun _ _ _ _ h=>h) hS ⟨.slice (some ⟨g,0,none⟩) l.length cap,⟨by kernel_rfl,fun W hW=>by have q:W.cell? ⟨b,1,none⟩=some (.slice (some ⟨g,0,none⟩) l.length cap):=cell_of_row W _ 1 _ _ _ hW;go_simp⟩,?_⟩;(try simp only [Act.put,sA,sB,sC]);refine WH.tk 5 (some 8) (.pointer (some ⟨b,0,none⟩)) hS ?_;(try simp only [Act.put,sA,sB,sC]);refine WH.tk 6 (some 9) (.pointer (some ⟨b,0,none⟩)) hS ?_;(try simp only [Act.put,sA,sB,sC]);refine WH.tk 7 (some 10) (.pointer (some ⟨b,1,none⟩)) hS ?_;(try simp only [Act.put,sA,sB,sC]);refine WH.take 8 (some 11) rfl rfl (by kernel_rfl) (by kernel_rfl) (by kernel_rfl) (fun _ _ _ _ h=>h) hS ⟨.slice (some ⟨g,0,none⟩) l.length cap,⟨by kernel_rfl,fun W hW=>by have q:W.cell? ⟨b,1,none⟩=some (.slice (some ⟨g,0,none⟩) l.length cap):=cell_of_row W _ 1 _ _ _ hW;go_simp⟩,?_⟩;(try simp only [Act.put,sA,sB,sC]);refine WH.take 9 (some 12) rfl rfl (by kernel_rfl) (by kernel_rfl) (by kernel_rfl) (fun _ _ _ _ h=>h) hS ⟨.int .i64 l.length,⟨by kernel_rfl,fun W _=>by kernel_rfl⟩,?_⟩;(try simp only [Act.put,sA,sB,sC]);refine WH.take 4 (some 7) rfl rfl (by kernel_rfl) (by kernel_rfl) (by kernel_rfl) (fun _ _ _ _ h=>h) hS ⟨.pointer (some ⟨g,0,none⟩),⟨by kernel_rfl,fun W _=>by have h:=hSD W;go_simp⟩,?_⟩;(try simp only [Act.put,sA,sB,sC]);refine WH.one 10 (by kernel_rfl) rfl (by kernel_rfl) ?_;intro K hK;go_simp;refine hK.out _ _ HS2.out ?_;clear hK K;(try simp only [Act.put,sA,sB,sC]);refine WH.one 11 (by kernel_rfl) rfl (by kernel_rfl) ?_;intro K hK;go_simp;refine hK.out _ _ HS2.out ?_;clear hK K;(try simp only [Act.put,sA,sB,sC]);refine WH.done (by kernel_rfl) ?_;go_wp2_with fail;go_ret;exact ⟨rfl,hbel.out⟩
set_option maxHeartbeats 2000000 in
theorem ptext_none (b:Nat) (t:Nat) (p:Value) (w:World) (hbk:w.heap[b]? = some (.cells #[p,.slice none 0 0,.int .i64 (t:Int)] 66 (0,0))) :
  Calls Tryz.prog 25 #[.pointer (some ⟨b,0,none⟩)] w fun e w'=>e=.returned (.string (bs []))∧Below w.heap.size w w':=by
 have hUS:∀ W q,(Builtin.unsafeString_ #[85,3] 9 #[.pointer q,.int .i64 0]).run Tryz.prog W=.ok (.string (bs [])) W:=fun W q=>Lib.run_unsafeString_none W _ _ _ q
 have hSD:∀ W:World,(Builtin.unsafeSliceData_ #[41] 85 #[.slice none 0 0]).run Tryz.prog W=.ok (.pointer none) W:=fun W=>rfl
 go_enter Tryz.func25,Tryz.ntmps25
 go_wp2_with fail;refine wp_region_wh (S:=fun W=>W.heap[b]? = some (.cells #[p,.slice none 0 0,.int .i64 (t:Int)] 66 (0,0))) (by kernel_rfl) ?_;have hS:w.drew.heap[b]? = some (.cells #[p,.slice none 0 0,.int .i64 (t:Int)] 66 (0,0)):=hbk;refine WH.tk 0 (some 3) (.pointer (some ⟨b,0,none⟩)) hS ?_;(try simp only [Act.put,sA,sB,sC]);refine WH.tk 1 (some 4) (.pointer (some ⟨b,0,none⟩)) hS ?_;(try simp only [Act.put,sA,sB,sC]);refine WH.tk 2 (some 5) (.pointer (some ⟨b,1,none⟩)) hS ?_;(try simp only [Act.put,sA,sB,sC]);refine WH.take 3 (some 6) rfl rfl (by kernel_rfl) (by kernel_rfl) (by kernel_rfl) (fun _ _ _ _ h=>h) hS ⟨.slice none 0 0,⟨by kernel_rfl,fun W hW=>by have q:W.cell? ⟨b,1,none⟩=some (.slice none 0 0):=cell_of_row W _ 1 _ _ _ hW;go_simp⟩,?_⟩;(try simp only [Act.put,sA,sB,sC]);refine WH.tk 5 (some 8) (.pointer (some ⟨b,0,none⟩)) hS ?_;(try simp only [Act.put,sA,sB,sC]);refine WH.tk 6 (some 9) (.pointer (some ⟨b,0,none⟩)) hS ?_;(try simp only [Act.put,sA,sB,sC]);refine WH.tk 7 (some 10) (.pointer (some ⟨b,1,none⟩)) hS ?_;(try simp only [Act.put,sA,sB,sC]);refine WH.take 8 (some 11) rfl rfl (by kernel_rfl) (by kernel_rfl) (by kernel_rfl) (fun _ _ _ _ h=>h) hS ⟨.slice none 0 0,⟨by kernel_rfl,fun W hW=>by have q:W.cell? ⟨b,1,none⟩=some (.slice none 0 0):=cell_of_row W _ 1 _ _ _ hW;go_simp⟩,?_⟩;(try simp only [Act.put,sA,sB,sC]);refine WH.take 9 (some 12) rfl rfl (by kernel_rfl) (by kernel_rfl) (by kernel_rfl) (fun _ _ _ _ h=>h) hS ⟨.int .i64 0,⟨by kernel_rfl,fun W _=>by kernel_rfl⟩,?_⟩;(try simp only [Act.put,sA,sB,sC]);refine WH.take 4 (some 7) rfl rfl (by kernel_rfl) (by kernel_rfl) (by kernel_rfl) (fun _ _ _ _ h=>h) hS ⟨.pointer none,⟨by kernel_rfl,fun W _=>by have h:=hSD W;go_simp⟩,?_⟩;(try simp only [Act.put,sA,sB,sC]);refine WH.one 10 (by kernel_rfl) rfl (by kernel_rfl) ?_;intro K hK;go_simp;refine hK.out _ _ hS ?_;clear hK K;(try simp only [Act.put,sA,sB,sC]);refine WH.one 11 (by kernel_rfl) rfl (by kernel_rfl) ?_;intro K hK;go_simp;refine hK.out _ _ hS ?_;clear hK K;(try simp only [Act.put,sA,sB,sC]);refine WH.done (by kernel_rfl) ?_;go_wp2_with fail;go_ret;exact ⟨rfl,Below.drew (Below.refl _ w)⟩
def DoesList (F:FuncId) (k:Nat) (sg:List UInt8) (f b g:Nat) (en:Pl) (l:List Tok) (d:Nat):Prop :=
 ∀ w,PS w g en l d→b≠g→w.heap[b]? = some (.cells #[.pointer (some ⟨g,0,none⟩)] 53 (0,0))→pList en f k sg true l d≠.oof →
   Calls Tryz.prog 105 #[.pointer (some ⟨g,0,none⟩),.string (bs sg),.func (.func F) #[] #[.pointer (some ⟨b,0,none⟩)]] w (RetP g en d w ListR (pList en f k sg true l d))
theorem DoesList.ok {F:FuncId} {k:Nat} {sg:List UInt8} {f b g:Nat} {en:Pl} {l:List Tok} {d:Nat} (h:DoesList F k sg f b g en l d) {a:List Nd} {r:List Tok} (hx:pList en f k sg true l d=.ok a r) {w:World} (hp:PS w g en l d) (hn:b≠g) (hb:w.heap[b]? = some (.cells #[.pointer (some ⟨g,0,none⟩)] 53 (0,0))) :
  Calls Tryz.prog 105 #[.pointer (some ⟨g,0,none⟩),.string (bs sg),.func (.func F) #[] #[.pointer (some ⟨b,0,none⟩)]] w fun e w'=>∃ v,e=.returned v∧ListR w.heap.size w' v a∧PS w' g en r d∧ButAt g w w':=by
 have:=h w hp hn hb (by rw [hx];nofun);rw [hx] at this;exact this
theorem DoesList.bad {F:FuncId} {k:Nat} {sg:List UInt8} {f b g:Nat} {en:Pl} {l:List Tok} {d:Nat} (h:DoesList F k sg f b g en l d) {er:Nat} {p:Pl} (hx:pList en f k sg true l d=.bad er p) {w:World} (hp:PS w g en l d) (hn:b≠g) (hb:w.heap[b]? = some (.cells #[.pointer (some ⟨g,0,none⟩)] 53 (0,0))) :
  Calls Tryz.prog 105 #[.pointer (some ⟨g,0,none⟩),.string (bs sg),.func (.func F) #[] #[.pointer (some ⟨b,0,none⟩)]] w fun e w'=>e=.panicked [wrongV er p]∧ButAt g w w':=by
 have:=h w hp hn hb (by rw [hx];nofun);rw [hx] at this;exact this
def DoesDict (f g:Nat) (en:Pl) (l:List Tok) (d:Nat):Prop :=
 ∀ w,PS w g en l d→pList en f 3 [125] true l d≠.oof →
   Calls Tryz.prog 105 #[.pointer (some ⟨g,0,none⟩),.string (bs [125]),.func (.func 163) #[.pointer (some ⟨g,0,none⟩)] #[]] w (RetP g en d w ListR (pList en f 3 [125] true l d))
theorem DoesDict.ok {f g:Nat} {en:Pl} {l:List Tok} {d:Nat} (h:DoesDict f g en l d) {a:List Nd} {r:List Tok} (hx:pList en f 3 [125] true l d=.ok a r) {w:World} (hp:PS w g en l d) :
  Calls Tryz.prog 105 #[.pointer (some ⟨g,0,none⟩),.string (bs [125]),.func (.func 163) #[.pointer (some ⟨g,0,none⟩)] #[]] w fun e w'=>∃ v,e=.returned v∧ListR w.heap.size w' v a∧PS w' g en r d∧ButAt g w w':=by
 have:=h w hp (by rw [hx];nofun);rw [hx] at this;exact this
theorem DoesDict.bad {f g:Nat} {en:Pl} {l:List Tok} {d:Nat} (h:DoesDict f g en l d) {er:Nat} {p:Pl} (hx:pList en f 3 [125] true l d=.bad er p) {w:World} (hp:PS w g en l d) :
  Calls Tryz.prog 105 #[.pointer (some ⟨g,0,none⟩),.string (bs [125]),.func (.func 163) #[.pointer (some ⟨g,0,none⟩)] #[]] w fun e w'=>e=.panicked [wrongV er p]∧ButAt g w w':=by
 have:=h w hp (by rw [hx];nofun);rw [hx] at this;exact this
set_option maxHeartbeats 4000000 in
theorem call_step (f:Nat) (g:Nat) (en:Pl) (l:List Tok) (d:Nat)
  (IH:∀ b l d,DoesList 108 1 [41] f b g en l d) :
  Does 68 #[.pointer (some ⟨g,0,none⟩)] g en l d NodeN (pCall en (f+1) l d):=by
 intro w hp hne;obtain ⟨X,hX⟩:∃ X,X=pCall en (f+1) l d:=⟨_,rfl⟩;rw [← hX] at hne ⊢;rw [pCall] at hX;have HX:=hid hX;clear hX;have hgl:=hp.lt;have hmf:∀ (fn:Fn) (first cap:Array Value) (w:World),(Instr.makeFunc fn first cap).run Tryz.prog w=.ok (.func fn first cap) w:=fun _ _ _ _=>rfl
 have Pg:=hid (fun (b:Nat) (h:w.heap.size+2≤b)=>(show b≠g by omega));obtain ⟨w1,hw,hp1,hB,rb,rr,hgt⟩:=enter2 hp (.cells #[.pointer (some ⟨g,0,none⟩)] 53) (.cells #[.int .i64 0,.string ⟨#[]⟩,.int .i64 0,.int .i64 0,.slice none 0 0] 27);have r_bx:=hid rb;have r_res:=hid rr;have n_bx:w.heap.size≠g:=by omega
 have n_res:w.heap.size+1≠g:=by omega
 have lt_bx:w.heap.size<w1.heap.size:=by omega
 have lt_res:w.heap.size+1<w1.heap.size:=hgt;clear hp rb rr;have hp:=hp1;clear hp1;have HB:=hid hB;clear hB;go_enter Tryz.func68,Tryz.ntmps68
 go_wp2_with fail;rw [← hw.out];clear hw;cases hx:pTake en (nameB l) l with
 | oof=>exact absurd (by rw [HX.out,hx];rfl) hne
 | bad er p =>
   refine wp_region_wh (S:=fun W=>W.heap[w.heap.size]? = some (.cells #[.pointer (some ⟨g,0,none⟩)] 53)) (by kernel_rfl) ?_;obtain ⟨w2,hw,hpn,hbb⟩:=enter_drew hp;clear hp;have hp:=hpn;clear hpn;replace HB:=kb HB hbb;replace r_bx:=kr hbb r_bx n_bx;replace lt_bx:=nL lt_bx hbb.size;replace r_res:=kr hbb r_res n_res;replace lt_res:=nL lt_res hbb.size;replace hgt:=nT hgt hbb.size;rw [← hw.out];clear hw hbb;have hS:=r_bx.out;refine WH.take 0 (some 5) rfl rfl (by kernel_rfl) (by kernel_rfl) (by kernel_rfl) (fun _ _ _ _ h=>h) hS ⟨.pointer (some ⟨g,0,none⟩),⟨by kernel_rfl,fun W hW=>by have q:W.cell? ⟨w.heap.size,0,none⟩=some (.pointer (some ⟨g,0,none⟩)):=cell_of_row W _ 0 _ _ _ hW;go_simp⟩,?_⟩;(try simp only [Act.put,sA,sB,sC]);refine WH.take 1 (some 6) rfl rfl (by kernel_rfl) (by kernel_rfl) (by kernel_rfl) (fun _ _ _ _ h=>h) hS ⟨.pointer (some ⟨g,0,none⟩),⟨by kernel_rfl,fun W hW=>by have q:W.cell? ⟨w.heap.size,0,none⟩=some (.pointer (some ⟨g,0,none⟩)):=cell_of_row W _ 0 _ _ _ hW;go_simp⟩,?_⟩;(try simp only [Act.put,sA,sB,sC]);refine WH.two 2 4 (by kernel_rfl) rfl (by kernel_rfl) rfl (by kernel_rfl) ?_ ?_
   ·intro K hK;go_simp;refine (name_any g en l d _ hp).mono ?_;rintro e w3 ⟨rfl,hbb⟩;replace hp:=hp.keep hbb;replace hbb:=ButAt.of_below (g:=g) hbb;replace HB:=kb HB hbb;replace r_bx:=kr hbb r_bx n_bx;replace lt_bx:=nL lt_bx hbb.size;replace r_res:=kr hbb r_res n_res;replace lt_res:=nL lt_res hbb.size;replace hgt:=nT hgt hbb.size;clear hbb;go_wp2_with fail;clear hS;have hS:=r_bx.out;refine hK.out _ _ hS ?_;clear hK K;(try simp only [Act.put,sA,sB,sC]);refine WH.two 3 4 (by kernel_rfl) rfl (by kernel_rfl) rfl (by kernel_rfl) ?_ ?_
    ·intro K hK;go_simp;refine (take_bad hx hp).mono ?_;rintro e wb ⟨rfl,hbb⟩;go_wp2_with fail;exact ⟨rfl,RetP.of_bad (by have h:=HX.out;rw [hx] at h;exact h) (HB.out.trans hbb)⟩
    ·intro K hK;go_simp;obtain ⟨w4,hw,hpn,hbb,rr,tl⟩:=enter1 hp (.cells #[.int .i64 0,.string ⟨#[]⟩,.int .i64 0,.int .i64 0] 46);have n_zt:w3.heap.size≠g:=by have:=hp.lt;omega
     have g_zt:w.heap.size+2≤w3.heap.size:=hgt;clear hp;have hp:=hpn;clear hpn;have r_zt:=hid rr;clear rr;replace HB:=kb HB hbb;replace r_bx:=kr hbb r_bx n_bx;replace lt_bx:=nL lt_bx hbb.size;replace r_res:=kr hbb r_res n_res;replace lt_res:=nL lt_res hbb.size;replace hgt:=nT hgt hbb.size;have lt_zt:w3.heap.size<w4.heap.size:=tl;clear tl hbb;rw [← hw.out];clear hw;clear hS;have hS:=r_bx.out;refine hK.out _ _ hS ?_;clear hK K;(try simp only [Act.put,sA,sB,sC]);refine WH.one 3 (by kernel_rfl) rfl (by kernel_rfl) ?_;intro K hK;go_simp;refine (take_bad hx hp).mono ?_;rintro e wb ⟨rfl,hbb⟩;go_wp2_with fail;exact ⟨rfl,RetP.of_bad (by have h:=HX.out;rw [hx] at h;exact h) (HB.out.trans hbb)⟩
   ·intro K hK;go_simp;obtain ⟨w5,hw,hpn,hbb,rr,tl⟩:=enter1 hp (.cells #[.int .i64 0,.string ⟨#[]⟩,.int .i64 0,.int .i64 0] 46);have n_zt:w2.heap.size≠g:=by have:=hp.lt;omega
    have g_zt:w.heap.size+2≤w2.heap.size:=hgt;clear hp;have hp:=hpn;clear hpn;have r_zt:=hid rr;clear rr;replace HB:=kb HB hbb;replace r_bx:=kr hbb r_bx n_bx;replace lt_bx:=nL lt_bx hbb.size;replace r_res:=kr hbb r_res n_res;replace lt_res:=nL lt_res hbb.size;replace hgt:=nT hgt hbb.size;have lt_zt:w2.heap.size<w5.heap.size:=tl;clear tl hbb;rw [← hw.out];clear hw;clear hS;have hS:=r_bx.out;refine hK.out _ _ hS ?_;clear hK K;(try simp only [Act.put,sA,sB,sC]);refine WH.one 2 (by kernel_rfl) rfl (by kernel_rfl) ?_;intro K hK;go_simp;refine (name_any g en l d _ hp).mono ?_;rintro e w6 ⟨rfl,hbb⟩;replace hp:=hp.keep hbb;replace hbb:=ButAt.of_below (g:=g) hbb;replace HB:=kb HB hbb;replace r_bx:=kr hbb r_bx n_bx;replace lt_bx:=nL lt_bx hbb.size;replace r_res:=kr hbb r_res n_res;replace lt_res:=nL lt_res hbb.size;replace r_zt:=kr hbb r_zt n_zt;replace lt_zt:=nL lt_zt hbb.size;replace hgt:=nT hgt hbb.size;clear hbb;go_wp2_with fail;clear hS;have hS:=r_bx.out;refine hK.out _ _ hS ?_;clear hK K;(try simp only [Act.put,sA,sB,sC]);refine WH.one 3 (by kernel_rfl) rfl (by kernel_rfl) ?_;intro K hK;go_simp;refine (take_bad hx hp).mono ?_;rintro e wb ⟨rfl,hbb⟩;go_wp2_with fail;exact ⟨rfl,RetP.of_bad (by have h:=HX.out;rw [hx] at h;exact h) (HB.out.trans hbb)⟩
 | ok t r =>
   go_cut [3] (fun tp wx=>∃ z,tp=.pointer (some ⟨z,0,none⟩)∧w.heap.size+2≤z∧wx.heap[z]? = some (.cells #[.int .i64 (t.1:Int),.string (bs t.2.1),.int .i64 (t.2.2.1:Int),.int .i64 (t.2.2.2:Int)] 46)∧wx.heap[w.heap.size]? = some (.cells #[.pointer (some ⟨g,0,none⟩)] 53)∧wx.heap[w.heap.size+1]? = some (.cells #[.int .i64 0,.string ⟨#[]⟩,.int .i64 0,.int .i64 0,.slice none 0 0] 27)∧PS wx g en r d∧ButAt g w wx∧z<wx.heap.size)
   case first =>
    refine wp_region_wh (S:=fun W=>W.heap[w.heap.size]? = some (.cells #[.pointer (some ⟨g,0,none⟩)] 53)) (by kernel_rfl) ?_;obtain ⟨w7,hw,hpn,hbb⟩:=enter_drew hp;clear hp;have hp:=hpn;clear hpn;replace HB:=kb HB hbb;replace r_bx:=kr hbb r_bx n_bx;replace lt_bx:=nL lt_bx hbb.size;replace r_res:=kr hbb r_res n_res;replace lt_res:=nL lt_res hbb.size;replace hgt:=nT hgt hbb.size;rw [← hw.out];clear hw hbb;have hS:=r_bx.out;refine WH.take 0 (some 5) rfl rfl (by kernel_rfl) (by kernel_rfl) (by kernel_rfl) (fun _ _ _ _ h=>h) hS ⟨.pointer (some ⟨g,0,none⟩),⟨by kernel_rfl,fun W hW=>by have q:W.cell? ⟨w.heap.size,0,none⟩=some (.pointer (some ⟨g,0,none⟩)):=cell_of_row W _ 0 _ _ _ hW;go_simp⟩,?_⟩;(try simp only [Act.put,sA,sB,sC]);refine WH.take 1 (some 6) rfl rfl (by kernel_rfl) (by kernel_rfl) (by kernel_rfl) (fun _ _ _ _ h=>h) hS ⟨.pointer (some ⟨g,0,none⟩),⟨by kernel_rfl,fun W hW=>by have q:W.cell? ⟨w.heap.size,0,none⟩=some (.pointer (some ⟨g,0,none⟩)):=cell_of_row W _ 0 _ _ _ hW;go_simp⟩,?_⟩;(try simp only [Act.put,sA,sB,sC]);refine WH.two 2 4 (by kernel_rfl) rfl (by kernel_rfl) rfl (by kernel_rfl) ?_ ?_
    ·intro K hK;go_simp;refine (name_any g en l d _ hp).mono ?_;rintro e w8 ⟨rfl,hbb⟩;replace hp:=hp.keep hbb;replace hbb:=ButAt.of_below (g:=g) hbb;replace HB:=kb HB hbb;replace r_bx:=kr hbb r_bx n_bx;replace lt_bx:=nL lt_bx hbb.size;replace r_res:=kr hbb r_res n_res;replace lt_res:=nL lt_res hbb.size;replace hgt:=nT hgt hbb.size;clear hbb;go_wp2_with fail;clear hS;have hS:=r_bx.out;refine hK.out _ _ hS ?_;clear hK K;(try simp only [Act.put,sA,sB,sC]);refine WH.two 3 4 (by kernel_rfl) rfl (by kernel_rfl) rfl (by kernel_rfl) ?_ ?_
     ·intro K hK;go_simp;refine (take_ok hx hp).mono ?_;rintro e w9 ⟨rfl,hpn,hbb⟩;clear hp;have hp:=hpn;clear hpn;replace HB:=kb HB hbb;replace r_bx:=kr hbb r_bx n_bx;replace lt_bx:=nL lt_bx hbb.size;replace r_res:=kr hbb r_res n_res;replace lt_res:=nL lt_res hbb.size;replace hgt:=nT hgt hbb.size;clear hbb;go_wp2_with fail;clear hS;have hS:=r_bx.out;refine hK.out _ _ hS ?_;clear hK K;(try simp only [Act.put,sA,sB,sC]);refine WH.one 4 (by kernel_rfl) rfl (by kernel_rfl) ?_;intro K hK;go_simp;obtain ⟨w10,hw,hpn,hbb,rr,tl⟩:=enter1 hp (.cells #[.int .i64 0,.string ⟨#[]⟩,.int .i64 0,.int .i64 0] 46);have n_zt:w9.heap.size≠g:=by have:=hp.lt;omega
      have g_zt:w.heap.size+2≤w9.heap.size:=hgt;clear hp;have hp:=hpn;clear hpn;have r_zt:=hid rr;clear rr;replace HB:=kb HB hbb;replace r_bx:=kr hbb r_bx n_bx;replace lt_bx:=nL lt_bx hbb.size;replace r_res:=kr hbb r_res n_res;replace lt_res:=nL lt_res hbb.size;replace hgt:=nT hgt hbb.size;have lt_zt:w9.heap.size<w10.heap.size:=tl;clear tl hbb;rw [← hw.out];clear hw;clear hS;have hS:=r_bx.out;refine hK.out _ _ hS ?_;clear hK K;(try simp only [Act.put,sA,sB,sC]);have HW:=hid (stored4 hp HB.out r_zt.out (by omega) (by omega) (.int .i64 (t.1:Int)) (.string (bs t.2.1)) (.int .i64 (t.2.2.1:Int)) (.int .i64 (t.2.2.2:Int)));obtain ⟨q_zt0,q_zt1,q_zt2,q_zt3,f_zt0,f_zt1,f_zt2,f_zt3⟩:=row4 r_zt.out;refine WH.one 5 (by kernel_rfl) rfl (by kernel_rfl) ?_;intro K hK;go_simp;clear q_zt0 f_zt0 q_zt1 f_zt1 q_zt2 f_zt2 q_zt3 f_zt3;obtain ⟨wz,hw,hpz,hbz,hrz,hsz,hoz⟩:=HW.out;rw [← hw];refine hK.out _ _ ((hoz _ (by omega)).trans r_bx.out) ?_;clear hK K;(try simp only [Act.put,sA,sB,sC]);refine WH.done (by kernel_rfl) ?_;go_wp2_with fail
      go_meet
      case rel=>exact ⟨_,rfl,by omega,hrz,(hoz _ (by omega)).trans r_bx.out,(hoz _ (by omega)).trans r_res.out,hpz,hbz,by omega⟩
     ·intro K hK;go_simp;obtain ⟨w11,hw,hpn,hbb,rr,tl⟩:=enter1 hp (.cells #[.int .i64 0,.string ⟨#[]⟩,.int .i64 0,.int .i64 0] 46);have n_zt:w8.heap.size≠g:=by have:=hp.lt;omega
      have g_zt:w.heap.size+2≤w8.heap.size:=hgt;clear hp;have hp:=hpn;clear hpn;have r_zt:=hid rr;clear rr;replace HB:=kb HB hbb;replace r_bx:=kr hbb r_bx n_bx;replace lt_bx:=nL lt_bx hbb.size;replace r_res:=kr hbb r_res n_res;replace lt_res:=nL lt_res hbb.size;replace hgt:=nT hgt hbb.size;have lt_zt:w8.heap.size<w11.heap.size:=tl;clear tl hbb;rw [← hw.out];clear hw;clear hS;have hS:=r_bx.out;refine hK.out _ _ hS ?_;clear hK K;(try simp only [Act.put,sA,sB,sC]);refine WH.one 3 (by kernel_rfl) rfl (by kernel_rfl) ?_;intro K hK;go_simp;refine (take_ok hx hp).mono ?_;rintro e w12 ⟨rfl,hpn,hbb⟩;clear hp;have hp:=hpn;clear hpn;replace HB:=kb HB hbb;replace r_bx:=kr hbb r_bx n_bx;replace lt_bx:=nL lt_bx hbb.size;replace r_res:=kr hbb r_res n_res;replace lt_res:=nL lt_res hbb.size;replace r_zt:=kr hbb r_zt n_zt;replace lt_zt:=nL lt_zt hbb.size;replace hgt:=nT hgt hbb.size;clear hbb;go_wp2_with fail;clear hS;have hS:=r_bx.out;refine hK.out _ _ hS ?_;clear hK K;(try simp only [Act.put,sA,sB,sC]);have HW:=hid (stored4 hp HB.out r_zt.out (by omega) (by omega) (.int .i64 (t.1:Int)) (.string (bs t.2.1)) (.int .i64 (t.2.2.1:Int)) (.int .i64 (t.2.2.2:Int)));obtain ⟨q_zt0,q_zt1,q_zt2,q_zt3,f_zt0,f_zt1,f_zt2,f_zt3⟩:=row4 r_zt.out;refine WH.one 5 (by kernel_rfl) rfl (by kernel_rfl) ?_;intro K hK;go_simp;clear q_zt0 f_zt0 q_zt1 f_zt1 q_zt2 f_zt2 q_zt3 f_zt3;obtain ⟨wz,hw,hpz,hbz,hrz,hsz,hoz⟩:=HW.out;rw [← hw];refine hK.out _ _ ((hoz _ (by omega)).trans r_bx.out) ?_;clear hK K;(try simp only [Act.put,sA,sB,sC]);refine WH.done (by kernel_rfl) ?_;go_wp2_with fail
      go_meet
      case rel=>exact ⟨_,rfl,by omega,hrz,(hoz _ (by omega)).trans r_bx.out,(hoz _ (by omega)).trans r_res.out,hpz,hbz,by omega⟩
    ·intro K hK;go_simp;obtain ⟨w13,hw,hpn,hbb,rr,tl⟩:=enter1 hp (.cells #[.int .i64 0,.string ⟨#[]⟩,.int .i64 0,.int .i64 0] 46);have n_zt:w7.heap.size≠g:=by have:=hp.lt;omega
     have g_zt:w.heap.size+2≤w7.heap.size:=hgt;clear hp;have hp:=hpn;clear hpn;have r_zt:=hid rr;clear rr;replace HB:=kb HB hbb;replace r_bx:=kr hbb r_bx n_bx;replace lt_bx:=nL lt_bx hbb.size;replace r_res:=kr hbb r_res n_res;replace lt_res:=nL lt_res hbb.size;replace hgt:=nT hgt hbb.size;have lt_zt:w7.heap.size<w13.heap.size:=tl;clear tl hbb;rw [← hw.out];clear hw;clear hS;have hS:=r_bx.out;refine hK.out _ _ hS ?_;clear hK K;(try simp only [Act.put,sA,sB,sC]);refine WH.one 2 (by kernel_rfl) rfl (by kernel_rfl) ?_;intro K hK;go_simp;refine (name_any g en l d _ hp).mono ?_;rintro e w14 ⟨rfl,hbb⟩;replace hp:=hp.keep hbb;replace hbb:=ButAt.of_below (g:=g) hbb;replace HB:=kb HB hbb;replace r_bx:=kr hbb r_bx n_bx;replace lt_bx:=nL lt_bx hbb.size;replace r_res:=kr hbb r_res n_res;replace lt_res:=nL lt_res hbb.size;replace r_zt:=kr hbb r_zt n_zt;replace lt_zt:=nL lt_zt hbb.size;replace hgt:=nT hgt hbb.size;clear hbb;go_wp2_with fail;clear hS;have hS:=r_bx.out;refine hK.out _ _ hS ?_;clear hK K;(try simp only [Act.put,sA,sB,sC]);refine WH.one 3 (by kernel_rfl) rfl (by kernel_rfl) ?_;intro K hK;go_simp;refine (take_ok hx hp).mono ?_;rintro e w15 ⟨rfl,hpn,hbb⟩;clear hp;have hp:=hpn;clear hpn;replace HB:=kb HB hbb;replace r_bx:=kr hbb r_bx n_bx;replace lt_bx:=nL lt_bx hbb.size;replace r_res:=kr hbb r_res n_res;replace lt_res:=nL lt_res hbb.size;replace r_zt:=kr hbb r_zt n_zt;replace lt_zt:=nL lt_zt hbb.size;replace hgt:=nT hgt hbb.size;clear hbb;go_wp2_with fail;clear hS;have hS:=r_bx.out;refine hK.out _ _ hS ?_;clear hK K;(try simp only [Act.put,sA,sB,sC]);have HW:=hid (stored4 hp HB.out r_zt.out (by omega) (by omega) (.int .i64 (t.1:Int)) (.string (bs t.2.1)) (.int .i64 (t.2.2.1:Int)) (.int .i64 (t.2.2.2:Int)));obtain ⟨q_zt0,q_zt1,q_zt2,q_zt3,f_zt0,f_zt1,f_zt2,f_zt3⟩:=row4 r_zt.out;refine WH.one 5 (by kernel_rfl) rfl (by kernel_rfl) ?_;intro K hK;go_simp;clear q_zt0 f_zt0 q_zt1 f_zt1 q_zt2 f_zt2 q_zt3 f_zt3;obtain ⟨wz,hw,hpz,hbz,hrz,hsz,hoz⟩:=HW.out;rw [← hw];refine hK.out _ _ ((hoz _ (by omega)).trans r_bx.out) ?_;clear hK K;(try simp only [Act.put,sA,sB,sC]);refine WH.done (by kernel_rfl) ?_;go_wp2_with fail
     go_meet
     case rel=>exact ⟨_,rfl,by omega,hrz,(hoz _ (by omega)).trans r_bx.out,(hoz _ (by omega)).trans r_res.out,hpz,hbz,by omega⟩
   case rest =>
    obtain ⟨z_t,rfl,g_t,hz,hx0,hx1,hpn,hbb,lt_t⟩:=hcut;clear hp;have hp:=hpn;clear hpn;replace HB:=hid hbb;replace r_bx:=hid hx0;replace r_res:=hid hx1;have r_t:=hid hz;have n_t:z_t≠g:=by omega
    replace hgt:w.heap.size+2≤wc.heap.size:=by omega
    replace lt_bx:w.heap.size<wc.heap.size:=by omega
    replace lt_res:w.heap.size+1<wc.heap.size:=by omega
    clear hz hx0 hx1 hbb;replace HX:=thk HX hx;clear hx;go_wp2_with fail;refine wp_region_wh (S:=fun W=>W.heap[w.heap.size]? = some (.cells #[.pointer (some ⟨g,0,none⟩)] 53)) (by kernel_rfl) ?_;obtain ⟨w16,hw,hpn,hbb⟩:=enter_drew hp;clear hp;have hp:=hpn;clear hpn;replace HB:=kb HB hbb;replace r_bx:=kr hbb r_bx n_bx;replace lt_bx:=nL lt_bx hbb.size;replace r_res:=kr hbb r_res n_res;replace lt_res:=nL lt_res hbb.size;replace r_t:=kr hbb r_t n_t;replace lt_t:=nL lt_t hbb.size;replace hgt:=nT hgt hbb.size;rw [← hw.out];clear hw hbb;have hS:=r_bx.out;refine WH.take 0 (some 9) rfl rfl (by kernel_rfl) (by kernel_rfl) (by kernel_rfl) (fun _ _ _ _ h=>h) hS ⟨.pointer (some ⟨g,0,none⟩),⟨by kernel_rfl,fun W hW=>by have q:W.cell? ⟨w.heap.size,0,none⟩=some (.pointer (some ⟨g,0,none⟩)):=cell_of_row W _ 0 _ _ _ hW;go_simp⟩,?_⟩;(try simp only [Act.put,sA,sB,sC]);refine WH.take 1 (some 10) rfl rfl (by kernel_rfl) (by kernel_rfl) (by kernel_rfl) (fun _ _ _ _ h=>h) hS ⟨.pointer (some ⟨g,0,none⟩),⟨by kernel_rfl,fun W hW=>by have q:W.cell? ⟨w.heap.size,0,none⟩=some (.pointer (some ⟨g,0,none⟩)):=cell_of_row W _ 0 _ _ _ hW;go_simp⟩,?_⟩;(try simp only [Act.put,sA,sB,sC]);refine WH.one 2 (by kernel_rfl) rfl (by kernel_rfl) ?_;intro K hK;go_simp;refine (sign_any 0 [40] g en r d _ hp).mono ?_;rintro e w17 ⟨rfl,hbb⟩;replace hp:=hp.keep hbb;replace hbb:=ButAt.of_below (g:=g) hbb;replace HB:=kb HB hbb;replace r_bx:=kr hbb r_bx n_bx;replace lt_bx:=nL lt_bx hbb.size;replace r_res:=kr hbb r_res n_res;replace lt_res:=nL lt_res hbb.size;replace r_t:=kr hbb r_t n_t;replace lt_t:=nL lt_t hbb.size;replace hgt:=nT hgt hbb.size;clear hbb;go_wp2_with fail;clear hS;have hS:=r_bx.out;refine hK.out _ _ hS ?_;clear hK K;(try simp only [Act.put,sA,sB,sC]);refine WH.one 3 (by kernel_rfl) rfl (by kernel_rfl) ?_;intro K hK;go_simp;cases hx:pOpen en (signB r 0 [40]) d r with
    | oof=>exact absurd (by have h:=HX.out;rw [hx] at h;exact h) hne
    | bad er p =>
      refine (open_bad hx hp).mono ?_;rintro e wb ⟨rfl,hbb⟩;go_wp2_with fail;exact ⟨rfl,RetP.of_bad (by have h:=HX.out;rw [hx] at h;exact h) (HB.out.trans hbb)⟩
    | ok t2 r2 =>
      refine (open_ok hx hp).mono ?_;rintro e w18 ⟨rfl,hpn,hbb⟩;clear hp;have hp:=hpn;clear hpn;replace HB:=kb HB hbb;replace r_bx:=kr hbb r_bx n_bx;replace lt_bx:=nL lt_bx hbb.size;replace r_res:=kr hbb r_res n_res;replace lt_res:=nL lt_res hbb.size;replace r_t:=kr hbb r_t n_t;replace lt_t:=nL lt_t hbb.size;replace hgt:=nT hgt hbb.size;clear hbb;replace HX:=thk HX hx;clear hx;go_wp2_with fail;clear hS;have hS:=r_bx.out;refine hK.out _ _ hS ?_;clear hK K;(try simp only [Act.put,sA,sB,sC]);refine WH.done (by kernel_rfl) ?_;clear hS;obtain ⟨q_bx0,f_bx0⟩:=row1 r_bx.out;go_wp2_with fail;clear q_bx0 f_bx0;cases hx:pList en f 1 [41] true r2 (d+1) with
      | oof=>exact absurd (by have h:=HX.out;rw [hx] at h;exact h) hne
      | bad er p =>
        refine ((IH _ r2 (d+1)).bad hx hp n_bx r_bx.out).mono ?_;rintro e wb ⟨rfl,hbb⟩;go_wp2_with fail;exact ⟨rfl,RetP.of_bad (by have h:=HX.out;rw [hx] at h;exact h) (HB.out.trans hbb)⟩
      | ok k r3 =>
        refine ((IH _ r2 (d+1)).ok hx hp n_bx r_bx.out).mono ?_;rintro e w19 ⟨_,rfl,⟨ns_k,hG,hi,hl_k⟩,hpn,hbb⟩;obtain ⟨a_k,m_k,hv,hc_k,hm_k⟩:=hG.shape;subst hv;have b_k:w.heap.size+2≤w18.heap.size:=hgt;clear hp;have hp:=hpn;clear hpn;have i_k:=hid hi;have hg:=hid (hG.two (B:=w.heap.size+2) hgt);have u_k_bx:=lt_bx;have u_k_res:=lt_res;have u_k_t:=lt_t;replace HB:=kb HB hbb;replace r_bx:=kr hbb r_bx n_bx;replace lt_bx:=nL lt_bx hbb.size;replace r_res:=kr hbb r_res n_res;replace lt_res:=nL lt_res hbb.size;replace r_t:=kr hbb r_t n_t;replace lt_t:=nL lt_t hbb.size;replace hgt:=nT hgt hbb.size;have G_k:=hg;clear hi hG hbb hg;replace HX:=thk HX hx;clear hx;obtain ⟨q_bx0,f_bx0⟩:=row1 r_bx.out;go_wp2_with fail;clear q_bx0 f_bx0;cases hx:pEat en [41] r3 with
        | oof=>exact absurd (by have h:=HX.out;rw [hx] at h;exact h) hne
        | bad er p =>
          refine (close_bad hx hp).mono ?_;rintro e wb ⟨rfl,hbb⟩;go_wp2_with fail;exact ⟨rfl,RetP.of_bad (by have h:=HX.out;rw [hx] at h;exact h) (HB.out.trans hbb)⟩
        | ok t3 r4 =>
          refine (close_ok hx hp).mono ?_;rintro e w20 ⟨rfl,hpn,hbb⟩;clear hp;have hp:=hpn;clear hpn;replace HB:=kb HB hbb;replace r_bx:=kr hbb r_bx n_bx;replace lt_bx:=nL lt_bx hbb.size;replace r_res:=kr hbb r_res n_res;replace lt_res:=nL lt_res hbb.size;replace r_t:=kr hbb r_t n_t;replace lt_t:=nL lt_t hbb.size;replace G_k:=hid (G_k.out.keep hbb (by omega) (by omega));replace hgt:=nT hgt hbb.size;clear hbb;replace HX:=thk HX hx;clear hx;obtain ⟨q_t0,q_t1,q_t2,q_t3,f_t0,f_t1,f_t2,f_t3⟩:=row4 r_t.out;go_wp2_with fail;clear q_t0 f_t0 q_t1 f_t1 q_t2 f_t2 q_t3 f_t3;refine (node_any 14 t t.2.1 a_k ns_k.length m_k _).mono ?_;rintro e w21 ⟨rfl,hbb⟩;replace hp:=hp.keep hbb;replace hbb:=ButAt.of_below (g:=g) hbb;replace HB:=kb HB hbb;replace r_bx:=kr hbb r_bx n_bx;replace lt_bx:=nL lt_bx hbb.size;replace r_res:=kr hbb r_res n_res;replace lt_res:=nL lt_res hbb.size;replace r_t:=kr hbb r_t n_t;replace lt_t:=nL lt_t hbb.size;replace G_k:=hid (G_k.out.keep hbb (by omega) (by omega));replace hgt:=nT hgt hbb.size;clear hbb;have hzz:=hgl;have HW:=hid (stored5 hp HB.out r_res.out (by omega) (by omega) (.int .i64 14) (.string (bs t.2.1)) (.int .i64 (t.2.2.1:Int)) (.int .i64 (t.2.2.2:Int)) (.slice a_k ns_k.length m_k));obtain ⟨q_res0,q_res1,q_res2,q_res3,q_res4,f_res0,f_res1,f_res2,f_res3,f_res4⟩:=row5 r_res.out;go_wp2_with fail;obtain ⟨wz,hw,hpz,hbz,hrz,hsz,hoz⟩:=HW.out;rw [← hw];refine bodyPost_ret (results_cell_row rfl _ _ (w.heap.size+1) _ _ _ _ rfl hrz Tryz.underlying27 rfl (by kernel_rfl)) rfl (RetP.of_ok HX.out ?_ hpz hbz);have S:Same (w.heap.size+2≤·) w21 wz:=⟨by omega,fun k _ (hk:w.heap.size+2≤k)=>hoz k (by omega)⟩;exact ⟨_,_,_,_,ns_k,a_k,m_k,rfl,is_mk (k:=14) (p:=(t.2.2.1,t.2.2.2)) i_k.out _ _,HeldN.less (P:=fun b=>w.heap.size+2≤b) (fun b _ (hb:w.heap.size+2≤b)=>(show w.heap.size≤b by omega)) (HeldN.keep S ((G_k.out.one (by omega)).kids _ _ _ _))⟩
theorem pOne_entry (en:Pl) (f:Nat) (l:List Tok) (d:Nat):pOne en (f+1) 3 l d=(pTake en (kindB l 3) l).then fun t r=>(pEat en [58] r).then fun _ r=>(pExpr en f r d).then fun x r=>.ok [.mk 11 t.2.1 t.2.2 [],x] r:=by
 rw [pOne,if_neg (by decide),if_neg (by decide),if_neg (by decide)]
theorem kind_at (en:Pl) (l:List Tok) (k:Nat):kindB l k=((atT en l 0).1 == k):=by unfold kindB;rw [(at_kind en l 0).1]
set_option maxHeartbeats 4000000 in
theorem entry_step (f:Nat) (g:Nat) (en:Pl) (l:List Tok) (d:Nat)
  (IH:∀ l,Does 65 #[.pointer (some ⟨g,0,none⟩)] g en l d NodeN (pExpr en f l d)) :
  Does 163 #[.pointer (some ⟨g,0,none⟩)] g en l d ListR (pOne en (f+1) 3 l d):=by
 intro w hp hne;obtain ⟨X,hX⟩:∃ X,X=pOne en (f+1) 3 l d:=⟨_,rfl⟩;rw [← hX] at hne ⊢;rw [pOne_entry] at hX;have HX:=hid hX;clear hX;have hgl:=hp.lt;have hk:=kind_at en l 3;have Pg:=hid (fun (b:Nat) (h:w.heap.size≤b)=>(show b≠g by omega));have HB:=hid (ButAt.refl g w);have hgt:=Nat.le_refl w.heap.size;go_enter Tryz.func163,Tryz.ntmps163
 go_wp2_with fail;refine (at_any 0 g en l d _ hp).mono ?_;rintro e w2 ⟨rfl,hbb⟩;replace hp:=hp.keep hbb;replace hbb:=ButAt.of_below (g:=g) hbb;replace HB:=kb HB hbb;replace hgt:=nT hgt hbb.size;clear hbb;generalize atT en l 0=t0 at *;obtain ⟨b,hb,q⟩:∃ b,kindB l 3=b∧((t0.1:Int) == 3)=b:=⟨_,rfl,by rw [hk,Bool.eq_iff_iff];simp;omega⟩;rw [hb] at HX;clear hk hb;go_wp2_with fail;cases hx:pTake en b l with
 | oof=>exact absurd (by rw [HX.out,hx];rfl) hne
 | bad er p =>
   refine (take_bad hx hp).mono ?_;rintro e wb ⟨rfl,hbb⟩;go_wp2_with fail;exact ⟨rfl,RetP.of_bad (by have h:=HX.out;rw [hx] at h;exact h) (HB.out.trans hbb)⟩
 | ok t r =>
   refine (take_ok hx hp).mono ?_;rintro e w3 ⟨rfl,hpn,hbb⟩;clear hp;have hp:=hpn;clear hpn;replace HB:=kb HB hbb;replace hgt:=nT hgt hbb.size;clear hbb;go_wp2_with fail;obtain ⟨w4,hw,hpn,hbb,rr,tl⟩:=enter1 hp (.cells #[.int .i64 (t.1:Int),.string (bs t.2.1),.int .i64 (t.2.2.1:Int),.int .i64 (t.2.2.2:Int)] 46);have n_t:w3.heap.size≠g:=by have:=hp.lt;omega
   have g_t:w.heap.size≤w3.heap.size:=hgt;clear hp;have hp:=hpn;clear hpn;have r_t:=hid rr;clear rr;replace HB:=kb HB hbb;replace hgt:=nT hgt hbb.size;have lt_t:w3.heap.size<w4.heap.size:=tl;clear tl hbb;rw [← hw.out];clear hw;replace HX:=thk HX hx;clear hx;clear q;cases hx:pEat en [58] r with
   | oof=>exact absurd (by rw [HX.out,hx];rfl) hne
   | bad er p =>
     refine (eat_bad hx hp).mono ?_;rintro e wb ⟨rfl,hbb⟩;go_wp2_with fail;exact ⟨rfl,RetP.of_bad (by have h:=HX.out;rw [hx] at h;exact h) (HB.out.trans hbb)⟩
   | ok t3 r2 =>
     refine (eat_ok hx hp).mono ?_;rintro e w5 ⟨rfl,hpn,hbb⟩;clear hp;have hp:=hpn;clear hpn;replace HB:=kb HB hbb;replace r_t:=kr hbb r_t n_t;replace lt_t:=nL lt_t hbb.size;replace hgt:=nT hgt hbb.size;clear hbb;replace HX:=thk HX hx;clear hx;obtain ⟨q_t0,q_t1,q_t2,q_t3,f_t0,f_t1,f_t2,f_t3⟩:=row4 r_t.out;go_wp2_with fail;clear q_t0 f_t0 q_t1 f_t1 q_t2 f_t2 q_t3 f_t3;refine (node_any 11 t t.2.1 none 0 0 _).mono ?_;rintro e w6 ⟨rfl,hbb⟩;replace hp:=hp.keep hbb;replace hbb:=ButAt.of_below (g:=g) hbb;replace HB:=kb HB hbb;replace r_t:=kr hbb r_t n_t;replace lt_t:=nL lt_t hbb.size;replace hgt:=nT hgt hbb.size;clear hbb;go_wp2_with fail;cases hx:pExpr en f r2 d with
     | oof=>exact absurd (by rw [HX.out,hx];rfl) hne
     | bad er p =>
       refine ((IH r2).bad hx hp).mono ?_;rintro e wb ⟨rfl,hbb⟩;go_wp2_with fail;exact ⟨rfl,RetP.of_bad (by have h:=HX.out;rw [hx] at h;exact h) (HB.out.trans hbb)⟩
     | ok x r3 =>
       refine ((IH r2).ok hx hp).mono ?_;rintro e w7 ⟨_,rfl,⟨k_x,t_x,l_x,c_x,ks_x,a_x,m_x,rfl,hi,hh⟩,hpn,hbb⟩;clear hp;have hp:=hpn;clear hpn;have i_x:=hid hi;have hy:=hid (HeldN.less (P':=fun b=>w.heap.size≤b) (fun b _ (hb:w6.heap.size≤b)=>(show w.heap.size≤b by omega)) hh);replace HB:=kb HB hbb;replace r_t:=kr hbb r_t n_t;replace lt_t:=nL lt_t hbb.size;replace hgt:=nT hgt hbb.size;have h_x:=hy;clear hy hi hh hbb;replace HX:=thk HX hx;clear hx;go_wp2_with fail;obtain ⟨w8,hw,hpn,hbb,rr,tl⟩:=enter1 hp (.cells #[.int .i64 11,.string (bs t.2.1),.int .i64 (t.2.2.1:Int),.int .i64 (t.2.2.2:Int),.slice none 0 0,.int .i64 k_x,.string (bs t_x),.int .i64 l_x,.int .i64 c_x,.slice a_x ks_x.length m_x] 27);have n_kd:w7.heap.size≠g:=by have:=hp.lt;omega
       have g_kd:w.heap.size≤w7.heap.size:=hgt;clear hp;have hp:=hpn;clear hpn;have G_kd:=hid (Grow2.laid (B:=w.heap.size) (ns:=[NM.mk 11 t.2.1 t.2.2.1 t.2.2.2 [] none 0,(NM.mk k_x t_x l_x c_x ks_x a_x m_x)]) rr rfl (by simp) hgt (heldNs_two (held_none _ _ _ _) h_x.out) (hbb.same Pg.out));have hl_kd:2≤200000:=by omega
       have u_kd_t:=lt_t;have r_kd:=hid rr;clear rr;replace HB:=kb HB hbb;replace r_t:=kr hbb r_t n_t;replace lt_t:=nL lt_t hbb.size;replace h_x:=kh hbb Pg h_x;replace hgt:=nT hgt hbb.size;have lt_kd:w7.heap.size<w8.heap.size:=tl;clear tl hbb;rw [← hw.out];clear hw;go_wp2_with fail;go_ret;refine RetP.of_ok HX.out ?_ hp HB.out;exact ⟨_,G_kd.out.one (by omega),are_two (is_mk (k:=11) (p:=(t.2.2.1,t.2.2.2)) are_nil _ _) i_x.out,by simp⟩
end Go.Proofs.YtfgiihpopngbkaaGreatDoor
