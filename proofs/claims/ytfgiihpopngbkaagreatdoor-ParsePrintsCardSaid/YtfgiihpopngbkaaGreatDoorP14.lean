/- Lemmas and walks that the statement needs: Page, PageText, ParseCall, ParseEntry, ParsePrimA. -/
import Derived.Test.YtfgiihpopngbkaaGreatDoorP12
import Derived.Test.YtfgiihpopngbkaaGreatDoorP13
import Derived.Deep.DeepCutAuto
namespace Go.Proofs.YtfgiihpopngbkaaGreatDoor
set_option maxRecDepth 100000
set_option maxHeartbeats 8000000
open Go.RowKit
open List renaming setIfInBounds_toArray→sA,set_cons_zero→sB,set_cons_succ→sC
open Nat renaming le_trans→nT
open Go.Act renaming put→aPu
open Nat renaming le_refl→nRe
open _root_.Bool renaming and_eq_true→bAe
open Go renaming cell_of_row→cRo
theorem nR:∀ l:List Tr,kG l=true→l.all mE=true
 | [],_=>rfl
 | [_],h=>by cases h
 | a::b::r,h=>by
   have h':(a.kd == 11 && mE a && mE b && kG r)=true:=h;simp only [bAe] at h';rw [List.all_cons,List.all_cons,h'.1.1.2,h'.1.2,nR r h'.2];rfl
theorem name_ne' {t:List UInt8} (h:aM t=true):t≠[]:=by
 rintro rfl;exact absurd h (by decide)
theorem gf {p:Tr→Bool} {ks:List NM} (h:(NM.trs ks).all p=true):∀ j (hj:j<ks.length),p ks[j].tr=true:=by
 intro j hj;rw [eO] at h;exact List.all_eq_true.1 h ks[j] (List.getElem_mem hj)
structure uS (pb N:Nat) (x:NM):Prop where
 e:mE x.tr=true→fy 80 pb (fun n=>oP n x.tr) x
 a:mA x.tr=true→fy 79 pb (fun n=>oP n x.tr) x
 p:mP x.tr=true→fy 83 pb (fun n=>oP n x.tr) x
 b:mB x.tr=true→∀ T,T+N≤99990→jc T 81 pb (fun n=>oP n x.tr) x
 s:mS x.tr=true→∀ T,T+N≤99990→jc T 42 pb (fun n=>oP n x.tr) x
theorem xL (t:List UInt8) (x:Tr) (n:Nat):oP n (.mk 15 t [x])=gK n (.mk 15 t [x]):=by
 rw [bP,c8];show es n 15 t _ _=_;unfold es gK;rw [show (Tr.mk 15 t [x]).tx=t from rfl];by_cases h:t=[]
 ·simp [h,Tr.kids]
 ·simp [h,Tr.kids]
theorem sP (pb:Nat):∀ (N:Nat) (x:NM),x.hi≤N→x.fit→uS pb N x
 | 0,.mk k t l c ks a m,h,_=>by rw [ij] at h;omega
 | N+1,.mk k t l c ks a m,h,hf=>by
   rw [ij] at h;obtain ⟨ht,hk,hfs⟩:=kY hf;have ih:∀ j (hj:j<ks.length),uS pb N ks[j]:=fun j hj=>sP pb N ks[j] (iq (by omega) j hj) (gw hfs j hj)
   refine ⟨?_,?_,?_,?_,?_⟩
   ·intro hm;have hE:isE k=true:=by unfold mE at hm;rw [aq,bX] at hm;simp only [bAe] at hm;exact hm.1
    unfold isE at hE;simp only [Bool.or_eq_true,beq_iff_eq] at hE;rw [aq] at hm;rcases hE with (((((rfl | rfl) | rfl) | rfl) | rfl) | rfl) | rfl
    ·exact zcd pb t l c ks a m
    ·exact za9 pb t l c ks a m
    ·exact zaF pb t l c ks a m ht
    ·rw [uK,bAe] at hm;exact zat pb t l c ks a m hk (fun j hj=>(ih j hj).e (gf hm.2 j hj))
    ·rw [uP,bAe] at hm;exact zY pb t l c ks a m hk (fun j hj=>(ih j hj).e (gf (nR _ hm.2) j hj))
    ·rw [vh,bAe] at hm;exact zbl pb t l c ks a m hk (fun j hj=>(ih j hj).a (gf hm.2 j hj))
    ·rw [kE] at hm;simp only [bAe,decide_eq_true_eq] at hm;obtain ⟨⟨hl,-⟩,ha⟩:=hm;rw [cK] at hl;have hk':=gf ha;by_cases hn:t=cj
     ·rw [if_pos hn] at hl;subst hn
      match ks,hl,ih,hk' with
      | [.mk kx tx lx cx ksx ax mx],_,ih,hk'=>exact yP pb l c kx tx lx cx ksx ax mx a m ((ih 0 (by simp)).e (hk' 0 (by simp)))
     ·rw [if_neg hn] at hl
      match ks,hl,ih,hk' with
      | [.mk kx tx lx cx ksx ax mx,.mk ky ty ly cy ksy ay my],_,ih,hk' =>
        exact zg pb t l c kx tx lx cx ksx ax mx ky ty ly cy ksy ay my a m (by simpa [cj] using hn) ((ih 0 (by simp)).e (hk' 0 (by simp))) ((ih 1 (by simp)).e (hk' 1 (by simp)))
   ·intro hm;have hE:k=15:=by unfold mA at hm;rw [aq,bX] at hm;simp only [bAe,beq_iff_eq] at hm;exact hm.1
    subst hE;rw [aq,kI,bAe] at hm
    match ks,hm,ih with
    | [],hm,_=>rw [ar] at hm;exact absurd hm.2 (by decide)
    | _::_::_,hm,_=>rw [ai,ai] at hm;exact absurd hm.2 (by simp [iA])
    | [.mk kx tx lx cx ksx ax mx],hm,ih =>
      rw [ai,ar] at hm;have hx:=(ih 0 (by simp)).e hm.2;have e:(fun n=>oP n (NM.mk 15 t l c [.mk kx tx lx cx ksx ax mx] a m).tr)=fun n=>gK n (NM.mk 15 t l c [.mk kx tx lx cx ksx ax mx] a m).tr:=funext fun n=>by
       rw [aq,ai,ar];exact xL t _ n
      rw [e];cases t with
      | nil=>exact zaY pb 15 l c kx tx lx cx ksx ax mx a m hx
      | cons tc tr=>exact vp pb 15 (tc::tr) l c kx tx lx cx ksx ax mx a m rfl hx
   ·intro hm;have hE:k=7:=by unfold mP at hm;rw [aq,bX] at hm;simp only [bAe,beq_iff_eq] at hm;exact hm.1
    subst hE;rw [aq,jl,bAe] at hm
    match ks,hm,ih with
    | [],hm,_=>rw [ar] at hm;exact absurd hm.2 (by decide)
    | _::_::_::_,hm,_=>rw [ai,ai,ai] at hm;exact absurd hm.2 (by simp [eT])
    | [.mk kx tx lx cx ksx ax mx],_,_=>exact zbi pb t l c kx tx lx cx ksx ax mx a m
    | [.mk kx tx lx cx ksx ax mx,.mk ky ty ly cy ksy ay my],hm,ih =>
      rw [ai,ai,ar] at hm;have hy:mE (NM.mk ky ty ly cy ksy ay my).tr=true:=by have:=hm.2;unfold eT at this;simp only [bAe] at this;exact this.2
      exact zaD pb t l c kx tx lx cx ksx ax mx ky ty ly cy ksy ay my a m ((ih 1 (by simp)).e hy)
   ·intro hm T hT;have hE:k=8:=by unfold mB at hm;rw [aq,bX] at hm;simp only [bAe,beq_iff_eq] at hm;exact hm.1
    subst hE;rw [aq,zbe,bAe] at hm;exact zak pb t l c ks a m T (by omega) (fun acc tb w v h hl htb aF=>pZ pb (T+1) ks hk (fun j hj acc tb w h hh htb aF=>(ih j hj).s (gf hm.2 j hj) (T+1) (by omega) acc tb w h hh htb aF) acc tb w v h hl htb (by omega) aF)
   ·intro hm T hT;have hE:isS k=true:=by unfold mS at hm;rw [aq,bX] at hm;simp only [bAe] at hm;exact hm.1
    unfold isS at hE;simp only [Bool.or_eq_true,beq_iff_eq] at hE;rw [aq] at hm;rcases hE with (((rfl | rfl) | rfl) | rfl) | rfl
    ·rw [xE,bAe] at hm
     match ks,hm,ih with
     | [],hm,_=>rw [ar] at hm;exact absurd hm.2 (by decide)
     | _::_::_,hm,_=>rw [ai,ai] at hm;exact absurd hm.2 (by simp [iA])
     | [.mk kx tx lx cx ksx ax mx],hm,ih =>
       rw [ai,ar] at hm;have htn:=name_ne' hm.1;exact zcl pb t l c kx tx lx cx ksx ax mx a m T (by omega) htn (vp pb 2 t l c kx tx lx cx ksx ax mx a m (by simpa using htn) ((ih 0 (by simp)).e hm.2))
    ·rw [pA,bAe] at hm;obtain ⟨h1,h2⟩:=hm;have h1':t=[]:=by simpa using h1
     subst h1'
     match ks,h2,ih with
     | [],h2,_=>rw [ar] at h2;exact absurd h2 (by decide)
     | _::_::_,h2,_=>rw [ai,ai] at h2;exact absurd h2 (by simp [doM])
     | [.mk kx tx lx cx ksx ax mx],h2,ih =>
       rw [ai,ar] at h2;have hx:mE (NM.mk kx tx lx cx ksx ax mx).tr=true:=by unfold doM at h2;simp only [bAe] at h2;exact h2.2
       exact zbJ pb l c kx tx lx cx ksx ax mx a m T (by omega) ((ih 0 (by simp)).e hx)
    ·rw [vT,bAe] at hm;obtain ⟨h1,h2⟩:=hm
     match ks,h2,ih with
     | [],h2,_=>rw [ar] at h2;exact absurd h2 (by decide)
     | [_],h2,_=>rw [ai,ar] at h2;exact absurd h2 (by simp [ln])
     | _::_::_::_,h2,_=>rw [ai,ai,ai] at h2;exact absurd h2 (by simp [ln])
     | [.mk kx tx lx cx ksx ax mx,.mk ky ty ly cy ksy ay my],h2,ih =>
       rw [ai,ai,ar] at h2;unfold ln at h2;simp only [bAe] at h2;exact zbM pb t l c kx tx lx cx ksx ax mx ky ty ly cy ksy ay my a m T (by omega) ((ih 0 (by simp)).e h2.1) ((ih 1 (by simp)).b h2.2 T (by omega))
    ·rw [pk,bAe] at hm;obtain ⟨h1,h2⟩:=hm;have h1':t=[]:=by simpa using h1
     subst h1'
     match ks,h2,ih with
     | [],h2,_=>rw [ar] at h2;exact absurd h2 (by decide)
     | [_],h2,_=>rw [ai,ar] at h2;exact absurd h2 (by simp [ifM])
     | _::_::_::_::_,h2,_=>rw [ai,ai,ai,ai] at h2;exact absurd h2 (by simp [ifM])
     | [.mk kx tx lx cx ksx ax mx,.mk ky ty ly cy ksy ay my],h2,ih =>
       rw [ai,ai,ar] at h2;unfold ifM at h2;simp only [bAe] at h2;exact zbf pb l c kx tx lx cx ksx ax mx ky ty ly cy ksy ay my a m T (by omega) ((ih 0 (by simp)).e h2.1) ((ih 1 (by simp)).b h2.2 T (by omega))
     | [.mk kx tx lx cx ksx ax mx,.mk ky ty ly cy ksy ay my,.mk kz tz lz cz ksz az mz],h2,ih =>
       rw [ai,ai,ai,ar] at h2;unfold ifM at h2;simp only [bAe] at h2;exact zae pb l c kx tx lx cx ksx ax mx ky ty ly cy ksy ay my kz tz lz cz ksz az mz a m T (by omega) ((ih 0 (by simp)).e h2.1.1) ((ih 1 (by simp)).b h2.1.2 T (by omega)) ((ih 2 (by simp)).b h2.2 T (by omega))
    ·rw [wl,bAe] at hm;obtain ⟨h1,h2⟩:=hm;by_cases h0:ks=[]
     ·subst h0;rw [ar] at h2;exact absurd h2 (by decide)
     obtain ⟨n,hn⟩:∃ n,ks.length=n+1:=⟨ks.length - 1,by have:=List.length_pos_iff.2 h0;omega⟩;obtain ⟨kz,tz,lz,cz,ksz,az,mz,hz⟩:∃ kz tz lz cz ksz az mz,ks[n]=NM.mk kz tz lz cz ksz az mz:=by cases ks[n];exact ⟨_,_,_,_,_,_,_,rfl⟩
     have hsp:ks=ks.take n++[NM.mk kz tz lz cz ksz az mz]:=by
      have h1:ks.take (n+1)=ks:=List.take_of_length_le (by omega);rw [List.take_succ_eq_append_getElem (by omega),hz] at h1;exact h1.symm
     have e:NM.trs ks=(ks.take n).map NM.tr++[(NM.mk kz tz lz cz ksz az mz).tr]:=by
      rw [bR];exact (congrArg (List.map NM.tr) hsp).trans (by rw [List.map_append];rfl)
     unfold oh at h2;rw [e,List.getLast?_concat,List.dropLast_concat,List.all_map] at h2;simp only [bAe] at h2;have hb:=(ih n (by omega)).b (by rw [hz];exact h2.2) T (by omega);rw [hz] at hb;exact zbH pb t l c ks a m n kz tz lz cz ksz az mz hn hz (by omega) T (by omega) (fun j hj=>(ih j (by omega)).p (by
      have:=List.all_eq_true.1 h2.1 ks[j] (by rw [List.mem_take_iff_getElem];exact ⟨j,by omega,rfl⟩);exact this)) hb
theorem vO (B b:Nat) (l:List UInt8) (t:Nat) (w:World) (h:aO B b l t w) (h0:l≠[]) :
  Calls Tryz.prog 25 #[.pointer (some ⟨b,0,none⟩)] w fun e w'=>e=.returned (.string (bs l))∧Below B w w':=by
 obtain ⟨p,hB,v,hbk,hown⟩:∃ p,iK B b p l t w:=h.elim (fun h=>⟨_,h⟩) (fun h=>⟨_,h⟩);have hne:=Lib.ownBlock_neF hown hbk ku;have hl0:l.length≠0:=by simpa using h0
 obtain ⟨g,cap,cur,fz,rfl,hbg,hg,hfz,hnc,hcm,hcs,htake⟩:∃ g cap cur fz,v=.slice (some ⟨g,0,none⟩) l.length cap∧B≤g∧w.heap[g]? = some (.cells cur 5 fz)∧fz.2≤l.length * 1∧l.length≤cap∧cap≤maxLen∧cur.size=cap * 1∧cur.toList.take (l.length * 1)=Lib.byteCells l:=by
  rcases hown.2 with ⟨_,hz⟩ | ⟨g,cap,cur,fz,hv,r⟩
  ·exact absurd hz hl0
  ·exact ⟨g,cap,cur,fz,hv,r⟩
 have hSD:∀ W:World,(Builtin.unsafeSliceData_ #[41] 85 #[.slice (some ⟨g,0,none⟩) l.length cap]).run Tryz.prog W=.ok (.pointer (some ⟨g,0,none⟩)) W :=
  fun W=>Lib.run_unsafeSliceData_row _ _ _ _ _ _ (by omega)
 have hUS:(Builtin.unsafeString_ #[85,3] 9 #[.pointer (some ⟨g,0,none⟩),.int .i64 l.length]).run Tryz.prog w.drew=.ok (.string (bs l)) (w.drew.freeze ⟨g,0,none⟩ l.length):=by
  refine Lib.run_unsafeString_row w.drew 85 3 9 5 Tryz.underlying85 (by kernel_rfl) g cur.size (by have hg':w.drew.heap[g]? = some (.cells cur 5 fz):=hg;simp [World.shape?,hg']) l h0 (by omega) (by unfold maxLen at hcm;omega) ?_;intro j x hx;exact hown.cells (g:=g) rfl j (.int .u8 x.toNat) (by simp [Lib.byteCells,hx])
 have hgb:b≠g:=fun e=>hne (by rw [e];rfl)
 have hbel:=hid (Lib.below_freeze (Below.drew (Below.refl B w)) (p:=⟨g,0,none⟩) hbg l.length);have HS2:=hid (show (w.drew.freeze ⟨g,0,none⟩ l.length).heap[b]? = some (.cells #[p,.slice (some ⟨g,0,none⟩) l.length cap,.int .i64 (t:Int)] 66 (0,0)) by
  have hbk':w.drew.heap[b]? = _:=hbk;rw [← hbk'];unfold World.freeze;split <;> simp [Array.getElem?_modify,Ne.symm hgb])
 clear hown hne hl0 hbg hg hfz hnc hcm hcs htake h h0;go_enter Tryz.func25,Tryz.ntmps25
 go_wp2_with fail;refine aH (S:=fun W=>W.heap[b]? = some (.cells #[p,.slice (some ⟨g,0,none⟩) l.length cap,.int .i64 (t:Int)] 66 (0,0))) (by kernel_rfl) ?_;have hS:w.drew.heap[b]? = some (.cells #[p,.slice (some ⟨g,0,none⟩) l.length cap,.int .i64 (t:Int)] 66 (0,0)):=hbk;refine zdA 0 (some 3) (.pointer (some ⟨b,0,none⟩)) hS ?_
 try simp only [aPu,sA,sB,sC]
 refine zdA 1 (some 4) (.pointer (some ⟨b,0,none⟩)) hS ?_
 try simp only [aPu,sA,sB,sC]
 refine zdA 2 (some 5) (.pointer (some ⟨b,1,none⟩)) hS ?_
 try simp only [aPu,sA,sB,sC]
 refine zdD 3 (some 6) (.slice (some ⟨g,0,none⟩) l.length cap) hS ?_ (hv:=fun W hW=>by have q:W.cell? ⟨b,1,none⟩=some (.slice (some ⟨g,0,none⟩) l.length cap):=cRo W _ 1 _ _ _ hW;go_simp)
 try simp only [aPu,sA,sB,sC]
 refine zdA 5 (some 8) (.pointer (some ⟨b,0,none⟩)) hS ?_
 try simp only [aPu,sA,sB,sC]
 refine zdA 6 (some 9) (.pointer (some ⟨b,0,none⟩)) hS ?_
 try simp only [aPu,sA,sB,sC]
 refine zdA 7 (some 10) (.pointer (some ⟨b,1,none⟩)) hS ?_
 try simp only [aPu,sA,sB,sC]
 refine zdD 8 (some 11) (.slice (some ⟨g,0,none⟩) l.length cap) hS ?_ (hv:=fun W hW=>by have q:W.cell? ⟨b,1,none⟩=some (.slice (some ⟨g,0,none⟩) l.length cap):=cRo W _ 1 _ _ _ hW;go_simp)
 try simp only [aPu,sA,sB,sC]
 refine zdD 9 (some 12) (.int .i64 l.length) hS ?_ (hv:=fun W _=>by kernel_rfl)
 try simp only [aPu,sA,sB,sC]
 refine zdD 4 (some 7) (.pointer (some ⟨g,0,none⟩)) hS ?_ (hv:=fun W _=>by have h:=hSD W;go_simp)
 try simp only [aPu,sA,sB,sC]
 refine zdC 10 ?_;intro K hK;go_simp;refine hK.out _ _ HS2.out ?_;clear hK K
 try simp only [aPu,sA,sB,sC]
 refine zdC 11 ?_;intro K hK;go_simp;refine hK.out _ _ HS2.out ?_;clear hK K
 try simp only [aPu,sA,sB,sC]
 refine zdH ?_;go_wp2_with fail;go_ret;exact ⟨rfl,hbel.out⟩
theorem tu (b:Nat) (t:Nat) (p:Value) (w:World) (hbk:w.heap[b]? = some (.cells #[p,.slice none 0 0,.int .i64 (t:Int)] 66 (0,0))) :
  Calls Tryz.prog 25 #[.pointer (some ⟨b,0,none⟩)] w fun e w'=>e=.returned (.string (bs []))∧Below w.heap.size w w':=by
 have hUS:∀ W q,(Builtin.unsafeString_ #[85,3] 9 #[.pointer q,.int .i64 0]).run Tryz.prog W=.ok (.string (bs [])) W:=fun W q=>Lib.run_unsafeString_none W _ _ _ q
 have hSD:∀ W:World,(Builtin.unsafeSliceData_ #[41] 85 #[.slice none 0 0]).run Tryz.prog W=.ok (.pointer none) W:=fun W=>rfl
 go_enter Tryz.func25,Tryz.ntmps25
 go_wp2_with fail;refine aH (S:=fun W=>W.heap[b]? = some (.cells #[p,.slice none 0 0,.int .i64 (t:Int)] 66 (0,0))) (by kernel_rfl) ?_;have hS:w.drew.heap[b]? = some (.cells #[p,.slice none 0 0,.int .i64 (t:Int)] 66 (0,0)):=hbk;refine zdA 0 (some 3) (.pointer (some ⟨b,0,none⟩)) hS ?_
 try simp only [aPu,sA,sB,sC]
 refine zdA 1 (some 4) (.pointer (some ⟨b,0,none⟩)) hS ?_
 try simp only [aPu,sA,sB,sC]
 refine zdA 2 (some 5) (.pointer (some ⟨b,1,none⟩)) hS ?_
 try simp only [aPu,sA,sB,sC]
 refine zdD 3 (some 6) (.slice none 0 0) hS ?_ (hv:=fun W hW=>by have q:W.cell? ⟨b,1,none⟩=some (.slice none 0 0):=cRo W _ 1 _ _ _ hW;go_simp)
 try simp only [aPu,sA,sB,sC]
 refine zdA 5 (some 8) (.pointer (some ⟨b,0,none⟩)) hS ?_
 try simp only [aPu,sA,sB,sC]
 refine zdA 6 (some 9) (.pointer (some ⟨b,0,none⟩)) hS ?_
 try simp only [aPu,sA,sB,sC]
 refine zdA 7 (some 10) (.pointer (some ⟨b,1,none⟩)) hS ?_
 try simp only [aPu,sA,sB,sC]
 refine zdD 8 (some 11) (.slice none 0 0) hS ?_ (hv:=fun W hW=>by have q:W.cell? ⟨b,1,none⟩=some (.slice none 0 0):=cRo W _ 1 _ _ _ hW;go_simp)
 try simp only [aPu,sA,sB,sC]
 refine zdD 9 (some 12) (.int .i64 0) hS ?_ (hv:=fun W _=>by kernel_rfl)
 try simp only [aPu,sA,sB,sC]
 refine zdD 4 (some 7) (.pointer none) hS ?_ (hv:=fun W _=>by have h:=hSD W;go_simp)
 try simp only [aPu,sA,sB,sC]
 refine zdC 10 ?_;intro K hK;go_simp;refine hK.out _ _ hS ?_;clear hK K
 try simp only [aPu,sA,sB,sC]
 refine zdC 11 ?_;intro K hK;go_simp;refine hK.out _ _ hS ?_;clear hK K
 try simp only [aPu,sA,sB,sC]
 refine zdH ?_;go_wp2_with fail;go_ret;exact ⟨rfl,Below.drew (Below.refl _ w)⟩
def fI (F:FuncId) (k:Nat) (sg:List UInt8) (f b g:Nat) (en:Pl) (l:List Tok) (d:Nat):Prop :=
 ∀ w,PS w g en l d→b≠g→w.heap[b]? = some (.cells #[.pointer (some ⟨g,0,none⟩)] 53 (0,0))→bw en f k sg true l d≠.oof →
   Calls Tryz.prog 105 #[.pointer (some ⟨g,0,none⟩),.string (bs sg),.func (.func F) #[] #[.pointer (some ⟨b,0,none⟩)]] w (aU g en d w fe (bw en f k sg true l d))
theorem fI.ok {F:FuncId} {k:Nat} {sg:List UInt8} {f b g:Nat} {en:Pl} {l:List Tok} {d:Nat} (h:fI F k sg f b g en l d) {a:List Nd} {r:List Tok} (hx:bw en f k sg true l d=.ok a r) {w:World} (hp:PS w g en l d) (hn:b≠g) (hb:w.heap[b]? = some (.cells #[.pointer (some ⟨g,0,none⟩)] 53 (0,0))) :
  Calls Tryz.prog 105 #[.pointer (some ⟨g,0,none⟩),.string (bs sg),.func (.func F) #[] #[.pointer (some ⟨b,0,none⟩)]] w fun e w'=>∃ v,e=.returned v∧fe w.heap.size w' v a∧PS w' g en r d∧aV g w w':=by
 have:=h w hp hn hb (by rw [hx];nofun);rw [hx] at this;exact this
theorem fI.bad {F:FuncId} {k:Nat} {sg:List UInt8} {f b g:Nat} {en:Pl} {l:List Tok} {d:Nat} (h:fI F k sg f b g en l d) {er:Nat} {p:Pl} (hx:bw en f k sg true l d=.bad er p) {w:World} (hp:PS w g en l d) (hn:b≠g) (hb:w.heap[b]? = some (.cells #[.pointer (some ⟨g,0,none⟩)] 53 (0,0))) :
  Calls Tryz.prog 105 #[.pointer (some ⟨g,0,none⟩),.string (bs sg),.func (.func F) #[] #[.pointer (some ⟨b,0,none⟩)]] w fun e w'=>e=.panicked [gT er p]∧aV g w w':=by
 have:=h w hp hn hb (by rw [hx];nofun);rw [hx] at this;exact this
def iy (f g:Nat) (en:Pl) (l:List Tok) (d:Nat):Prop :=
 ∀ w,PS w g en l d→bw en f 3 [125] true l d≠.oof →
   Calls Tryz.prog 105 #[.pointer (some ⟨g,0,none⟩),.string (bs [125]),.func (.func 163) #[.pointer (some ⟨g,0,none⟩)] #[]] w (aU g en d w fe (bw en f 3 [125] true l d))
theorem iy.ok {f g:Nat} {en:Pl} {l:List Tok} {d:Nat} (h:iy f g en l d) {a:List Nd} {r:List Tok} (hx:bw en f 3 [125] true l d=.ok a r) {w:World} (hp:PS w g en l d) :
  Calls Tryz.prog 105 #[.pointer (some ⟨g,0,none⟩),.string (bs [125]),.func (.func 163) #[.pointer (some ⟨g,0,none⟩)] #[]] w fun e w'=>∃ v,e=.returned v∧fe w.heap.size w' v a∧PS w' g en r d∧aV g w w':=by
 have:=h w hp (by rw [hx];nofun);rw [hx] at this;exact this
theorem iy.bad {f g:Nat} {en:Pl} {l:List Tok} {d:Nat} (h:iy f g en l d) {er:Nat} {p:Pl} (hx:bw en f 3 [125] true l d=.bad er p) {w:World} (hp:PS w g en l d) :
  Calls Tryz.prog 105 #[.pointer (some ⟨g,0,none⟩),.string (bs [125]),.func (.func 163) #[.pointer (some ⟨g,0,none⟩)] #[]] w fun e w'=>e=.panicked [gT er p]∧aV g w w':=by
 have:=h w hp (by rw [hx];nofun);rw [hx] at this;exact this
theorem xA (f:Nat) (g:Nat) (en:Pl) (l:List Tok) (d:Nat)
  (IH:∀ b l d,fI 108 1 [41] f b g en l d) :
  cC 68 #[.pointer (some ⟨g,0,none⟩)] g en l d ca (fq en (f+1) l d):=by
 intro w hp hne;obtain ⟨X,hX⟩:∃ X,X=fq en (f+1) l d:=⟨_,rfl⟩;rw [← hX] at hne ⊢;rw [fq] at hX;have HX:=hid hX;clear hX;have hgl:=hp.lt;have qo:=mf;have Pg:=hid (fun (b:Nat) (h:w.heap.size+2≤b)=>(show b≠g by omega));obtain ⟨w1,hw,hp1,hB,rb,rr,au⟩:=iV hp (.cells #[.pointer (some ⟨g,0,none⟩)] 53) (.cells #[.int .i64 0,.string ⟨#[]⟩,.int .i64 0,.int .i64 0,.slice none 0 0] 27);have ap:=hid rb;have ae:=hid rr;have bg:w.heap.size≠g:=by omega
 have an:w.heap.size+1≠g:=by omega
 have aI:w.heap.size<w1.heap.size:=by omega
 have ah:w.heap.size+1<w1.heap.size:=au;clear hp rb rr;have hp:=hp1;clear hp1;have HB:=hid hB;clear hB;go_enter Tryz.func68,Tryz.ntmps68
 go_wp2_with fail;rw [← hw.out];clear hw;cases hx:bl en (cd l) l with
 | oof=>exact absurd (by rw [HX.out,hx];rfl) hne
 | bad er p =>
   refine aH (S:=fun W=>W.heap[w.heap.size]? = some (.cells #[.pointer (some ⟨g,0,none⟩)] 53)) (by kernel_rfl) ?_;obtain ⟨w2,hw,aC,ac⟩:=dj hp;clear hp;have hp:=aC;clear aC;replace HB:=kb HB ac;replace ap:=kr ac ap bg;replace aI:=lx ap;replace ae:=kr ac ae an;replace ah:=lx ae;replace au:=nT au ac.size;rw [← hw.out];clear hw ac;have hS:=ap.out;refine zdD 0 (some 5) (.pointer (some ⟨g,0,none⟩)) hS ?_ (hv:=fun W hW=>by have q:W.cell? ⟨w.heap.size,0,none⟩=some (.pointer (some ⟨g,0,none⟩)):=cRo W _ 0 _ _ _ hW;go_simp)
   try simp only [aPu,sA,sB,sC]
   refine zdD 1 (some 6) (.pointer (some ⟨g,0,none⟩)) hS ?_ (hv:=fun W hW=>by have q:W.cell? ⟨w.heap.size,0,none⟩=some (.pointer (some ⟨g,0,none⟩)):=cRo W _ 0 _ _ _ hW;go_simp)
   try simp only [aPu,sA,sB,sC]
   refine WH.tw 2 4 ?_ ?_
   ·intro K hK;go_simp;refine (dk g en l d _ hp).mono ?_;rintro e w3 ⟨rfl,ac⟩;replace hp:=hp.keep ac;replace ac:=obw g ac;replace HB:=kb HB ac;replace ap:=kr ac ap bg;replace aI:=lx ap;replace ae:=kr ac ae an;replace ah:=lx ae;replace au:=nT au ac.size;clear ac;go_wp2_with fail;clear hS;have hS:=ap.out;refine hK.out _ _ hS ?_;clear hK K
    try simp only [aPu,sA,sB,sC]
    refine WH.tw 3 4 ?_ ?_
    ·intro K hK;go_simp;refine (cc hx hp).mono ?_;rintro e wb ⟨rfl,ac⟩;go_wp2_with fail;exact ⟨rfl,zdz (by rw [HX.out,hx] <;> rfl) (HB.out.trans ac)⟩
    ·intro K hK;go_simp;obtain ⟨w4,hw,aC,ac,rr,tl⟩:=aN hp (.cells #[.int .i64 0,.string ⟨#[]⟩,.int .i64 0,.int .i64 0] 46);have j6:w3.heap.size≠g:=by have:=hp.lt;omega
     have qT:w.heap.size+2≤w3.heap.size:=au;clear hp;have hp:=aC;clear aC;have ew:=hid rr;clear rr;replace HB:=kb HB ac;replace ap:=kr ac ap bg;replace aI:=lx ap;replace ae:=kr ac ae an;replace ah:=lx ae;replace au:=nT au ac.size;have hO:w3.heap.size<w4.heap.size:=tl;clear tl ac;rw [← hw.out];clear hw;clear hS;have hS:=ap.out;refine hK.out _ _ hS ?_;clear hK K
     try simp only [aPu,sA,sB,sC]
     refine zdC 3 ?_;intro K hK;go_simp;refine (cc hx hp).mono ?_;rintro e wb ⟨rfl,ac⟩;go_wp2_with fail;exact ⟨rfl,zdz (by rw [HX.out,hx] <;> rfl) (HB.out.trans ac)⟩
   ·intro K hK;go_simp;obtain ⟨w5,hw,aC,ac,rr,tl⟩:=aN hp (.cells #[.int .i64 0,.string ⟨#[]⟩,.int .i64 0,.int .i64 0] 46);have j6:w2.heap.size≠g:=by have:=hp.lt;omega
    have qT:w.heap.size+2≤w2.heap.size:=au;clear hp;have hp:=aC;clear aC;have ew:=hid rr;clear rr;replace HB:=kb HB ac;replace ap:=kr ac ap bg;replace aI:=lx ap;replace ae:=kr ac ae an;replace ah:=lx ae;replace au:=nT au ac.size;have hO:w2.heap.size<w5.heap.size:=tl;clear tl ac;rw [← hw.out];clear hw;clear hS;have hS:=ap.out;refine hK.out _ _ hS ?_;clear hK K
    try simp only [aPu,sA,sB,sC]
    refine zdC 2 ?_;intro K hK;go_simp;refine (dk g en l d _ hp).mono ?_;rintro e w6 ⟨rfl,ac⟩;replace hp:=hp.keep ac;replace ac:=obw g ac;replace HB:=kb HB ac;replace ap:=kr ac ap bg;replace aI:=lx ap;replace ae:=kr ac ae an;replace ah:=lx ae;replace ew:=kr ac ew j6;replace hO:=lx ew;replace au:=nT au ac.size;clear ac;go_wp2_with fail;clear hS;have hS:=ap.out;refine hK.out _ _ hS ?_;clear hK K
    try simp only [aPu,sA,sB,sC]
    refine zdC 3 ?_;intro K hK;go_simp;refine (cc hx hp).mono ?_;rintro e wb ⟨rfl,ac⟩;go_wp2_with fail;exact ⟨rfl,zdz (by rw [HX.out,hx] <;> rfl) (HB.out.trans ac)⟩
 | ok t r =>
   go_cut [3] (fun tp wx=>∃ z,tp=.pointer (some ⟨z,0,none⟩)∧w.heap.size+2≤z∧wx.heap[z]? = some (.cells #[.int .i64 (t.1:Int),.string (bs t.2.1),.int .i64 (t.2.2.1:Int),.int .i64 (t.2.2.2:Int)] 46)∧wx.heap[w.heap.size]? = some (.cells #[.pointer (some ⟨g,0,none⟩)] 53)∧wx.heap[w.heap.size+1]? = some (.cells #[.int .i64 0,.string ⟨#[]⟩,.int .i64 0,.int .i64 0,.slice none 0 0] 27)∧PS wx g en r d∧aV g w wx∧z<wx.heap.size)
   case first =>
    refine aH (S:=fun W=>W.heap[w.heap.size]? = some (.cells #[.pointer (some ⟨g,0,none⟩)] 53)) (by kernel_rfl) ?_;obtain ⟨w7,hw,aC,ac⟩:=dj hp;clear hp;have hp:=aC;clear aC;replace HB:=kb HB ac;replace ap:=kr ac ap bg;replace aI:=lx ap;replace ae:=kr ac ae an;replace ah:=lx ae;replace au:=nT au ac.size;rw [← hw.out];clear hw ac;have hS:=ap.out;refine zdD 0 (some 5) (.pointer (some ⟨g,0,none⟩)) hS ?_ (hv:=fun W hW=>by have q:W.cell? ⟨w.heap.size,0,none⟩=some (.pointer (some ⟨g,0,none⟩)):=cRo W _ 0 _ _ _ hW;go_simp)
    try simp only [aPu,sA,sB,sC]
    refine zdD 1 (some 6) (.pointer (some ⟨g,0,none⟩)) hS ?_ (hv:=fun W hW=>by have q:W.cell? ⟨w.heap.size,0,none⟩=some (.pointer (some ⟨g,0,none⟩)):=cRo W _ 0 _ _ _ hW;go_simp)
    try simp only [aPu,sA,sB,sC]
    refine WH.tw 2 4 ?_ ?_
    ·intro K hK;go_simp;refine (dk g en l d _ hp).mono ?_;rintro e w8 ⟨rfl,ac⟩;replace hp:=hp.keep ac;replace ac:=obw g ac;replace HB:=kb HB ac;replace ap:=kr ac ap bg;replace aI:=lx ap;replace ae:=kr ac ae an;replace ah:=lx ae;replace au:=nT au ac.size;clear ac;go_wp2_with fail;clear hS;have hS:=ap.out;refine hK.out _ _ hS ?_;clear hK K
     try simp only [aPu,sA,sB,sC]
     refine WH.tw 3 4 ?_ ?_
     ·intro K hK;go_simp;refine (c9 hx hp).mono ?_;rintro e w9 ⟨rfl,aC,ac⟩;clear hp;have hp:=aC;clear aC;replace HB:=kb HB ac;replace ap:=kr ac ap bg;replace aI:=lx ap;replace ae:=kr ac ae an;replace ah:=lx ae;replace au:=nT au ac.size;clear ac;go_wp2_with fail;clear hS;have hS:=ap.out;refine hK.out _ _ hS ?_;clear hK K
      try simp only [aPu,sA,sB,sC]
      refine zdC 4 ?_;intro K hK;go_simp;obtain ⟨w10,hw,aC,ac,rr,tl⟩:=aN hp (.cells #[.int .i64 0,.string ⟨#[]⟩,.int .i64 0,.int .i64 0] 46);have j6:w9.heap.size≠g:=by have:=hp.lt;omega
      have qT:w.heap.size+2≤w9.heap.size:=au;clear hp;have hp:=aC;clear aC;have ew:=hid rr;clear rr;replace HB:=kb HB ac;replace ap:=kr ac ap bg;replace aI:=lx ap;replace ae:=kr ac ae an;replace ah:=lx ae;replace au:=nT au ac.size;have hO:w9.heap.size<w10.heap.size:=tl;clear tl ac;rw [← hw.out];clear hw;clear hS;have hS:=ap.out;refine hK.out _ _ hS ?_;clear hK K
      try simp only [aPu,sA,sB,sC]
      have HW:=hid (jr hp HB.out ew.out (by omega) (by omega) (.int .i64 (t.1:Int)) (.string (bs t.2.1)) (.int .i64 (t.2.2.1:Int)) (.int .i64 (t.2.2.2:Int)));obtain ⟨jP,kf,jY,j4,j1,jR,jX,j2⟩:=hC ew.out;refine zdC 5 ?_;intro K hK;go_simp;clear jP j1 kf jR jY jX j4 j2;obtain ⟨wz,hw,fl,fo,fu,hsz,dv⟩:=HW.out;rw [← hw];refine hK.out _ _ ((dv _ (by omega)).trans ap.out) ?_;clear hK K
      try simp only [aPu,sA,sB,sC]
      refine zdH ?_;go_wp2_with fail
      go_meet
      case rel=>exact ⟨_,rfl,by omega,fu,(dv _ (by omega)).trans ap.out,(dv _ (by omega)).trans ae.out,fl,fo,by omega⟩
     ·intro K hK;go_simp;obtain ⟨w11,hw,aC,ac,rr,tl⟩:=aN hp (.cells #[.int .i64 0,.string ⟨#[]⟩,.int .i64 0,.int .i64 0] 46);have j6:w8.heap.size≠g:=by have:=hp.lt;omega
      have qT:w.heap.size+2≤w8.heap.size:=au;clear hp;have hp:=aC;clear aC;have ew:=hid rr;clear rr;replace HB:=kb HB ac;replace ap:=kr ac ap bg;replace aI:=lx ap;replace ae:=kr ac ae an;replace ah:=lx ae;replace au:=nT au ac.size;have hO:w8.heap.size<w11.heap.size:=tl;clear tl ac;rw [← hw.out];clear hw;clear hS;have hS:=ap.out;refine hK.out _ _ hS ?_;clear hK K
      try simp only [aPu,sA,sB,sC]
      refine zdC 3 ?_;intro K hK;go_simp;refine (c9 hx hp).mono ?_;rintro e w12 ⟨rfl,aC,ac⟩;clear hp;have hp:=aC;clear aC;replace HB:=kb HB ac;replace ap:=kr ac ap bg;replace aI:=lx ap;replace ae:=kr ac ae an;replace ah:=lx ae;replace ew:=kr ac ew j6;replace hO:=lx ew;replace au:=nT au ac.size;clear ac;go_wp2_with fail;clear hS;have hS:=ap.out;refine hK.out _ _ hS ?_;clear hK K
      try simp only [aPu,sA,sB,sC]
      have HW:=hid (jr hp HB.out ew.out (by omega) (by omega) (.int .i64 (t.1:Int)) (.string (bs t.2.1)) (.int .i64 (t.2.2.1:Int)) (.int .i64 (t.2.2.2:Int)));obtain ⟨jP,kf,jY,j4,j1,jR,jX,j2⟩:=hC ew.out;refine zdC 5 ?_;intro K hK;go_simp;clear jP j1 kf jR jY jX j4 j2;obtain ⟨wz,hw,fl,fo,fu,hsz,dv⟩:=HW.out;rw [← hw];refine hK.out _ _ ((dv _ (by omega)).trans ap.out) ?_;clear hK K
      try simp only [aPu,sA,sB,sC]
      refine zdH ?_;go_wp2_with fail
      go_meet
      case rel=>exact ⟨_,rfl,by omega,fu,(dv _ (by omega)).trans ap.out,(dv _ (by omega)).trans ae.out,fl,fo,by omega⟩
    ·intro K hK;go_simp;obtain ⟨w13,hw,aC,ac,rr,tl⟩:=aN hp (.cells #[.int .i64 0,.string ⟨#[]⟩,.int .i64 0,.int .i64 0] 46);have j6:w7.heap.size≠g:=by have:=hp.lt;omega
     have qT:w.heap.size+2≤w7.heap.size:=au;clear hp;have hp:=aC;clear aC;have ew:=hid rr;clear rr;replace HB:=kb HB ac;replace ap:=kr ac ap bg;replace aI:=lx ap;replace ae:=kr ac ae an;replace ah:=lx ae;replace au:=nT au ac.size;have hO:w7.heap.size<w13.heap.size:=tl;clear tl ac;rw [← hw.out];clear hw;clear hS;have hS:=ap.out;refine hK.out _ _ hS ?_;clear hK K
     try simp only [aPu,sA,sB,sC]
     refine zdC 2 ?_;intro K hK;go_simp;refine (dk g en l d _ hp).mono ?_;rintro e w14 ⟨rfl,ac⟩;replace hp:=hp.keep ac;replace ac:=obw g ac;replace HB:=kb HB ac;replace ap:=kr ac ap bg;replace aI:=lx ap;replace ae:=kr ac ae an;replace ah:=lx ae;replace ew:=kr ac ew j6;replace hO:=lx ew;replace au:=nT au ac.size;clear ac;go_wp2_with fail;clear hS;have hS:=ap.out;refine hK.out _ _ hS ?_;clear hK K
     try simp only [aPu,sA,sB,sC]
     refine zdC 3 ?_;intro K hK;go_simp;refine (c9 hx hp).mono ?_;rintro e w15 ⟨rfl,aC,ac⟩;clear hp;have hp:=aC;clear aC;replace HB:=kb HB ac;replace ap:=kr ac ap bg;replace aI:=lx ap;replace ae:=kr ac ae an;replace ah:=lx ae;replace ew:=kr ac ew j6;replace hO:=lx ew;replace au:=nT au ac.size;clear ac;go_wp2_with fail;clear hS;have hS:=ap.out;refine hK.out _ _ hS ?_;clear hK K
     try simp only [aPu,sA,sB,sC]
     have HW:=hid (jr hp HB.out ew.out (by omega) (by omega) (.int .i64 (t.1:Int)) (.string (bs t.2.1)) (.int .i64 (t.2.2.1:Int)) (.int .i64 (t.2.2.2:Int)));obtain ⟨jP,kf,jY,j4,j1,jR,jX,j2⟩:=hC ew.out;refine zdC 5 ?_;intro K hK;go_simp;clear jP j1 kf jR jY jX j4 j2;obtain ⟨wz,hw,fl,fo,fu,hsz,dv⟩:=HW.out;rw [← hw];refine hK.out _ _ ((dv _ (by omega)).trans ap.out) ?_;clear hK K
     try simp only [aPu,sA,sB,sC]
     refine zdH ?_;go_wp2_with fail
     go_meet
     case rel=>exact ⟨_,rfl,by omega,fu,(dv _ (by omega)).trans ap.out,(dv _ (by omega)).trans ae.out,fl,fo,by omega⟩
   case rest =>
    obtain ⟨z_t,rfl,om,hz,hx0,hx1,aC,ac,aD⟩:=hcut;clear hp;have hp:=aC;clear aC;replace HB:=hid ac;replace ap:=hid hx0;replace ae:=hid hx1;have av:=hid hz;have bm:z_t≠g:=by omega
    replace au:w.heap.size+2≤wc.heap.size:=by omega
    replace aI:w.heap.size<wc.heap.size:=by omega
    replace ah:w.heap.size+1<wc.heap.size:=by omega
    clear hz hx0 hx1 ac;replace HX:=thk HX hx;clear hx;go_wp2_with fail;refine aH (S:=fun W=>W.heap[w.heap.size]? = some (.cells #[.pointer (some ⟨g,0,none⟩)] 53)) (by kernel_rfl) ?_;obtain ⟨w16,hw,aC,ac⟩:=dj hp;clear hp;have hp:=aC;clear aC;replace HB:=kb HB ac;replace ap:=kr ac ap bg;replace aI:=lx ap;replace ae:=kr ac ae an;replace ah:=lx ae;replace av:=kr ac av bm;replace aD:=lx av;replace au:=nT au ac.size;rw [← hw.out];clear hw ac;have hS:=ap.out;refine zdD 0 (some 9) (.pointer (some ⟨g,0,none⟩)) hS ?_ (hv:=fun W hW=>by have q:W.cell? ⟨w.heap.size,0,none⟩=some (.pointer (some ⟨g,0,none⟩)):=cRo W _ 0 _ _ _ hW;go_simp)
    try simp only [aPu,sA,sB,sC]
    refine zdD 1 (some 10) (.pointer (some ⟨g,0,none⟩)) hS ?_ (hv:=fun W hW=>by have q:W.cell? ⟨w.heap.size,0,none⟩=some (.pointer (some ⟨g,0,none⟩)):=cRo W _ 0 _ _ _ hW;go_simp)
    try simp only [aPu,sA,sB,sC]
    refine zdC 2 ?_;intro K hK;go_simp;refine (ch 0 [40] g en r d _ hp).mono ?_;rintro e w17 ⟨rfl,ac⟩;replace hp:=hp.keep ac;replace ac:=obw g ac;replace HB:=kb HB ac;replace ap:=kr ac ap bg;replace aI:=lx ap;replace ae:=kr ac ae an;replace ah:=lx ae;replace av:=kr ac av bm;replace aD:=lx av;replace au:=nT au ac.size;clear ac;go_wp2_with fail;clear hS;have hS:=ap.out;refine hK.out _ _ hS ?_;clear hK K
    try simp only [aPu,sA,sB,sC]
    refine zdC 3 ?_;intro K hK;go_simp;cases hx:dW en (aT r 0 [40]) d r with
    | oof=>exact absurd (by rw [HX.out,hx] <;> rfl) hne
    | bad er p =>
      refine (ji hx hp).mono ?_;rintro e wb ⟨rfl,ac⟩;go_wp2_with fail;exact ⟨rfl,zdz (by rw [HX.out,hx] <;> rfl) (HB.out.trans ac)⟩
    | ok t2 r2 =>
      refine (km hx hp).mono ?_;rintro e w18 ⟨rfl,aC,ac⟩;clear hp;have hp:=aC;clear aC;replace HB:=kb HB ac;replace ap:=kr ac ap bg;replace aI:=lx ap;replace ae:=kr ac ae an;replace ah:=lx ae;replace av:=kr ac av bm;replace aD:=lx av;replace au:=nT au ac.size;clear ac;replace HX:=thk HX hx;clear hx;go_wp2_with fail;clear hS;have hS:=ap.out;refine hK.out _ _ hS ?_;clear hK K
      try simp only [aPu,sA,sB,sC]
      refine zdH ?_;clear hS;obtain ⟨bf,bd⟩:=eu ap.out;go_wp2_with fail;clear bf bd;cases hx:bw en f 1 [41] true r2 (d+1) with
      | oof=>exact absurd (by rw [HX.out,hx] <;> rfl) hne
      | bad er p =>
        refine ((IH _ r2 (d+1)).bad hx hp bg ap.out).mono ?_;rintro e wb ⟨rfl,ac⟩;go_wp2_with fail;exact ⟨rfl,zdz (by rw [HX.out,hx] <;> rfl) (HB.out.trans ac)⟩
      | ok k r3 =>
        refine ((IH _ r2 (d+1)).ok hx hp bg ap.out).mono ?_;rintro e w19 ⟨_,rfl,⟨ns_k,hG,hi,hl_k⟩,aC,ac⟩;obtain ⟨oZ,oe,hv,hc_k,hm_k⟩:=hG.shape;subst hv;have b_k:w.heap.size+2≤w18.heap.size:=au;clear hp;have hp:=aC;clear aC;have i_k:=hid hi;have hg:=hid (hG.two (B:=w.heap.size+2) au);have u_k_bx:=aI;have u_k_res:=ah;have u_k_t:=aD;replace HB:=kb HB ac;replace ap:=kr ac ap bg;replace aI:=lx ap;replace ae:=kr ac ae an;replace ah:=lx ae;replace av:=kr ac av bm;replace aD:=lx av;replace au:=nT au ac.size;have G_k:=hg;clear hi hG ac hg;replace HX:=thk HX hx;clear hx;obtain ⟨bf,bd⟩:=eu ap.out;go_wp2_with fail;clear bf bd;cases hx:cB en [41] r3 with
        | oof=>exact absurd (by rw [HX.out,hx] <;> rfl) hne
        | bad er p =>
          refine (jb hx hp).mono ?_;rintro e wb ⟨rfl,ac⟩;go_wp2_with fail;exact ⟨rfl,zdz (by rw [HX.out,hx] <;> rfl) (HB.out.trans ac)⟩
        | ok t3 r4 =>
          refine (jQ hx hp).mono ?_;rintro e w20 ⟨rfl,aC,ac⟩;clear hp;have hp:=aC;clear aC;replace HB:=kb HB ac;replace ap:=kr ac ap bg;replace aI:=lx ap;replace ae:=kr ac ae an;replace ah:=lx ae;replace av:=kr ac av bm;replace aD:=lx av;replace G_k:=hid (G_k.out.keep ac (by omega) (by omega));replace au:=nT au ac.size;clear ac;replace HX:=thk HX hx;clear hx;obtain ⟨gH,gz,gv,gF,gy,gG,gB,gI⟩:=hC av.out;go_wp2_with fail;clear gH gy gz gG gv gB gF gI;refine (bW 14 t t.2.1 oZ ns_k.length oe _).mono ?_;rintro e w21 ⟨rfl,ac⟩;replace hp:=hp.keep ac;replace ac:=obw g ac;replace HB:=kb HB ac;replace ap:=kr ac ap bg;replace aI:=lx ap;replace ae:=kr ac ae an;replace ah:=lx ae;replace av:=kr ac av bm;replace aD:=lx av;replace G_k:=hid (G_k.out.keep ac (by omega) (by omega));replace au:=nT au ac.size;clear ac;have hzz:=hgl;have HW:=hid (cu hp HB.out ae.out (by omega) (by omega) (.int .i64 14) (.string (bs t.2.1)) (.int .i64 (t.2.2.1:Int)) (.int .i64 (t.2.2.2:Int)) (.slice oZ ns_k.length oe));obtain ⟨cT,cQ,cO,cN,cS,cR,cI,cJ,cH,cP⟩:=eV ae.out;go_wp2_with fail;obtain ⟨wz,hw,fl,fo,fu,hsz,dv⟩:=HW.out;rw [← hw];refine br Tryz.underlying27 (w.heap.size+1) fu (zdE HX.out ?_ fl fo);have S:d9 (w.heap.size+2≤·) w21 wz:=⟨by omega,fun k _ (hk:w.heap.size+2≤k)=>dv k (by omega)⟩;exact ⟨_,_,_,_,ns_k,oZ,oe,rfl,eK (k:=14) (p:=(t.2.2.1,t.2.2.2)) i_k.out _ _,am.less (P:=fun b=>w.heap.size+2≤b) (fun b _ (hb:w.heap.size+2≤b)=>(show w.heap.size≤b by omega)) (am.keep S ((G_k.out.one (by omega)).kids _ _ _ _))⟩
theorem sZ (en:Pl) (f:Nat) (l:List Tok) (d:Nat):ce en (f+1) 3 l d=(bl en (dV l 3) l).then fun t r=>(cB en [58] r).then fun _ r=>(bA en f r d).then fun x r=>.ok [.mk 11 t.2.1 t.2.2 [],x] r:=by
 rw [ce,if_neg (by decide),if_neg (by decide),if_neg (by decide)]
theorem eH (en:Pl) (l:List Tok) (k:Nat):dV l k=((atT en l 0).1 == k):=by unfold dV;rw [(kn en l 0).1]
theorem tQ (f:Nat) (g:Nat) (en:Pl) (l:List Tok) (d:Nat)
  (IH:∀ l,cC 65 #[.pointer (some ⟨g,0,none⟩)] g en l d ca (bA en f l d)) :
  cC 163 #[.pointer (some ⟨g,0,none⟩)] g en l d fe (ce en (f+1) 3 l d):=by
 intro w hp hne;obtain ⟨X,hX⟩:∃ X,X=ce en (f+1) 3 l d:=⟨_,rfl⟩;rw [← hX] at hne ⊢;rw [sZ] at hX;have HX:=hid hX;clear hX;have hgl:=hp.lt;have hk:=eH en l 3;have Pg:=hid (fun (b:Nat) (h:w.heap.size≤b)=>(show b≠g by omega));have HB:=hid (aV.refl g w);have au:=nRe w.heap.size;go_enter Tryz.func163,Tryz.ntmps163
 go_wp2_with fail;refine (eI 0 g en l d _ hp).mono ?_;rintro e w2 ⟨rfl,ac⟩;replace hp:=hp.keep ac;replace ac:=obw g ac;replace HB:=kb HB ac;replace au:=nT au ac.size;clear ac;generalize atT en l 0=t0 at *;obtain ⟨b,hb,q⟩:∃ b,dV l 3=b∧((t0.1:Int) == 3)=b:=⟨_,rfl,by rw [hk,Bool.eq_iff_iff];simp;omega⟩;rw [hb] at HX;clear hk hb;go_wp2_with fail;cases hx:bl en b l with
 | oof=>exact absurd (by rw [HX.out,hx];rfl) hne
 | bad er p =>
   refine (cc hx hp).mono ?_;rintro e wb ⟨rfl,ac⟩;go_wp2_with fail;exact ⟨rfl,zdz (by rw [HX.out,hx] <;> rfl) (HB.out.trans ac)⟩
 | ok t r =>
   refine (c9 hx hp).mono ?_;rintro e w3 ⟨rfl,aC,ac⟩;clear hp;have hp:=aC;clear aC;replace HB:=kb HB ac;replace au:=nT au ac.size;clear ac;go_wp2_with fail;obtain ⟨w4,hw,aC,ac,rr,tl⟩:=aN hp (.cells #[.int .i64 (t.1:Int),.string (bs t.2.1),.int .i64 (t.2.2.1:Int),.int .i64 (t.2.2.2:Int)] 46);have bm:w3.heap.size≠g:=by have:=hp.lt;omega
   have om:w.heap.size≤w3.heap.size:=au;clear hp;have hp:=aC;clear aC;have av:=hid rr;clear rr;replace HB:=kb HB ac;replace au:=nT au ac.size;have aD:w3.heap.size<w4.heap.size:=tl;clear tl ac;rw [← hw.out];clear hw;replace HX:=thk HX hx;clear hx;clear q;cases hx:cB en [58] r with
   | oof=>exact absurd (by rw [HX.out,hx];rfl) hne
   | bad er p =>
     refine (eM hx hp).mono ?_;rintro e wb ⟨rfl,ac⟩;go_wp2_with fail;exact ⟨rfl,zdz (by rw [HX.out,hx] <;> rfl) (HB.out.trans ac)⟩
   | ok t3 r2 =>
     refine (fV hx hp).mono ?_;rintro e w5 ⟨rfl,aC,ac⟩;clear hp;have hp:=aC;clear aC;replace HB:=kb HB ac;replace av:=kr ac av bm;replace aD:=lx av;replace au:=nT au ac.size;clear ac;replace HX:=thk HX hx;clear hx;obtain ⟨gH,gz,gv,gF,gy,gG,gB,gI⟩:=hC av.out;go_wp2_with fail;clear gH gy gz gG gv gB gF gI;refine (bW 11 t t.2.1 none 0 0 _).mono ?_;rintro e w6 ⟨rfl,ac⟩;replace hp:=hp.keep ac;replace ac:=obw g ac;replace HB:=kb HB ac;replace av:=kr ac av bm;replace aD:=lx av;replace au:=nT au ac.size;clear ac;go_wp2_with fail;cases hx:bA en f r2 d with
     | oof=>exact absurd (by rw [HX.out,hx];rfl) hne
     | bad er p =>
       refine ((IH r2).bad hx hp).mono ?_;rintro e wb ⟨rfl,ac⟩;go_wp2_with fail;exact ⟨rfl,zdz (by rw [HX.out,hx] <;> rfl) (HB.out.trans ac)⟩
     | ok x r3 =>
       refine ((IH r2).ok hx hp).mono ?_;rintro e w7 ⟨_,rfl,⟨ey,eC,eB,ez,bQ,eD,eA,rfl,hi,hh⟩,aC,ac⟩;clear hp;have hp:=aC;clear aC;have i_x:=hid hi;have hy:=hid (am.less (P':=fun b=>w.heap.size≤b) (fun b _ (hb:w6.heap.size≤b)=>(show w.heap.size≤b by omega)) hh);replace HB:=kb HB ac;replace av:=kr ac av bm;replace aD:=lx av;replace au:=nT au ac.size;have bZ:=hy;clear hy hi hh ac;replace HX:=thk HX hx;clear hx;go_wp2_with fail;obtain ⟨w8,hw,aC,ac,rr,tl⟩:=aN hp (.cells #[.int .i64 11,.string (bs t.2.1),.int .i64 (t.2.2.1:Int),.int .i64 (t.2.2.2:Int),.slice none 0 0,.int .i64 ey,.string (bs eC),.int .i64 eB,.int .i64 ez,.slice eD bQ.length eA] 27);have eU:w7.heap.size≠g:=by have:=hp.lt;omega
       have jI:w.heap.size≤w7.heap.size:=au;clear hp;have hp:=aC;clear aC;have G_kd:=hid (gC.laid (B:=w.heap.size) (ns:=[NM.mk 11 t.2.1 t.2.2.1 t.2.2.2 [] none 0,(NM.mk ey eC eB ez bQ eD eA)]) rr rfl (by simp) au (gl (iw _ _ _ _) bZ.out) (ac.same Pg.out));have hl_kd:2≤200000:=by omega
       have u_kd_t:=aD;have bG:=hid rr;clear rr;replace HB:=kb HB ac;replace av:=kr ac av bm;replace aD:=lx av;replace bZ:=kh ac Pg bZ;replace au:=nT au ac.size;have dh:w7.heap.size<w8.heap.size:=tl;clear tl ac;rw [← hw.out];clear hw;go_wp2_with fail;go_ret;refine zdE HX.out ?_ hp HB.out;exact ⟨_,G_kd.out.one (by omega),ju (eK (k:=11) (p:=(t.2.2.1,t.2.2.2)) gh _ _) i_x.out,by simp⟩
theorem wO (f:Nat) (g:Nat) (en:Pl) (l:List Tok) (d:Nat) (gj:dV l 3=true)  :
  cC 138 #[.pointer (some ⟨g,0,none⟩)] g en l d ca (bN en (f+1) l d):=by
 intro w hp hne;obtain ⟨X,hX⟩:∃ X,X=bN en (f+1) l d:=⟨_,rfl⟩;rw [← hX] at hne ⊢;rw [bN] at hX;rw [gj,if_pos (c:=true=true) rfl] at hX;have HX:=hid hX;clear hX;have hgl:=hp.lt;have qo:=mf;have hk3:=eH en l 3;have hk2:=eH en l 2;have Pg:=hid (fun (b:Nat) (h:w.heap.size+2≤b)=>(show b≠g by omega));obtain ⟨w1,hw,hp1,hB,rb,rr,au⟩:=iV hp (.cells #[.pointer (some ⟨g,0,none⟩)] 53) (.cells #[.int .i64 0,.string ⟨#[]⟩,.int .i64 0,.int .i64 0,.slice none 0 0] 27);have ap:=hid rb;have ae:=hid rr;have bg:w.heap.size≠g:=by omega
 have an:w.heap.size+1≠g:=by omega
 have aI:w.heap.size<w1.heap.size:=by omega
 have ah:w.heap.size+1<w1.heap.size:=au;clear hp rb rr;have hp:=hp1;clear hp1;have HB:=hid hB;clear hB;go_enter Tryz.func138,Tryz.ntmps138
 go_wp2_with fail;rw [← hw.out];clear hw;refine (eI 0 g en l d _ hp).mono ?_;rintro e w2 ⟨rfl,ac⟩;replace hp:=hp.keep ac;replace ac:=obw g ac;replace HB:=kb HB ac;replace ap:=kr ac ap bg;replace aI:=lx ap;replace ae:=kr ac ae an;replace ah:=lx ae;replace au:=nT au ac.size;clear ac;generalize atT en l 0=t at *;have q3:((t.1:Int) == 3)=true:=by rw [gj] at hk3;have:=hk3.symm;rw [Bool.eq_iff_iff] at this ⊢;simp at this ⊢;omega
 clear hk3 hk2;clear gj;obtain ⟨bf,bd⟩:=eu ap.out;go_wp2_with fail;clear bf bd;obtain ⟨w3,hw,aC,ac,rr,tl⟩:=aN hp (.cells #[.int .i64 (t.1:Int),.string (bs t.2.1),.int .i64 (t.2.2.1:Int),.int .i64 (t.2.2.2:Int)] 46);have bm:w2.heap.size≠g:=by have:=hp.lt;omega
 have om:w.heap.size+2≤w2.heap.size:=au;clear hp;have hp:=aC;clear aC;have av:=hid rr;clear rr;replace HB:=kb HB ac;replace ap:=kr ac ap bg;replace aI:=lx ap;replace ae:=kr ac ae an;replace ah:=lx ae;replace au:=nT au ac.size;have aD:w2.heap.size<w3.heap.size:=tl;clear tl ac;rw [← hw.out];clear hw;cases hx:bl en true l with
 | oof=>exact absurd (by rw [HX.out,hx] <;> rfl) hne
 | bad er p =>
   refine (cc hx hp).mono ?_;rintro e wb ⟨rfl,ac⟩;go_wp2_with fail;exact ⟨rfl,zdz (by rw [HX.out,hx] <;> rfl) (HB.out.trans ac)⟩
 | ok t2 r =>
   refine (c9 hx hp).mono ?_;rintro e w4 ⟨rfl,aC,ac⟩;clear hp;have hp:=aC;clear aC;replace HB:=kb HB ac;replace ap:=kr ac ap bg;replace aI:=lx ap;replace ae:=kr ac ae an;replace ah:=lx ae;replace av:=kr ac av bm;replace aD:=lx av;replace au:=nT au ac.size;clear ac;replace HX:=thk HX hx;clear hx;obtain ⟨gH,gz,gv,gF,gy,gG,gB,gI⟩:=hC av.out;go_wp2_with fail;clear gH gy gz gG gv gB gF gI;refine (bW 11 t t.2.1 none 0 0 _).mono ?_;rintro e w5 ⟨rfl,ac⟩;replace hp:=hp.keep ac;replace ac:=obw g ac;replace HB:=kb HB ac;replace ap:=kr ac ap bg;replace aI:=lx ap;replace ae:=kr ac ae an;replace ah:=lx ae;replace av:=kr ac av bm;replace aD:=lx av;replace au:=nT au ac.size;clear ac;have hzz:=hgl;have HW:=hid (cu hp HB.out ae.out (by omega) (by omega) (.int .i64 11) (.string (bs t.2.1)) (.int .i64 (t.2.2.1:Int)) (.int .i64 (t.2.2.2:Int)) (.slice none 0 0));obtain ⟨cT,cQ,cO,cN,cS,cR,cI,cJ,cH,cP⟩:=eV ae.out;go_wp2_with fail;obtain ⟨wz,hw,fl,fo,fu,hsz,dv⟩:=HW.out;rw [← hw];refine br Tryz.underlying27 (w.heap.size+1) fu (zdE HX.out ?_ fl fo);have S:d9 (w.heap.size+2≤·) w5 wz:=⟨by omega,fun k _ (hk:w.heap.size+2≤k)=>dv k (by omega)⟩;exact ⟨_,_,_,_,[],none,0,rfl,eK (k:=11) (p:=(t.2.2.1,t.2.2.2)) gh _ _,iw _ _ _ _⟩
theorem za (f:Nat) (g:Nat) (en:Pl) (l:List Tok) (d:Nat) (gj:dV l 3=false) (gU:dV l 2=true)  :
  cC 138 #[.pointer (some ⟨g,0,none⟩)] g en l d ca (bN en (f+1) l d):=by
 intro w hp hne;obtain ⟨X,hX⟩:∃ X,X=bN en (f+1) l d:=⟨_,rfl⟩;rw [← hX] at hne ⊢;rw [bN] at hX;rw [gj,if_neg (c:=false=true) (by decide)] at hX;rw [gU,if_pos (c:=true=true) rfl] at hX;have HX:=hid hX;clear hX;have hgl:=hp.lt;have qo:=mf;have hk3:=eH en l 3;have hk2:=eH en l 2;have Pg:=hid (fun (b:Nat) (h:w.heap.size+2≤b)=>(show b≠g by omega));obtain ⟨w1,hw,hp1,hB,rb,rr,au⟩:=iV hp (.cells #[.pointer (some ⟨g,0,none⟩)] 53) (.cells #[.int .i64 0,.string ⟨#[]⟩,.int .i64 0,.int .i64 0,.slice none 0 0] 27);have ap:=hid rb;have ae:=hid rr;have bg:w.heap.size≠g:=by omega
 have an:w.heap.size+1≠g:=by omega
 have aI:w.heap.size<w1.heap.size:=by omega
 have ah:w.heap.size+1<w1.heap.size:=au;clear hp rb rr;have hp:=hp1;clear hp1;have HB:=hid hB;clear hB;go_enter Tryz.func138,Tryz.ntmps138
 go_wp2_with fail;rw [← hw.out];clear hw;refine (eI 0 g en l d _ hp).mono ?_;rintro e w2 ⟨rfl,ac⟩;replace hp:=hp.keep ac;replace ac:=obw g ac;replace HB:=kb HB ac;replace ap:=kr ac ap bg;replace aI:=lx ap;replace ae:=kr ac ae an;replace ah:=lx ae;replace au:=nT au ac.size;clear ac;generalize atT en l 0=t at *;have q3:((t.1:Int) == 3)=false:=by rw [gj] at hk3;have:=hk3.symm;rw [Bool.eq_iff_iff] at this ⊢;simp at this ⊢;omega
 have q2:((t.1:Int) == 2)=true:=by rw [gU] at hk2;have:=hk2.symm;rw [Bool.eq_iff_iff] at this ⊢;simp at this ⊢;omega
 clear hk3 hk2;clear gj gU;obtain ⟨bf,bd⟩:=eu ap.out;go_wp2_with fail;clear bf bd;obtain ⟨w3,hw,aC,ac,rr,tl⟩:=aN hp (.cells #[.int .i64 (t.1:Int),.string (bs t.2.1),.int .i64 (t.2.2.1:Int),.int .i64 (t.2.2.2:Int)] 46);have bm:w2.heap.size≠g:=by have:=hp.lt;omega
 have om:w.heap.size+2≤w2.heap.size:=au;clear hp;have hp:=aC;clear aC;have av:=hid rr;clear rr;replace HB:=kb HB ac;replace ap:=kr ac ap bg;replace aI:=lx ap;replace ae:=kr ac ae an;replace ah:=lx ae;replace au:=nT au ac.size;have aD:w2.heap.size<w3.heap.size:=tl;clear tl ac;rw [← hw.out];clear hw;cases hx:bl en true l with
 | oof=>exact absurd (by rw [HX.out,hx] <;> rfl) hne
 | bad er p =>
   refine (cc hx hp).mono ?_;rintro e wb ⟨rfl,ac⟩;go_wp2_with fail;exact ⟨rfl,zdz (by rw [HX.out,hx] <;> rfl) (HB.out.trans ac)⟩
 | ok t2 r =>
   refine (c9 hx hp).mono ?_;rintro e w4 ⟨rfl,aC,ac⟩;clear hp;have hp:=aC;clear aC;replace HB:=kb HB ac;replace ap:=kr ac ap bg;replace aI:=lx ap;replace ae:=kr ac ae an;replace ah:=lx ae;replace av:=kr ac av bm;replace aD:=lx av;replace au:=nT au ac.size;clear ac;replace HX:=thk HX hx;clear hx;obtain ⟨gH,gz,gv,gF,gy,gG,gB,gI⟩:=hC av.out;go_wp2_with fail;clear gH gy gz gG gv gB gF gI;refine (bW 10 t t.2.1 none 0 0 _).mono ?_;rintro e w5 ⟨rfl,ac⟩;replace hp:=hp.keep ac;replace ac:=obw g ac;replace HB:=kb HB ac;replace ap:=kr ac ap bg;replace aI:=lx ap;replace ae:=kr ac ae an;replace ah:=lx ae;replace av:=kr ac av bm;replace aD:=lx av;replace au:=nT au ac.size;clear ac;have hzz:=hgl;have HW:=hid (cu hp HB.out ae.out (by omega) (by omega) (.int .i64 10) (.string (bs t.2.1)) (.int .i64 (t.2.2.1:Int)) (.int .i64 (t.2.2.2:Int)) (.slice none 0 0));obtain ⟨cT,cQ,cO,cN,cS,cR,cI,cJ,cH,cP⟩:=eV ae.out;go_wp2_with fail;obtain ⟨wz,hw,fl,fo,fu,hsz,dv⟩:=HW.out;rw [← hw];refine br Tryz.underlying27 (w.heap.size+1) fu (zdE HX.out ?_ fl fo);have S:d9 (w.heap.size+2≤·) w5 wz:=⟨by omega,fun k _ (hk:w.heap.size+2≤k)=>dv k (by omega)⟩;exact ⟨_,_,_,_,[],none,0,rfl,eK (k:=10) (p:=(t.2.2.1,t.2.2.2)) gh _ _,iw _ _ _ _⟩
theorem vY (f:Nat) (g:Nat) (en:Pl) (l:List Tok) (d:Nat) (gj:dV l 3=false) (gU:dV l 2=false) (eL:cd l=true) (kP:aT l 1 [40]=true) (IC:∀ l d,cC 68 #[.pointer (some ⟨g,0,none⟩)] g en l d ca (fq en f l d)) :
  cC 138 #[.pointer (some ⟨g,0,none⟩)] g en l d ca (bN en (f+1) l d):=by
 intro w hp hne;obtain ⟨X,hX⟩:∃ X,X=bN en (f+1) l d:=⟨_,rfl⟩;rw [← hX] at hne ⊢;rw [bN] at hX;rw [gj,if_neg (c:=false=true) (by decide)] at hX;rw [gU,if_neg (c:=false=true) (by decide)] at hX;rw [show (cd l && aT l 1 [40])=true by rw [eL,kP];rfl,if_pos (c:=true=true) rfl] at hX;have HX:=hid hX;clear hX;have hgl:=hp.lt;have qo:=mf;have hk3:=eH en l 3;have hk2:=eH en l 2;have Pg:=hid (fun (b:Nat) (h:w.heap.size+2≤b)=>(show b≠g by omega));obtain ⟨w1,hw,hp1,hB,rb,rr,au⟩:=iV hp (.cells #[.pointer (some ⟨g,0,none⟩)] 53) (.cells #[.int .i64 0,.string ⟨#[]⟩,.int .i64 0,.int .i64 0,.slice none 0 0] 27);have ap:=hid rb;have ae:=hid rr;have bg:w.heap.size≠g:=by omega
 have an:w.heap.size+1≠g:=by omega
 have aI:w.heap.size<w1.heap.size:=by omega
 have ah:w.heap.size+1<w1.heap.size:=au;clear hp rb rr;have hp:=hp1;clear hp1;have HB:=hid hB;clear hB;go_enter Tryz.func138,Tryz.ntmps138
 go_wp2_with fail;rw [← hw.out];clear hw;refine (eI 0 g en l d _ hp).mono ?_;rintro e w2 ⟨rfl,ac⟩;replace hp:=hp.keep ac;replace ac:=obw g ac;replace HB:=kb HB ac;replace ap:=kr ac ap bg;replace aI:=lx ap;replace ae:=kr ac ae an;replace ah:=lx ae;replace au:=nT au ac.size;clear ac;generalize atT en l 0=t at *;have q3:((t.1:Int) == 3)=false:=by rw [gj] at hk3;have:=hk3.symm;rw [Bool.eq_iff_iff] at this ⊢;simp at this ⊢;omega
 have q2:((t.1:Int) == 2)=false:=by rw [gU] at hk2;have:=hk2.symm;rw [Bool.eq_iff_iff] at this ⊢;simp at this ⊢;omega
 clear hk3 hk2;have S1:=hid (fun W (hW:PS W g en l d)=>by have h:=dk g en l d W hW;rw [eL] at h;exact h);have S2:=hid (fun W (hW:PS W g en l d)=>by have h:=ch 1 [40] g en l d W hW;rw [kP] at h;exact h);clear gj gU eL kP;obtain ⟨bf,bd⟩:=eu ap.out;go_wp2_with fail;clear bf bd;obtain ⟨w3,hw,aC,ac,rr,tl⟩:=aN hp (.cells #[.int .i64 (t.1:Int),.string (bs t.2.1),.int .i64 (t.2.2.1:Int),.int .i64 (t.2.2.2:Int)] 46);have bm:w2.heap.size≠g:=by have:=hp.lt;omega
 have om:w.heap.size+2≤w2.heap.size:=au;clear hp;have hp:=aC;clear aC;have av:=hid rr;clear rr;replace HB:=kb HB ac;replace ap:=kr ac ap bg;replace aI:=lx ap;replace ae:=kr ac ae an;replace ah:=lx ae;replace au:=nT au ac.size;have aD:w2.heap.size<w3.heap.size:=tl;clear tl ac;rw [← hw.out];clear hw;refine (S1.out _ hp).mono ?_;rintro e w4 ⟨rfl,ac⟩;replace hp:=hp.keep ac;replace ac:=obw g ac;replace HB:=kb HB ac;replace ap:=kr ac ap bg;replace aI:=lx ap;replace ae:=kr ac ae an;replace ah:=lx ae;replace av:=kr ac av bm;replace aD:=lx av;replace au:=nT au ac.size;clear ac;obtain ⟨bf,bd⟩:=eu ap.out;go_wp2_with fail;clear bf bd;refine (S2.out _ hp).mono ?_;rintro e w5 ⟨rfl,ac⟩;replace hp:=hp.keep ac;replace ac:=obw g ac;replace HB:=kb HB ac;replace ap:=kr ac ap bg;replace aI:=lx ap;replace ae:=kr ac ae an;replace ah:=lx ae;replace av:=kr ac av bm;replace aD:=lx av;replace au:=nT au ac.size;clear ac;obtain ⟨bf,bd⟩:=eu ap.out;go_wp2_with fail;clear bf bd;cases hx:fq en f l d with
 | oof=>exact absurd (by rw [HX.out,hx] <;> rfl) hne
 | bad er p =>
   refine ((IC l d).bad hx hp).mono ?_;rintro e wb ⟨rfl,ac⟩;go_wp2_with fail;exact ⟨rfl,zdz (by rw [HX.out,hx] <;> rfl) (HB.out.trans ac)⟩
 | ok x r =>
   refine ((IC l d).ok hx hp).mono ?_;rintro e w6 ⟨_,rfl,⟨ey,eC,eB,ez,bQ,eD,eA,rfl,hi,hh⟩,aC,ac⟩;clear hp;have hp:=aC;clear aC;have i_x:=hid hi;have hy:=hid (am.less (P':=fun b=>w.heap.size+2≤b) (fun b _ (hb:w5.heap.size≤b)=>(show w.heap.size+2≤b by omega)) hh);replace HB:=kb HB ac;replace ap:=kr ac ap bg;replace aI:=lx ap;replace ae:=kr ac ae an;replace ah:=lx ae;replace av:=kr ac av bm;replace aD:=lx av;replace au:=nT au ac.size;have bZ:=hy;clear hy hi hh ac;replace HX:=hid (by have h:=HX.out;rw [hx] at h;exact h);clear hx;have hzz:=hgl;have HW:=hid (cu hp HB.out ae.out (by omega) (by omega) (.int .i64 ey) (.string (bs eC)) (.int .i64 eB) (.int .i64 ez) (.slice eD bQ.length eA));obtain ⟨cT,cQ,cO,cN,cS,cR,cI,cJ,cH,cP⟩:=eV ae.out;go_wp2_with fail;obtain ⟨wz,hw,fl,fo,fu,hsz,dv⟩:=HW.out;rw [← hw];refine br Tryz.underlying27 (w.heap.size+1) fu (zdE HX.out ?_ fl fo);have S:d9 (w.heap.size+2≤·) w6 wz:=⟨by omega,fun k _ (hk:w.heap.size+2≤k)=>dv k (by omega)⟩;exact ⟨ey,eC,eB,ez,bQ,eD,eA,rfl,i_x.out,am.less (P:=fun b=>w.heap.size+2≤b) (fun b _ (hb:w.heap.size+2≤b)=>(show w.heap.size≤b by omega)) (am.keep S bZ.out)⟩
theorem vK (f:Nat) (g:Nat) (en:Pl) (l:List Tok) (d:Nat) (gj:dV l 3=false) (gU:dV l 2=false) (eL:cd l=true) (kP:aT l 1 [40]=false)  :
  cC 138 #[.pointer (some ⟨g,0,none⟩)] g en l d ca (bN en (f+1) l d):=by
 intro w hp hne;obtain ⟨X,hX⟩:∃ X,X=bN en (f+1) l d:=⟨_,rfl⟩;rw [← hX] at hne ⊢;rw [bN] at hX;rw [gj,if_neg (c:=false=true) (by decide)] at hX;rw [gU,if_neg (c:=false=true) (by decide)] at hX;rw [show (cd l && aT l 1 [40])=false by rw [eL,kP];rfl,if_neg (c:=false=true) (by decide)] at hX;rw [eL,if_pos (c:=true=true) rfl] at hX;have HX:=hid hX;clear hX;have hgl:=hp.lt;have qo:=mf;have hk3:=eH en l 3;have hk2:=eH en l 2;have Pg:=hid (fun (b:Nat) (h:w.heap.size+2≤b)=>(show b≠g by omega));obtain ⟨w1,hw,hp1,hB,rb,rr,au⟩:=iV hp (.cells #[.pointer (some ⟨g,0,none⟩)] 53) (.cells #[.int .i64 0,.string ⟨#[]⟩,.int .i64 0,.int .i64 0,.slice none 0 0] 27);have ap:=hid rb;have ae:=hid rr;have bg:w.heap.size≠g:=by omega
 have an:w.heap.size+1≠g:=by omega
 have aI:w.heap.size<w1.heap.size:=by omega
 have ah:w.heap.size+1<w1.heap.size:=au;clear hp rb rr;have hp:=hp1;clear hp1;have HB:=hid hB;clear hB;go_enter Tryz.func138,Tryz.ntmps138
 go_wp2_with fail;rw [← hw.out];clear hw;refine (eI 0 g en l d _ hp).mono ?_;rintro e w2 ⟨rfl,ac⟩;replace hp:=hp.keep ac;replace ac:=obw g ac;replace HB:=kb HB ac;replace ap:=kr ac ap bg;replace aI:=lx ap;replace ae:=kr ac ae an;replace ah:=lx ae;replace au:=nT au ac.size;clear ac;generalize atT en l 0=t at *;have q3:((t.1:Int) == 3)=false:=by rw [gj] at hk3;have:=hk3.symm;rw [Bool.eq_iff_iff] at this ⊢;simp at this ⊢;omega
 have q2:((t.1:Int) == 2)=false:=by rw [gU] at hk2;have:=hk2.symm;rw [Bool.eq_iff_iff] at this ⊢;simp at this ⊢;omega
 clear hk3 hk2;have S1:=hid (fun W (hW:PS W g en l d)=>by have h:=dk g en l d W hW;rw [eL] at h;exact h);have S2:=hid (fun W (hW:PS W g en l d)=>by have h:=ch 1 [40] g en l d W hW;rw [kP] at h;exact h);clear gj gU eL kP;obtain ⟨bf,bd⟩:=eu ap.out;go_wp2_with fail;clear bf bd;obtain ⟨w3,hw,aC,ac,rr,tl⟩:=aN hp (.cells #[.int .i64 (t.1:Int),.string (bs t.2.1),.int .i64 (t.2.2.1:Int),.int .i64 (t.2.2.2:Int)] 46);have bm:w2.heap.size≠g:=by have:=hp.lt;omega
 have om:w.heap.size+2≤w2.heap.size:=au;clear hp;have hp:=aC;clear aC;have av:=hid rr;clear rr;replace HB:=kb HB ac;replace ap:=kr ac ap bg;replace aI:=lx ap;replace ae:=kr ac ae an;replace ah:=lx ae;replace au:=nT au ac.size;have aD:w2.heap.size<w3.heap.size:=tl;clear tl ac;rw [← hw.out];clear hw;refine (S1.out _ hp).mono ?_;rintro e w4 ⟨rfl,ac⟩;replace hp:=hp.keep ac;replace ac:=obw g ac;replace HB:=kb HB ac;replace ap:=kr ac ap bg;replace aI:=lx ap;replace ae:=kr ac ae an;replace ah:=lx ae;replace av:=kr ac av bm;replace aD:=lx av;replace au:=nT au ac.size;clear ac;obtain ⟨bf,bd⟩:=eu ap.out;go_wp2_with fail;clear bf bd;refine (S2.out _ hp).mono ?_;rintro e w5 ⟨rfl,ac⟩;replace hp:=hp.keep ac;replace ac:=obw g ac;replace HB:=kb HB ac;replace ap:=kr ac ap bg;replace aI:=lx ap;replace ae:=kr ac ae an;replace ah:=lx ae;replace av:=kr ac av bm;replace aD:=lx av;replace au:=nT au ac.size;clear ac;obtain ⟨bf,bd⟩:=eu ap.out;go_wp2_with fail;clear bf bd;refine (S1.out _ hp).mono ?_;rintro e w6 ⟨rfl,ac⟩;replace hp:=hp.keep ac;replace ac:=obw g ac;replace HB:=kb HB ac;replace ap:=kr ac ap bg;replace aI:=lx ap;replace ae:=kr ac ae an;replace ah:=lx ae;replace av:=kr ac av bm;replace aD:=lx av;replace au:=nT au ac.size;clear ac;obtain ⟨bf,bd⟩:=eu ap.out;go_wp2_with fail;clear bf bd;cases hx:bl en true l with
 | oof=>exact absurd (by rw [HX.out,hx] <;> rfl) hne
 | bad er p =>
   refine (cc hx hp).mono ?_;rintro e wb ⟨rfl,ac⟩;go_wp2_with fail;exact ⟨rfl,zdz (by rw [HX.out,hx] <;> rfl) (HB.out.trans ac)⟩
 | ok t2 r =>
   refine (c9 hx hp).mono ?_;rintro e w7 ⟨rfl,aC,ac⟩;clear hp;have hp:=aC;clear aC;replace HB:=kb HB ac;replace ap:=kr ac ap bg;replace aI:=lx ap;replace ae:=kr ac ae an;replace ah:=lx ae;replace av:=kr ac av bm;replace aD:=lx av;replace au:=nT au ac.size;clear ac;replace HX:=thk HX hx;clear hx;obtain ⟨gH,gz,gv,gF,gy,gG,gB,gI⟩:=hC av.out;go_wp2_with fail;clear gH gy gz gG gv gB gF gI;refine (bW 9 t t.2.1 none 0 0 _).mono ?_;rintro e w8 ⟨rfl,ac⟩;replace hp:=hp.keep ac;replace ac:=obw g ac;replace HB:=kb HB ac;replace ap:=kr ac ap bg;replace aI:=lx ap;replace ae:=kr ac ae an;replace ah:=lx ae;replace av:=kr ac av bm;replace aD:=lx av;replace au:=nT au ac.size;clear ac;have hzz:=hgl;have HW:=hid (cu hp HB.out ae.out (by omega) (by omega) (.int .i64 9) (.string (bs t.2.1)) (.int .i64 (t.2.2.1:Int)) (.int .i64 (t.2.2.2:Int)) (.slice none 0 0));obtain ⟨cT,cQ,cO,cN,cS,cR,cI,cJ,cH,cP⟩:=eV ae.out;go_wp2_with fail;obtain ⟨wz,hw,fl,fo,fu,hsz,dv⟩:=HW.out;rw [← hw];refine br Tryz.underlying27 (w.heap.size+1) fu (zdE HX.out ?_ fl fo);have S:d9 (w.heap.size+2≤·) w8 wz:=⟨by omega,fun k _ (hk:w.heap.size+2≤k)=>dv k (by omega)⟩;exact ⟨_,_,_,_,[],none,0,rfl,eK (k:=9) (p:=(t.2.2.1,t.2.2.2)) gh _ _,iw _ _ _ _⟩
end Go.Proofs.YtfgiihpopngbkaaGreatDoor
