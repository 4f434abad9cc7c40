/- Lemmas and walks that the statement needs: RefNumber, RefFirst, RefAll, LexIs, ParsePlain, LexLaws, LexLaws2, LexLaws3. -/
import Derived.Test.YtfgiihpopngbkaaGreatDoorP02
import Derived.Deep.AppendLies
import Derived.Deep.RegionHeld3
namespace Go.Proofs.YtfgiihpopngbkaaGreatDoor
set_option maxRecDepth 100000
set_option maxHeartbeats 8000000
open Go.RowKit
open Nat renaming lt_of_lt_of_le→nL
open List renaming length_append→lAp
open Nat renaming le_refl→nRe
open Go renaming heap_alloc_new→hAn
theorem zA (s:List UInt8) (k:Nat) (h:k<s.length):eS 0 (s.take (k+1))=10 * eS 0 (s.take k)+(s[k].toNat - 48):=by
 rw [iR s k h,j3];rfl
def uU (s:List UInt8) (k:Nat) (x:Int) (big:Bool):Prop :=
 (big=false∧x=eS 0 (s.take k)∧eS 0 (s.take k)≤9223372036854775807)∨(big=true∧9223372036854775807<eS 0 (s.take k))
theorem wD (s:List UInt8):uU s 0 0 false:=by
 refine .inl ⟨rfl,?_,?_⟩
 ·rw [List.take_zero];rfl
 ·rw [List.take_zero];show (0:Nat)≤_;omega
theorem mh (a:Int):0≤IntKind.u64.wrap a∧IntKind.u64.wrap a≤18446744073709551615:=by
 have:IntKind.u64.wrap a=a % 18446744073709551616:=rfl;rw [this];omega
theorem yI {s:List UInt8} (hp:0<s.length) (h:s.head? = some 48):((s[0].toNat:Int) == 48)=true:=by
 cases s with
 | nil=>simp at hp
 | cons c r=>have:c=48:=by simpa using h
             subst this;rfl
theorem sr {s:List UInt8} (hp:0<s.length) {k:Nat} (h:¬ (1<k∧s.head? = some 48)):(Hid (¬ (1:Int)<(k:Int)))∨(Hid ((1:Int)<(k:Int))∧Hid (((s[0].toNat:Int) == 48)=false)):=by
 by_cases h1:1<k
 ·refine .inr ⟨hid (by omega),hid (eqF ?_)⟩;intro h2;apply h;refine ⟨h1,?_⟩;cases s with
  | nil=>simp at hp
  | cons c r =>
    have h3:c.toNat=48:=by simp only [List.getElem_cons_zero] at h2;omega
    have h4:c=48:=UInt8.toNat_inj.1 (h3.trans rfl);rw [h4];rfl
 ·exact .inl (hid (by omega))
theorem sJ (s:List UInt8) (hs:s.length≤1000000000000) (hn:0<aZ aS s) (k0:Nat) (t:List UInt8) (n0 e0:Nat) (hp:mI s=(k0,t,n0,e0)) (w:World) :
  Calls Tryz.prog 192 #[.string (bs s)] w (fS k0 t n0 e0 w):=by
 have hrl:=ix aS s;have hp0:0<s.length:=by omega
 have HP:=hid hp;have Hf:=hid (bO w (.int .i64 0) (.string ⟨#[]⟩) (.int .i64 0) (.int .i64 0) 194 (0,0));have HR0:=hid hn;clear hp hn hrl;go_enter Tryz.func192,Tryz.ntmps192
 go_wp2_with fail
 go_loop [3,4,5] (fun i v b=>∃ (k:Nat) (x:Int) (big:Bool),k≤s.length∧i=.int .i64 k∧v=.int .u64 x∧b=.bool big∧Hid (aZ aS s=k+aZ aS (s.drop k))∧Hid (uU s k x big)∧0≤x∧x≤18446744073709551615) (fun i _ _=>s.length - (intOf i).toNat)
 case atStart=>exact ⟨0,0,false,by omega,rfl,rfl,rfl,hid (by simp),hid (wD s),by omega,by omega⟩
 case round =>
  obtain ⟨k,x,big,hk,rfl,rfl,rfl,HR,HB,hx0,hx1⟩:=hrel;by_cases aL:k<s.length
  ·cases hc:aS s[k] with
   | true =>
     have hcd:48≤s[k].toNat∧s[k].toNat≤57:=by simpa [aS] using hc
     have HN:Hid (aZ aS s=(k+1)+aZ aS (s.drop (k+1))):=hid (by rw [HR.out,g7 aL hc]);have HC:=hid (dB.is s[k] true hc);have hvs:=zA s k aL;rcases HB.out with ⟨rfl,hx,hv⟩ | ⟨rfl,hv⟩
     ·obtain ⟨v,hvv⟩:∃ v,eS 0 (s.take k)=v:=⟨_,rfl⟩;rw [hvv] at hx hv hvs;subst hx;by_cases hbig:9223372036854775807<10 * v+(s[k].toNat - 48)
      ·have HB2:∀ y,Hid (uU s (k+1) y true):=fun y=>hid (.inr ⟨rfl,by rw [hvs];exact hbig⟩)
       by_cases hA:922337203685477580<v
       ·have hA':(922337203685477580:Int)<(v:Int):=by omega
        clear hc HR HB hvs hvv hbig hA;go_wp2_with fail;refine (HC.out _).mono ?_;rintro e wx ⟨rfl,rfl⟩;go_wp2_with fail
        go_round
        case rel=>exact ⟨k+1,_,true,by omega,by go_num,rfl,rfl,HN,HB2 _,by first | exact (mh _).1 | omega,by first | exact (mh _).2 | omega⟩
        case measure=>simp [intOf];omega
       ·have hA':¬ (922337203685477580:Int)<(v:Int):=by omega
        have hE:((v:Int) == 922337203685477580)=true:=eqT (by omega);have h7:(55:Int)<(s[k].toNat:Int):=by omega
        clear hc HR HB hvs hvv hbig hA;go_wp2_with fail;refine (HC.out _).mono ?_;rintro e wx ⟨rfl,rfl⟩;go_wp2_with fail
        go_round
        case rel=>exact ⟨k+1,_,true,by omega,by go_num,rfl,rfl,HN,HB2 _,by first | exact (mh _).1 | omega,by first | exact (mh _).2 | omega⟩
        case measure=>simp [intOf];omega
      ·have HV:=hid hvs;by_cases hA:v=922337203685477580
       ·have hE:((v:Int) == 922337203685477580)=true:=eqT (by omega);have hA':¬ (922337203685477580:Int)<(v:Int):=by omega
        have h7:¬ (55:Int)<(s[k].toNat:Int):=by omega
        clear hc HR HB hvs hvv hA;go_wp2_with fail;refine (HC.out _).mono ?_;rintro e wx ⟨rfl,rfl⟩;go_wp2_with fail
        go_round
        case rel=>exact ⟨k+1,_,false,by omega,by go_num,rfl,rfl,HN,hid (.inl ⟨rfl,by rw [HV.out];omega,by rw [HV.out];omega⟩),by omega,by omega⟩
        case measure=>simp [intOf];omega
       ·have hE:((v:Int) == 922337203685477580)=false:=eqF (by omega);have hA':¬ (922337203685477580:Int)<(v:Int):=by omega
        clear hc HR HB hvs hvv hA;go_wp2_with fail;refine (HC.out _).mono ?_;rintro e wx ⟨rfl,rfl⟩;go_wp2_with fail
        go_round
        case rel=>exact ⟨k+1,_,false,by omega,by go_num,rfl,rfl,HN,hid (.inl ⟨rfl,by rw [HV.out];omega,by rw [HV.out];omega⟩),by omega,by omega⟩
        case measure=>simp [intOf];omega
     ·have HB2:∀ y,Hid (uU s (k+1) y true):=fun y=>hid (.inr ⟨rfl,by rw [hvs];omega⟩)
      clear hc HR HB hvs hv;go_wp2_with fail;refine (HC.out _).mono ?_;rintro e wx ⟨rfl,rfl⟩;go_wp2_with fail
      all_goals
       go_round
       case rel=>exact ⟨k+1,_,true,by omega,by go_num,rfl,rfl,HN,HB2 _,by first | exact (mh _).1 | omega,by first | exact (mh _).2 | omega⟩
       case measure=>simp [intOf];omega
   | false =>
     have HC:=hid (dB.is s[k] false hc);have HNk:Hid (aZ aS s=k):=hid (by rw [HR.out,eo s k aL,f8 hc];rfl);clear hc HR;have hp:=HP.out;rw [mI,HNk.out] at hp;by_cases hform:1<k∧s.head? = some 48
     ·rw [if_pos hform] at hp;simp only [Prod.mk.injEq] at hp;obtain ⟨rfl,rfl,rfl,rfl⟩:=hp;have g1:(1:Int)<(k:Int):=by omega
      have g2:((s[0].toNat:Int) == 48)=true:=yI hp0 hform.2;clear HP HNk hform HB;go_wp2_with fail;refine (HC.out _).mono ?_;rintro e wx ⟨rfl,rfl⟩;go_wp2_with fail;exact bodyPost_ret (gr (k:=0) (t:=[]) (n:=0) (e:=3) rfl (bO w _ _ _ _ _ _)) rfl ⟨rfl,(Below.refl _ _).alloc (nRe _) _⟩
     ·rw [if_neg hform] at hp;have hz:(Hid (¬ (1:Int)<(k:Int)))∨(Hid ((1:Int)<(k:Int))∧Hid (((s[0].toNat:Int) == 48)=false)):=sr hp0 hform;rcases HB.out with ⟨rfl,hx,hv⟩ | ⟨rfl,hv⟩
      ·rw [if_neg (by omega)] at hp;simp only [Prod.mk.injEq] at hp;obtain ⟨rfl,rfl,rfl,rfl⟩:=hp;clear HP HNk hform HB hx hv;rcases hz with hz | ⟨hz,hq⟩
       all_goals
        have hz':=hz.out
        (try have hq':=hq.out)
        go_wp2_with fail;refine (HC.out _).mono ?_;rintro e wx ⟨rfl,rfl⟩;go_wp2_with fail;exact bodyPost_ret (gr (k:=2) (t:=s.take k) (n:=k) (e:=0) rfl (bO w _ _ _ _ _ _)) rfl ⟨rfl,(Below.refl _ _).alloc (nRe _) _⟩
      ·rw [if_pos hv] at hp;simp only [Prod.mk.injEq] at hp;obtain ⟨rfl,rfl,rfl,rfl⟩:=hp;clear HP HNk hform HB hv;rcases hz with hz | ⟨hz,hq⟩
       all_goals
        have hz':=hz.out
        (try have hq':=hq.out)
        go_wp2_with fail;refine (HC.out _).mono ?_;rintro e wx ⟨rfl,rfl⟩;go_wp2_with fail;exact bodyPost_ret (gr (k:=0) (t:=[]) (n:=0) (e:=2) rfl (bO w _ _ _ _ _ _)) rfl ⟨rfl,(Below.refl _ _).alloc (nRe _) _⟩
  ·have HNk:Hid (aZ aS s=k):=hid (by rw [HR.out,List.drop_eq_nil_of_le (by omega)];rfl);have hd:decide (k<s.length)=false:=decide_eq_false aL;clear HR;have hp:=HP.out;rw [mI,HNk.out] at hp;by_cases hform:1<k∧s.head? = some 48
   ·rw [if_pos hform] at hp;simp only [Prod.mk.injEq] at hp;obtain ⟨rfl,rfl,rfl,rfl⟩:=hp;have g1:(1:Int)<(k:Int):=by omega
    have g2:((s[0].toNat:Int) == 48)=true:=yI hp0 hform.2;clear HP HNk hform HB;go_wp2_with fail;exact bodyPost_ret (gr (k:=0) (t:=[]) (n:=0) (e:=3) rfl (bO w _ _ _ _ _ _)) rfl ⟨rfl,(Below.refl _ _).alloc (nRe _) _⟩
   ·rw [if_neg hform] at hp;have hz:(Hid (¬ (1:Int)<(k:Int)))∨(Hid ((1:Int)<(k:Int))∧Hid (((s[0].toNat:Int) == 48)=false)):=sr hp0 hform;rcases HB.out with ⟨rfl,hx,hv⟩ | ⟨rfl,hv⟩
    ·rw [if_neg (by omega)] at hp;simp only [Prod.mk.injEq] at hp;obtain ⟨rfl,rfl,rfl,rfl⟩:=hp;clear HP HNk hform HB hx hv;rcases hz with hz | ⟨hz,hq⟩
     all_goals
      have hz':=hz.out
      (try have hq':=hq.out)
      go_wp2_with fail;exact bodyPost_ret (gr (k:=2) (t:=s.take k) (n:=k) (e:=0) rfl (bO w _ _ _ _ _ _)) rfl ⟨rfl,(Below.refl _ _).alloc (nRe _) _⟩
    ·rw [if_pos hv] at hp;simp only [Prod.mk.injEq] at hp;obtain ⟨rfl,rfl,rfl,rfl⟩:=hp;clear HP HNk hform HB hv;rcases hz with hz | ⟨hz,hq⟩
     all_goals
      have hz':=hz.out
      (try have hq':=hq.out)
      go_wp2_with fail;exact bodyPost_ret (gr (k:=0) (t:=[]) (n:=0) (e:=2) rfl (bO w _ _ _ _ _ _)) rfl ⟨rfl,(Below.refl _ _).alloc (nRe _) _⟩
section
set_option linter.unusedVariables false
theorem sne {c d:UInt8} (h:¬ c=d):((d.toNat:Int) == (c.toNat:Int))=false:=eqF (fun e=>h (UInt8.toNat_inj.1 (by omega)))
theorem seq {c d:UInt8} (h:c=d):((d.toNat:Int) == (c.toNat:Int))=true:=by subst h;exact eqT rfl
theorem iY {w w2:World} (hb:Below (w.heap.size+1) (w.alloc (.cells #[.int .i64 0,.string ⟨#[]⟩,.int .i64 0,.int .i64 0] 194)) w2) :
  jm w2 w.heap.size (.int .i64 0) (.string ⟨#[]⟩) (.int .i64 0) (.int .i64 0)∧ny w2 w.heap.size∧Below w.heap.size w w2∧w.heap.size<w2.heap.size:=by
 have hb':Below (w.alloc (.cells #[.int .i64 0,.string ⟨#[]⟩,.int .i64 0,.int .i64 0] 194)).heap.size (w.alloc (.cells #[.int .i64 0,.string ⟨#[]⟩,.int .i64 0,.int .i64 0] 194)) w2:=hb.mono (by simp);exact ⟨jq (bO w _ _ _ _ _ _) hb',kO (fZ w _ _) (by simp) hb',((Below.refl w.heap.size w).alloc (nRe _) _).trans (hb'.mono (by simp)),nL (by simp) hb'.size⟩
set_option maxHeartbeats 2000000
theorem wo (c:UInt8) (r:List UInt8) (hs:(c::r).length≤1000000000000) (h1:bp c=true) (w:World) :
  Calls Tryz.prog 169 #[.string (bs (c::r))] w (fS 0 [] 1 0 w):=by
 have hpos:0<(c::r).length:=by simp
 have hG:=hid (gc (c::r) hpos hs 1 (by show (if bp c=true then 1 else if c.toNat=35 then aZ bv (c::r) else 0)=_;rw [if_pos h1]));clear h1;go_enter Tryz.func169,Tryz.ntmps169
 go_wp2_with fail;refine (hG.out _).mono ?_;rintro e wx ⟨rfl,rfl⟩;go_wp2_with fail;exact bodyPost_ret (dC (k:=0) (t:=[]) (n:=1) (e:=0) rfl (bO w _ _ _ _ _ _)) rfl ⟨rfl,(Below.refl _ _).alloc (nRe _) _⟩
theorem xq (c:UInt8) (r:List UInt8) (hs:(c::r).length≤1000000000000) (h1:bp c=false) (h2:c.toNat=35) (w:World) :
  Calls Tryz.prog 169 #[.string (bs (c::r))] w (fS 0 [] (aZ bv (c::r)) 0 w):=by
 have hpos:0<(c::r).length:=by simp
 have hG:=hid (gc (c::r) hpos hs (aZ bv (c::r)) (by show (if bp c=true then 1 else if c.toNat=35 then aZ bv (c::r) else 0)=_;rw [if_neg (by rw [h1];simp),if_pos h2]));have hn:(0:Int)<(aZ bv (c::r):Int):=by rw [eQ (by simp [bv,h2])];omega
 generalize aZ bv (c::r)=n at *;clear h1 h2;go_enter Tryz.func169,Tryz.ntmps169
 go_wp2_with fail;refine (hG.out _).mono ?_;rintro e wx ⟨rfl,rfl⟩;go_wp2_with fail;exact bodyPost_ret (dC (k:=0) (t:=[]) (n:=n) (e:=0) rfl (bO w _ _ _ _ _ _)) rfl ⟨rfl,(Below.refl _ _).alloc (nRe _) _⟩
theorem tJ (c:UInt8) (r:List UInt8) (hs:(c::r).length≤1000000000000) (h1:bp c=false) (h2:c.toNat≠35) (h3:dE c=true) (w:World) :
  Calls Tryz.prog 169 #[.string (bs (c::r))] w (fS 1 ((c::r).take (aZ bq (c::r))) (aZ bq (c::r)) 0 w):=by
 have hpos:0<(c::r).length:=by simp
 have hG:=hid (gc (c::r) hpos hs 0 (by show (if bp c=true then 1 else if c.toNat=35 then aZ bv (c::r) else 0)=_;rw [if_neg (by rw [h1];simp),if_neg h2]));have hL:=hid (dw.is c true h3);have hs0:(c::r)[0]=c:=rfl;generalize c::r=s at *;subst hs0;clear h1 h2 h3;go_enter Tryz.func169,Tryz.ntmps169
 go_wp2_with fail;refine (hG.out _).mono ?_;rintro e wx ⟨rfl,rfl⟩;go_wp2_with fail;refine (hL.out _).mono ?_;rintro e wx ⟨rfl,rfl⟩;go_wp2_with fail
 go_loop [4] (fun i=>∃ k:Nat,k≤s.length∧i=.int .i64 k∧Hid (aZ bq s=k+aZ bq (s.drop k))) (fun i=>s.length - (intOf i).toNat)
 case atStart=>exact ⟨0,by omega,rfl,hid (by simp)⟩
 case round =>
  obtain ⟨k,hk,rfl,HR⟩:=hrel;by_cases aL:k<s.length
  ·cases hl:dE s[k] with
   | true =>
     have HN:Hid (aZ bq s=(k+1)+aZ bq (s.drop (k+1))):=hid (by rw [HR.out,g7 aL (by simp [bq,hl])]);have HC:=hid (dw.is s[k] true hl);clear hl HR;go_wp2_with fail;refine (HC.out _).mono ?_;rintro e wx ⟨rfl,rfl⟩;go_wp2_with fail
     go_round
     case rel=>exact ⟨k+1,by omega,by go_num,HN⟩
     case measure=>simp [intOf];omega
   | false =>
     have HC:=hid (dw.is s[k] false hl);cases hd:aS s[k] with
     | true =>
       have HN:Hid (aZ bq s=(k+1)+aZ bq (s.drop (k+1))):=hid (by rw [HR.out,g7 aL (by simp [bq,hd])]);have HD:=hid (dB.is s[k] true hd);clear hl hd HR;go_wp2_with fail;refine (HC.out _).mono ?_;rintro e wx ⟨rfl,rfl⟩;go_wp2_with fail;refine (HD.out _).mono ?_;rintro e wx ⟨rfl,rfl⟩;go_wp2_with fail
       go_round
       case rel=>exact ⟨k+1,by omega,by go_num,HN⟩
       case measure=>simp [intOf];omega
     | false =>
       have HN:Hid (aZ bq s=k):=hid (by rw [HR.out,eo s k aL,f8 (by simp [bq,hl,hd])];rfl);have HD:=hid (dB.is s[k] false hd);clear hl hd HR;go_wp2_with fail;refine (HC.out _).mono ?_;rintro e wx ⟨rfl,rfl⟩;go_wp2_with fail;refine (HD.out _).mono ?_;rintro e wx ⟨rfl,rfl⟩;go_wp2_with fail;rw [HN.out];exact bodyPost_ret (dC (k:=1) (t:=s.take k) (n:=k) (e:=0) rfl (bO w _ _ _ _ _ _)) rfl ⟨rfl,(Below.refl _ _).alloc (nRe _) _⟩
  ·have HN:Hid (aZ bq s=k):=hid (by rw [HR.out,List.drop_eq_nil_of_le (by omega)];rfl);have hd:decide (k<s.length)=false:=decide_eq_false aL;clear HR;go_wp2_with fail;rw [HN.out];exact bodyPost_ret (dC (k:=1) (t:=s.take k) (n:=k) (e:=0) rfl (bO w _ _ _ _ _ _)) rfl ⟨rfl,(Below.refl _ _).alloc (nRe _) _⟩
theorem vP (c:UInt8) (r:List UInt8) (hs:(c::r).length≤1000000000000) (h1:bp c=false) (h2:c.toNat≠35) (h3:dE c=false) (h4:aS c=true) (k:Nat) (t:List UInt8) (n e:Nat) (hp:mI (c::r)=(k,t,n,e)) (w:World) :
  Calls Tryz.prog 169 #[.string (bs (c::r))] w (fS k t n e w):=by
 have hpos:0<(c::r).length:=by simp
 have hG:=hid (gc (c::r) hpos hs 0 (by show (if bp c=true then 1 else if c.toNat=35 then aZ bv (c::r) else 0)=_;rw [if_neg (by rw [h1];simp),if_neg h2]));have hL:=hid (dw.is c false h3);have hD:=hid (dB.is c true h4);have hN:=hid (sJ (c::r) hs (by rw [eQ h4];omega) k t n e hp);unfold fS at hN;clear h1 h2 h3 h4 hp;go_enter Tryz.func169,Tryz.ntmps169
 go_wp2_with fail;refine (hG.out _).mono ?_;rintro e wx ⟨rfl,rfl⟩;go_wp2_with fail;refine (hL.out _).mono ?_;rintro e wx ⟨rfl,rfl⟩;go_wp2_with fail;refine (hD.out _).mono ?_;rintro e wx ⟨rfl,rfl⟩;go_wp2_with fail;refine (hN.out _).mono ?_;rintro e wy ⟨rfl,hb⟩;obtain ⟨hf,hfr,hbx,aL⟩:=iY (hb.mono (by simp));have Hf:=hid hf;obtain ⟨k0,k1,k2,k3⟩:=hf;have g0:=hfr 0;have g1:=hfr 1;have g2:=hfr 2;have g3:=hfr 3;clear hb hfr;unfold pi;go_wp2_with fail;exact bodyPost_ret (dC (k:=k) (t:=t) (n:=n) (e:=e) rfl (dl Hf.out _ _ _ _)) rfl ⟨rfl,b8 hbx (nRe _) _ _ _ _⟩
theorem ug (c:UInt8) (r:List UInt8) (hs:(c::r).length≤1000000000000) (h1:bp c=false) (h2:c.toNat≠35) (h3:dE c=false) (h4:aS c=false) (h5:c.toNat=34) (k:Nat) (t:List UInt8) (n e:Nat) (hp:nI (c::r)=(k,t,n,e)) (w:World) :
  Calls Tryz.prog 169 #[.string (bs (c::r))] w (fS k t n e w):=by
 have hpos:0<(c::r).length:=by simp
 have hG:=hid (gc (c::r) hpos hs 0 (by show (if bp c=true then 1 else if c.toNat=35 then aZ bv (c::r) else 0)=_;rw [if_neg (by rw [h1];simp),if_neg h2]));have hL:=hid (dw.is c false h3);have hD:=hid (dB.is c false h4);have q5:((c.toNat:Int) == 34)=true:=eqT (by omega);have hN:=hid (si (c::r) hs k t n e hp);unfold fS at hN;clear h1 h2 h3 h4 h5 hp;go_enter Tryz.func169,Tryz.ntmps169
 go_wp2_with fail;refine (hG.out _).mono ?_;rintro e wx ⟨rfl,rfl⟩;go_wp2_with fail;refine (hL.out _).mono ?_;rintro e wx ⟨rfl,rfl⟩;go_wp2_with fail;refine (hD.out _).mono ?_;rintro e wx ⟨rfl,rfl⟩;go_wp2_with fail;refine (hN.out _).mono ?_;rintro e wy ⟨rfl,hb⟩;obtain ⟨hf,hfr,hbx,aL⟩:=iY (hb.mono (by simp));have Hf:=hid hf;obtain ⟨k0,k1,k2,k3⟩:=hf;have g0:=hfr 0;have g1:=hfr 1;have g2:=hfr 2;have g3:=hfr 3;clear hb hfr;unfold pi;go_wp2_with fail;exact bodyPost_ret (dC (k:=k) (t:=t) (n:=n) (e:=e) rfl (dl Hf.out _ _ _ _)) rfl ⟨rfl,b8 hbx (nRe _) _ _ _ _⟩
theorem uk (c:UInt8) (r:List UInt8) (hs:(c::r).length≤1000000000000) (h1:bp c=false) (h2:c.toNat≠35) (h3:dE c=false) (h4:aS c=false) (h5:c.toNat≠34) (h6:c.toNat=61) (r2:List UInt8) (h7:r=61::r2) (w:World) :
  Calls Tryz.prog 169 #[.string (bs (c::r))] w (fS 4 ((c::r).take 2) 2 0 w):=by
 have hpos:0<(c::r).length:=by simp
 have hG:=hid (gc (c::r) hpos hs 0 (by show (if bp c=true then 1 else if c.toNat=35 then aZ bv (c::r) else 0)=_;rw [if_neg (by rw [h1];simp),if_neg h2]));have hL:=hid (dw.is c false h3);have hD:=hid (dB.is c false h4);have q5:((c.toNat:Int) == 34)=false:=eqF (by omega);have q6:((c.toNat:Int) == 61)=true:=eqT (by omega);subst h7;have p1:(0:Int)<(r2.length:Int)+1+1:=by omega
 have p2:(1:Int)<(r2.length:Int)+1+1:=by omega
 have p3:0<r2.length+1+1:=by omega
 have p4:1<r2.length+1+1:=by omega
 have p5:2≤r2.length+1+1:=by omega
 have p6:(2:Int)≤(r2.length:Int)+1+1:=by omega
 clear h1 h2 h3 h4 h5 h6;go_enter Tryz.func169,Tryz.ntmps169
 go_wp2_with fail;refine (hG.out _).mono ?_;rintro e wx ⟨rfl,rfl⟩;go_wp2_with fail;refine (hL.out _).mono ?_;rintro e wx ⟨rfl,rfl⟩;go_wp2_with fail;refine (hD.out _).mono ?_;rintro e wx ⟨rfl,rfl⟩;go_wp2_with fail;exact bodyPost_ret (dC (k:=4) (t:=(c::61::r2).take 2) (n:=2) (e:=0) rfl (bO w _ _ _ _ _ _)) rfl ⟨rfl,(Below.refl _ _).alloc (nRe _) _⟩
theorem rz (c:UInt8) (r:List UInt8) (hs:(c::r).length≤1000000000000) (h1:bp c=false) (h2:c.toNat≠35) (h3:dE c=false) (h4:aS c=false) (h5:c.toNat≠34) (h6:c.toNat=33) (r2:List UInt8) (h7:r=61::r2) (w:World) :
  Calls Tryz.prog 169 #[.string (bs (c::r))] w (fS 4 ((c::r).take 2) 2 0 w):=by
 have hpos:0<(c::r).length:=by simp
 have hG:=hid (gc (c::r) hpos hs 0 (by show (if bp c=true then 1 else if c.toNat=35 then aZ bv (c::r) else 0)=_;rw [if_neg (by rw [h1];simp),if_neg h2]));have hL:=hid (dw.is c false h3);have hD:=hid (dB.is c false h4);have q5:((c.toNat:Int) == 34)=false:=eqF (by omega);have q6:((c.toNat:Int) == 33)=true:=eqT (by omega);have q7:((c.toNat:Int) == 61)=false:=eqF (by omega);subst h7;have p1:(0:Int)<(r2.length:Int)+1+1:=by omega
 have p2:(1:Int)<(r2.length:Int)+1+1:=by omega
 have p3:0<r2.length+1+1:=by omega
 have p4:1<r2.length+1+1:=by omega
 have p5:2≤r2.length+1+1:=by omega
 have p6:(2:Int)≤(r2.length:Int)+1+1:=by omega
 clear h1 h2 h3 h4 h5 h6;go_enter Tryz.func169,Tryz.ntmps169
 go_wp2_with fail;refine (hG.out _).mono ?_;rintro e wx ⟨rfl,rfl⟩;go_wp2_with fail;refine (hL.out _).mono ?_;rintro e wx ⟨rfl,rfl⟩;go_wp2_with fail;refine (hD.out _).mono ?_;rintro e wx ⟨rfl,rfl⟩;go_wp2_with fail;exact bodyPost_ret (dC (k:=4) (t:=(c::61::r2).take 2) (n:=2) (e:=0) rfl (bO w _ _ _ _ _ _)) rfl ⟨rfl,(Below.refl _ _).alloc (nRe _) _⟩
theorem nN (c:UInt8) (r:List UInt8) (hs:(c::r).length≤1000000000000) (h1:bp c=false) (h2:c.toNat≠35) (h3:dE c=false) (h4:aS c=false) (h5:c.toNat≠34) (h6:r=[]) (k0:Nat) (t0:List UInt8) (n0 e0:Nat) (hp:(if c ∈ ci then ((4,[c],1,0):Nat × List UInt8 × Nat × Nat) else (0,[],0,3))=(k0,t0,n0,e0)) (w:World) :
  Calls Tryz.prog 169 #[.string (bs (c::r))] w (fS k0 t0 n0 e0 w):=by
 have hpos:0<(c::r).length:=by simp
 have hG:=hid (gc (c::r) hpos hs 0 (by show (if bp c=true then 1 else if c.toNat=35 then aZ bv (c::r) else 0)=_;rw [if_neg (by rw [h1];simp),if_neg h2]));have hL:=hid (dw.is c false h3);have hD:=hid (dB.is c false h4);have q5:((c.toNat:Int) == 34)=false:=eqF (by omega);subst h6;have HP:=hid hp;have Hf:=hid (bO w (.int .i64 0) (.string ⟨#[]⟩) (.int .i64 0) (.int .i64 0) 194 (0,0));have Hr:=hid (fZ w #[.int .i64 0,.string ⟨#[]⟩,.int .i64 0,.int .i64 0] 194);clear h1 h2 h3 h4 h5 hp;go_enter Tryz.func169,Tryz.ntmps169
 go_wp2_with fail;refine (hG.out _).mono ?_;rintro e wx ⟨rfl,rfl⟩;go_wp2_with fail;refine (hL.out _).mono ?_;rintro e wx ⟨rfl,rfl⟩;go_wp2_with fail;refine (hD.out _).mono ?_;rintro e wx ⟨rfl,rfl⟩;go_wp2_with fail;go_loopw [6] (fun i wr=>∃ k:Nat,k≤11∧i=.int .i64 k∧Hid (∀ j (h:j<ci.length),j<k→ci[j]≠c)∧Hid (dS (w.alloc (.cells #[.int .i64 0,.string ⟨#[]⟩,.int .i64 0,.int .i64 0] 194)) wr)) (fun i _=>11 - (intOf i).toNat)
 case atStart=>exact ⟨0,by omega,rfl,hid (fun j _ h=>by omega),hid (dS.refl _)⟩
 case round =>
  obtain ⟨k,hk,rfl,HJ,HD⟩:=hrel;have hdb:Below (w.heap.size+1) (w.alloc (.cells #[.int .i64 0,.string ⟨#[]⟩,.int .i64 0,.int .i64 0] 194)) wr:=HD.out.below;obtain ⟨hf,hfr,hbx,hsz⟩:=iY hdb;have HF:=hid hf;obtain ⟨x0,x1,x2,x3⟩:=hf;have g0:=hfr 0;have g1:=hfr 1;have g2:=hfr 2;have g3:=hfr 3;clear hfr hdb;by_cases aL:k<11
  ·have hks:k<ci.length:=aL;have hk2:(k:Int)<11:=by omega
   by_cases hc:ci[k]=c
   ·have e1:=HP.out;have hm:c ∈ ci:=by rw [← hc];exact List.getElem_mem _
    rw [if_pos hm] at e1;simp only [Prod.mk.injEq] at e1;obtain ⟨rfl,rfl,rfl,rfl⟩:=e1;obtain ⟨d,hdd⟩:=HD.out;subst hdd;have hq:((((⟨#[61,43,40,41,91,93,123,125,44,58,59]⟩:ByteArray)[k]'aL).toNat:Int) == (c.toNat:Int))=true:=seq (d:=ci[k]) hc.symm;clear HP HJ HD hm hk hc;go_wp2_with fail
    any_goals go_quiet (fail)
    any_goals go_wp2_with fail
    exact bodyPost_ret (dC (k:=4) (t:=[c]) (n:=1) (e:=0) rfl (dl HF.out _ _ _ _)) rfl ⟨rfl,b8 (((Below.refl _ _).alloc (nRe _) _).trans (dS.below ⟨_,rfl⟩)) (nRe _) _ _ _ _⟩
   ·have HJ2:Hid (∀ j (h:j<ci.length),j<k+1→ci[j]≠c):=hid (fun j hjs hj=>by
     rcases Nat.lt_or_eq_of_le (Nat.le_of_lt_succ hj) with h | h
     ·exact HJ.out j hjs h
     ·subst h;exact hc)
    obtain ⟨d,hdd⟩:=HD.out;subst hdd;have hq:((((⟨#[61,43,40,41,91,93,123,125,44,58,59]⟩:ByteArray)[k]'aL).toNat:Int) == (c.toNat:Int))=false:=sne (d:=ci[k]) (fun e=>hc e.symm);clear HJ HD hk hc HF;go_wp2_with fail
    any_goals go_quiet (fail)
    any_goals go_wp2_with fail
    exact ⟨⟨k+1,by omega,by go_num,HJ2,hid ⟨_,rfl⟩⟩,by simp [intOf];omega⟩
  ·obtain rfl:k=11:=by omega
   have e1:=HP.out;have hm:c ∉ ci:=fun hm=>by
    obtain ⟨j,hj,he⟩:=List.getElem_of_mem hm;exact HJ.out j hj hj he
   rw [if_neg hm] at e1;simp only [Prod.mk.injEq] at e1;obtain ⟨rfl,rfl,rfl,rfl⟩:=e1;clear HP HJ hm hk aL;go_wp2_with fail;exact bodyPost_ret (dC (k:=0) (t:=[]) (n:=0) (e:=3) rfl (dl HF.out _ _ _ _)) rfl ⟨rfl,b8 hbx (nRe _) _ _ _ _⟩
theorem lP (c:UInt8) (r:List UInt8) (hs:(c::r).length≤1000000000000) (h1:bp c=false) (h2:c.toNat≠35) (h3:dE c=false) (h4:aS c=false) (h5:c.toNat≠34) (d:UInt8) (r2:List UInt8) (h6:r=d::r2) (h7:d.toNat≠61) (k0:Nat) (t0:List UInt8) (n0 e0:Nat) (hp:(if c ∈ ci then ((4,[c],1,0):Nat × List UInt8 × Nat × Nat) else (0,[],0,3))=(k0,t0,n0,e0)) (w:World) :
  Calls Tryz.prog 169 #[.string (bs (c::r))] w (fS k0 t0 n0 e0 w):=by
 have hpos:0<(c::r).length:=by simp
 have hG:=hid (gc (c::r) hpos hs 0 (by show (if bp c=true then 1 else if c.toNat=35 then aZ bv (c::r) else 0)=_;rw [if_neg (by rw [h1];simp),if_neg h2]));have hL:=hid (dw.is c false h3);have hD:=hid (dB.is c false h4);have q5:((c.toNat:Int) == 34)=false:=eqF (by omega);have q7:((d.toNat:Int) == 61)=false:=eqF (by omega);subst h6;clear h7;have p1:(0:Int)<(r2.length:Int)+1+1:=by omega
 have p2:(1:Int)<(r2.length:Int)+1+1:=by omega
 have p3:0<r2.length+1+1:=by omega
 have p4:1<r2.length+1+1:=by omega
 have p5:2≤r2.length+1+1:=by omega
 have p6:(2:Int)≤(r2.length:Int)+1+1:=by omega
 have HP:=hid hp;have Hf:=hid (bO w (.int .i64 0) (.string ⟨#[]⟩) (.int .i64 0) (.int .i64 0) 194 (0,0));have Hr:=hid (fZ w #[.int .i64 0,.string ⟨#[]⟩,.int .i64 0,.int .i64 0] 194);clear h1 h2 h3 h4 h5 hp;go_enter Tryz.func169,Tryz.ntmps169
 go_wp2_with fail;refine (hG.out _).mono ?_;rintro e wx ⟨rfl,rfl⟩;go_wp2_with fail;refine (hL.out _).mono ?_;rintro e wx ⟨rfl,rfl⟩;go_wp2_with fail;refine (hD.out _).mono ?_;rintro e wx ⟨rfl,rfl⟩;go_wp2_with fail;go_loopw [6] (fun i wr=>∃ k:Nat,k≤11∧i=.int .i64 k∧Hid (∀ j (h:j<ci.length),j<k→ci[j]≠c)∧Hid (dS (w.alloc (.cells #[.int .i64 0,.string ⟨#[]⟩,.int .i64 0,.int .i64 0] 194)) wr)) (fun i _=>11 - (intOf i).toNat)
 case atStart=>exact ⟨0,by omega,rfl,hid (fun j _ h=>by omega),hid (dS.refl _)⟩
 case round =>
  obtain ⟨k,hk,rfl,HJ,HD⟩:=hrel;have hdb:Below (w.heap.size+1) (w.alloc (.cells #[.int .i64 0,.string ⟨#[]⟩,.int .i64 0,.int .i64 0] 194)) wr:=HD.out.below;obtain ⟨hf,hfr,hbx,hsz⟩:=iY hdb;have HF:=hid hf;obtain ⟨x0,x1,x2,x3⟩:=hf;have g0:=hfr 0;have g1:=hfr 1;have g2:=hfr 2;have g3:=hfr 3;clear hfr hdb;by_cases aL:k<11
  ·have hks:k<ci.length:=aL;have hk2:(k:Int)<11:=by omega
   by_cases hc:ci[k]=c
   ·have e1:=HP.out;have hm:c ∈ ci:=by rw [← hc];exact List.getElem_mem _
    rw [if_pos hm] at e1;simp only [Prod.mk.injEq] at e1;obtain ⟨rfl,rfl,rfl,rfl⟩:=e1;obtain ⟨d,hdd⟩:=HD.out;subst hdd;have hq:((((⟨#[61,43,40,41,91,93,123,125,44,58,59]⟩:ByteArray)[k]'aL).toNat:Int) == (c.toNat:Int))=true:=seq (d:=ci[k]) hc.symm;clear HP HJ HD hm hk hc;go_wp2_with fail
    any_goals go_quiet (fail)
    any_goals go_wp2_with fail
    exact bodyPost_ret (dC (k:=4) (t:=[c]) (n:=1) (e:=0) rfl (dl HF.out _ _ _ _)) rfl ⟨rfl,b8 (((Below.refl _ _).alloc (nRe _) _).trans (dS.below ⟨_,rfl⟩)) (nRe _) _ _ _ _⟩
   ·have HJ2:Hid (∀ j (h:j<ci.length),j<k+1→ci[j]≠c):=hid (fun j hjs hj=>by
     rcases Nat.lt_or_eq_of_le (Nat.le_of_lt_succ hj) with h | h
     ·exact HJ.out j hjs h
     ·subst h;exact hc)
    obtain ⟨d,hdd⟩:=HD.out;subst hdd;have hq:((((⟨#[61,43,40,41,91,93,123,125,44,58,59]⟩:ByteArray)[k]'aL).toNat:Int) == (c.toNat:Int))=false:=sne (d:=ci[k]) (fun e=>hc e.symm);clear HJ HD hk hc HF;go_wp2_with fail
    any_goals go_quiet (fail)
    any_goals go_wp2_with fail
    exact ⟨⟨k+1,by omega,by go_num,HJ2,hid ⟨_,rfl⟩⟩,by simp [intOf];omega⟩
  ·obtain rfl:k=11:=by omega
   have e1:=HP.out;have hm:c ∉ ci:=fun hm=>by
    obtain ⟨j,hj,he⟩:=List.getElem_of_mem hm;exact HJ.out j hj hj he
   rw [if_neg hm] at e1;simp only [Prod.mk.injEq] at e1;obtain ⟨rfl,rfl,rfl,rfl⟩:=e1;clear HP HJ hm hk aL;go_wp2_with fail;exact bodyPost_ret (dC (k:=0) (t:=[]) (n:=0) (e:=3) rfl (dl HF.out _ _ _ _)) rfl ⟨rfl,b8 hbx (nRe _) _ _ _ _⟩
theorem mG (c:UInt8) (r:List UInt8) (hs:(c::r).length≤1000000000000) (h1:bp c=false) (h2:c.toNat≠35) (h3:dE c=false) (h4:aS c=false) (h5:c.toNat≠34) (r2:List UInt8) (h6:r=61::r2) (h7:c.toNat≠61) (h8:c.toNat≠33) (k0:Nat) (t0:List UInt8) (n0 e0:Nat) (hp:(if c ∈ ci then ((4,[c],1,0):Nat × List UInt8 × Nat × Nat) else (0,[],0,3))=(k0,t0,n0,e0)) (w:World) :
  Calls Tryz.prog 169 #[.string (bs (c::r))] w (fS k0 t0 n0 e0 w):=by
 have hpos:0<(c::r).length:=by simp
 have hG:=hid (gc (c::r) hpos hs 0 (by show (if bp c=true then 1 else if c.toNat=35 then aZ bv (c::r) else 0)=_;rw [if_neg (by rw [h1];simp),if_neg h2]));have hL:=hid (dw.is c false h3);have hD:=hid (dB.is c false h4);have q5:((c.toNat:Int) == 34)=false:=eqF (by omega);have q7:((c.toNat:Int) == 61)=false:=eqF (by omega);have q8:((c.toNat:Int) == 33)=false:=eqF (by omega);subst h6;clear h7 h8;have p1:(0:Int)<(r2.length:Int)+1+1:=by omega
 have p2:(1:Int)<(r2.length:Int)+1+1:=by omega
 have p3:0<r2.length+1+1:=by omega
 have p4:1<r2.length+1+1:=by omega
 have p5:2≤r2.length+1+1:=by omega
 have p6:(2:Int)≤(r2.length:Int)+1+1:=by omega
 have HP:=hid hp;have Hf:=hid (bO w (.int .i64 0) (.string ⟨#[]⟩) (.int .i64 0) (.int .i64 0) 194 (0,0));have Hr:=hid (fZ w #[.int .i64 0,.string ⟨#[]⟩,.int .i64 0,.int .i64 0] 194);clear h1 h2 h3 h4 h5 hp;go_enter Tryz.func169,Tryz.ntmps169
 go_wp2_with fail;refine (hG.out _).mono ?_;rintro e wx ⟨rfl,rfl⟩;go_wp2_with fail;refine (hL.out _).mono ?_;rintro e wx ⟨rfl,rfl⟩;go_wp2_with fail;refine (hD.out _).mono ?_;rintro e wx ⟨rfl,rfl⟩;go_wp2_with fail;go_loopw [6] (fun i wr=>∃ k:Nat,k≤11∧i=.int .i64 k∧Hid (∀ j (h:j<ci.length),j<k→ci[j]≠c)∧Hid (dS (w.alloc (.cells #[.int .i64 0,.string ⟨#[]⟩,.int .i64 0,.int .i64 0] 194)) wr)) (fun i _=>11 - (intOf i).toNat)
 case atStart=>exact ⟨0,by omega,rfl,hid (fun j _ h=>by omega),hid (dS.refl _)⟩
 case round =>
  obtain ⟨k,hk,rfl,HJ,HD⟩:=hrel;have hdb:Below (w.heap.size+1) (w.alloc (.cells #[.int .i64 0,.string ⟨#[]⟩,.int .i64 0,.int .i64 0] 194)) wr:=HD.out.below;obtain ⟨hf,hfr,hbx,hsz⟩:=iY hdb;have HF:=hid hf;obtain ⟨x0,x1,x2,x3⟩:=hf;have g0:=hfr 0;have g1:=hfr 1;have g2:=hfr 2;have g3:=hfr 3;clear hfr hdb;by_cases aL:k<11
  ·have hks:k<ci.length:=aL;have hk2:(k:Int)<11:=by omega
   by_cases hc:ci[k]=c
   ·have e1:=HP.out;have hm:c ∈ ci:=by rw [← hc];exact List.getElem_mem _
    rw [if_pos hm] at e1;simp only [Prod.mk.injEq] at e1;obtain ⟨rfl,rfl,rfl,rfl⟩:=e1;obtain ⟨d,hdd⟩:=HD.out;subst hdd;have hq:((((⟨#[61,43,40,41,91,93,123,125,44,58,59]⟩:ByteArray)[k]'aL).toNat:Int) == (c.toNat:Int))=true:=seq (d:=ci[k]) hc.symm;clear HP HJ HD hm hk hc;go_wp2_with fail
    any_goals go_quiet (fail)
    any_goals go_wp2_with fail
    exact bodyPost_ret (dC (k:=4) (t:=[c]) (n:=1) (e:=0) rfl (dl HF.out _ _ _ _)) rfl ⟨rfl,b8 (((Below.refl _ _).alloc (nRe _) _).trans (dS.below ⟨_,rfl⟩)) (nRe _) _ _ _ _⟩
   ·have HJ2:Hid (∀ j (h:j<ci.length),j<k+1→ci[j]≠c):=hid (fun j hjs hj=>by
     rcases Nat.lt_or_eq_of_le (Nat.le_of_lt_succ hj) with h | h
     ·exact HJ.out j hjs h
     ·subst h;exact hc)
    obtain ⟨d,hdd⟩:=HD.out;subst hdd;have hq:((((⟨#[61,43,40,41,91,93,123,125,44,58,59]⟩:ByteArray)[k]'aL).toNat:Int) == (c.toNat:Int))=false:=sne (d:=ci[k]) (fun e=>hc e.symm);clear HJ HD hk hc HF;go_wp2_with fail
    any_goals go_quiet (fail)
    any_goals go_wp2_with fail
    exact ⟨⟨k+1,by omega,by go_num,HJ2,hid ⟨_,rfl⟩⟩,by simp [intOf];omega⟩
  ·obtain rfl:k=11:=by omega
   have e1:=HP.out;have hm:c ∉ ci:=fun hm=>by
    obtain ⟨j,hj,he⟩:=List.getElem_of_mem hm;exact HJ.out j hj hj he
   rw [if_neg hm] at e1;simp only [Prod.mk.injEq] at e1;obtain ⟨rfl,rfl,rfl,rfl⟩:=e1;clear HP HJ hm hk aL;go_wp2_with fail;exact bodyPost_ret (dC (k:=0) (t:=[]) (n:=0) (e:=3) rfl (dl HF.out _ _ _ _)) rfl ⟨rfl,b8 hbx (nRe _) _ _ _ _⟩
theorem xv (c:UInt8) (r:List UInt8) (hs:(c::r).length≤1000000000000) (k:Nat) (t:List UInt8) (n e:Nat) (hp:c7 (c::r)=(k,t,n,e)) (w:World) :
  Calls Tryz.prog 169 #[.string (bs (c::r))] w (fS k t n e w):=by
 rw [ej] at hp;cases h1:bp c with
 | true =>
   rw [if_pos h1] at hp;simp only [Prod.mk.injEq] at hp;obtain ⟨rfl,rfl,rfl,rfl⟩:=hp;exact wo c r hs h1 w
 | false =>
 rw [if_neg (by rw [h1];simp)] at hp;by_cases h2:c.toNat=35
 ·rw [if_pos h2] at hp;simp only [Prod.mk.injEq] at hp;obtain ⟨rfl,rfl,rfl,rfl⟩:=hp;exact xq c r hs h1 h2 w
 rw [if_neg h2] at hp;cases h3:dE c with
 | true =>
   rw [if_pos h3] at hp;simp only [Prod.mk.injEq] at hp;obtain ⟨rfl,rfl,rfl,rfl⟩:=hp;exact tJ c r hs h1 h2 h3 w
 | false =>
 rw [if_neg (by rw [h3];simp)] at hp;cases h4:aS c with
 | true=>rw [if_pos h4] at hp;exact vP c r hs h1 h2 h3 h4 k t n e hp w
 | false =>
 rw [if_neg (by rw [h4];simp)] at hp;by_cases h5:c.toNat=34
 ·rw [if_pos h5] at hp;exact ug c r hs h1 h2 h3 h4 h5 k t n e hp w
 rw [if_neg h5] at hp;by_cases h6:(c.toNat=61∨c.toNat=33)∧r.head? = some 61
 ·rw [if_pos h6] at hp;simp only [Prod.mk.injEq] at hp;obtain ⟨rfl,rfl,rfl,rfl⟩:=hp;cases r with
  | nil=>simp at h6
  | cons d r =>
    have hd:d=61:=by simpa using h6.2
    subst hd;rcases h6.1 with h | h
    ·exact uk c _ hs h1 h2 h3 h4 h5 h r rfl w
    ·exact rz c _ hs h1 h2 h3 h4 h5 h r rfl w
 rw [if_neg h6] at hp;cases r with
 | nil=>exact nN c [] hs h1 h2 h3 h4 h5 rfl k t n e hp w
 | cons d r =>
   by_cases hd:d.toNat=61
   ·have hd':d=61:=UInt8.toNat_inj.1 (hd.trans rfl);subst hd';exact mG c _ hs h1 h2 h3 h4 h5 r rfl (fun h=>h6 ⟨.inl h,rfl⟩) (fun h=>h6 ⟨.inr h,rfl⟩) k t n e hp w
   ·exact lP c _ hs h1 h2 h3 h4 h5 d r rfl hd k t n e hp w
end
theorem lK {w:World} {tmps:Array Value} {b:Nat} {x y n:Int} {v:Value} (h2:tmps[2]?.getD undef=v) (h3:tmps[3]?.getD undef=.int .i64 n) (h4:tmps[4]?.getD undef=.pointer (some ⟨b,0,none⟩)) (h0:w.cell? ⟨b,0,none⟩=some (.int .i64 x)) (h1:w.cell? ⟨b,1,none⟩=some (.int .i64 y)) :
  (results Tryz.f144 tmps).run Tryz.prog w=.ok (.tuple #[v,.int .i64 n,.agg #[.int .i64 x,.int .i64 y]]) w:=by
 simp [results,Tryz.f144,go_sem,h2,h3,h4,h0,h1]
theorem wG (s:List UInt8) (hs:s.length≤1000000000000) (hl:65536<s.length) (w:World) :
  Calls Tryz.prog 144 #[.string (bs s)] w (kc (eg s) w):=by
 have e:eg s=([],6,(1,1)):=by unfold eg;rw [if_pos hl]
 rw [e];have h2:=iP w (.int .i64 1) (.int .i64 1) 24;have H2:=hid h2;clear h2;go_enter Tryz.func144,Tryz.ntmps144
 go_wp2_with fail;exact bodyPost_ret (lK (x:=1) (y:=1) rfl rfl rfl H2.out.c0 H2.out.c1) rfl ⟨_,rfl,a9.nil _ _,(Below.refl _ _).alloc (nRe _) _⟩
theorem tw (s:List UInt8) (hl:s.length≤65536) (w:World) :
  Calls Tryz.prog 144 #[.string (bs s)] w (kc (eW (1,1) s) w):=by
 obtain ⟨i0,hi,iz0,iz1,iz2⟩:=info_parts rN;obtain ⟨res,hres⟩:∃ x,x=eW (1,1) s:=⟨_,rfl⟩;rw [← hres];have HX:=hid hres;clear hres;have HA:=hid (iP w (.int .i64 0) (.int .i64 0) 24);go_enter Tryz.func144,Tryz.ntmps144
 go_wp2_with fail;go_loopw [5,6] (fun v x wr=>∃ (k:Nat) (et:List Tok),k≤s.length∧et.length≤k∧x=.int .i64 k∧wr.ownsRow (w.heap.size+1) 46 4 v et.length (bi et)∧Hid (res=fR et (eW (cA (1,1) (s.take k)) (s.drop k)))∧Two wr w.heap.size (.int .i64 0) (.int .i64 0)∧Below w.heap.size w wr) (fun _ x _=>s.length - (intOf x).toNat)
 case atStart =>
  refine ⟨0,[],by omega,by simp,rfl,⟨rfl,.inl ⟨rfl,rfl⟩⟩,hid ?_,HA.out,(Below.refl _ _).alloc (nRe _) _⟩;rw [HX.out];exact (l4 _ _).symm
 case round =>
  obtain ⟨k,et,hk,htl,rfl,hown,HL,h2a,hbw⟩:=hrel;have hsdl:(s.drop k).length=s.length - k:=List.length_drop ..;have htk:∀ n,cA (cA (1,1) (s.take k)) ((s.drop k).take n)=cA (1,1) (s.take (k+n)):=fun n=>by rw [← hI,List.take_add]
  have hdk:∀ n,(s.drop k).drop n=s.drop (k+n):=fun n=>by rw [List.drop_drop]
  have Htk:=hid htk;have Hdk:=hid hdk;clear htk hdk;cases hsd:s.drop k with
  | nil =>
    rw [hsd] at HL;have hk2:k=s.length:=by rw [hsd] at hsdl;simp at hsdl;omega
    have hres:res=(et,0,(0,0)):=by rw [HL.out,qq];simp [fR]
    subst hres;subst hk2;have H2:=hid h2a;obtain ⟨c0,c1,f0,f1⟩:=h2a;have Ho:=hid hown;clear hsd HX HL hown hsdl;go_wp2_with fail;refine bodyPost_ret (lK (x:=0) (y:=0) rfl rfl rfl (H2.out.set _ _).c0 (H2.out.set _ _).c1) rfl ⟨_,rfl,?_,(hbw.setCell (p:=⟨w.heap.size,0,none⟩) (nRe _) _).setCell (p:=⟨w.heap.size,1,none⟩) (nRe _) _⟩;have h1:=lR (base:=w.heap.size+1) Ho.out (b:=w.heap.size) (by omega) (.int .i64 0) (.int .i64 0);have h2:et.length≤maxLen:=by unfold maxLen;omega
    exact zdK h1 h2
  | cons c r =>
    have cw:(c::r).length=s.length - k:=by rw [← hsd];exact hsdl
    have aL:k<s.length:=by simp at cw;omega
    have hT:List.take (s.length - k) (c::r)=c::r:=List.take_of_length_le (by omega);obtain ⟨kd,t,n,e,hp⟩:∃ kd t n,∃ e,c7 (c::r)=(kd,t,n,e):=⟨_,_,_,_,rfl⟩;have HN:=hid (xv c r (by omega) kd t n e hp wr);unfold fS pi at HN;have HAt:=hid (zaJ s (by omega) k hk);unfold plV at HAt;obtain ⟨p,hpp⟩:∃ p,cA (1,1) (s.take k)=p:=⟨_,rfl⟩;rw [hpp] at HL HAt;rw [hsd,hpp] at Htk;rw [hsd] at HL Hdk;obtain ⟨pl,pc⟩:=p;simp only at HAt;have hz0:=h2a.lt;by_cases he:e=0
    ·subst he;obtain ⟨hn1,hn2,hn3⟩:=gS hp;have hlx:=iv (p:=(pl,pc)) hp;rw [Hdk.out] at hlx;have htk:=Htk.out n;rw [htk] at hlx;have HNL:Hid (res=fR (et++if kd=0 then [] else [(kd,t,(pl,pc))]) (eW (cA (1,1) (s.take (k+n))) (s.drop (k+n)))):=hid (by rw [HL.out,hlx,pU]);have hkn:k+n≤s.length:=by omega
     clear HX HL hp hlx htk Htk Hdk hpp hsdl;by_cases hkd:kd=0
     ·subst hkd;have HNZ:Hid (res=fR et (eW (cA (1,1) (s.take (k+n))) (s.drop (k+n)))):=hid (by have:=HNL.out;simpa using this);clear HNL HAt;go_wp2_with fail;refine HN.out.mono ?_;rintro ex w2 ⟨rfl,hb2⟩;have hown2:=dA hown hb2;have h2c:=h2a.below hb2;have hbx:=hbw.trans (hb2.mono hbw.size);clear h2a hown hb2;go_wp2_with fail;exact ⟨⟨k+n,et,hkn,by omega,by go_num,hown2.alloc _,HNZ,h2c.below ((Below.refl _ _).alloc (nRe _) _),hbx.alloc hbx.size _⟩,by simp [intOf];omega⟩
     ·have HNZ:Hid (res=fR (et++[(kd,t,(pl,pc))]) (eW (cA (1,1) (s.take (k+n))) (s.drop (k+n)))):=hid (by have:=HNL.out;rw [if_neg hkd] at this;exact this);have hkd1:(0:Int)<(kd:Int):=by omega
      clear HNL hkd;go_wp2_with fail;refine HN.out.mono ?_;rintro ex w2 ⟨rfl,hb2⟩;have hown2:=dA hown hb2;have h2c:=h2a.below hb2;have hbx:=hbw.trans (hb2.mono hbw.size);have hz2:=nL hz0 hb2.size;clear h2a hown hb2;go_wp2_with fail;obtain ⟨W0,hW0⟩:∃ W0,W0=w2.alloc (.cells #[.int .i64 kd,.string (bs t),.int .i64 n,.int .i64 0] 194):=⟨_,rfl⟩;rw [← hW0];have hB0:Below w2.heap.size w2 W0:=by rw [hW0];exact (Below.refl _ _).alloc (nRe _) _
      have hf0:jm W0 w2.heap.size (.int .i64 kd) (.string (bs t)) (.int .i64 n) (.int .i64 0):=by rw [hW0];exact bO w2 _ _ _ _ _ _
      have hown0:=hown2.alloc (.cells #[.int .i64 kd,.string (bs t),.int .i64 n,.int .i64 0] 194);rw [← hW0] at hown0;have hno:=fun q hq=>(hown2.lt q hq).2
      have hbs:=hbx.size;have h2d:=h2c.below hB0;have hbw0:=hbx.trans (hB0.mono hbx.size);have hzW:w2.heap.size<W0.heap.size:=World.block_lt_of_cell? W0 _ hf0.1;have HF:=hid hf0;obtain ⟨x0,x1,x2,x3⟩:=hf0;clear hW0 hB0 h2c hbx hown2
      go_region_held3 (fun W=>W.cell? ⟨w2.heap.size,0,none⟩=some (.int .i64 kd)∧W.cell? ⟨w2.heap.size,1,none⟩=some (.string (bs t))∧W.cell? ⟨w2.heap.size,2,none⟩=some (.int .i64 n))
       (first
        | go_keep
        | exact ⟨z0,z1,z2⟩
        | exact ⟨(hgrow.cell_far (a:=⟨w2.heap.size,0,none⟩) (by simp;omega) (fun e=>Nat.lt_irrefl _ (hno _ e.symm))).trans (by go_simp),(hgrow.cell_far (a:=⟨w2.heap.size,1,none⟩) (by simp;omega) (fun e=>Nat.lt_irrefl _ (hno _ e.symm))).trans (by go_simp),(hgrow.cell_far (a:=⟨w2.heap.size,2,none⟩) (by simp;omega) (fun e=>Nat.lt_irrefl _ (hno _ e.symm))).trans (by go_simp)⟩)
       (first
        | (go_at_call 170;refine (HAt.out _).mono ?_;rintro e wx ⟨rfl,hb'⟩;have hb:Below W0.heap.size W0 wx:=(by first | exact hb' | exact ((Below.refl _ _).drew).trans (hb'.mono (by simp)) | exact ((Below.refl _ _).drew.drew).trans (hb'.mono (by simp)));have hszx:=hb.size;have z0:wx.cell? ⟨w2.heap.size,0,none⟩=some (.int .i64 kd):=(hb.cell (p:=⟨w2.heap.size,0,none⟩) hzW).trans x0;have z1:wx.cell? ⟨w2.heap.size,1,none⟩=some (.string (bs t)):=(hb.cell (p:=⟨w2.heap.size,1,none⟩) hzW).trans x1;have z2:wx.cell? ⟨w2.heap.size,2,none⟩=some (.int .i64 n):=(hb.cell (p:=⟨w2.heap.size,2,none⟩) hzW).trans x2)
        | (refine step_append_lies _ (by rfl) _ _ _ (by rfl) (w.heap.size+1) 46 i0 _ 4 40 Tryz.underlying42 hi iz0 iz1 iz2 rfl (by omega) _ et.length (bi et) (by rfl) (by first | exact (dA hown0 hb).alloc _ | exact ((dA hown0 hb).alloc _).drew) ⟨wx.heap.size,0,none⟩ 1 1 (bi [(kd,t,(pl,pc))]) (by rfl) (by rfl) (World.news_of_block (cs:=#[.int .i64 kd,.string (bs t),.int .i64 pl,.int .i64 pc]) (t:=46) (fr:=(0,0)) (hAn wx _)) (lV _) (by omega) (by unfold maxLen;omega) (by omega) (by simp;omega) (wx.heap.size+1) (by simp) ?_;intro gg cap w1 hown1 hgrow hat hlt2))
      rename_i hHeld;obtain ⟨e0,e1,e2⟩:=hHeld;have hB3:Below (w.heap.size+1) wx w1:=((Below.refl (w.heap.size+1) wx).alloc (by omega) _).grown hgrow (by simp;omega) (fun q hq=>(hown0.lt q hq).1);have h2e:=(h2d.below hb).past hB3 (by omega);have hbw1:Below w.heap.size w w1:=(hbw0.trans (hb.mono hbw0.size)).trans (hB3.mono (by omega));have hown3:w1.ownsRow (w.heap.size+1) 46 4 (.slice (some ⟨gg,0,none⟩) (et.length+1) cap) (et++[(kd,t,(pl,pc))]).length (bi (et++[(kd,t,(pl,pc))])):=by rw [lAp,lJ];exact hown1
      clear hB3 hgrow hat hown1;go_wp2_with fail;exact ⟨⟨k+n,et++[(kd,t,(pl,pc))],hkn,by simp;omega,by go_num,hown3,HNZ,h2e,hbw1⟩,by simp [intOf];omega⟩
    ·have hres:res=([],e,(pl,pc)):=by rw [HL.out,nC hp he];simp [fR,he]
     subst hres;have qe:((e:Int) != 0)=true:=neT (by omega);clear HX HL hp hsdl Htk Hdk hpp;go_wp2_with fail;refine HN.out.mono ?_;rintro ex w2 ⟨rfl,hb2⟩;have hz2:=nL hz0 hb2.size;have h2c:=h2a.below hb2;have hbx:=hbw.trans (hb2.mono hbw.size);clear h2a hb2;go_wp2_with fail;obtain ⟨W0,hW0⟩:∃ W0,W0=w2.alloc (.cells #[.int .i64 kd,.string (bs t),.int .i64 n,.int .i64 e] 194):=⟨_,rfl⟩;rw [← hW0];have hB0:Below w2.heap.size w2 W0:=by rw [hW0];exact (Below.refl _ _).alloc (nRe _) _
     have hf0:jm W0 w2.heap.size (.int .i64 kd) (.string (bs t)) (.int .i64 n) (.int .i64 e):=by rw [hW0];exact bO w2 _ _ _ _ _ _
     have h2d:=h2c.below hB0;have hbw0:=hbx.trans (hB0.mono hbx.size);have HF:=hid hf0;obtain ⟨x0,x1,x2,x3⟩:=hf0;have HD:=hid h2d;obtain ⟨c0,c1,f0,f1⟩:=h2d;clear hW0 hB0 h2c hbx
     go_region_with (go_at_call 170;refine (HAt.out _).mono ?_;rintro e wx ⟨rfl,hb⟩;have hB2:Below W0.heap.size W0 wx:=(by first | exact hb | exact ((Below.refl _ _).drew).trans (hb.mono (by simp)) | exact ((Below.refl _ _).drew.drew).trans (hb.mono (by simp)) | exact ((Below.refl _ _).drew.drew.drew).trans (hb.mono (by simp)));have hE:=jq HF.out hB2;have hG:=HD.out.below hB2;obtain ⟨y0,y1,y2,y3⟩:=hE;have z0:=hG.c0;have z1:=hG.c1;have z2:=hG.f0;have z3:=hG.f1)
     all_goals (try go_wp2_with fail)
     all_goals
      have h3:=hG.set (.int .i64 pl) (.int .i64 pc);have hb3:=((hbw0.trans (hB2.mono hbw0.size)).setCell (p:=⟨w.heap.size,0,none⟩) (nRe _) (.int .i64 pl)).setCell (p:=⟨w.heap.size,1,none⟩) (nRe _) (.int .i64 pc)
      first
       | exact bodyPost_ret (lK (x:=pl) (y:=pc) rfl rfl rfl h3.c0 h3.c1) rfl ⟨_,rfl,a9.nil _ _,hb3⟩
       | exact bodyPost_ret (lK (x:=pl) (y:=pc) rfl rfl rfl h3.c0 h3.c1) rfl ⟨_,rfl,a9.nil _ _,hb3.drew⟩
theorem sK (s:List UInt8) (hs:s.length≤1000000000000) (w:World) :
  Calls Tryz.prog 144 #[.string (bs s)] w (kc (eg s) w):=by
 by_cases h:65536<s.length
 ·exact wG s hs h w
 ·have e:eg s=eW (1,1) s:=by unfold eg;rw [if_neg h]
  rw [e];exact tw s (by omega) w
theorem zai (s:List UInt8) (hs:s.length≤140737488351232) (hl:65536<s.length) (w:World) :
  Calls Tryz.prog 16 #[.string (bs s)] w (kc (eg s) w):=by
 have e:eg s=([],6,(1,1)):=by unfold eg;rw [if_pos hl]
 rw [e];go_enter Tryz.func16,Tryz.ntmps16
 go_wp2_with fail
 go_region
 all_goals (try go_wp2_with fail)
 all_goals
  have hb:=wN w (.cells #[.int .i64 1,.int .i64 1] 24) (.int .i64 1) (.int .i64 1) 24;have h2:=Two.below (iP w (.int .i64 1) (.int .i64 1) 24) ((Below.refl _ _).alloc (nRe _) (.cells #[.int .i64 1,.int .i64 1] 24));exact bodyPost_ret (nH (x:=1) (y:=1) rfl rfl rfl h2.c0 h2.c1) rfl ⟨_,rfl,a9.nil _ _,(gx w _ _).drew⟩
def xQ (l:List Tok) (e p q:Nat) (w:World) (E:Ending) (w':World):Prop :=
 ∃ v,E=.returned (.tuple #[v,.int .i64 e,.agg #[.int .i64 p,.int .i64 q]])∧a9 w' 4 v l.length (bi l)∧Below w.heap.size w w'
theorem td (s:List UInt8) (hs:s.length≤140737488351232) {l:List Tok} {e p q:Nat} (h:eg s=(l,e,(p,q))) (w:World) (hr:dZ w) :
  Calls Tryz.prog 16 #[.string (bs s)] w (xQ l e p q w):=by
 have h0:Calls Tryz.prog 16 #[.string (bs s)] w (kc (eg s) w):=by
  by_cases hl:65536<s.length
  ·exact zai s hs hl w
  ·exact zal s (by omega) w hr
 refine h0.mono ?_;rw [h];rintro E w' ⟨v,rfl,h1,h2⟩;exact ⟨v,rfl,h1,h2⟩
inductive Nd where
 | mk (kind:Nat) (text:List UInt8) (pl:Pl) (kids:List Nd)
inductive PR (α:Type) where
 | ok (a:α) (rest:List Tok)
 | bad (e:Nat) (p:Pl)
 | oof
def PR.then {α β:Type} (x:PR α) (k:α→List Tok→PR β):PR β :=
 match x with
 | .ok a r=>k a r
 | .bad e p=>.bad e p
 | .oof=>.oof
def i6:List UInt8:=[102,111,114]
def wIn:List UInt8:=[105,110]
def wIf:List UInt8:=[105,102]
def fa:List UInt8:=[101,108,115,101]
def fO:List UInt8:=[114,117,108,101]
def cj:List UInt8:=[110,111,116]
def ed (s:List UInt8):Bool:=s == i6 || s == wIn || s == wIf || s == fa || s == fO || s == cj
def cY (s:List UInt8):Bool :=
 s == [116,101,120,116] || s == [98,111,111,108] || s == [105,110,116] || s == [116,101,120,116,115] || s == [102,105,108,101,115] || s == [108,97,98,101,108,115]
def kD (en:Pl):Tok:=(0,[],en)
def atT (en:Pl) (l:List Tok) (n:Nat):Tok:=l.getD n (kD en)
def aT (l:List Tok) (n:Nat) (s:List UInt8):Bool:=(atT (0,0) l n).1 == 4 && (atT (0,0) l n).2.1 == s
def bL (l:List Tok) (s:List UInt8):Bool:=(atT (0,0) l 0).1 == 1 && (atT (0,0) l 0).2.1 == s
def cd (l:List Tok):Bool:=(atT (0,0) l 0).1 == 1 && !ed (atT (0,0) l 0).2.1
def dV (l:List Tok) (k:Nat):Bool:=(atT (0,0) l 0).1 == k
def gi (l:List Tok):Bool:=dV l 1 && cY (atT (0,0) l 0).2.1
def bl (en:Pl) (is:Bool) (l:List Tok):PR Tok :=
 if is=true then (match l with | t::r=>.ok t r | []=>.oof) else .bad 3 (atT en l 0).2.2
def cB (en:Pl) (s:List UInt8) (l:List Tok):PR Tok:=bl en (aT l 0 s) l
def dW (en:Pl) (is:Bool) (d:Nat) (l:List Tok):PR Tok:=if is=true∧60≤d then .bad 6 (atT en l 0).2.2 else bl en is l
mutual
def bN (en:Pl):Nat→List Tok→Nat→PR Nd
 | 0,_,_=>.oof
 | f+1,l,d =>
   let t:=atT en l 0
   if dV l 3=true then (bl en true l).then fun _ r=>.ok (.mk 11 t.2.1 t.2.2 []) r
   else if dV l 2=true then (bl en true l).then fun _ r=>.ok (.mk 10 t.2.1 t.2.2 []) r
   else if (cd l && aT l 1 [40])=true then fq en f l d
   else if cd l=true then (bl en true l).then fun _ r=>.ok (.mk 9 t.2.1 t.2.2 []) r
   else if bL l cj=true then (dW en true d l).then fun _ r=>(bN en f r (d+1)).then fun x r=>.ok (.mk 16 cj t.2.2 [x]) r
   else if aT l 0 [91]=true then (dW en true d l).then fun _ r=>(bw en f 2 [93] true r (d+1)).then fun k r=>(cB en [93] r).then fun _ r=>.ok (.mk 12 [] t.2.2 k) r
   else if aT l 0 [123]=true then (dW en true d l).then fun _ r=>(bw en f 3 [125] true r (d+1)).then fun k r=>(cB en [125] r).then fun _ r=>.ok (.mk 13 [] t.2.2 k) r
   else (dW en (aT l 0 [40]) d l).then fun _ r=>(bA en f r (d+1)).then fun x r=>(cB en [41] r).then fun _ r=>.ok x r
def fk (en:Pl):Nat→Nd→List Tok→Nat→PR Nd
 | 0,_,_,_=>.oof
 | f+1,x,l,d =>
   if aT l 0 [43]=true then (bl en true l).then fun t r=>(bN en f r d).then fun y r=>fk en f (.mk 16 [43] t.2.2 [x,y]) r d
   else .ok x l
def gN (en:Pl):Nat→List Tok→Nat→PR Nd
 | 0,_,_=>.oof
 | f+1,l,d=>(bN en f l d).then fun x r=>fk en f x r d
def bA (en:Pl):Nat→List Tok→Nat→PR Nd
 | 0,_,_=>.oof
 | f+1,l,d=>(gN en f l d).then fun x r =>
   if (aT r 0 [61,61] || aT r 0 [33,61] || bL r wIn)=true then (bl en true r).then fun t r=>(gN en f r d).then fun y r=>.ok (.mk 16 t.2.1 t.2.2 [x,y]) r
   else .ok x r
def fq (en:Pl):Nat→List Tok→Nat→PR Nd
 | 0,_,_=>.oof
 | f+1,l,d=>(bl en (cd l) l).then fun t r=>(dW en (aT r 0 [40]) d r).then fun _ r =>
   (bw en f 1 [41] true r (d+1)).then fun k r=>(cB en [41] r).then fun _ r=>.ok (.mk 14 t.2.1 t.2.2 k) r
def ce (en:Pl):Nat→Nat→List Tok→Nat→PR (List Nd)
 | 0,_,_,_=>.oof
 | f+1,k,l,d =>
   if k=0 then (bl en (cd l) l).then fun n r=>(cB en [58] r).then fun _ r=>(bl en (gi r) r).then fun t r =>
    if aT r 0 [61]=true then (cB en [61] r).then fun _ r=>(bA en f r d).then fun x r=>.ok [.mk 7 n.2.1 n.2.2 [.mk 9 t.2.1 t.2.2 [],x]] r
    else .ok [.mk 7 n.2.1 n.2.2 [.mk 9 t.2.1 t.2.2 []]] r
   else if k=1 then
    let t:=atT en l 0
    if (cd l && aT l 1 [61])=true then (bl en true l).then fun _ r=>(cB en [61] r).then fun _ r=>(bA en f r d).then fun x r=>.ok [.mk 15 t.2.1 t.2.2 [x]] r
    else (bA en f l d).then fun x r=>.ok [.mk 15 [] t.2.2 [x]] r
   else if k=2 then (bA en f l d).then fun x r=>.ok [x] r
   else (bl en (dV l 3) l).then fun t r=>(cB en [58] r).then fun _ r=>(bA en f r d).then fun x r=>.ok [.mk 11 t.2.1 t.2.2 [],x] r
def bw (en:Pl):Nat→Nat→List UInt8→Bool→List Tok→Nat→PR (List Nd)
 | 0,_,_,_,_,_=>.oof
 | f+1,k,up,first,l,d =>
   if aT l 0 up=true then .ok [] l
   else (if first=true then PR.ok (kD en) l else cB en [44] l).then fun _ r =>
    (ce en f k r d).then fun a r=>(bw en f k up false r d).then fun b r=>.ok (a++b) r
end
mutual
def cM (en:Pl):Nat→List Tok→Nat→PR Nd
 | 0,_,_=>.oof
 | f+1,l,d=>(dW en (aT l 0 [123]) d l).then fun t r=>(bY en f true r (d+1)).then fun k r=>(cB en [125] r).then fun _ r=>.ok (.mk 8 [] t.2.2 k) r
def dc (en:Pl):Nat→List Tok→Nat→PR Nd
 | 0,_,_=>.oof
 | f+1,l,d =>
   let t:=atT en l 0
   if bL l i6=true then (bl en true l).then fun _ r=>(bl en (cd r) r).then fun n r=>(bl en (bL r wIn) r).then fun _ r =>
    (bA en f r d).then fun x r=>(cM en f r d).then fun y r=>.ok (.mk 4 n.2.1 t.2.2 [x,y]) r
   else if bL l wIf=true then (bl en true l).then fun _ r=>(bA en f r d).then fun x r=>(cM en f r d).then fun y r =>
    if bL r fa=true then (bl en true r).then fun _ r=>(cM en f r d).then fun z r=>.ok (.mk 5 [] t.2.2 [x,y,z]) r
    else .ok (.mk 5 [] t.2.2 [x,y]) r
   else if bL l fO=true then (bl en true l).then fun _ r=>(bl en (cd r) r).then fun n r=>(cB en [40] r).then fun _ r =>
    (bw en f 0 [41] true r d).then fun k r=>(cB en [41] r).then fun _ r=>(cM en f r d).then fun y r=>.ok (.mk 6 n.2.1 t.2.2 (k++[y])) r
   else if (cd l && aT l 1 [40])=true then (fq en f l d).then fun x r=>(cB en [59] r).then fun _ r=>.ok (.mk 3 [] t.2.2 [x]) r
   else (bl en (cd l) l).then fun n r=>(cB en [61] r).then fun _ r=>(bA en f r d).then fun x r=>(cB en [59] r).then fun _ r=>.ok (.mk 2 n.2.1 t.2.2 [x]) r
def bY (en:Pl):Nat→Bool→List Tok→Nat→PR (List Nd)
 | 0,_,_,_=>.oof
 | f+1,up,l,d =>
   if l=[]∨(up=true∧aT l 0 [125]=true) then .ok [] l
   else (dc en f l d).then fun a r=>(bY en f up r d).then fun b r=>.ok (a::b) r
end
theorem x8 {a b:UInt8} (h:a.toNat=b.toNat):a=b:=UInt8.toNat_inj.1 h
theorem uN:∀ (s r:List UInt8),s.any ft=false→qGo (s.flatMap bS++34::r)=some (s,(s.flatMap bS).length+1)
 | [],r,_=>by show qGo (34::r)=_;rw [fb,if_pos (by decide)];rfl
 | c::s,r,h=>by
   simp only [List.any_cons,Bool.or_eq_false_iff] at h;have ih:=uN s r h.2;have hb:=h.1;unfold ft at hb;simp only [Bool.or_eq_false_iff,Bool.and_eq_false_iff,decide_eq_false_iff_not,bne_eq_false_iff_eq,beq_eq_false_iff_ne] at hb;by_cases h1:c.toNat=10
   ·have hc:c=10:=x8 h1;subst hc;have e:bS 10=[92,110]:=rfl;show qGo ((bS 10++s.flatMap bS)++34::r)=_;rw [e];show qGo (92::110::(s.flatMap bS++34::r))=_;rw [fb,if_neg (by decide),if_neg (by decide),if_pos (by decide)];simp only;rw [if_neg (by decide),if_pos (by decide),ih];simp [e]
   ·by_cases h2:c.toNat=34∨c.toNat=92
    ·have e:bS c=[92,c]:=by unfold bS;rw [if_neg h1,if_pos h2]
     show qGo ((bS c++s.flatMap bS)++34::r)=_;rw [e];show qGo (92::c::(s.flatMap bS++34::r))=_;rw [fb,if_neg (by decide),if_neg (by decide),if_pos (by decide)];simp only;rw [if_pos h2,ih];simp [e]
    ·have e:bS c=[c]:=by unfold bS;rw [if_neg h1,if_neg h2]
     show qGo ((bS c++s.flatMap bS)++34::r)=_;rw [e];show qGo (c::(s.flatMap bS++34::r))=_;rw [fb,if_neg (by omega),if_neg (by omega),if_neg (by omega),ih];simp [e]
theorem oG {s:List UInt8} (h:s.any ft=false):dR s=34::(s.flatMap bS++[34]):=by unfold dR;rw [if_neg (by rw [h];simp)]
theorem rW {s:List UInt8} (r:List UInt8) (h:s.any ft=false):c7 (dR s++r)=(3,s,(dR s).length,0):=by
 rw [oG h];have e:34::(s.flatMap bS++[34])++r=34::(s.flatMap bS++34::r):=by simp
 rw [e,ej,if_neg (by decide),if_neg (by decide),if_neg (by decide),if_neg (by decide),if_pos (by decide),uN s r h];simp
theorem yx {s:List UInt8} (h:s.any ft=false):∃ c r,dR s=c::r:=⟨_,_,oG h⟩
theorem pj {p:Pl} {a r t:List UInt8} {k:Nat} (ha:a≠[]) (h:c7 (a++r)=(k,t,a.length,0)) :
  eW p (a++r)=fR (if k=0 then [] else [(k,t,p)]) (eW (cA p a) r):=by
 cases a with
 | nil=>exact absurd rfl ha
 | cons c a =>
   have h':c7 (c::(a++r))=(k,t,(c::a).length,0):=h;show eW p (c::(a++r))=_;rw [iv h'];have e1:(c::(a++r)).take (c::a).length=c::a:=by
    show ((c::a)++r).take _=_;rw [List.take_left' rfl]
   have e2:(c::(a++r)).drop (c::a).length=r:=by
    show ((c::a)++r).drop _=_;rw [List.drop_left' rfl]
   rw [e1,e2]
theorem lE:∀ (k:Nat) (s t:List UInt8) (n:Nat),s.length≤k→qGo s=some (t,n)→t.any ft=false∧(t.flatMap bS).length+1≤n
 | _,[],t,n,_,h=>by simp [qGo] at h
 | 0,c::r,t,n,hk,_=>by simp at hk
 | k+1,c::r,t,n,hk,h=>by
   have hr:r.length≤k:=by simpa using hk
   rw [fb] at h;by_cases h1:c.toNat=34
   ·rw [if_pos h1] at h;simp only [Option.some.injEq,Prod.mk.injEq] at h;obtain ⟨rfl,rfl⟩:=h;simp
   ·rw [if_neg h1] at h;by_cases h2:c.toNat<32∨c.toNat=127
    ·rw [if_pos h2] at h;cases h
    ·rw [if_neg h2] at h;by_cases h3:c.toNat=92
     ·rw [if_pos h3] at h;cases r with
      | nil=>cases h
      | cons d r =>
        simp only at h;have hr':r.length≤k:=by simp at hr;omega
        by_cases h4:d.toNat=34∨d.toNat=92
        ·rw [if_pos h4] at h;cases e:qGo r with
         | none=>rw [e] at h;cases h
         | some x =>
           obtain ⟨t',n'⟩:=x;rw [e] at h;simp only [Option.map_some,Option.some.injEq,Prod.mk.injEq] at h;obtain ⟨rfl,rfl⟩:=h;have ih:=lE k r t' n' hr' e;have hb:ft d=false:=by unfold ft;simp;omega
           have he:(bS d).length=2:=by unfold bS;rw [if_neg (by omega),if_pos h4];rfl
           refine ⟨by simp [hb,ih.1],?_⟩;simp only [List.flatMap_cons,lAp];omega
        ·rw [if_neg h4] at h;by_cases h5:d.toNat=110
         ·rw [if_pos h5] at h;cases e:qGo r with
          | none=>rw [e] at h;cases h
          | some x =>
            obtain ⟨t',n'⟩:=x;rw [e] at h;simp only [Option.map_some,Option.some.injEq,Prod.mk.injEq] at h;obtain ⟨rfl,rfl⟩:=h;have ih:=lE k r t' n' hr' e;have hb:ft 10=false:=rfl;have he:(bS 10).length=2:=rfl;refine ⟨by simp [hb,ih.1],?_⟩;simp only [List.flatMap_cons,lAp];omega
         ·rw [if_neg h5] at h;cases h
     ·rw [if_neg h3] at h;cases e:qGo r with
      | none=>rw [e] at h;cases h
      | some x =>
        obtain ⟨t',n'⟩:=x;rw [e] at h;simp only [Option.map_some,Option.some.injEq,Prod.mk.injEq] at h;obtain ⟨rfl,rfl⟩:=h;have ih:=lE k r t' n' hr e;have hb:ft c=false:=by unfold ft;simp;omega
        have he:(bS c).length≤1:=by
         unfold bS;rw [if_neg (by omega),if_neg (by omega)];simp
        refine ⟨by simp [hb,ih.1],?_⟩;simp only [List.flatMap_cons,lAp];omega
def df (k:Nat) (t:List UInt8):List UInt8:=if k=3 then dR t else t
theorem xY {p:UInt8→Bool} (s r:List UInt8) (hs:s.all p=true) (x:UInt8) (hx:p x=false):aZ p (s++x::r)=s.length:=by
 rw [ld s _ hs,f8 hx];rfl
def ip (l:List Tok):List (Nat × List UInt8):=l.map fun t=>(t.1,t.2.1)
theorem yd {s:List UInt8} (h:s.length≤65536):eg s=eW (1,1) s:=by unfold eg;rw [if_neg (by omega)]
end Go.Proofs.YtfgiihpopngbkaaGreatDoor
