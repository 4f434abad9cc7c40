/- Lemmas and walks that the statement needs: LexTok, LexNumber, LexNext, LexTokens, LexAll, RefAt, RefBytes, RefQuoted. -/
import Derived.Test.YtfgiihpopngbkaaGreatDoorP01
import Derived.Shelf.Pu.ErrVarParseUint
import Derived.RegionTactic
namespace Go.Proofs.YtfgiihpopngbkaaGreatDoor
set_option maxRecDepth 100000
set_option maxHeartbeats 8000000
open Go.RowKit
open Nat renaming lt_of_lt_of_le→nL
open List renaming length_append→lAp,length_nil→lNi
open Nat renaming le_refl→nRe
open Go.World renaming size_alloc→wSz
open _root_.Bool renaming and_eq_true→bAe
theorem jA {w:World} {tmps:Array Value} {b:Nat} {k l c:Nat} {t:List UInt8} {n e:Int} (h2:tmps[2]?.getD undef=.pointer (some ⟨b,0,none⟩)) (h3:tmps[3]?.getD undef=.int .i64 n) (h4:tmps[4]?.getD undef=.int .i64 e)
  (h:jm w b (.int .i64 k) (.string (bs t)) (.int .i64 l) (.int .i64 c)) :
  (results Tryz.f53 tmps).run Tryz.prog w=.ok (.tuple #[um k t l c,.int .i64 n,.int .i64 e]) w:=by
 obtain ⟨c0,c1,c2,c3⟩:=h;simp [results,Tryz.f53,go_sem,h2,h3,h4,c0,c1,c2,c3,um]
theorem f6 {w:World} {tmps:Array Value} {b:Nat} {k l c:Nat} {t:List UInt8} {n e:Int} (h2:tmps[2]?.getD undef=.pointer (some ⟨b,0,none⟩)) (h3:tmps[3]?.getD undef=.int .i64 n) (h4:tmps[4]?.getD undef=.int .i64 e)
  (h:jm w b (.int .i64 k) (.string (bs t)) (.int .i64 l) (.int .i64 c)) :
  (results Tryz.f29 tmps).run Tryz.prog w=.ok (.tuple #[um k t l c,.int .i64 n,.int .i64 e]) w:=by
 obtain ⟨c0,c1,c2,c3⟩:=h;simp [results,Tryz.f29,go_sem,h2,h3,h4,c0,c1,c2,c3,um]
theorem pa (M:Nat):∀ (l:List UInt8) (a:Nat),fw l=true→a≤M→M<eS a l→Lib.parseUintM M a l=.range
 | [],a,_,h,hv=>by have:eS a []=a:=rfl;omega
 | c::r,a,h,ha,hv=>by
   have hc:aS c=true:=by unfold fw at h;simp only [List.all_cons,bAe] at h;exact h.1
   have hr:fw r=true:=by unfold fw at *;simp only [List.all_cons,bAe] at h;exact h.2
   have hcd:48≤c.toNat∧c.toNat≤57:=by simpa [aS] using hc
   have hv':M<eS (10 * a+(c.toNat - 48)) r:=hv;rw [Lib.parseUintM,if_pos hcd];by_cases h1:1844674407370955162≤a
   ·rw [if_pos h1]
   ·rw [if_neg h1];by_cases h2:M<a * 10+(c.toNat - 48)
    ·rw [if_pos h2]
    ·rw [if_neg h2,Nat.mul_comm a 10];exact pa M r _ hr (by omega) hv'
def dZ (w:World):Prop:=∃ t p,w.var? Tryz.prog "strconv.ErrRange"=some #[.iface t p]
theorem var?_old {P:Program} {w w':World} {n:String} {cs:Array Value} (hv:w.var? P n=some cs) (hb:Below w.heap.size w w'):w'.var? P n=some cs:=by
 unfold World.var? at hv ⊢;cases hg:P.globalNamed n with
 | none=>simp [hg] at hv
 | some g =>
   simp only [hg,Option.bind_some] at hv ⊢;have aL:g<w.heap.size:=by
    rcases Nat.lt_or_ge g w.heap.size with h | h
    ·exact h
    ·simp [Array.getElem?_eq_none h] at hv
   rw [hb.block g aL];exact hv
theorem dZ.below {w w':World} (h:dZ w) (hb:Below w.heap.size w w'):dZ w':=by
 obtain ⟨t,p,h1⟩:=h;exact ⟨t,p,var?_old h1 hb⟩
theorem vQ (l:List UInt8) (hl:l.length≤1000000000000) (hd:fw l=true) (hne:l≠[]) (hv:eS 0 l≤18446744073709551615) (W:World) :
  Calls Tryz.prog 91 #[.string (bs l),.int .i64 10,.int .i64 64] W fun e w'=>e=.returned (.tuple #[.int .u64 (eS 0 l),.nilIface])∧Below W.heap.size W w':=by
 have hp:Lib.parseUintB 64 l=.ok (eS 0 l):=by
  rw [Lib.parseUintB,if_neg hne];exact mC _ (by decide) l 0 hd (by simpa using hv)
 refine (Tryz.strconv_ParseUint_10_at64_ok (bs l) (by rw [kt];omega) _ hp W).mono ?_;rintro e w' ⟨rfl,rfl | rfl⟩
 ·exact ⟨rfl,Below.refl _ _⟩
 ·exact ⟨rfl,Lib.bytesWorld_below _ _ _⟩
def zdi (w:World) (e:Ending) (w':World):Prop:=∃ n t p,e=.returned (.tuple #[.int .u64 n,.iface t p])∧Below w.heap.size w w'
theorem uw (l:List UInt8) (hl:l.length≤1000000000000) (hd:fw l=true) (hne:l≠[]) (hv:18446744073709551615<eS 0 l) (W:World) (hr:dZ W) :
  Calls Tryz.prog 91 #[.string (bs l),.int .i64 10,.int .i64 64] W (zdi W):=by
 obtain ⟨t,p,h1⟩:=hr;have hp:Lib.parseUintB 64 l=.range:=by
  rw [Lib.parseUintB,if_neg hne];exact pa _ l 0 hd (by omega) (by simpa using hv)
 refine (Any.strconv_ParseUint_10_at64_range_var Tryz.laysPu14 (bs l) (by rw [kt];omega) hp t p W h1).mono ?_;rintro e w' ⟨N,rfl,-,-,hb⟩;exact ⟨_,_,_,rfl,hb⟩
section
def gk (k:Nat) (t:List UInt8) (n e:Nat) (w:World) (x:Ending) (w':World):Prop:=x=.returned (.tuple #[um k t 0 0,.int .i64 n,.int .i64 e])∧Below w.heap.size w w'
set_option maxHeartbeats 1000000
theorem sd (s:List UInt8) (hs:s.length≤1000000000000) (h1:1<aZ aS s) (h0:s.head? = some 48) (w:World) :
  Calls Tryz.prog 53 #[.string (bs s)] w (gk 0 [] 0 3 w):=by
 have HR:=hid (pV s hs);have hl:=ix aS s;have hp:0<s.length:=by omega
 have h48:s[0]=48:=by cases s with | nil=>simp at hp | cons c r=>simpa using h0
 have q0:((s[0].toNat:Int) == 48)=true:=by rw [h48];rfl
 have hf:=bO w (.int .i64 0) (.string ⟨#[]⟩) (.int .i64 0) (.int .i64 0) 46 (0,0);have Hf:=hid hf;clear h0 h48 hf;go_enter Tryz.func53,Tryz.ntmps53
 go_wp2_with fail;refine (HR.out _).mono ?_;rintro e w1 ⟨rfl,rfl⟩;go_wp2_with fail;exact bodyPost_ret (jA (k:=0) (t:=[]) (l:=0) (c:=0) rfl rfl rfl Hf.out) rfl ⟨rfl,(Below.refl _ _).alloc (nRe _) _⟩
theorem zaK (s:List UInt8) (h:0<aZ aS s):fw (s.take (aZ aS s))=true∧s.take (aZ aS s)≠[]:=by
 refine ⟨nD aS s,fun e=>?_⟩;have h2:=ix aS s;have:=congrArg List.length e;rw [List.length_take,Nat.min_eq_left h2,lNi] at this;omega
theorem ti (s:List UInt8) (hs:s.length≤1000000000000) (hn:0<aZ aS s) (k:Nat) (t:List UInt8) (n e:Nat) (hp:mI s=(k,t,n,e)) (w:World) (hr:dZ w) :
  Calls Tryz.prog 53 #[.string (bs s)] w (gk k t n e w):=by
 by_cases hform:1<aZ aS s∧s.head? = some 48
 ·rw [mI,if_pos hform] at hp;simp only [Prod.mk.injEq] at hp;obtain ⟨rfl,rfl,rfl,rfl⟩:=hp;exact sd s hs hform.1 hform.2 w
 rw [mI,if_neg hform] at hp;have HR:=hid (pV s hs);have hl:=ix aS s;have hp0:0<s.length:=by omega
 obtain ⟨hd,hne⟩:=zaK s hn;have hdl:(s.take (aZ aS s)).length≤1000000000000:=by rw [List.length_take];omega
 have hz:(Hid (¬ (1:Int)<(aZ aS s:Int)))∨(Hid (1<(aZ aS s:Int))∧Hid (((s[0].toNat:Int) == 48)=false)):=by
  by_cases h1:1<aZ aS s
  ·refine .inr ⟨hid (by omega),hid (eqF ?_)⟩;intro h2;apply hform;refine ⟨h1,?_⟩;cases s with
   | nil=>simp at hp0
   | cons c r =>
     have h3:c.toNat=48:=by simp only [List.getElem_cons_zero] at h2;omega
     have h4:c=48:=UInt8.toNat_inj.1 (h3.trans rfl);rw [h4];rfl
  ·exact .inl (hid (by omega))
 have Hb:=hid (fun (w2:World) (hb:Below (w.alloc (.cells #[.int .i64 0,.string ⟨#[]⟩,.int .i64 0,.int .i64 0] 46)).heap.size (w.alloc (.cells #[.int .i64 0,.string ⟨#[]⟩,.int .i64 0,.int .i64 0] 46)) w2) =>
  (⟨jq (bO w _ _ _ _ _ _) hb,kO (fZ w _ _) (by simp) hb,((Below.refl w.heap.size w).alloc (nRe _) _).trans (hb.mono (by simp)),nL (by simp) hb.size⟩ :
   jm w2 w.heap.size (.int .i64 0) (.string ⟨#[]⟩) (.int .i64 0) (.int .i64 0)∧ny w2 w.heap.size∧Below w.heap.size w w2∧w.heap.size<w2.heap.size))
 have hr1:dZ (w.alloc (.cells #[.int .i64 0,.string ⟨#[]⟩,.int .i64 0,.int .i64 0] 46)):=hr.below ((Below.refl _ _).alloc (nRe _) _);have hwrap:(aZ aS s:Int)≤1000000000000:=by omega
 by_cases hv:18446744073709551615<eS 0 (s.take (aZ aS s))
 ·rw [if_pos (by omega)] at hp;simp only [Prod.mk.injEq] at hp;obtain ⟨rfl,rfl,rfl,rfl⟩:=hp;have HP:=hid (uw _ hdl hd hne hv _ hr1);clear hform hd hne hv hdl hr1 hr;rcases hz with hz | ⟨hz,hq⟩
  all_goals
   have hz':=hz.out
   (try have hq':=hq.out)
   go_enter Tryz.func53,Tryz.ntmps53
   go_wp2_with fail;refine (HR.out _).mono ?_;rintro e w1 ⟨rfl,rfl⟩;go_wp2_with fail;refine HP.out.mono ?_;rintro e w2 ⟨x,y,z,rfl,hb2⟩;obtain ⟨hf,hfr,hbx,aL⟩:=Hb.out _ hb2;have Hf:=hid hf;obtain ⟨k0,k1,k2,k3⟩:=hf;have g0:=hfr 0;have g1:=hfr 1;have g2:=hfr 2;have g3:=hfr 3;clear hb2 hfr;go_wp2_with fail;exact bodyPost_ret (jA (k:=0) (t:=[]) (l:=0) (c:=0) rfl rfl rfl (dl Hf.out _ _ _ _)) rfl ⟨rfl,b8 hbx (nRe _) _ _ _ _⟩
 ·have HP:=hid (vQ _ hdl hd hne (by omega) (w.alloc (.cells #[.int .i64 0,.string ⟨#[]⟩,.int .i64 0,.int .i64 0] 46)));by_cases hv2:9223372036854775807<eS 0 (s.take (aZ aS s))
  ·rw [if_pos hv2] at hp;simp only [Prod.mk.injEq] at hp;obtain ⟨rfl,rfl,rfl,rfl⟩:=hp;have hv3:(9223372036854775807:Int)<(eS 0 (s.take (aZ aS s)):Int):=by omega
   generalize eS 0 (s.take (aZ aS s))=u at *;clear hform hd hne hv hdl hr1 hr hv2;rcases hz with hz | ⟨hz,hq⟩
   all_goals
    have hz':=hz.out
    (try have hq':=hq.out)
    go_enter Tryz.func53,Tryz.ntmps53
    go_wp2_with fail;refine (HR.out _).mono ?_;rintro e w1 ⟨rfl,rfl⟩;go_wp2_with fail;refine HP.out.mono ?_;rintro e w2 ⟨rfl,hb2⟩;obtain ⟨hf,hfr,hbx,aL⟩:=Hb.out _ hb2;have Hf:=hid hf;obtain ⟨k0,k1,k2,k3⟩:=hf;have g0:=hfr 0;have g1:=hfr 1;have g2:=hfr 2;have g3:=hfr 3;clear hb2 hfr;go_wp2_with fail;exact bodyPost_ret (jA (k:=0) (t:=[]) (l:=0) (c:=0) rfl rfl rfl (dl Hf.out _ _ _ _)) rfl ⟨rfl,b8 hbx (nRe _) _ _ _ _⟩
  ·rw [if_neg hv2] at hp;simp only [Prod.mk.injEq] at hp;obtain ⟨rfl,rfl,rfl,rfl⟩:=hp;have hv3:¬ (9223372036854775807:Int)<(eS 0 (s.take (aZ aS s)):Int):=by omega
   have hv4:(0:Int)≤(eS 0 (s.take (aZ aS s)):Int):=by omega
   generalize eS 0 (s.take (aZ aS s))=u at *;clear hform hd hne hv hdl hr1 hr hv2;rcases hz with hz | ⟨hz,hq⟩
   all_goals
    have hz':=hz.out
    (try have hq':=hq.out)
    go_enter Tryz.func53,Tryz.ntmps53
    go_wp2_with fail;refine (HR.out _).mono ?_;rintro e w1 ⟨rfl,rfl⟩;go_wp2_with fail;refine HP.out.mono ?_;rintro e w2 ⟨rfl,hb2⟩;obtain ⟨hf,hfr,hbx,aL⟩:=Hb.out _ hb2;have Hf:=hid hf;obtain ⟨k0,k1,k2,k3⟩:=hf;have g0:=hfr 0;have g1:=hfr 1;have g2:=hfr 2;have g3:=hfr 3;clear hb2 hfr;go_wp2_with fail;exact bodyPost_ret (jA (k:=2) (t:=s.take (aZ aS s)) (l:=0) (c:=0) rfl rfl rfl (dl Hf.out _ _ _ _)) rfl ⟨rfl,b8 hbx (nRe _) _ _ _ _⟩
end
section
set_option linter.unusedVariables false
def kN (s:List UInt8):Nat × List UInt8 × Nat × Nat:=match s with
 | []=>(0,[],0,3)
 | c::r=>if bp c=true then (0,[],aZ bp (c::r),0) else c7 (c::r)
theorem tK (c:UInt8) (r:List UInt8) (a:UInt8):Lib.hasPrefix (c::r) [a,61]=(decide (c.toNat=a.toNat) && decide (r.head? = some 61)):=by
 have e:(c == a)=decide (c.toNat=a.toNat):=by
  rw [Bool.eq_iff_iff];simp only [beq_iff_eq,decide_eq_true_eq];exact ⟨fun h=>by rw [h],fun h=>UInt8.toNat_inj.1 h⟩
 have e':(a == c)=decide (c.toNat=a.toNat):=by rw [← e,Bool.eq_iff_iff];simp only [beq_iff_eq];exact ⟨fun h=>h.symm,fun h=>h.symm⟩
 show ((a == c) && ([61]:List UInt8).isPrefixOf r)=_;rw [e'];congr 1
 cases r with
 | nil=>rfl
 | cons d r =>
   show ((61 == d) && true)=_;rw [Bool.and_true,Bool.eq_iff_iff];simp only [beq_iff_eq,decide_eq_true_eq,List.head?_cons,Option.some.injEq];exact ⟨fun h=>h.symm,fun h=>h.symm⟩
theorem lj (c:UInt8) (r:List UInt8) (a:UInt8) (b:Bool) (h:(decide (c.toNat=a.toNat) && decide (r.head? = some 61))=b) (W:World) :
  Calls Tryz.prog 55 #[.string (bs (c::r)),.string ⟨#[a,61]⟩] W fun e w'=>e=.returned (.bool b)∧W=w':=by
 refine (Tryz.strings_HasPrefix (bs (c::r)) ⟨#[a,61]⟩ W).mono ?_;rintro e w' ⟨rfl,rfl⟩;have:=tK c r a;rw [h] at this;exact ⟨by show Ending.returned (.bool (Lib.hasPrefix (c::r) [a,61]))=_;rw [this],rfl⟩
theorem mO:∀ (l:List UInt8) (c:UInt8),(0≤Lib.indexByte l c ↔ c ∈ l)∧-1≤Lib.indexByte l c
 | [],c=>by simp [Lib.indexByte]
 | b::l,c=>by
   obtain ⟨ih,ih2⟩:=mO l c;unfold Lib.indexByte;by_cases h:(b == c)=true
   ·have:b=c:=by simpa using h
    subst this;simp
   ·have hne:c≠b:=fun e=>h (by simp [e])
    rw [if_neg h];by_cases h2:(Lib.indexByte l c == -1)=true
    ·have h3:Lib.indexByte l c=-1:=by simpa using h2
     rw [if_pos h2];have:c ∉ l:=fun hm=>by have:=ih.2 hm;omega
     simp [this,hne]
    ·have h3:Lib.indexByte l c≠-1:=by simpa using h2
     rw [if_neg h2];have:c ∈ l:=ih.1 (by omega);simp [this];omega
theorem nr (c:UInt8) (W:World) :
  Calls Tryz.prog 56 #[.string ⟨#[61,43,40,41,91,93,123,125,44,58,59]⟩,.int .u8 c.toNat] W fun e w'=>e=.returned (.int .i64 (Lib.indexByte ci c))∧W=w':=by
 refine (Tryz.strings_IndexByte ⟨#[61,43,40,41,91,93,123,125,44,58,59]⟩ c.toNat W).mono ?_;rintro e w' ⟨rfl,rfl⟩;have:((c.toNat:Int).toNat.toUInt8)=c:=by simp
 exact ⟨by rw [this];rfl,rfl⟩
theorem mg {w w2:World} (hb:Below (w.heap.size+1) (w.alloc (.cells #[.int .i64 0,.string ⟨#[]⟩,.int .i64 0,.int .i64 0] 46)) w2) :
  jm w2 w.heap.size (.int .i64 0) (.string ⟨#[]⟩) (.int .i64 0) (.int .i64 0)∧ny w2 w.heap.size∧Below w.heap.size w w2∧w.heap.size<w2.heap.size:=by
 have hb':Below (w.alloc (.cells #[.int .i64 0,.string ⟨#[]⟩,.int .i64 0,.int .i64 0] 46)).heap.size (w.alloc (.cells #[.int .i64 0,.string ⟨#[]⟩,.int .i64 0,.int .i64 0] 46)) w2:=hb.mono (by simp);exact ⟨jq (bO w _ _ _ _ _ _) hb',kO (fZ w _ _) (by simp) hb',((Below.refl w.heap.size w).alloc (nRe _) _).trans (hb'.mono (by simp)),nL (by simp) hb'.size⟩
set_option maxHeartbeats 1000000
theorem xR (c:UInt8) (r:List UInt8) (hs:(c::r).length≤1000000000000) (h1:bp c=true) (w:World) :
  Calls Tryz.prog 29 #[.string (bs (c::r))] w (gk 0 [] (aZ bp (c::r)) 0 w):=by
 have hpos:0<(c::r).length:=by simp
 have hG:=hid (eP.is c true h1);have hR:=hid (zbp (c::r) hs);clear h1;go_enter Tryz.func29,Tryz.ntmps29
 go_wp2_with fail;refine (hG.out _).mono ?_;rintro e wx ⟨rfl,rfl⟩;go_wp2_with fail;refine (hR.out _).mono ?_;rintro e wx ⟨rfl,rfl⟩;go_wp2_with fail;exact bodyPost_ret (f6 (k:=0) (t:=[]) (l:=0) (c:=0) rfl rfl rfl (bO w _ _ _ _ _ _)) rfl ⟨rfl,(Below.refl _ _).alloc (nRe _) _⟩
theorem yu (c:UInt8) (r:List UInt8) (hs:(c::r).length≤1000000000000) (h1:bp c=false) (h2:c.toNat=35) (w:World) :
  Calls Tryz.prog 29 #[.string (bs (c::r))] w (gk 0 [] (aZ bv (c::r)) 0 w):=by
 have hpos:0<(c::r).length:=by simp
 have hG:=hid (eP.is c false h1);have hR:=hid (y7 (c::r) hs);have q2:((c.toNat:Int) == 35)=true:=eqT (by omega);clear h1 h2;go_enter Tryz.func29,Tryz.ntmps29
 go_wp2_with fail;refine (hG.out _).mono ?_;rintro e wx ⟨rfl,rfl⟩;go_wp2_with fail;refine (hR.out _).mono ?_;rintro e wx ⟨rfl,rfl⟩;go_wp2_with fail;exact bodyPost_ret (f6 (k:=0) (t:=[]) (l:=0) (c:=0) rfl rfl rfl (bO w _ _ _ _ _ _)) rfl ⟨rfl,(Below.refl _ _).alloc (nRe _) _⟩
theorem wM (c:UInt8) (r:List UInt8) (hs:(c::r).length≤1000000000000) (h1:bp c=false) (h2:c.toNat≠35) (h3:dE c=true) (w:World) :
  Calls Tryz.prog 29 #[.string (bs (c::r))] w (gk 1 ((c::r).take (aZ bq (c::r))) (aZ bq (c::r)) 0 w):=by
 have hpos:0<(c::r).length:=by simp
 have hG:=hid (eP.is c false h1);have hL:=hid (dN.is c true h3);have hR:=hid (xM (c::r) hs);have q2:((c.toNat:Int) == 35)=false:=eqF (by omega);have hle:=ix bq (c::r);generalize aZ bq (c::r)=n at *;have hle2:(n:Int)≤(r.length:Int)+1:=by simp at hle;omega
 have hle3:n≤r.length+1:=by simp at hle;omega
 clear h1 h2 h3;go_enter Tryz.func29,Tryz.ntmps29
 go_wp2_with fail;refine (hG.out _).mono ?_;rintro e wx ⟨rfl,rfl⟩;go_wp2_with fail;refine (hL.out _).mono ?_;rintro e wx ⟨rfl,rfl⟩;go_wp2_with fail;refine (hR.out _).mono ?_;rintro e wx ⟨rfl,rfl⟩;go_wp2_with fail;exact bodyPost_ret (f6 (k:=1) (t:=(c::r).take n) (l:=0) (c:=0) rfl rfl rfl (bO w _ _ _ _ _ _)) rfl ⟨rfl,(Below.refl _ _).alloc (nRe _) _⟩
theorem xJ (c:UInt8) (r:List UInt8) (hs:(c::r).length≤1000000000000) (h1:bp c=false) (h2:c.toNat≠35) (h3:dE c=false) (h4:aS c=true) (k:Nat) (t:List UInt8) (n e:Nat) (hp:mI (c::r)=(k,t,n,e)) (w:World) (hr:dZ w) :
  Calls Tryz.prog 29 #[.string (bs (c::r))] w (gk k t n e w):=by
 have hpos:0<(c::r).length:=by simp
 have hG:=hid (eP.is c false h1);have hL:=hid (dN.is c false h3);have hD:=hid (eG.is c true h4);have q2:((c.toNat:Int) == 35)=false:=eqF (by omega);have hN:=hid (ti (c::r) hs (by rw [eQ h4];omega) k t n e hp _ (hr.below ((Below.refl w.heap.size w).alloc (nRe _) (.cells #[.int .i64 0,.string ⟨#[]⟩,.int .i64 0,.int .i64 0] 46))));unfold gk at hN;clear h1 h2 h3 h4 hp;go_enter Tryz.func29,Tryz.ntmps29
 go_wp2_with fail;refine (hG.out _).mono ?_;rintro e wx ⟨rfl,rfl⟩;go_wp2_with fail;refine (hL.out _).mono ?_;rintro e wx ⟨rfl,rfl⟩;go_wp2_with fail;refine (hD.out _).mono ?_;rintro e wx ⟨rfl,rfl⟩;go_wp2_with fail;refine hN.out.mono ?_;rintro e wy ⟨rfl,hb⟩;obtain ⟨hf,hfr,hbx,aL⟩:=mg (hb.mono (by simp));have Hf:=hid hf;obtain ⟨k0,k1,k2,k3⟩:=hf;have g0:=hfr 0;have g1:=hfr 1;have g2:=hfr 2;have g3:=hfr 3;clear hb hfr;unfold um;go_wp2_with fail;exact bodyPost_ret (f6 (k:=k) (t:=t) (l:=0) (c:=0) rfl rfl rfl (dl Hf.out _ _ _ _)) rfl ⟨rfl,b8 hbx (nRe _) _ _ _ _⟩
theorem wA (c:UInt8) (r:List UInt8) (hs:(c::r).length≤1000000000000) (h1:bp c=false) (h2:c.toNat≠35) (h3:dE c=false) (h4:aS c=false) (h5:c.toNat=34) (t:List UInt8) (n:Nat) (hq:d8 (c::r)=(t,n)) (hn:0<n) (w:World) :
  Calls Tryz.prog 29 #[.string (bs (c::r))] w (gk 3 t n 0 w):=by
 have hpos:0<(c::r).length:=by simp
 have hG:=hid (eP.is c false h1);have hL:=hid (dN.is c false h3);have hD:=hid (eG.is c false h4);have q2:((c.toNat:Int) == 35)=false:=eqF (by omega);have q5:((c.toNat:Int) == 34)=true:=eqT (by omega);have hQ:=hid (oL (c::r) hs t n hq);have hn1:(0:Int)<(n:Int):=by omega
 clear h1 h2 h3 h4 h5 hq;go_enter Tryz.func29,Tryz.ntmps29
 go_wp2_with fail;refine (hG.out _).mono ?_;rintro e wx ⟨rfl,rfl⟩;go_wp2_with fail;refine (hL.out _).mono ?_;rintro e wx ⟨rfl,rfl⟩;go_wp2_with fail;refine (hD.out _).mono ?_;rintro e wx ⟨rfl,rfl⟩;go_wp2_with fail;refine (hQ.out _).mono ?_;rintro e wy ⟨rfl,hb⟩;obtain ⟨hf,hfr,hbx,aL⟩:=mg (hb.mono (by simp));have Hf:=hid hf;obtain ⟨k0,k1,k2,k3⟩:=hf;have g0:=hfr 0;have g1:=hfr 1;have g2:=hfr 2;have g3:=hfr 3;clear hb hfr;go_wp2_with fail;exact bodyPost_ret (f6 (k:=3) (t:=t) (l:=0) (c:=0) rfl rfl rfl (dl Hf.out _ _ _ _)) rfl ⟨rfl,b8 hbx (nRe _) _ _ _ _⟩
theorem rR (c:UInt8) (r:List UInt8) (hs:(c::r).length≤1000000000000) (h1:bp c=false) (h2:c.toNat≠35) (h3:dE c=false) (h4:aS c=false) (h5:c.toNat=34) (hq:d8 (c::r)=([],0)) (w:World) :
  Calls Tryz.prog 29 #[.string (bs (c::r))] w (gk 0 [] 0 3 w):=by
 have hpos:0<(c::r).length:=by simp
 have hG:=hid (eP.is c false h1);have hL:=hid (dN.is c false h3);have hD:=hid (eG.is c false h4);have q2:((c.toNat:Int) == 35)=false:=eqF (by omega);have q5:((c.toNat:Int) == 34)=true:=eqT (by omega);have hQ:=hid (oL (c::r) hs [] 0 hq);clear h1 h2 h3 h4 h5 hq;go_enter Tryz.func29,Tryz.ntmps29
 go_wp2_with fail;refine (hG.out _).mono ?_;rintro e wx ⟨rfl,rfl⟩;go_wp2_with fail;refine (hL.out _).mono ?_;rintro e wx ⟨rfl,rfl⟩;go_wp2_with fail;refine (hD.out _).mono ?_;rintro e wx ⟨rfl,rfl⟩;go_wp2_with fail;refine (hQ.out _).mono ?_;rintro e wy ⟨rfl,hb⟩;obtain ⟨hf,hfr,hbx,aL⟩:=mg (hb.mono (by simp));have Hf:=hid hf;obtain ⟨k0,k1,k2,k3⟩:=hf;have g0:=hfr 0;have g1:=hfr 1;have g2:=hfr 2;have g3:=hfr 3;clear hb hfr;go_wp2_with fail;exact bodyPost_ret (f6 (k:=0) (t:=[]) (l:=0) (c:=0) rfl rfl rfl (dl Hf.out _ _ _ _)) rfl ⟨rfl,b8 hbx (nRe _) _ _ _ _⟩
theorem wV (c:UInt8) (r:List UInt8) (hs:(c::r).length≤1000000000000) (h1:bp c=false) (h2:c.toNat≠35) (h3:dE c=false) (h4:aS c=false) (h5:c.toNat≠34) (h6:c.toNat=61) (h7:r.head? = some 61) (w:World) :
  Calls Tryz.prog 29 #[.string (bs (c::r))] w (gk 4 ((c::r).take 2) 2 0 w):=by
 have hpos:0<(c::r).length:=by simp
 have hG:=hid (eP.is c false h1);have hL:=hid (dN.is c false h3);have hD:=hid (eG.is c false h4);have q2:((c.toNat:Int) == 35)=false:=eqF (by omega);have q5:((c.toNat:Int) == 34)=false:=eqF (by omega);have hP:=hid (lj c r 61 true (by simp [h6,h7]));have h2l:1≤r.length:=by cases r with | nil=>simp at h7 | cons d r=>simp
 have h2m:(2:Int)≤(r.length:Int)+1:=by omega
 have h2n:2≤r.length+1:=by omega
 clear h1 h2 h3 h4 h5 h6 h7;go_enter Tryz.func29,Tryz.ntmps29
 go_wp2_with fail;refine (hG.out _).mono ?_;rintro e wx ⟨rfl,rfl⟩;go_wp2_with fail;refine (hL.out _).mono ?_;rintro e wx ⟨rfl,rfl⟩;go_wp2_with fail;refine (hD.out _).mono ?_;rintro e wx ⟨rfl,rfl⟩;go_wp2_with fail;refine (hP.out _).mono ?_;rintro e wx ⟨rfl,rfl⟩;go_wp2_with fail;exact bodyPost_ret (f6 (k:=4) (t:=(c::r).take 2) (l:=0) (c:=0) rfl rfl rfl (bO w _ _ _ _ _ _)) rfl ⟨rfl,(Below.refl _ _).alloc (nRe _) _⟩
theorem tn (c:UInt8) (r:List UInt8) (hs:(c::r).length≤1000000000000) (h1:bp c=false) (h2:c.toNat≠35) (h3:dE c=false) (h4:aS c=false) (h5:c.toNat≠34) (h6:c.toNat=33) (h7:r.head? = some 61) (w:World) :
  Calls Tryz.prog 29 #[.string (bs (c::r))] w (gk 4 ((c::r).take 2) 2 0 w):=by
 have hpos:0<(c::r).length:=by simp
 have hG:=hid (eP.is c false h1);have hL:=hid (dN.is c false h3);have hD:=hid (eG.is c false h4);have q2:((c.toNat:Int) == 35)=false:=eqF (by omega);have q5:((c.toNat:Int) == 34)=false:=eqF (by omega);have hP:=hid (lj c r 61 false (by simp [h6]));have hP2:=hid (lj c r 33 true (by simp [h6,h7]));have h2l:1≤r.length:=by cases r with | nil=>simp at h7 | cons d r=>simp
 have h2m:(2:Int)≤(r.length:Int)+1:=by omega
 have h2n:2≤r.length+1:=by omega
 clear h1 h2 h3 h4 h5 h6 h7;go_enter Tryz.func29,Tryz.ntmps29
 go_wp2_with fail;refine (hG.out _).mono ?_;rintro e wx ⟨rfl,rfl⟩;go_wp2_with fail;refine (hL.out _).mono ?_;rintro e wx ⟨rfl,rfl⟩;go_wp2_with fail;refine (hD.out _).mono ?_;rintro e wx ⟨rfl,rfl⟩;go_wp2_with fail;refine (hP.out _).mono ?_;rintro e wx ⟨rfl,rfl⟩;go_wp2_with fail;refine (hP2.out _).mono ?_;rintro e wx ⟨rfl,rfl⟩;go_wp2_with fail;exact bodyPost_ret (f6 (k:=4) (t:=(c::r).take 2) (l:=0) (c:=0) rfl rfl rfl (bO w _ _ _ _ _ _)) rfl ⟨rfl,(Below.refl _ _).alloc (nRe _) _⟩
theorem wE (c:UInt8) (r:List UInt8) (hs:(c::r).length≤1000000000000) (h1:bp c=false) (h2:c.toNat≠35) (h3:dE c=false) (h4:aS c=false) (h5:c.toNat≠34) (h6:¬ ((c.toNat=61∨c.toNat=33)∧r.head? = some 61)) (h7:c ∈ ci) (w:World) :
  Calls Tryz.prog 29 #[.string (bs (c::r))] w (gk 4 [c] 1 0 w):=by
 have hpos:0<(c::r).length:=by simp
 have hG:=hid (eP.is c false h1);have hL:=hid (dN.is c false h3);have hD:=hid (eG.is c false h4);have q2:((c.toNat:Int) == 35)=false:=eqF (by omega);have q5:((c.toNat:Int) == 34)=false:=eqF (by omega);have hP:=hid (lj c r 61 false (by rw [Bool.and_eq_false_iff];by_cases h:c.toNat=61;right;simpa using fun e=>h6 ⟨.inl h,e⟩;left;simpa using h));have hP2:=hid (lj c r 33 false (by rw [Bool.and_eq_false_iff];by_cases h:c.toNat=33;right;simpa using fun e=>h6 ⟨.inr h,e⟩;left;simpa using h));have hS:=hid (nr c);have hv:0≤Lib.indexByte ci c:=(mO ci c).1.2 h7;generalize Lib.indexByte ci c=v at *;clear h1 h2 h3 h4 h5 h6 h7;go_enter Tryz.func29,Tryz.ntmps29
 go_wp2_with fail;refine (hG.out _).mono ?_;rintro e wx ⟨rfl,rfl⟩;go_wp2_with fail;refine (hL.out _).mono ?_;rintro e wx ⟨rfl,rfl⟩;go_wp2_with fail;refine (hD.out _).mono ?_;rintro e wx ⟨rfl,rfl⟩;go_wp2_with fail;refine (hP.out _).mono ?_;rintro e wx ⟨rfl,rfl⟩;go_wp2_with fail;refine (hP2.out _).mono ?_;rintro e wx ⟨rfl,rfl⟩;go_wp2_with fail;refine (hS.out _).mono ?_;rintro e wx ⟨rfl,rfl⟩;go_wp2_with fail;exact bodyPost_ret (f6 (k:=4) (t:=[c]) (l:=0) (c:=0) rfl rfl rfl (bO w _ _ _ _ _ _)) rfl ⟨rfl,(Below.refl _ _).alloc (nRe _) _⟩
theorem wS (c:UInt8) (r:List UInt8) (hs:(c::r).length≤1000000000000) (h1:bp c=false) (h2:c.toNat≠35) (h3:dE c=false) (h4:aS c=false) (h5:c.toNat≠34) (h6:¬ ((c.toNat=61∨c.toNat=33)∧r.head? = some 61)) (h7:c ∉ ci) (w:World) :
  Calls Tryz.prog 29 #[.string (bs (c::r))] w (gk 0 [] 0 3 w):=by
 have hpos:0<(c::r).length:=by simp
 have hG:=hid (eP.is c false h1);have hL:=hid (dN.is c false h3);have hD:=hid (eG.is c false h4);have q2:((c.toNat:Int) == 35)=false:=eqF (by omega);have q5:((c.toNat:Int) == 34)=false:=eqF (by omega);have hP:=hid (lj c r 61 false (by rw [Bool.and_eq_false_iff];by_cases h:c.toNat=61;right;simpa using fun e=>h6 ⟨.inl h,e⟩;left;simpa using h));have hP2:=hid (lj c r 33 false (by rw [Bool.and_eq_false_iff];by_cases h:c.toNat=33;right;simpa using fun e=>h6 ⟨.inr h,e⟩;left;simpa using h));have hS:=hid (nr c);have hv:¬ 0≤Lib.indexByte ci c:=fun h=>h7 ((mO ci c).1.1 h)
 generalize Lib.indexByte ci c=v at *;clear h1 h2 h3 h4 h5 h6 h7;go_enter Tryz.func29,Tryz.ntmps29
 go_wp2_with fail;refine (hG.out _).mono ?_;rintro e wx ⟨rfl,rfl⟩;go_wp2_with fail;refine (hL.out _).mono ?_;rintro e wx ⟨rfl,rfl⟩;go_wp2_with fail;refine (hD.out _).mono ?_;rintro e wx ⟨rfl,rfl⟩;go_wp2_with fail;refine (hP.out _).mono ?_;rintro e wx ⟨rfl,rfl⟩;go_wp2_with fail;refine (hP2.out _).mono ?_;rintro e wx ⟨rfl,rfl⟩;go_wp2_with fail;refine (hS.out _).mono ?_;rintro e wx ⟨rfl,rfl⟩;go_wp2_with fail;exact bodyPost_ret (f6 (k:=0) (t:=[]) (l:=0) (c:=0) rfl rfl rfl (bO w _ _ _ _ _ _)) rfl ⟨rfl,(Below.refl _ _).alloc (nRe _) _⟩
theorem yQ (c:UInt8) (r:List UInt8) (hs:(c::r).length≤1000000000000) (k:Nat) (t:List UInt8) (n e:Nat) (hp:kN (c::r)=(k,t,n,e)) (w:World) (hr:dZ w) :
  Calls Tryz.prog 29 #[.string (bs (c::r))] w (gk k t n e w):=by
 unfold kN at hp;simp only at hp;cases h1:bp c with
 | true =>
   rw [if_pos h1] at hp;simp only [Prod.mk.injEq] at hp;obtain ⟨rfl,rfl,rfl,rfl⟩:=hp;exact xR c r hs h1 w
 | false =>
 rw [if_neg (by rw [h1];simp),ej,if_neg (by rw [h1];simp)] at hp;by_cases h2:c.toNat=35
 ·rw [if_pos h2] at hp;simp only [Prod.mk.injEq] at hp;obtain ⟨rfl,rfl,rfl,rfl⟩:=hp;exact yu c r hs h1 h2 w
 rw [if_neg h2] at hp;cases h3:dE c with
 | true =>
   rw [if_pos h3] at hp;simp only [Prod.mk.injEq] at hp;obtain ⟨rfl,rfl,rfl,rfl⟩:=hp;exact wM c r hs h1 h2 h3 w
 | false =>
 rw [if_neg (by rw [h3];simp)] at hp;cases h4:aS c with
 | true=>rw [if_pos h4] at hp;exact xJ c r hs h1 h2 h3 h4 k t n e hp w hr
 | false =>
 rw [if_neg (by rw [h4];simp)] at hp;by_cases h5:c.toNat=34
 ·rw [if_pos h5] at hp;cases e2:qGo r with
  | none =>
    rw [e2] at hp;simp only [Prod.mk.injEq] at hp;obtain ⟨rfl,rfl,rfl,rfl⟩:=hp;exact rR c r hs h1 h2 h3 h4 h5 (by unfold d8;show (match qGo r with | none=>_ | some x=>_)=_;rw [e2]) w
  | some x =>
    rw [e2] at hp;simp only [Prod.mk.injEq] at hp;obtain ⟨rfl,rfl,rfl,rfl⟩:=hp;exact wA c r hs h1 h2 h3 h4 h5 x.1 (x.2+1) (by unfold d8;show (match qGo r with | none=>_ | some x=>_)=_;rw [e2]) (by omega) w
 rw [if_neg h5] at hp;by_cases h6:(c.toNat=61∨c.toNat=33)∧r.head? = some 61
 ·rw [if_pos h6] at hp;simp only [Prod.mk.injEq] at hp;obtain ⟨rfl,rfl,rfl,rfl⟩:=hp;have e2:(c::r).take 2=[c,61]:=by
   cases r with
   | nil=>simp at h6
   | cons d r=>have:d=61:=by simpa using h6.2
               subst this;rfl
  rw [← e2];rcases h6.1 with h | h
  ·exact wV c r hs h1 h2 h3 h4 h5 h h6.2 w
  ·exact tn c r hs h1 h2 h3 h4 h5 h h6.2 w
 rw [if_neg h6] at hp;by_cases h7:c ∈ ci
 ·rw [if_pos h7] at hp;simp only [Prod.mk.injEq] at hp;obtain ⟨rfl,rfl,rfl,rfl⟩:=hp;exact wE c r hs h1 h2 h3 h4 h5 h6 h7 w
 ·rw [if_neg h7] at hp;simp only [Prod.mk.injEq] at hp;obtain ⟨rfl,rfl,rfl,rfl⟩:=hp;exact wS c r hs h1 h2 h3 h4 h5 h6 h7 w
end
def bi (l:List Tok):List Value:=l.flatMap fun t=>[.int .i64 t.1,.string (bs t.2.1),.int .i64 t.2.2.1,.int .i64 t.2.2.2]
theorem l7 (fs:List Tok):(bi fs).length=fs.length * 4:=by
 induction fs with
 | nil=>rfl
 | cons f fs ih=>simp [bi] at ih ⊢;omega
theorem lJ (a b:List Tok):bi (a++b)=bi a++bi b:=by simp [bi]
theorem lV (fs:List Tok):∀ u ∈ bi fs,u.oneCell'=true:=by
 intro u hu;simp only [bi,List.mem_flatMap] at hu;obtain ⟨f,_,hu⟩:=hu;simp only [List.mem_cons,List.not_mem_nil,or_false] at hu;rcases hu with rfl | rfl | rfl | rfl <;> rfl
theorem qM (fs:List Tok):∀ k (h:k<fs.length),(bi fs)[k * 4]? = some (.int .i64 fs[k].1)∧(bi fs)[k * 4+1]? = some (.string (bs fs[k].2.1))∧(bi fs)[k * 4+2]? = some (.int .i64 fs[k].2.2.1)∧(bi fs)[k * 4+3]? = some (.int .i64 fs[k].2.2.2):=by
 induction fs with
 | nil=>intro k h;simp at h
 | cons f fs ih =>
   intro k h;have e:bi (f::fs)=.int .i64 f.1::.string (bs f.2.1)::.int .i64 f.2.2.1::.int .i64 f.2.2.2::bi fs:=rfl;cases k with
   | zero=>rw [e];exact ⟨rfl,rfl,rfl,rfl⟩
   | succ k =>
     have:=ih k (by simpa using h);rw [e,show (k+1) * 4=k * 4+1+1+1+1 by omega];simpa using this
theorem a9.toks {w:World} {v:Value} {n:Nat} {fs:List Tok} (h:a9 w 4 v n (bi fs)):n=fs.length∧∃ a c,v=.slice a fs.length c∧fs.length≤c∧c≤maxLen ∧
  (∀ k,k<fs.length→∃ b off,a=some ⟨b,off,none⟩∧b<w.heap.size∧∀ j (hj:j<fs.length),w.cell? ⟨b,off+j * 4,none⟩=some (.int .i64 fs[j].1)∧w.cell? ⟨b,off+j * 4+1,none⟩=some (.string (bs fs[j].2.1))∧w.cell? ⟨b,off+j * 4+2,none⟩=some (.int .i64 fs[j].2.2.1)∧w.cell? ⟨b,off+j * 4+3,none⟩=some (.int .i64 fs[j].2.2.2)):=by
 obtain ⟨hl,a,c,rfl,hc,hm,-,hx⟩:=h;have hn:n=fs.length:=by rw [l7] at hl;omega
 subst hn;refine ⟨rfl,a,c,rfl,hc,hm,fun k hk=>?_⟩;obtain ⟨b,off,rfl,aL,hcell⟩:=hx (by intro e;have:=l7 fs;rw [e] at this;simp at this;omega);refine ⟨b,off,rfl,aL,fun j hj=>?_⟩;have hg:=qM fs j hj;exact ⟨hcell _ _ hg.1,by rw [Nat.add_assoc];exact hcell _ _ hg.2.1,by rw [Nat.add_assoc];exact hcell _ _ hg.2.2.1,by rw [Nat.add_assoc];exact hcell _ _ hg.2.2.2⟩
theorem rN:(Tryz.prog.info? 46).map (fun i=>(i.zero,i.size,i.bytes))=some (some (.agg #[.int .i64 0,.string ⟨#[]⟩,.int .i64 0,.int .i64 0]),4,40):=by kernel_rfl
theorem zaA (W:World) (t:Tok):a9 (W.alloc (.cells #[.int .i64 t.1,.string (bs t.2.1),.int .i64 t.2.2.1,.int .i64 t.2.2.2] 46)) 4 (.slice (some ⟨W.heap.size,0,none⟩) 1 1) 1 (bi [t]) :=
 ⟨rfl,_,1,rfl,nRe _,by unfold maxLen;omega,fun h=>(by cases h),fun _=>⟨W.heap.size,0,rfl,by simp,fun j u hu=>by rw [Nat.zero_add,World.cell?_alloc_mark];simpa [bi] using hu⟩⟩
theorem tU {c:UInt8} {r t:List UInt8} {k n e:Nat} (h:kN (c::r)=(k,t,n,e)) (he:e≠0) (p:Pl):eW p (c::r)=([],e,p):=by
 unfold kN at h;simp only at h;by_cases h1:bp c=true
 ·rw [if_pos h1] at h;simp only [Prod.mk.injEq] at h;omega
 ·rw [if_neg h1] at h;exact nC h he
theorem wi {c:UInt8} {r t:List UInt8} {k n:Nat} (h:kN (c::r)=(k,t,n,0)) (p:Pl) :
  (1≤n∧n≤(c::r).length∧t.length≤n)∧eW p (c::r)=fR (if k=0 then [] else [(k,t,p)]) (eW (cA p ((c::r).take n)) ((c::r).drop n)):=by
 unfold kN at h;simp only at h;by_cases h1:bp c=true
 ·rw [if_pos h1] at h;simp only [Prod.mk.injEq] at h;obtain ⟨rfl,rfl,rfl,-⟩:=h;have:=ix bp (c::r);refine ⟨⟨by rw [eQ h1];omega,this,by simp⟩,?_⟩;rw [if_pos rfl,l4];exact yZ p
 ·rw [if_neg h1] at h;exact ⟨gS h,iv h⟩
theorem qW (p:Pl):∀ s:List UInt8,(cA p s).1≤p.1+s.length∧(cA p s).2≤p.2+s.length+1
 | []=>by simp [cA]
 | c::s=>by
   have ih:=qW (adv p c) s;rw [kg];unfold adv at ih ⊢;split at ih
   ·rename_i h;rw [if_pos h];simp at ih ⊢;omega
   ·rename_i h;rw [if_neg h];simp at ih ⊢;omega
def qF (p:Pl) (k:Nat):Prop:=p.1≤k+1∧p.2≤k+2
theorem pS (s:List UInt8):qF (cA (1,1) s) s.length:=by
 have:=qW (1,1) s;unfold qF;simp at this;omega
def kc (x:nf) (w:World) (e:Ending) (w':World):Prop :=
 ∃ v,e=.returned (.tuple #[v,.int .i64 x.2.1,plV x.2.2.1 x.2.2.2])∧a9 w' 4 v x.1.length (bi x.1)∧Below w.heap.size w w'
theorem nH {w:World} {tmps:Array Value} {b:Nat} {x y n:Int} {v:Value} (h2:tmps[2]?.getD undef=v) (h3:tmps[3]?.getD undef=.int .i64 n) (h4:tmps[4]?.getD undef=.pointer (some ⟨b,0,none⟩)) (h0:w.cell? ⟨b,0,none⟩=some (.int .i64 x)) (h1:w.cell? ⟨b,1,none⟩=some (.int .i64 y)) :
  (results Tryz.f16 tmps).run Tryz.prog w=.ok (.tuple #[v,.int .i64 n,.agg #[.int .i64 x,.int .i64 y]]) w:=by
 simp [results,Tryz.f16,go_sem,h2,h3,h4,h0,h1]
def zb3 (v:Value):Nat:=match v with | .string b=>b.size | _=>0
theorem xV (w:World) (t:Tok):a9 ((w.alloc (.cells #[.int .i64 t.1,.string (bs t.2.1),.int .i64 t.2.2.1,.int .i64 t.2.2.2] 46)).alloc (.cells #[.int .i64 t.1,.string (bs t.2.1),.int .i64 t.2.2.1,.int .i64 t.2.2.2] 46)) 4 (.slice (some ⟨w.heap.size+1,0,none⟩) 1 1) 1 (bi [t]):=by
 have h:=zaA (w.alloc (.cells #[.int .i64 t.1,.string (bs t.2.1),.int .i64 t.2.2.1,.int .i64 t.2.2.2] 46)) t;rwa [wSz] at h
theorem zG (s:List UInt8) (hs:s.length≤1000000000000) (hl:65536<s.length) (w:World) :
  Calls Tryz.prog 16 #[.string (bs s)] w (kc (eg s) w):=by
 have e:eg s=([],6,(1,1)):=by unfold eg;rw [if_pos hl]
 rw [e];go_enter Tryz.func16,Tryz.ntmps16
 go_wp2_with fail
 go_region
 all_goals (try go_wp2_with fail)
 all_goals
  have hb:=wN w (.cells #[.int .i64 1,.int .i64 1] 24) (.int .i64 1) (.int .i64 1) 24;have h2:=Two.below (iP w (.int .i64 1) (.int .i64 1) 24) ((Below.refl _ _).alloc (nRe _) (.cells #[.int .i64 1,.int .i64 1] 24));exact bodyPost_ret (nH (x:=1) (y:=1) rfl rfl rfl h2.c0 h2.c1) rfl ⟨_,rfl,a9.nil _ _,(gx w _ _).drew⟩
theorem xz (s:List UInt8) (hl:s.length≤65536) (w:World) (hr:dZ w) :
  Calls Tryz.prog 16 #[.string (bs s)] w (kc (eW (1,1) s) w):=by
 obtain ⟨i0,hi,iz0,iz1,iz2⟩:=info_parts rN;obtain ⟨res,hres⟩:∃ x,x=eW (1,1) s:=⟨_,rfl⟩;rw [← hres];have HX:=hid hres;clear hres;have HA:=hid (iP w (.int .i64 0) (.int .i64 0) 24);have HB:=hid (iP (w.alloc (.cells #[.int .i64 0,.int .i64 0] 24)) (.int .i64 1) (.int .i64 1) 24);have HW:=hid (gx w (.cells #[.int .i64 0,.int .i64 0] 24) (.cells #[.int .i64 1,.int .i64 1] 24));go_enter Tryz.func16,Tryz.ntmps16
 go_wp2_with fail;go_loopw [6,7] (fun v x wr=>∃ (k:Nat) (et:List Tok),k≤s.length∧et.length≤k∧x=.string (bs (s.drop k))∧wr.ownsRow (w.heap.size+2) 46 4 v et.length (bi et)∧Hid (res=fR et (eW (cA (1,1) (s.take k)) (s.drop k)))∧Two wr w.heap.size (.int .i64 0) (.int .i64 0)∧Two wr (w.heap.size+1) (.int .i64 (cA (1,1) (s.take k)).1) (.int .i64 (cA (1,1) (s.take k)).2)∧Below w.heap.size w wr) (fun _ x _=>zb3 x)
 case atStart =>
  refine ⟨0,[],by omega,by simp,rfl,⟨rfl,.inl ⟨rfl,rfl⟩⟩,hid ?_,?_,?_,HW.out⟩
  ·rw [HX.out];exact (l4 _ _).symm
  ·exact HA.out.below ((Below.refl _ _).alloc (nRe _) _)
  ·have:=HB.out;rwa [wSz] at this
 case round =>
  obtain ⟨k,et,hk,htl,rfl,hown,HL,h2a,h2b,hbw⟩:=hrel;have hwk:qF (cA (1,1) (s.take k)) k:=by
   have:=pS (s.take k);rwa [List.length_take,Nat.min_eq_left hk] at this
  obtain ⟨hw1,hw2⟩:=hwk;have hsdl:(s.drop k).length=s.length - k:=List.length_drop ..;obtain ⟨p,hpp⟩:∃ p,p=cA (1,1) (s.take k):=⟨_,rfl⟩;rw [← hpp] at h2b HL hw1 hw2;have htk:∀ n,cA p ((s.drop k).take n)=cA (1,1) (s.take (k+n)):=fun n=>by rw [hpp,← hI,List.take_add]
  have hdk:∀ n,(s.drop k).drop n=s.drop (k+n):=fun n=>by rw [List.drop_drop]
  have Htk:=hid htk;have Hdk:=hid hdk;clear htk hdk hpp;obtain ⟨pl,pc⟩:=p;simp only at hw1 hw2 h2b;cases hsd:s.drop k with
  | nil =>
    rw [hsd] at HL;have hk2:k=s.length:=by rw [hsd] at hsdl;simp at hsdl;omega
    have hres:res=(et,0,(0,0)):=by rw [HL.out,qq];simp [fR]
    subst hres;obtain ⟨c0,c1,f0,f1⟩:=h2a;have h2a':Two wr w.heap.size (.int .i64 0) (.int .i64 0):=⟨c0,c1,f0,f1⟩;have Hs:=hid (h2a'.set (.int .i64 0) (.int .i64 0));have Ho:=hid hown;clear h2a' hsd HX HL hown;go_wp2_with fail;refine bodyPost_ret (nH (x:=0) (y:=0) rfl rfl rfl Hs.out.c0 Hs.out.c1) rfl ⟨_,rfl,?_,(hbw.setCell (p:=⟨w.heap.size,0,none⟩) (nRe _) _).setCell (p:=⟨w.heap.size,1,none⟩) (nRe _) _⟩;have h1:=lR (base:=w.heap.size+2) Ho.out (b:=w.heap.size) (by omega) (.int .i64 0) (.int .i64 0);have h2:et.length≤maxLen:=by unfold maxLen;omega
    exact zdK h1 h2
  | cons c r =>
    have cw:(c::r).length=s.length - k:=by rw [← hsd];exact hsdl
    obtain ⟨kd,t,n,e,hp⟩:∃ kd t n,∃ e,kN (c::r)=(kd,t,n,e):=⟨_,_,_,_,rfl⟩;have HN:=hid (yQ c r (by omega) kd t n e hp wr (hr.below hbw));unfold gk um at HN;rw [hsd] at HL Htk Hdk;by_cases he:e=0
    ·subst he;obtain ⟨⟨hn1,hn2,hn3⟩,hlx⟩:=wi hp (pl,pc);rw [Hdk.out] at hlx;have htk:=Htk.out n;have Hpas:=hid (yi ((c::r).take n) (by rw [List.length_take];omega) (pl,pc) (by simp only;omega));rw [htk] at hlx;unfold plV at Hpas;rw [htk] at Hpas;have HNL:Hid (res=fR (et++if kd=0 then [] else [(kd,t,(pl,pc))]) (eW (cA (1,1) (s.take (k+n))) (s.drop (k+n)))):=hid (by rw [HL.out,hlx,pU]);have Hdn:=hid (Hdk.out n);have hz0:=h2a.lt;have hz1:=h2b.lt;have hwr:=hbw.size;have hn4:(n:Int)≤(r.length:Int)+1:=by simp at hn2;omega
     have hn5:n≤r.length+1:=by simp at hn2;omega
     have hkn:k+n≤s.length:=by simp at cw;omega
     obtain ⟨p2,hp2⟩:∃ x,cA (1,1) (s.take (k+n))=x:=⟨_,rfl⟩;rw [hp2] at Hpas HNL;obtain ⟨ql,qc⟩:=p2;have HP2:=hid hp2;clear hp2;simp only at Hpas;clear HX HL hsd hp hlx htk Htk Hdk;by_cases hkd:kd=0
     ·subst hkd;have HNZ:Hid (res=fR et (eW (ql,qc) (s.drop (k+n)))):=hid (by have:=HNL.out;simpa using this);clear HNL;go_wp2_with fail;refine HN.out.mono ?_;rintro ex w2 ⟨rfl,hb2⟩;have hz2:=nL hz0 hb2.size;have hz3:=nL hz1 hb2.size;have hown2:=dA hown hb2;obtain ⟨c0,c1,f0,f1⟩:=h2a.below hb2;obtain ⟨d0,d1,g0,g1⟩:=h2b.below hb2;clear h2a h2b hown;go_wp2_with fail
      go_region_with (go_at_call 30;refine (Hpas.out _).mono ?_;rintro e wx ⟨rfl,hbx⟩;have hB2:Below w2.heap.size w2 wx:=(by first | exact ((Below.refl _ _).alloc (nRe _) _).trans (hbx.mono (by simp)) | exact ((Below.refl _ _).alloc (nRe _) _).drew.trans (hbx.mono (by simp)) | exact ((Below.refl _ _).alloc (nRe _) _).drew.drew.trans (hbx.mono (by simp)) | exact ((Below.refl _ _).alloc (nRe _) _).drew.drew.drew.trans (hbx.mono (by simp)) | exact ((Below.refl _ _).alloc (nRe _) _).drew.drew.drew.drew.trans (hbx.mono (by simp)));have hT:=(Two.mk d0 d1 g0 g1).below hB2;have m0:=hT.c0;have m1:=hT.c1;have n0:=hT.f0;have n1:=hT.f1)
      all_goals
       have hA2:=(Two.mk c0 c1 f0 f1).below hB2;have hO2:=dA hown2 hB2;have hBw:Below w.heap.size w wx:=(hbw.trans (hb2.mono hbw.size)).trans (hB2.mono (by omega));clear hbx hB2;have hs7:(c::r).drop n=(s.drop (k+n)):=Hdn.out;have hl7:((c::r).drop n).length≤s.length - k - n:=by rw [List.length_drop,cw];exact nRe _
       refine ⟨?_,?_⟩
       ·(repeat apply Exists.intro)
        refine ⟨⟨k+n,et,hkn,by omega,?_,lR hO2 (by omega) _ _,by rw [HP2.out];exact HNZ,hA2.other (by omega) _ _,by rw [HP2.out];exact hT.set _ _,(hBw.setCell (p:=⟨w.heap.size+1,0,none⟩) (Nat.le_succ _) _).setCell (p:=⟨w.heap.size+1,1,none⟩) (Nat.le_succ _) _⟩,rfl⟩;rw [← hs7,List.take_of_length_le hl7]
       ·show ((c::r).drop n |>.take (s.length - k - n)).length<(c::r).length;rw [List.take_of_length_le hl7,List.length_drop];omega
     ·skip
      have HNZ:Hid (res=fR (et++[(kd,t,(pl,pc))]) (eW (ql,qc) (s.drop (k+n)))):=hid (by have:=HNL.out;rw [if_neg hkd] at this;exact this);have hkd1:(0:Int)<(kd:Int):=by omega
      clear HNL hkd;go_wp2_with fail;refine HN.out.mono ?_;rintro ex w2 ⟨rfl,hb2⟩;have hz2:=nL hz0 hb2.size;have hz3:=nL hz1 hb2.size;have hown2:=dA hown hb2;obtain ⟨c0,c1,f0,f1⟩:=h2a.below hb2;obtain ⟨d0,d1,g0,g1⟩:=h2b.below hb2;clear h2a h2b hown;go_wp2_with (at_builtin;go_must (refine cg rfl _ _ 42 rfl (w.heap.size+2) 46 i0 (.agg #[.int .i64 0,.string ⟨#[]⟩,.int .i64 0,.int .i64 0]) 4 40 Tryz.underlying42 hi iz0 iz1 iz2 rfl (by decide) _ et.length (bi et) rfl ?d1 _ 1 (bi [(kd,t,(pl,pc))]) rfl ?d2 ?d3 ?d4 ?d5 ?d6 ?_))
      case d1=>exact (hown2.alloc _).alloc _
      case d2=>exact xV w2 (kd,t,(pl,pc))
      case d3=>exact lV _
      case d4=>unfold maxLen;omega
      (try case d5=>omega)
      (try case d6=>simp;omega)
      intro v3 w3 hown3 hgrow;have hB3:Below (w.heap.size+2) w2 w3:=((((Below.refl (w.heap.size+2) w2).alloc (by omega) _).alloc (by simp;omega) _)).grown hgrow (by simp;omega) (fun q hq=>(hown2.lt q hq).1);have h3a:=(Two.mk c0 c1 f0 f1).past hB3 (by omega);have h3b:=(Two.mk d0 d1 g0 g1).past hB3 (by omega);have hb3:Below w.heap.size w w3:=(hbw.trans (hb2.mono hbw.size)).trans (hB3.mono (by omega));rw [← lJ] at hown3;have hown4:w3.ownsRow (w.heap.size+2) 46 4 v3 (et++[(kd,t,(pl,pc))]).length (bi (et++[(kd,t,(pl,pc))])):=by rw [lAp];exact hown3
      have hz5:=h3b.lt;obtain ⟨e0,e1,x0,x1⟩:=h3b;clear hB3 hown3 hown2 hgrow c0 c1 f0 f1 d0 d1 g0 g1;go_wp2_with fail
      go_region_with (go_at_call 30;refine (Hpas.out _).mono ?_;rintro e wx ⟨rfl,hbx⟩;have hB2:Below w3.heap.size w3 wx:=(by first | exact hbx | exact ((Below.refl _ _).drew).trans (hbx.mono (by simp)) | exact ((Below.refl _ _).drew.drew).trans (hbx.mono (by simp)) | exact ((Below.refl _ _).drew.drew.drew).trans (hbx.mono (by simp)));have hT:=(Two.mk e0 e1 x0 x1).below hB2;have m0:=hT.c0;have m1:=hT.c1;have n0:=hT.f0;have n1:=hT.f1)
      all_goals
       have hA2:=h3a.below hB2;have hO2:=dA hown4 hB2;have hBw:Below w.heap.size w wx:=hb3.trans (hB2.mono hb3.size);clear hbx hB2;have hs7:(c::r).drop n=(s.drop (k+n)):=Hdn.out;have hl7:((c::r).drop n).length≤s.length - k - n:=by rw [List.length_drop,cw];exact nRe _
       refine ⟨?_,?_⟩
       ·(repeat apply Exists.intro)
        refine ⟨⟨k+n,et++[(kd,t,(pl,pc))],hkn,by simp;omega,?_,lR hO2 (by omega) _ _,by rw [HP2.out];exact HNZ,hA2.other (by omega) _ _,by rw [HP2.out];exact hT.set _ _,(hBw.setCell (p:=⟨w.heap.size+1,0,none⟩) (Nat.le_succ _) _).setCell (p:=⟨w.heap.size+1,1,none⟩) (Nat.le_succ _) _⟩,rfl⟩;rw [← hs7,List.take_of_length_le hl7]
       ·show ((c::r).drop n |>.take (s.length - k - n)).length<(c::r).length;rw [List.take_of_length_le hl7,List.length_drop];omega
    ·have hres:res=([],e,(pl,pc)):=by rw [HL.out,tU hp he];simp [fR,he]
     subst hres;have qe:((e:Int) != 0)=true:=neT (by omega);have hz0:=h2a.lt;have hz1:=h2b.lt;clear HX HL hsd hp;go_wp2_with fail;refine HN.out.mono ?_;rintro ex w2 ⟨rfl,hb2⟩;have hz2:=nL hz0 hb2.size;have hz3:=nL hz1 hb2.size;obtain ⟨c0,c1,f0,f1⟩:=h2a.below hb2;obtain ⟨d0,d1,g0,g1⟩:=h2b.below hb2;clear h2a h2b;go_wp2_with fail
     go_region
     all_goals (try go_wp2_with fail)
     all_goals
      have h3:=(Two.mk c0 c1 f0 f1).set (.int .i64 pl) (.int .i64 pc);have h4:=h3.below ((Below.refl _ _).alloc (nRe _) (.cells #[.int .i64 kd,.string (bs t),.int .i64 0,.int .i64 0] 46));have hb3:=((hbw.trans (hb2.mono hbw.size)).setCell (p:=⟨w.heap.size,0,none⟩) (nRe _) (.int .i64 pl)).setCell (p:=⟨w.heap.size,1,none⟩) (nRe _) (.int .i64 pc);exact bodyPost_ret (nH (x:=pl) (y:=pc) rfl rfl rfl h4.c0 h4.c1) rfl ⟨_,rfl,a9.nil _ _,(hb3.alloc hb3.size _).drew⟩
theorem zal (s:List UInt8) (hs:s.length≤1000000000000) (w:World) (hr:dZ w) :
  Calls Tryz.prog 16 #[.string (bs s)] w (kc (eg s) w):=by
 by_cases h:65536<s.length
 ·exact zG s hs h w
 ·have e:eg s=eW (1,1) s:=by unfold eg;rw [if_neg h]
  rw [e];exact xz s (by omega) w hr
theorem zbK {w:World} {tmps:Array Value} {b:Nat} {x y:Int} (h4:tmps[4]?.getD undef=.pointer (some ⟨b,0,none⟩)) (h0:w.cell? ⟨b,0,none⟩=some (.int .i64 x)) (h1:w.cell? ⟨b,1,none⟩=some (.int .i64 y)) :
  (results Tryz.f170 tmps).run Tryz.prog w=.ok (.agg #[.int .i64 x,.int .i64 y]) w:=by
 simp [results,Tryz.f170,go_sem,h4,h0,h1]
theorem zar {w:World} {b:Nat} {x y:Value} (h:Two w b x y) (v:Value):Two (w.setCell ⟨b,1,none⟩ v) b x v :=
 ⟨by rw [World.cell?_setCell_other _ _ _ _ (by simp)];exact h.c0,World.cell?_setCell_same' _ _ _ (by rw [h.c1];rfl),by rw [World.frozen?_setCell];exact h.f0,by rw [World.frozen?_setCell];exact h.f1⟩
theorem two_one' {w:World} {b c:Nat} {x y:Value} (h:Two w b x y) (hne:c≠b) (v:Value):Two (w.setCell ⟨c,1,none⟩ v) b x y:=by
 have hn:∀ i j:Nat,(⟨c,i,none⟩:Addr)≠⟨b,j,none⟩:=fun i j e=>hne (congrArg Addr.block e)
 exact ⟨by rw [World.cell?_setCell_other _ _ _ _ (hn _ _)];exact h.c0,by rw [World.cell?_setCell_other _ _ _ _ (hn _ _)];exact h.c1,by rw [World.frozen?_setCell];exact h.f0,by rw [World.frozen?_setCell];exact h.f1⟩
theorem zaJ (s:List UInt8) (hs:s.length≤1000000000000) (i:Nat) (hi:i≤s.length) (w:World) :
  Calls Tryz.prog 170 #[.string (bs s),.int .i64 i] w fun e w'=>e=.returned (plV (cA (1,1) (s.take i)).1 (cA (1,1) (s.take i)).2)∧Below w.heap.size w w':=by
 have HA:=hid (iP w (.int .i64 0) (.int .i64 0) 24);have HB:=hid (iP (w.alloc (.cells #[.int .i64 0,.int .i64 0] 24)) (.int .i64 1) (.int .i64 1) 24);have HW:=hid (gx w (.cells #[.int .i64 0,.int .i64 0] 24) (.cells #[.int .i64 1,.int .i64 1] 24));unfold plV;go_enter Tryz.func170,Tryz.ntmps170
 go_wp2_with fail;go_loopw [6] (fun x wr=>∃ (k:Nat),k≤i∧x=.int .i64 k∧Two wr w.heap.size (.int .i64 0) (.int .i64 0)∧Two wr (w.heap.size+1) (.int .i64 (cA (1,1) (s.take k)).1) (.int .i64 (cA (1,1) (s.take k)).2)∧Below w.heap.size w wr) (fun x _=>i - (intOf x).toNat)
 case atStart =>
  refine ⟨0,by omega,rfl,?_,?_,HW.out⟩
  ·exact HA.out.below ((Below.refl _ _).alloc (nRe _) _)
  ·have:=HB.out;rwa [wSz] at this
 case round =>
  obtain ⟨k,hk,rfl,h2a,h2b,hbw⟩:=hrel;have hwk:qF (cA (1,1) (s.take k)) k:=by
   have:=pS (s.take k);rwa [List.length_take,Nat.min_eq_left (by omega)] at this
  obtain ⟨hw1,hw2⟩:=hwk;by_cases aL:k<i
  ·have hks:k<s.length:=by omega
   have hadv:cA (1,1) (s.take (k+1))=adv (cA (1,1) (s.take k)) s[k]:=by rw [iR s k hks,vX]
   obtain ⟨p,hpp⟩:∃ p,cA (1,1) (s.take k)=p:=⟨_,rfl⟩;rw [hpp] at h2b hw1 hw2 hadv;obtain ⟨pl,pc⟩:=p;simp only at hw1 hw2 h2b;have H2a:=hid h2a;have H2b:=hid h2b;obtain ⟨c0,c1,f0,f1⟩:=h2a;obtain ⟨d0,d1,g0,g1⟩:=h2b;have Hadv:=hid hadv;clear hadv hpp;by_cases hc:s[k].toNat=10
   ·have q:((s[k].toNat:Int) == 10)=true:=eqT (by omega);have HE:Hid (cA (1,1) (s.take (k+1))=(pl+1,1)):=hid (by rw [Hadv.out];unfold adv;rw [if_pos hc]);clear hc;go_wp2_with fail;exact ⟨⟨k+1,by omega,by go_num,H2a.out.other (by omega) _ _,by rw [HE.out];exact H2b.out.set _ _,(hbw.setCell (p:=⟨w.heap.size+1,0,none⟩) (Nat.le_succ _) _).setCell (p:=⟨w.heap.size+1,1,none⟩) (Nat.le_succ _) _⟩,by simp [intOf];omega⟩
   ·have q:((s[k].toNat:Int) == 10)=false:=eqF (by omega);have HE:Hid (cA (1,1) (s.take (k+1))=(pl,pc+1)):=hid (by rw [Hadv.out];unfold adv;rw [if_neg hc]);clear hc;go_wp2_with fail;exact ⟨⟨k+1,by omega,by go_num,two_one' H2a.out (by omega) _,by rw [HE.out];exact zar H2b.out _,hbw.setCell (p:=⟨w.heap.size+1,1,none⟩) (Nat.le_succ _) _⟩,by simp [intOf];omega⟩
  ·obtain rfl:k=i:=by omega
   obtain ⟨p,hpp⟩:∃ p,cA (1,1) (s.take k)=p:=⟨_,rfl⟩;rw [hpp] at h2b hw1 hw2;have Hpp:=hid hpp;clear hpp;obtain ⟨pl,pc⟩:=p;simp only at hw1 hw2 h2b;have H2a:=hid h2a;obtain ⟨c0,c1,f0,f1⟩:=h2a;obtain ⟨d0,d1,g0,g1⟩:=h2b;go_wp2_with fail;exact bodyPost_ret (zbK (x:=pl) (y:=pc) rfl (H2a.out.set _ _).c0 (H2a.out.set _ _).c1) rfl ⟨tA (by rw [Hpp.out]) (by rw [Hpp.out]),(hbw.setCell (p:=⟨w.heap.size,0,none⟩) (nRe _) _).setCell (p:=⟨w.heap.size,1,none⟩) (nRe _) _⟩
section
set_option maxHeartbeats 1000000
theorem dB:lm 191 aS:=by
 intro c w;go_enter Tryz.func191,Tryz.ntmps191
 go_wp2
 all_goals (go_ret;refine ⟨ii ?_,rfl⟩;rw [Bool.eq_iff_iff];simp [aS];omega)
theorem dw:lm 190 dE:=by
 intro c w;go_enter Tryz.func190,Tryz.ntmps190
 go_wp2
 all_goals (go_ret;refine ⟨ii ?_,rfl⟩;rw [Bool.eq_iff_iff];simp [dE];omega)
end
def pi (k:Nat) (t:List UInt8) (n e:Nat):Value:=.agg #[.int .i64 k,.string (bs t),.int .i64 n,.int .i64 e]
def fS (k:Nat) (t:List UInt8) (n e:Nat) (w:World) (x:Ending) (w':World):Prop:=x=.returned (pi k t n e)∧Below w.heap.size w w'
theorem gr {w:World} {tmps:Array Value} {b:Nat} {k n e:Nat} {t:List UInt8} (h2:tmps[2]?.getD undef=.pointer (some ⟨b,0,none⟩)) (h:jm w b (.int .i64 k) (.string (bs t)) (.int .i64 n) (.int .i64 e)) :
  (results Tryz.f192 tmps).run Tryz.prog w=.ok (pi k t n e) w:=by
 obtain ⟨c0,c1,c2,c3⟩:=h;simp [results,Tryz.f192,go_sem,h2,c0,c1,c2,c3,pi]
theorem gm {w:World} {tmps:Array Value} {b:Nat} {k n e:Nat} {t:List UInt8} (h2:tmps[2]?.getD undef=.pointer (some ⟨b,0,none⟩)) (h:jm w b (.int .i64 k) (.string (bs t)) (.int .i64 n) (.int .i64 e)) :
  (results Tryz.f193 tmps).run Tryz.prog w=.ok (pi k t n e) w:=by
 obtain ⟨c0,c1,c2,c3⟩:=h;simp [results,Tryz.f193,go_sem,h2,c0,c1,c2,c3,pi]
theorem dC {w:World} {tmps:Array Value} {b:Nat} {k n e:Nat} {t:List UInt8} (h2:tmps[2]?.getD undef=.pointer (some ⟨b,0,none⟩)) (h:jm w b (.int .i64 k) (.string (bs t)) (.int .i64 n) (.int .i64 e)) :
  (results Tryz.f169 tmps).run Tryz.prog w=.ok (pi k t n e) w:=by
 obtain ⟨c0,c1,c2,c3⟩:=h;simp [results,Tryz.f169,go_sem,h2,c0,c1,c2,c3,pi]
theorem one_byte' (W:World) (c:UInt8) (n:Nat) (hn:n=W.heap.size):a9 (W.alloc (.cells #[.int .u8 c.toNat] 5)) 1 (.slice (some ⟨n,0,none⟩) 1 1) 1 (Lib.byteCells [c]):=by
 subst hn;exact i7 W c
def zcB (s:List UInt8):Nat:=match s with
 | []=>0
 | c::r=>if bp c=true then 1 else if c.toNat=35 then aZ bv (c::r) else 0
theorem gc (s:List UInt8) (hp:0<s.length) (hs:s.length≤1000000000000) (n:Nat) (hn:zcB s=n) (w:World) :
  Calls Tryz.prog 189 #[.string (bs s)] w fun e w'=>e=.returned (.int .i64 n)∧w=w':=by
 have hc:zcB s=if bp s[0]=true then 1 else if s[0].toNat=35 then aZ bv s else 0:=by cases s with | nil=>simp at hp | cons c r=>rfl
 rw [hc] at hn;clear hc;by_cases h1:bp s[0]=true
 ·rw [if_pos h1] at hn;subst hn;have hg:s[0].toNat=32∨s[0].toNat=9∨s[0].toNat=10∨s[0].toNat=13:=by simpa [bp,or_assoc] using h1
  by_cases g1:s[0].toNat=32
  ·have q1:((s[0].toNat:Int) == 32)=true:=eqT (by omega);clear h1 hg g1;go_enter Tryz.func189,Tryz.ntmps189
   go_wp2_with fail;go_ret;exact ⟨rfl,rfl⟩
  have q1:((s[0].toNat:Int) == 32)=false:=eqF (by omega);by_cases g2:s[0].toNat=9
  ·have q2:((s[0].toNat:Int) == 9)=true:=eqT (by omega);clear h1 hg g1 g2;go_enter Tryz.func189,Tryz.ntmps189
   go_wp2_with fail;go_ret;exact ⟨rfl,rfl⟩
  have q2:((s[0].toNat:Int) == 9)=false:=eqF (by omega);by_cases g3:s[0].toNat=10
  ·have q3:((s[0].toNat:Int) == 10)=true:=eqT (by omega);clear h1 hg g1 g2 g3;go_enter Tryz.func189,Tryz.ntmps189
   go_wp2_with fail;go_ret;exact ⟨rfl,rfl⟩
  have q3:((s[0].toNat:Int) == 10)=false:=eqF (by omega);have q4:((s[0].toNat:Int) == 13)=true:=eqT (by omega);clear h1 hg g1 g2 g3;go_enter Tryz.func189,Tryz.ntmps189
  go_wp2_with fail;go_ret;exact ⟨rfl,rfl⟩
 ·rw [if_neg h1] at hn;have hg:s[0].toNat≠32∧s[0].toNat≠9∧s[0].toNat≠10∧s[0].toNat≠13:=by simpa [bp,and_assoc] using h1
  have q1:((s[0].toNat:Int) == 32)=false:=eqF (by omega);have q2:((s[0].toNat:Int) == 9)=false:=eqF (by omega);have q3:((s[0].toNat:Int) == 10)=false:=eqF (by omega);have q4:((s[0].toNat:Int) == 13)=false:=eqF (by omega);by_cases h2:s[0].toNat=35
  ·rw [if_pos h2] at hn;subst hn;have q5:((s[0].toNat:Int) == 35)=true:=eqT (by omega);clear h1 h2 hg;go_enter Tryz.func189,Tryz.ntmps189
   go_wp2_with fail
   go_loop [3] (fun i=>∃ k:Nat,k≤s.length∧i=.int .i64 k∧Hid (aZ bv s=k+aZ bv (s.drop k))) (fun i=>s.length - (intOf i).toNat)
   case atStart=>exact ⟨0,by omega,rfl,hid (by simp)⟩
   case round =>
    obtain ⟨k,hk,rfl,HR⟩:=hrel;by_cases aL:k<s.length
    ·by_cases hl:s[k].toNat=10
     ·have HN:Hid (aZ bv s=k):=hid (by rw [HR.out,eo s k aL,f8 (by simp [bv,hl])];rfl);have q6:((s[k].toNat:Int) != 10)=false:=neF (by omega);clear hl HR;go_wp2_with fail;go_ret;exact ⟨by rw [HN.out];rfl,rfl⟩
     ·have HN:Hid (aZ bv s=(k+1)+aZ bv (s.drop (k+1))):=hid (by rw [HR.out,g7 aL (by simp [bv,hl])]);have q6:((s[k].toNat:Int) != 10)=true:=neT (by omega);clear hl HR;go_wp2_with fail
      go_round
      case rel=>exact ⟨k+1,by omega,by go_num,HN⟩
      case measure=>simp [intOf];omega
    ·have HN:Hid (aZ bv s=k):=hid (by rw [HR.out,List.drop_eq_nil_of_le (by omega)];rfl);have hd:decide (k<s.length)=false:=decide_eq_false aL;clear HR;go_wp2_with fail;go_ret;exact ⟨by rw [HN.out];rfl,rfl⟩
  ·rw [if_neg h2] at hn;subst hn;have q5:((s[0].toNat:Int) == 35)=false:=eqF (by omega);clear h1 h2 hg;go_enter Tryz.func189,Tryz.ntmps189
   go_wp2_with fail;go_ret;exact ⟨rfl,rfl⟩
def nI (s:List UInt8):Nat × List UInt8 × Nat × Nat:=match qGo (s.drop 1) with | none=>(0,[],0,3) | some x=>(3,x.1,x.2+1,0)
theorem jh (s:List UInt8):nI s=if (d8 s).2=0 then (0,[],0,3) else (3,(d8 s).1,(d8 s).2,0):=by
 unfold nI d8;cases qGo (s.drop 1) with
 | none=>rfl
 | some x=>simp
theorem si (s:List UInt8) (hs:s.length≤1000000000000) (k0:Nat) (t:List UInt8) (n e0:Nat) (ht:nI s=(k0,t,n,e0)) (w:World) :
  Calls Tryz.prog 193 #[.string (bs s)] w (fS k0 t n e0 w):=by
 obtain ⟨i0,hi,hz0,hz1,hz2⟩:=info_parts qD;have HT:=hid ht;have HF0:=hid (bO w (.int .i64 0) (.string ⟨#[]⟩) (.int .i64 0) (.int .i64 0) 194 (0,0));have HR0:=hid (fZ w #[.int .i64 0,.string ⟨#[]⟩,.int .i64 0,.int .i64 0] 194);clear ht;go_enter Tryz.func193,Tryz.ntmps193
 go_wp2_with fail;go_loopw [3,4] (fun v i wr=>∃ (k:Nat) (out:List UInt8),k≤s.length∧out.length≤k∧i=.int .i64 (k+1:Nat)∧wr.ownsRow (w.heap.size+1) 5 1 v out.length (Lib.byteCells out)∧Hid (qGo (s.drop 1)=qSh out k (qGo (s.drop (k+1))))∧Hid (jm wr w.heap.size (.int .i64 0) (.string ⟨#[]⟩) (.int .i64 0) (.int .i64 0))∧ny wr w.heap.size∧w.heap.size<wr.heap.size∧Below w.heap.size w wr) (fun _ i _=>s.length+1 - (intOf i).toNat)
 case atStart=>exact ⟨0,[],by omega,by simp,rfl,⟨rfl,.inl ⟨rfl,rfl⟩⟩,hid (sS _),HF0,HR0.out,by simp,(Below.refl _ _).alloc (nRe _) _⟩
 case round =>
  obtain ⟨k,out,hk,hol,rfl,hown,HQ,Hf,hfr,hsz,hbw⟩:=hrel;have hsz1:w.heap.size+1≤wr.heap.size:=hsz;have Hr:=hid hfr;obtain ⟨x0,x1,x2,x3⟩:=Hf.out;have y0:=hfr 0;have y1:=hfr 1;have y2:=hfr 2;have y3:=hfr 3;have HTT:=HT.out;clear hfr HF0 HR0;by_cases aL:k+1<s.length
  ·have hcv:=ib (zdK hown (by unfold maxLen;omega));have Hown:=hid hown;have htn:((k:Int)+1).toNat=k+1:=by omega
   by_cases c1:s[k+1].toNat=34
   ·have q0:((s[k+1].toNat:Int) == 34)=true:=eqT (by omega);rw [jh,zbt aL c1 HQ.out,if_neg (by simp)] at HTT;simp only [Prod.mk.injEq] at HTT;obtain ⟨rfl,rfl,rfl,rfl⟩:=HTT;clear HT HQ hown c1;go_wp2_with fail;exact bodyPost_ret (gm (k:=3) (t:=out) (n:=k+2) (e:=0) rfl (dl Hf.out _ _ _ _)) rfl ⟨rfl,b8 hbw (nRe _) _ _ _ _⟩
   ·have q0:((s[k+1].toNat:Int) == 34)=false:=eqF (by omega);by_cases c2:s[k+1].toNat<32∨s[k+1].toNat=127
    ·rw [jh,zbz aL c2 HQ.out,if_pos rfl] at HTT;simp only [Prod.mk.injEq] at HTT;obtain ⟨rfl,rfl,rfl,rfl⟩:=HTT;by_cases c3:s[k+1].toNat<32
     ·have c3':(s[k+1].toNat:Int)<32:=by omega
      clear HT HQ hown c1 c2;go_wp2_with fail;exact bodyPost_ret (gm (k:=0) (t:=[]) (n:=0) (e:=3) rfl (dl Hf.out _ _ _ _)) rfl ⟨rfl,b8 hbw (nRe _) _ _ _ _⟩
     ·have c3':¬ (s[k+1].toNat:Int)<32:=by omega
      have q1:((s[k+1].toNat:Int) == 127)=true:=eqT (by omega);clear HT HQ hown c1 c2 c3;go_wp2_with fail;exact bodyPost_ret (gm (k:=0) (t:=[]) (n:=0) (e:=3) rfl (dl Hf.out _ _ _ _)) rfl ⟨rfl,b8 hbw (nRe _) _ _ _ _⟩
    ·have c3':¬ (s[k+1].toNat:Int)<32:=by omega
     have q1:((s[k+1].toNat:Int) == 127)=false:=eqF (by omega);by_cases c4:s[k+1].toNat=92
     ·have q2:((s[k+1].toNat:Int) == 92)=true:=eqT (by omega);have htn2:((k:Int)+1+1).toNat=k+2:=by omega
      by_cases hl2:k+2<s.length
      ·have qe:(((k:Int)+1+1) == (s.length:Int))=false:=eqF (by omega);by_cases c5:s[k+2].toNat=34∨s[k+2].toNat=92∨s[k+2].toNat=110
       ·rcases c5 with c5 | c5 | c5
        ·have r1:((s[k+2].toNat:Int) != 34)=false:=neF (by omega);have r4:((s[k+2].toNat:Int) == 110)=false:=eqF (by omega);have HN:=hid (pI aL c4 hl2 s[k+2] (.inl ⟨.inl c5,rfl⟩) HQ.out);clear HTT HQ hown c1 c2 c4 c5;go_wp2_with (at_builtin;go_must (refine cg rfl _ _ 41 rfl (w.heap.size+1) 5 i0 (.int .u8 0) 1 1 Tryz.underlying41 hi hz0 hz1 hz2 rfl (by decide) _ out.length (Lib.byteCells out) rfl ?a1 _ 1 (Lib.byteCells [s[k+2]]) rfl ?a2 ?a3 ?a4 ?a5 ?a6 ?_))
         case a1=>exact Hown.out.alloc _
         case a2=>exact one_byte' _ _ _ rfl
         case a3=>exact du _
         case a4=>unfold maxLen;omega
         (try case a5=>omega)
         (try case a6=>simp;omega)
         intro v' w' hown' hgrow;have hb1:Below (w.heap.size+1) wr w':=((Below.refl (w.heap.size+1) wr).alloc hsz1 _).grown hgrow (by simp;omega) (fun q hq=>(Hown.out.lt q hq).1);have hbx:Below w.heap.size w w':=hbw.trans (hb1.mono (Nat.le_succ _));have hszw:=hb1.size;have hf2:=hid ((Hf.out).past hb1 (by omega));have hr2:=Hr.out.past hb1 (by omega);have ho2:w'.ownsRow (w.heap.size+1) 5 1 v' (out++[s[k+2]]).length (Lib.byteCells (out++[s[k+2]])):=by rw [dt,lAp];exact hown'
         clear hown' hgrow hb1;go_wp2_with fail;exact ⟨⟨k+2,out++[s[k+2]],by omega,by simp;omega,by go_num,ho2,HN,hf2,hr2,nL hsz hszw,hbx⟩,by simp [intOf];omega⟩
        ·have r1:((s[k+2].toNat:Int) != 34)=true:=neT (by omega);have r2:((s[k+2].toNat:Int) != 92)=false:=neF (by omega);have r4:((s[k+2].toNat:Int) == 110)=false:=eqF (by omega);have HN:=hid (pI aL c4 hl2 s[k+2] (.inl ⟨.inr c5,rfl⟩) HQ.out);clear HTT HQ hown c1 c2 c4 c5;go_wp2_with (at_builtin;go_must (refine cg rfl _ _ 41 rfl (w.heap.size+1) 5 i0 (.int .u8 0) 1 1 Tryz.underlying41 hi hz0 hz1 hz2 rfl (by decide) _ out.length (Lib.byteCells out) rfl ?b1 _ 1 (Lib.byteCells [s[k+2]]) rfl ?b2 ?b3 ?b4 ?b5 ?b6 ?_))
         case b1=>exact Hown.out.alloc _
         case b2=>exact one_byte' _ _ _ rfl
         case b3=>exact du _
         case b4=>unfold maxLen;omega
         (try case b5=>omega)
         (try case b6=>simp;omega)
         intro v' w' hown' hgrow;have hb1:Below (w.heap.size+1) wr w':=((Below.refl (w.heap.size+1) wr).alloc hsz1 _).grown hgrow (by simp;omega) (fun q hq=>(Hown.out.lt q hq).1);have hbx:Below w.heap.size w w':=hbw.trans (hb1.mono (Nat.le_succ _));have hszw:=hb1.size;have hf2:=hid ((Hf.out).past hb1 (by omega));have hr2:=Hr.out.past hb1 (by omega);have ho2:w'.ownsRow (w.heap.size+1) 5 1 v' (out++[s[k+2]]).length (Lib.byteCells (out++[s[k+2]])):=by rw [dt,lAp];exact hown'
         clear hown' hgrow hb1;go_wp2_with fail;exact ⟨⟨k+2,out++[s[k+2]],by omega,by simp;omega,by go_num,ho2,HN,hf2,hr2,nL hsz hszw,hbx⟩,by simp [intOf];omega⟩
        ·have r1:((s[k+2].toNat:Int) != 34)=true:=neT (by omega);have r2:((s[k+2].toNat:Int) != 92)=true:=neT (by omega);have r3:((s[k+2].toNat:Int) != 110)=false:=neF (by omega);have r4:((s[k+2].toNat:Int) == 110)=true:=eqT (by omega);have HN:=hid (pI aL c4 hl2 10 (.inr ⟨c5,rfl⟩) HQ.out);clear HTT HQ hown c1 c2 c4 c5;go_wp2_with (at_builtin;go_must (refine cg rfl _ _ 41 rfl (w.heap.size+1) 5 i0 (.int .u8 0) 1 1 Tryz.underlying41 hi hz0 hz1 hz2 rfl (by decide) _ out.length (Lib.byteCells out) rfl ?c1 _ 1 (Lib.byteCells [10]) rfl ?c2 ?c3 ?c4 ?c5 ?c6 ?_))
         case c1=>exact Hown.out.alloc _
         case c2=>exact one_byte' _ _ _ rfl
         case c3=>exact du _
         case c4=>unfold maxLen;omega
         (try case c5=>omega)
         (try case c6=>simp;omega)
         intro v' w' hown' hgrow;have hb1:Below (w.heap.size+1) wr w':=((Below.refl (w.heap.size+1) wr).alloc hsz1 _).grown hgrow (by simp;omega) (fun q hq=>(Hown.out.lt q hq).1);have hbx:Below w.heap.size w w':=hbw.trans (hb1.mono (Nat.le_succ _));have hszw:=hb1.size;have hf2:=hid ((Hf.out).past hb1 (by omega));have hr2:=Hr.out.past hb1 (by omega);have ho2:w'.ownsRow (w.heap.size+1) 5 1 v' (out++[10]).length (Lib.byteCells (out++[10])):=by rw [dt,lAp];exact hown'
         clear hown' hgrow hb1;go_wp2_with fail;exact ⟨⟨k+2,out++[10],by omega,by simp;omega,by go_num,ho2,HN,hf2,hr2,nL hsz hszw,hbx⟩,by simp [intOf];omega⟩
       ·have r1:((s[k+2].toNat:Int) != 34)=true:=neT (by omega);have r2:((s[k+2].toNat:Int) != 92)=true:=neT (by omega);have r3:((s[k+2].toNat:Int) != 110)=true:=neT (by omega);rw [jh,yy aL c4 hl2 (by omega) HQ.out,if_pos rfl] at HTT;simp only [Prod.mk.injEq] at HTT;obtain ⟨rfl,rfl,rfl,rfl⟩:=HTT;clear HT HQ hown c1 c2 c4 c5;go_wp2_with fail;exact bodyPost_ret (gm (k:=0) (t:=[]) (n:=0) (e:=3) rfl (dl Hf.out _ _ _ _)) rfl ⟨rfl,b8 hbw (nRe _) _ _ _ _⟩
      ·have qe:(((k:Int)+1+1) == (s.length:Int))=true:=eqT (by omega);rw [jh,yH aL c4 (by omega) HQ.out,if_pos rfl] at HTT;simp only [Prod.mk.injEq] at HTT;obtain ⟨rfl,rfl,rfl,rfl⟩:=HTT;clear HT HQ hown c1 c2 c4;go_wp2_with fail;exact bodyPost_ret (gm (k:=0) (t:=[]) (n:=0) (e:=3) rfl (dl Hf.out _ _ _ _)) rfl ⟨rfl,b8 hbw (nRe _) _ _ _ _⟩
     ·have q2:((s[k+1].toNat:Int) == 92)=false:=eqF (by omega);have HN:=hid (vA aL c1 c2 c4 HQ.out);clear HTT HQ hown c1 c2 c4;go_wp2_with (at_builtin;go_must (refine cg rfl _ _ 41 rfl (w.heap.size+1) 5 i0 (.int .u8 0) 1 1 Tryz.underlying41 hi hz0 hz1 hz2 rfl (by decide) _ out.length (Lib.byteCells out) rfl ?d1 _ 1 (Lib.byteCells [s[k+1]]) rfl ?d2 ?d3 ?d4 ?d5 ?d6 ?_))
      case d1=>exact Hown.out.alloc _
      case d2=>exact one_byte' _ _ _ rfl
      case d3=>exact du _
      case d4=>unfold maxLen;omega
      (try case d5=>omega)
      (try case d6=>simp;omega)
      intro v' w' hown' hgrow;have hb1:Below (w.heap.size+1) wr w':=((Below.refl (w.heap.size+1) wr).alloc hsz1 _).grown hgrow (by simp;omega) (fun q hq=>(Hown.out.lt q hq).1);have hbx:Below w.heap.size w w':=hbw.trans (hb1.mono (Nat.le_succ _));have hszw:=hb1.size;have hf2:=hid ((Hf.out).past hb1 (by omega));have hr2:=Hr.out.past hb1 (by omega);have ho2:w'.ownsRow (w.heap.size+1) 5 1 v' (out++[s[k+1]]).length (Lib.byteCells (out++[s[k+1]])):=by rw [dt,lAp];exact hown'
      clear hown' hgrow hb1;go_wp2_with fail;exact ⟨⟨k+1,out++[s[k+1]],by omega,by simp;omega,by go_num,ho2,HN,hf2,hr2,nL hsz hszw,hbx⟩,by simp [intOf];omega⟩
  ·rw [jh,zD (by omega) HQ.out,if_pos rfl] at HTT;simp only [Prod.mk.injEq] at HTT;obtain ⟨rfl,rfl,rfl,rfl⟩:=HTT;clear HT HQ hown;go_wp2_with fail;exact bodyPost_ret (gm (k:=0) (t:=[]) (n:=0) (e:=3) rfl (dl Hf.out _ _ _ _)) rfl ⟨rfl,b8 hbw (nRe _) _ _ _ _⟩
end Go.Proofs.YtfgiihpopngbkaaGreatDoor
