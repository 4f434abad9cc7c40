/- Lemmas and walks that the statement needs: ParseList, ParseSum. -/
import Derived.Test.YtfgiihpopngbkaaGreatDoorP15
namespace Go.Proofs.YtfgiihpopngbkaaGreatDoor
set_option maxRecDepth 100000
set_option maxHeartbeats 8000000
open Go.RowKit
open List renaming setIfInBounds_toArray→sA,set_cons_zero→sB,set_cons_succ→sC
open Nat renaming le_trans→nT
open Go.Act renaming put→aPu
open List renaming length_append→lAp
open Nat renaming le_refl→nRe
open Go renaming cell_of_row→cRo
def gY (w:World) (g:Nat):Nat:=match w.cell? ⟨g,0,none⟩ with | some (.slice _ n _)=>n | _=>0
theorem PS.left {w:World} {g:Nat} {en:Pl} {l:List Tok} {d:Nat} (h:PS w g en l d):gY w g=l.length:=by
 obtain ⟨a,c,hg,_⟩:=h;have:w.cell? ⟨g,0,none⟩=some (.slice a l.length c):=cRo w g 0 _ _ _ hg;unfold gY;rw [this]
def nv (en:Pl) (g d k:Nat) (sg:List UInt8) (X:PR (List Nd)) (f:Nat) (w:World) (out:Value) (wr:World):Prop :=
 ∃ (f':Nat) (acc:List NM) (accN:List Nd) (r:List Tok) (a:Option Addr) (cap:Nat),
   X=(bw en f' k sg acc.isEmpty r d).then (fun b r=>.ok (accN++b) r)∧f'≤f∧out=.slice a acc.length cap∧dg w.heap.size wr out acc∧zdI acc accN∧PS wr g en r d∧aV g w wr∧acc.length+2 * r.length≤200000
theorem fL (x:PR (List Nd)):(x.then fun b r=>PR.ok ([]++b) r)=x:=by cases x <;> rfl
theorem fj (x:PR (List Nd)) (a b:List Nd):((x.then fun c r=>PR.ok (b++c) r).then fun c r=>PR.ok (a++c) r)=x.then fun c r=>PR.ok ((a++b)++c) r:=by
 cases x with
 | ok c r=>show PR.ok _ _=PR.ok _ _;rw [List.append_assoc]
 | bad e p=>rfl
 | oof=>rfl
theorem ki:∀ l:List Tok,ea (fun _ _=>True) l l
 | []=>.nil
 | (_,_,_)::l=>.cons trivial (ki l)
theorem oa {α β:Type} {R:Pl→Pl→Prop} {S:α→β→Prop} {x:PR α} {y:PR β} (h:iG R S x y) {n:Nat} (hy:iD (·<n) y) {a:α} {r:List Tok} (hx:x=.ok a r):r.length<n:=by
 subst hx;cases y with
 | oof=>exact hy.elim
 | bad e p=>exact h.elim
 | ok b r' =>
   have hl:r.length=r'.length:=by
    have:=h.2;clear h hy;induction this with
    | nil=>rfl
    | cons _ _ ih=>simp [ih]
   rw [hl];exact hy
theorem iS {en:Pl} {f k:Nat} {l:List Tok} {d:Nat} {a:List Nd} {r:List Tok} (h:ce en f k l d=.ok a r):1≤a.length∧a.length≤2∧r.length<l.length:=by
 have h3:r.length<l.length:=oa ((lW (R:=fun _ _=>True) (en:=en) (en':=en) trivial f (f+(10 * l.length+6)) (by omega)).one k l l d (ki l)) ((kp en _).one k l d (by omega)) h;refine ⟨?_,?_,h3⟩
 all_goals
  clear h3;cases f with
  | zero=>rw [ce] at h;cases h
  | succ f =>
    rw [ce] at h;revert h;generalize bl en (cd l) l=x1;generalize bl en (dV l 3) l=x2;generalize bl en true l=x3;generalize bA en f l d=x4;intro h;split at h
    ·cases x1 with
     | oof=>cases h
     | bad e p=>cases h
     | ok n r1 =>
     rw [cU] at h;cases hx:cB en [58] r1 with
     | oof=>rw [hx] at h;cases h
     | bad e p=>rw [hx] at h;cases h
     | ok t r2 =>
     rw [hx,cU] at h;cases hx:bl en (gi r2) r2 with
     | oof=>rw [hx] at h;cases h
     | bad e p=>rw [hx] at h;cases h
     | ok t r3 =>
     rw [hx,cU] at h;split at h
     ·cases hx:cB en [61] r3 with
      | oof=>rw [hx] at h;cases h
      | bad e p=>rw [hx] at h;cases h
      | ok t r4 =>
      rw [hx,cU] at h;cases hx:bA en f r4 d with
      | oof=>rw [hx] at h;cases h
      | bad e p=>rw [hx] at h;cases h
      | ok t r4=>rw [hx,cU] at h;cases h;simp
     ·cases h;simp
    split at h
    ·split at h
     ·cases x3 with
      | oof=>cases h
      | bad e p=>cases h
      | ok n r1 =>
      rw [cU] at h;cases hx:cB en [61] r1 with
      | oof=>rw [hx] at h;cases h
      | bad e p=>rw [hx] at h;cases h
      | ok t r2 =>
      rw [hx,cU] at h;cases hx:bA en f r2 d with
      | oof=>rw [hx] at h;cases h
      | bad e p=>rw [hx] at h;cases h
      | ok t r4=>rw [hx,cU] at h;cases h;simp
     ·cases x4 with
      | oof=>cases h
      | bad e p=>cases h
      | ok n r1=>rw [cU] at h;cases h;simp
    split at h
    ·cases x4 with
     | oof=>cases h
     | bad e p=>cases h
     | ok n r1=>rw [cU] at h;cases h;simp
    ·cases x2 with
     | oof=>cases h
     | bad e p=>cases h
     | ok n r1 =>
     rw [cU] at h;cases hx:cB en [58] r1 with
     | oof=>rw [hx] at h;cases h
     | bad e p=>rw [hx] at h;cases h
     | ok t r2 =>
     rw [hx,cU] at h;cases hx:bA en f r2 d with
     | oof=>rw [hx] at h;cases h
     | bad e p=>rw [hx] at h;cases h
     | ok t r4=>rw [hx,cU] at h;cases h;simp
theorem dg.rows {B:Nat} {w:World} {v:Value} {ns:List NM} (h:dg B w v ns) (hn:0<ns.length):∃ b m,∃ _:Unit,v=.slice (some ⟨b,0,none⟩) ns.length m∧∀ j u,(aW ns)[j]? = some u→w.cell? ((⟨b,0,none⟩:Addr).add j)=some u:=by
 rcases h.own.2 with ⟨_,h0⟩ | ⟨g,cap,cur,hv,_⟩
 ·omega
 ·exact ⟨g,cap,(),hv,fun j u hu=>h.own.cells (g:=g) (by rw [hv];rfl) j u hu⟩
theorem dg.apart {B:Nat} {w w1:World} {v v2:Value} {ns ns2:List NM} (hB:B≤w.heap.size) (h:dg B w v ns) (h2:dg w.heap.size w1 v2 ns2):aP (fun b=>B≤b∧v.ownBlock≠some b) w1 ns2 :=
 aP.less (fun b _ hb=>by
  refine ⟨nT hB hb.1,fun e=>?_⟩;have:=(h.own.lt b e).2;have:=hb.1;omega) h2.held
theorem tg (f:Nat) (b g:Nat) (en:Pl) (sg:List UInt8) (l:List Tok) (d:Nat) (w:World) (hp:PS w g en l d) (hbg:b≠g) (hbx:w.heap[b]? = some (.cells #[.pointer (some ⟨g,0,none⟩)] 53 (0,0))) (hne:bw en f 0 sg true l d≠.oof)
  (IH:∀ f',f'<f→∀ l,fK 106 b g en l d fe (ce en f' 0 l d)) :
  Calls Tryz.prog 105 #[.pointer (some ⟨g,0,none⟩),.string (bs sg),.func (.func 106) #[] #[.pointer (some ⟨b,0,none⟩)]] w (aU g en d w fe (bw en f 0 sg true l d)):=by
 obtain ⟨X,hX⟩:∃ X,X=bw en f 0 sg true l d:=⟨_,rfl⟩;rw [← hX] at hne ⊢;have HX:=hid hX;clear hX;have hgl:=hp.lt;obtain ⟨i0,hi,iz0,iz1,iz2⟩:=info_parts fM;have hln:l.length≤100000:=by obtain ⟨_,_,_,_,_,_,_,h⟩:=hp;exact h
 have HS:=hid (fun W r (hW:PS W g en r d)=>ch 0 sg g en r d W hW);have bC:=nb;have HI:=hid IH;have HX2:=hid hbx;clear hbx;have HP:=hid hp;clear IH hp;go_enter Tryz.func105,Tryz.ntmps105
 go_wp2_with fail;go_loopw [7] (fun out wr=>nv en g d 0 sg X f w out wr) (fun _ wr=>gY wr g)
 case atStart =>
  exact ⟨f,[],[],l,none,0,by rw [HX.out];exact (fL _).symm,nRe _,rfl,dg.nil _ _,gh,HP.out,aV.refl _ _,by simp;omega⟩
 case round =>
  clear HX HP hln;obtain ⟨f',acc,accN,r,a,cap,hX,hf,rfl,hG,hA,hp,hB,hle⟩:=hrel;have HX:=hid hX;have HG:=hid hG;have HA:=hid hA;have HB:=hid hB;have hLf:=hp.left;cases f' with
  | zero=>rw [bw] at hX;exact absurd hX hne
  | succ f' =>
  rw [bw] at hX;replace HX:=hid hX;clear hX hG hA hB;cases hs:aT r 0 sg with
  | true =>
    replace HX:=hid (by have:=HX.out;rw [hs,if_pos rfl] at this;exact this);have HS1:=hid (fun W hW=>by have:=HS.out W r hW;rw [hs] at this;exact this);clear hs hLf;go_wp2_with fail;refine (HS1.out _ hp).mono ?_;rintro e w1 ⟨rfl,ac⟩;replace hp:=hp.keep ac;replace ac:=obw g ac;replace HG:=hid (HG.out.keep ac (by omega));replace HB:=kb HB ac;clear ac;go_wp2_with fail;go_ret;exact zdE HX.out ⟨acc,HG.out,by rw [List.append_nil];exact HA.out,by omega⟩ hp HB.out
  | false =>
    replace HX:=hid (by have:=HX.out;rw [hs,if_neg (by simp)] at this;exact this);have HS1:=hid (fun W hW=>by have:=HS.out W r hW;rw [hs] at this;exact this);clear hs;by_cases h0:acc.length=0
    ·obtain rfl:=List.length_eq_zero_iff.1 h0;replace HX:=hid (show X=((ce en f' 0 r d).then fun a r=>(bw en f' 0 sg false r d).then fun b r=>PR.ok (a++b) r).then fun b r=>PR.ok (accN++b) r from HX.out);clear h0;go_wp2_with fail;refine (HS1.out _ hp).mono ?_;rintro e w1 ⟨rfl,ac⟩;replace hp:=hp.keep ac;replace ac:=obw g ac;replace HG:=hid (HG.out.keep ac (by omega));replace HB:=kb HB ac;clear ac HS1;go_wp2_with fail;obtain ⟨r1,hr1,hLr⟩:∃ r1,r1=r∧r1.length≤gY wr g:=⟨r,rfl,by omega⟩;rw [← hr1] at HX hp hle;clear hr1 hLf;cases hx:ce en f' 0 r1 d with
     | oof=>exact absurd (by rw [HX.out,hx];rfl) hne
     | bad er p =>
       refine ((HI.out f' (by omega) r1).bad hx hp hbg (HB.out.row HX2.out hbg)).mono ?_;rintro e wb ⟨rfl,ac⟩;go_wp2_with fail;exact ⟨rfl,zdz (by rw [HX.out,hx] <;> rfl) (HB.out.trans ac)⟩
     | ok xs r2 =>
     refine ((HI.out f' (by omega) r1).ok hx hp hbg (HB.out.row HX2.out hbg)).mono ?_;rintro e w3 ⟨_,rfl,⟨ns,hG2,hA2,-⟩,aC,ac⟩;obtain ⟨hx1,hx2,hx3⟩:=iS hx;have hxl:=it hA2;rw [← hxl] at hx1 hx2;clear hxl;obtain ⟨b2,m2,cur,hv2,hcl2⟩:=hG2.rows (by omega);subst hv2;clear hp;have hp:=aC;clear aC;have HGo:=HG;have HBo:=HB;replace HG:=hid (HG.out.keep ac (by omega));replace HB:=kb HB ac;replace HX:=hid (by have h:=HX.out;rw [hx,cU] at h;exact h);have hsz:=ac.size;have HH:=hid (dg.apart HBo.out.size HGo.out hG2);have HA2:=hid hA2;clear hx ac HGo HBo hA2;have hown:=HG.out.own;have hwB:=HB.out.size;go_wp2_with (at_builtin;refine wpList_append_own_at _ rfl _ _ 25 rfl w.heap.size 27 i0 (.agg #[.int .i64 0,.string ⟨#[]⟩,.int .i64 0,.int .i64 0,.slice none 0 0]) 5 64 Tryz.underlying25 hi iz0 iz1 iz2 rfl (by decide) _ _ _ rfl hown ⟨b2,0,none⟩ ns.length m2 (aW ns) rfl (be ns) hcl2 (dd ns) ?c1 ?c2 ?c3 ?_)
     case c1=>unfold maxLen;omega
     case c2=>omega
     case c3=>omega
     intro v' w4 hown' hgrow hnil hat;have hG4:=HG.out.app HH.out hown' (by simp) hgrow hat;have hp4:=hp.grown hown hgrow (by omega);have hB4:=HB.out.grown hown hgrow (nRe _);have hl4:=hp4.left;obtain ⟨a4,c4,rfl,-,-⟩:=hG4.shape;have HR:=hid (show nv en g d 0 sg X f w (.slice a4 (([]:List NM)++ns).length c4) w4 from ⟨f',([]:List NM)++ns,accN++xs,r2,a4,c4,by
      rw [show (([]:List NM)++ns).isEmpty=false by cases ns <;> simp at hx1 ⊢];have h:=HX.out;rw [h];exact fj _ _ _,by omega,rfl,hG4,eN HA.out HA2.out,hp4,hB4,by rw [lAp];omega⟩)
     clear hG4 hp4 hB4 hown hown' hgrow hnil hat HG HH HX hG2 hcl2;go_wp2_with fail;exact ⟨HR.out,by omega⟩
    ·have hpos:0<acc.length:=by omega
     have hposI:(0:Int)<(acc.length:Int):=by omega
     replace HX:=hid (show X=((cB en [44] r).then fun _ r=>(ce en f' 0 r d).then fun a r=>(bw en f' 0 sg false r d).then fun b r=>PR.ok (a++b) r).then fun b r=>PR.ok (accN++b) r by
      have:=HX.out;rw [show acc.isEmpty=false by cases acc <;> simp at h0 ⊢] at this;exact this)
     clear h0;go_wp2_with fail;refine (HS1.out _ hp).mono ?_;rintro e w1 ⟨rfl,ac⟩;replace hp:=hp.keep ac;replace ac:=obw g ac;replace HG:=hid (HG.out.keep ac (by omega));replace HB:=kb HB ac;clear ac HS1;go_wp2_with fail;cases hx:cB en [44] r with
     | oof=>exact absurd (by rw [HX.out,hx];rfl) hne
     | bad er p =>
       refine (eM hx hp).mono ?_;rintro e wb ⟨rfl,ac⟩;go_wp2_with fail;exact ⟨rfl,zdz (by rw [HX.out,hx] <;> rfl) (HB.out.trans ac)⟩
     | ok t r1 =>
     refine (fV hx hp).mono ?_;rintro e w2 ⟨rfl,aC,ac⟩;clear hp;have hp:=aC;clear aC;replace HG:=hid (HG.out.keep ac (by omega));replace HB:=kb HB ac;clear ac;replace HX:=hid (by have h:=HX.out;rw [hx,cU] at h;exact h);have hLr:r1.length≤gY wr g:=by obtain ⟨_,h⟩:=jk hx;rw [hLf,h];simp
     replace hle:acc.length+2 * r1.length≤200000:=by omega
     clear hx hLf;go_wp2_with fail;cases hx:ce en f' 0 r1 d with
     | oof=>exact absurd (by rw [HX.out,hx];rfl) hne
     | bad er p =>
       refine ((HI.out f' (by omega) r1).bad hx hp hbg (HB.out.row HX2.out hbg)).mono ?_;rintro e wb ⟨rfl,ac⟩;go_wp2_with fail;exact ⟨rfl,zdz (by rw [HX.out,hx] <;> rfl) (HB.out.trans ac)⟩
     | ok xs r2 =>
     refine ((HI.out f' (by omega) r1).ok hx hp hbg (HB.out.row HX2.out hbg)).mono ?_;rintro e w3 ⟨_,rfl,⟨ns,hG2,hA2,-⟩,aC,ac⟩;obtain ⟨hx1,hx2,hx3⟩:=iS hx;have hxl:=it hA2;rw [← hxl] at hx1 hx2;clear hxl;obtain ⟨b2,m2,cur,hv2,hcl2⟩:=hG2.rows (by omega);subst hv2;clear hp;have hp:=aC;clear aC;have HGo:=HG;have HBo:=HB;replace HG:=hid (HG.out.keep ac (by omega));replace HB:=kb HB ac;replace HX:=hid (by have h:=HX.out;rw [hx,cU] at h;exact h);have hsz:=ac.size;have HH:=hid (dg.apart HBo.out.size HGo.out hG2);have HA2:=hid hA2;clear hx ac HGo HBo hA2;have hown:=HG.out.own;have hwB:=HB.out.size;go_wp2_with (at_builtin;refine wpList_append_own_at _ rfl _ _ 25 rfl w.heap.size 27 i0 (.agg #[.int .i64 0,.string ⟨#[]⟩,.int .i64 0,.int .i64 0,.slice none 0 0]) 5 64 Tryz.underlying25 hi iz0 iz1 iz2 rfl (by decide) _ _ _ rfl hown ⟨b2,0,none⟩ ns.length m2 (aW ns) rfl (be ns) hcl2 (dd ns) ?c1 ?c2 ?c3 ?_)
     case c1=>unfold maxLen;omega
     case c2=>omega
     case c3=>omega
     intro v' w4 hown' hgrow hnil hat;have hG4:=HG.out.app HH.out hown' (by simp) hgrow hat;have hp4:=hp.grown hown hgrow (by omega);have hB4:=HB.out.grown hown hgrow (nRe _);have hl4:=hp4.left;obtain ⟨a4,c4,rfl,-,-⟩:=hG4.shape;have HR:=hid (show nv en g d 0 sg X f w (.slice a4 (acc++ns).length c4) w4 from ⟨f',acc++ns,accN++xs,r2,a4,c4,by
      rw [show (acc++ns).isEmpty=false by cases ns <;> simp at hx1 ⊢];have h:=HX.out;rw [h];exact fj _ _ _,by omega,rfl,hG4,eN HA.out HA2.out,hp4,hB4,by rw [lAp];omega⟩)
     clear hG4 hp4 hB4 hown hown' hgrow hnil hat HG HH HX hG2 hcl2;go_wp2_with fail;exact ⟨HR.out,by omega⟩
theorem un (f:Nat) (b g:Nat) (en:Pl) (sg:List UInt8) (l:List Tok) (d:Nat) (w:World) (hp:PS w g en l d) (hbg:b≠g) (hbx:w.heap[b]? = some (.cells #[.pointer (some ⟨g,0,none⟩)] 53 (0,0))) (hne:bw en f 1 sg true l d≠.oof)
  (IH:∀ f',f'<f→∀ l,fK 108 b g en l d fe (ce en f' 1 l d)) :
  Calls Tryz.prog 105 #[.pointer (some ⟨g,0,none⟩),.string (bs sg),.func (.func 108) #[] #[.pointer (some ⟨b,0,none⟩)]] w (aU g en d w fe (bw en f 1 sg true l d)):=by
 obtain ⟨X,hX⟩:∃ X,X=bw en f 1 sg true l d:=⟨_,rfl⟩;rw [← hX] at hne ⊢;have HX:=hid hX;clear hX;have hgl:=hp.lt;obtain ⟨i0,hi,iz0,iz1,iz2⟩:=info_parts fM;have hln:l.length≤100000:=by obtain ⟨_,_,_,_,_,_,_,h⟩:=hp;exact h
 have HS:=hid (fun W r (hW:PS W g en r d)=>ch 0 sg g en r d W hW);have bC:=nb;have HI:=hid IH;have HX2:=hid hbx;clear hbx;have HP:=hid hp;clear IH hp;go_enter Tryz.func105,Tryz.ntmps105
 go_wp2_with fail;go_loopw [7] (fun out wr=>nv en g d 1 sg X f w out wr) (fun _ wr=>gY wr g)
 case atStart =>
  exact ⟨f,[],[],l,none,0,by rw [HX.out];exact (fL _).symm,nRe _,rfl,dg.nil _ _,gh,HP.out,aV.refl _ _,by simp;omega⟩
 case round =>
  clear HX HP hln;obtain ⟨f',acc,accN,r,a,cap,hX,hf,rfl,hG,hA,hp,hB,hle⟩:=hrel;have HX:=hid hX;have HG:=hid hG;have HA:=hid hA;have HB:=hid hB;have hLf:=hp.left;cases f' with
  | zero=>rw [bw] at hX;exact absurd hX hne
  | succ f' =>
  rw [bw] at hX;replace HX:=hid hX;clear hX hG hA hB;cases hs:aT r 0 sg with
  | true =>
    replace HX:=hid (by have:=HX.out;rw [hs,if_pos rfl] at this;exact this);have HS1:=hid (fun W hW=>by have:=HS.out W r hW;rw [hs] at this;exact this);clear hs hLf;go_wp2_with fail;refine (HS1.out _ hp).mono ?_;rintro e w1 ⟨rfl,ac⟩;replace hp:=hp.keep ac;replace ac:=obw g ac;replace HG:=hid (HG.out.keep ac (by omega));replace HB:=kb HB ac;clear ac;go_wp2_with fail;go_ret;exact zdE HX.out ⟨acc,HG.out,by rw [List.append_nil];exact HA.out,by omega⟩ hp HB.out
  | false =>
    replace HX:=hid (by have:=HX.out;rw [hs,if_neg (by simp)] at this;exact this);have HS1:=hid (fun W hW=>by have:=HS.out W r hW;rw [hs] at this;exact this);clear hs;by_cases h0:acc.length=0
    ·obtain rfl:=List.length_eq_zero_iff.1 h0;replace HX:=hid (show X=((ce en f' 1 r d).then fun a r=>(bw en f' 1 sg false r d).then fun b r=>PR.ok (a++b) r).then fun b r=>PR.ok (accN++b) r from HX.out);clear h0;go_wp2_with fail;refine (HS1.out _ hp).mono ?_;rintro e w1 ⟨rfl,ac⟩;replace hp:=hp.keep ac;replace ac:=obw g ac;replace HG:=hid (HG.out.keep ac (by omega));replace HB:=kb HB ac;clear ac HS1;go_wp2_with fail;obtain ⟨r1,hr1,hLr⟩:∃ r1,r1=r∧r1.length≤gY wr g:=⟨r,rfl,by omega⟩;rw [← hr1] at HX hp hle;clear hr1 hLf;cases hx:ce en f' 1 r1 d with
     | oof=>exact absurd (by rw [HX.out,hx];rfl) hne
     | bad er p =>
       refine ((HI.out f' (by omega) r1).bad hx hp hbg (HB.out.row HX2.out hbg)).mono ?_;rintro e wb ⟨rfl,ac⟩;go_wp2_with fail;exact ⟨rfl,zdz (by rw [HX.out,hx] <;> rfl) (HB.out.trans ac)⟩
     | ok xs r2 =>
     refine ((HI.out f' (by omega) r1).ok hx hp hbg (HB.out.row HX2.out hbg)).mono ?_;rintro e w3 ⟨_,rfl,⟨ns,hG2,hA2,-⟩,aC,ac⟩;obtain ⟨hx1,hx2,hx3⟩:=iS hx;have hxl:=it hA2;rw [← hxl] at hx1 hx2;clear hxl;obtain ⟨b2,m2,cur,hv2,hcl2⟩:=hG2.rows (by omega);subst hv2;clear hp;have hp:=aC;clear aC;have HGo:=HG;have HBo:=HB;replace HG:=hid (HG.out.keep ac (by omega));replace HB:=kb HB ac;replace HX:=hid (by have h:=HX.out;rw [hx,cU] at h;exact h);have hsz:=ac.size;have HH:=hid (dg.apart HBo.out.size HGo.out hG2);have HA2:=hid hA2;clear hx ac HGo HBo hA2;have hown:=HG.out.own;have hwB:=HB.out.size;go_wp2_with (at_builtin;refine wpList_append_own_at _ rfl _ _ 25 rfl w.heap.size 27 i0 (.agg #[.int .i64 0,.string ⟨#[]⟩,.int .i64 0,.int .i64 0,.slice none 0 0]) 5 64 Tryz.underlying25 hi iz0 iz1 iz2 rfl (by decide) _ _ _ rfl hown ⟨b2,0,none⟩ ns.length m2 (aW ns) rfl (be ns) hcl2 (dd ns) ?c1 ?c2 ?c3 ?_)
     case c1=>unfold maxLen;omega
     case c2=>omega
     case c3=>omega
     intro v' w4 hown' hgrow hnil hat;have hG4:=HG.out.app HH.out hown' (by simp) hgrow hat;have hp4:=hp.grown hown hgrow (by omega);have hB4:=HB.out.grown hown hgrow (nRe _);have hl4:=hp4.left;obtain ⟨a4,c4,rfl,-,-⟩:=hG4.shape;have HR:=hid (show nv en g d 1 sg X f w (.slice a4 (([]:List NM)++ns).length c4) w4 from ⟨f',([]:List NM)++ns,accN++xs,r2,a4,c4,by
      rw [show (([]:List NM)++ns).isEmpty=false by cases ns <;> simp at hx1 ⊢];have h:=HX.out;rw [h];exact fj _ _ _,by omega,rfl,hG4,eN HA.out HA2.out,hp4,hB4,by rw [lAp];omega⟩)
     clear hG4 hp4 hB4 hown hown' hgrow hnil hat HG HH HX hG2 hcl2;go_wp2_with fail;exact ⟨HR.out,by omega⟩
    ·have hpos:0<acc.length:=by omega
     have hposI:(0:Int)<(acc.length:Int):=by omega
     replace HX:=hid (show X=((cB en [44] r).then fun _ r=>(ce en f' 1 r d).then fun a r=>(bw en f' 1 sg false r d).then fun b r=>PR.ok (a++b) r).then fun b r=>PR.ok (accN++b) r by
      have:=HX.out;rw [show acc.isEmpty=false by cases acc <;> simp at h0 ⊢] at this;exact this)
     clear h0;go_wp2_with fail;refine (HS1.out _ hp).mono ?_;rintro e w1 ⟨rfl,ac⟩;replace hp:=hp.keep ac;replace ac:=obw g ac;replace HG:=hid (HG.out.keep ac (by omega));replace HB:=kb HB ac;clear ac HS1;go_wp2_with fail;cases hx:cB en [44] r with
     | oof=>exact absurd (by rw [HX.out,hx];rfl) hne
     | bad er p =>
       refine (eM hx hp).mono ?_;rintro e wb ⟨rfl,ac⟩;go_wp2_with fail;exact ⟨rfl,zdz (by rw [HX.out,hx] <;> rfl) (HB.out.trans ac)⟩
     | ok t r1 =>
     refine (fV hx hp).mono ?_;rintro e w2 ⟨rfl,aC,ac⟩;clear hp;have hp:=aC;clear aC;replace HG:=hid (HG.out.keep ac (by omega));replace HB:=kb HB ac;clear ac;replace HX:=hid (by have h:=HX.out;rw [hx,cU] at h;exact h);have hLr:r1.length≤gY wr g:=by obtain ⟨_,h⟩:=jk hx;rw [hLf,h];simp
     replace hle:acc.length+2 * r1.length≤200000:=by omega
     clear hx hLf;go_wp2_with fail;cases hx:ce en f' 1 r1 d with
     | oof=>exact absurd (by rw [HX.out,hx];rfl) hne
     | bad er p =>
       refine ((HI.out f' (by omega) r1).bad hx hp hbg (HB.out.row HX2.out hbg)).mono ?_;rintro e wb ⟨rfl,ac⟩;go_wp2_with fail;exact ⟨rfl,zdz (by rw [HX.out,hx] <;> rfl) (HB.out.trans ac)⟩
     | ok xs r2 =>
     refine ((HI.out f' (by omega) r1).ok hx hp hbg (HB.out.row HX2.out hbg)).mono ?_;rintro e w3 ⟨_,rfl,⟨ns,hG2,hA2,-⟩,aC,ac⟩;obtain ⟨hx1,hx2,hx3⟩:=iS hx;have hxl:=it hA2;rw [← hxl] at hx1 hx2;clear hxl;obtain ⟨b2,m2,cur,hv2,hcl2⟩:=hG2.rows (by omega);subst hv2;clear hp;have hp:=aC;clear aC;have HGo:=HG;have HBo:=HB;replace HG:=hid (HG.out.keep ac (by omega));replace HB:=kb HB ac;replace HX:=hid (by have h:=HX.out;rw [hx,cU] at h;exact h);have hsz:=ac.size;have HH:=hid (dg.apart HBo.out.size HGo.out hG2);have HA2:=hid hA2;clear hx ac HGo HBo hA2;have hown:=HG.out.own;have hwB:=HB.out.size;go_wp2_with (at_builtin;refine wpList_append_own_at _ rfl _ _ 25 rfl w.heap.size 27 i0 (.agg #[.int .i64 0,.string ⟨#[]⟩,.int .i64 0,.int .i64 0,.slice none 0 0]) 5 64 Tryz.underlying25 hi iz0 iz1 iz2 rfl (by decide) _ _ _ rfl hown ⟨b2,0,none⟩ ns.length m2 (aW ns) rfl (be ns) hcl2 (dd ns) ?c1 ?c2 ?c3 ?_)
     case c1=>unfold maxLen;omega
     case c2=>omega
     case c3=>omega
     intro v' w4 hown' hgrow hnil hat;have hG4:=HG.out.app HH.out hown' (by simp) hgrow hat;have hp4:=hp.grown hown hgrow (by omega);have hB4:=HB.out.grown hown hgrow (nRe _);have hl4:=hp4.left;obtain ⟨a4,c4,rfl,-,-⟩:=hG4.shape;have HR:=hid (show nv en g d 1 sg X f w (.slice a4 (acc++ns).length c4) w4 from ⟨f',acc++ns,accN++xs,r2,a4,c4,by
      rw [show (acc++ns).isEmpty=false by cases ns <;> simp at hx1 ⊢];have h:=HX.out;rw [h];exact fj _ _ _,by omega,rfl,hG4,eN HA.out HA2.out,hp4,hB4,by rw [lAp];omega⟩)
     clear hG4 hp4 hB4 hown hown' hgrow hnil hat HG HH HX hG2 hcl2;go_wp2_with fail;exact ⟨HR.out,by omega⟩
theorem uH (f:Nat) (b g:Nat) (en:Pl) (sg:List UInt8) (l:List Tok) (d:Nat) (w:World) (hp:PS w g en l d) (hbg:b≠g) (hbx:w.heap[b]? = some (.cells #[.pointer (some ⟨g,0,none⟩)] 53 (0,0))) (hne:bw en f 2 sg true l d≠.oof)
  (IH:∀ f',f'<f→∀ l,fK 162 b g en l d fe (ce en f' 2 l d)) :
  Calls Tryz.prog 105 #[.pointer (some ⟨g,0,none⟩),.string (bs sg),.func (.func 162) #[] #[.pointer (some ⟨b,0,none⟩)]] w (aU g en d w fe (bw en f 2 sg true l d)):=by
 obtain ⟨X,hX⟩:∃ X,X=bw en f 2 sg true l d:=⟨_,rfl⟩;rw [← hX] at hne ⊢;have HX:=hid hX;clear hX;have hgl:=hp.lt;obtain ⟨i0,hi,iz0,iz1,iz2⟩:=info_parts fM;have hln:l.length≤100000:=by obtain ⟨_,_,_,_,_,_,_,h⟩:=hp;exact h
 have HS:=hid (fun W r (hW:PS W g en r d)=>ch 0 sg g en r d W hW);have bC:=nb;have HI:=hid IH;have HX2:=hid hbx;clear hbx;have HP:=hid hp;clear IH hp;go_enter Tryz.func105,Tryz.ntmps105
 go_wp2_with fail;go_loopw [7] (fun out wr=>nv en g d 2 sg X f w out wr) (fun _ wr=>gY wr g)
 case atStart =>
  exact ⟨f,[],[],l,none,0,by rw [HX.out];exact (fL _).symm,nRe _,rfl,dg.nil _ _,gh,HP.out,aV.refl _ _,by simp;omega⟩
 case round =>
  clear HX HP hln;obtain ⟨f',acc,accN,r,a,cap,hX,hf,rfl,hG,hA,hp,hB,hle⟩:=hrel;have HX:=hid hX;have HG:=hid hG;have HA:=hid hA;have HB:=hid hB;have hLf:=hp.left;cases f' with
  | zero=>rw [bw] at hX;exact absurd hX hne
  | succ f' =>
  rw [bw] at hX;replace HX:=hid hX;clear hX hG hA hB;cases hs:aT r 0 sg with
  | true =>
    replace HX:=hid (by have:=HX.out;rw [hs,if_pos rfl] at this;exact this);have HS1:=hid (fun W hW=>by have:=HS.out W r hW;rw [hs] at this;exact this);clear hs hLf;go_wp2_with fail;refine (HS1.out _ hp).mono ?_;rintro e w1 ⟨rfl,ac⟩;replace hp:=hp.keep ac;replace ac:=obw g ac;replace HG:=hid (HG.out.keep ac (by omega));replace HB:=kb HB ac;clear ac;go_wp2_with fail;go_ret;exact zdE HX.out ⟨acc,HG.out,by rw [List.append_nil];exact HA.out,by omega⟩ hp HB.out
  | false =>
    replace HX:=hid (by have:=HX.out;rw [hs,if_neg (by simp)] at this;exact this);have HS1:=hid (fun W hW=>by have:=HS.out W r hW;rw [hs] at this;exact this);clear hs;by_cases h0:acc.length=0
    ·obtain rfl:=List.length_eq_zero_iff.1 h0;replace HX:=hid (show X=((ce en f' 2 r d).then fun a r=>(bw en f' 2 sg false r d).then fun b r=>PR.ok (a++b) r).then fun b r=>PR.ok (accN++b) r from HX.out);clear h0;go_wp2_with fail;refine (HS1.out _ hp).mono ?_;rintro e w1 ⟨rfl,ac⟩;replace hp:=hp.keep ac;replace ac:=obw g ac;replace HG:=hid (HG.out.keep ac (by omega));replace HB:=kb HB ac;clear ac HS1;go_wp2_with fail;obtain ⟨r1,hr1,hLr⟩:∃ r1,r1=r∧r1.length≤gY wr g:=⟨r,rfl,by omega⟩;rw [← hr1] at HX hp hle;clear hr1 hLf;cases hx:ce en f' 2 r1 d with
     | oof=>exact absurd (by rw [HX.out,hx];rfl) hne
     | bad er p =>
       refine ((HI.out f' (by omega) r1).bad hx hp hbg (HB.out.row HX2.out hbg)).mono ?_;rintro e wb ⟨rfl,ac⟩;go_wp2_with fail;exact ⟨rfl,zdz (by rw [HX.out,hx] <;> rfl) (HB.out.trans ac)⟩
     | ok xs r2 =>
     refine ((HI.out f' (by omega) r1).ok hx hp hbg (HB.out.row HX2.out hbg)).mono ?_;rintro e w3 ⟨_,rfl,⟨ns,hG2,hA2,-⟩,aC,ac⟩;obtain ⟨hx1,hx2,hx3⟩:=iS hx;have hxl:=it hA2;rw [← hxl] at hx1 hx2;clear hxl;obtain ⟨b2,m2,cur,hv2,hcl2⟩:=hG2.rows (by omega);subst hv2;clear hp;have hp:=aC;clear aC;have HGo:=HG;have HBo:=HB;replace HG:=hid (HG.out.keep ac (by omega));replace HB:=kb HB ac;replace HX:=hid (by have h:=HX.out;rw [hx,cU] at h;exact h);have hsz:=ac.size;have HH:=hid (dg.apart HBo.out.size HGo.out hG2);have HA2:=hid hA2;clear hx ac HGo HBo hA2;have hown:=HG.out.own;have hwB:=HB.out.size;go_wp2_with (at_builtin;refine wpList_append_own_at _ rfl _ _ 25 rfl w.heap.size 27 i0 (.agg #[.int .i64 0,.string ⟨#[]⟩,.int .i64 0,.int .i64 0,.slice none 0 0]) 5 64 Tryz.underlying25 hi iz0 iz1 iz2 rfl (by decide) _ _ _ rfl hown ⟨b2,0,none⟩ ns.length m2 (aW ns) rfl (be ns) hcl2 (dd ns) ?c1 ?c2 ?c3 ?_)
     case c1=>unfold maxLen;omega
     case c2=>omega
     case c3=>omega
     intro v' w4 hown' hgrow hnil hat;have hG4:=HG.out.app HH.out hown' (by simp) hgrow hat;have hp4:=hp.grown hown hgrow (by omega);have hB4:=HB.out.grown hown hgrow (nRe _);have hl4:=hp4.left;obtain ⟨a4,c4,rfl,-,-⟩:=hG4.shape;have HR:=hid (show nv en g d 2 sg X f w (.slice a4 (([]:List NM)++ns).length c4) w4 from ⟨f',([]:List NM)++ns,accN++xs,r2,a4,c4,by
      rw [show (([]:List NM)++ns).isEmpty=false by cases ns <;> simp at hx1 ⊢];have h:=HX.out;rw [h];exact fj _ _ _,by omega,rfl,hG4,eN HA.out HA2.out,hp4,hB4,by rw [lAp];omega⟩)
     clear hG4 hp4 hB4 hown hown' hgrow hnil hat HG HH HX hG2 hcl2;go_wp2_with fail;exact ⟨HR.out,by omega⟩
    ·have hpos:0<acc.length:=by omega
     have hposI:(0:Int)<(acc.length:Int):=by omega
     replace HX:=hid (show X=((cB en [44] r).then fun _ r=>(ce en f' 2 r d).then fun a r=>(bw en f' 2 sg false r d).then fun b r=>PR.ok (a++b) r).then fun b r=>PR.ok (accN++b) r by
      have:=HX.out;rw [show acc.isEmpty=false by cases acc <;> simp at h0 ⊢] at this;exact this)
     clear h0;go_wp2_with fail;refine (HS1.out _ hp).mono ?_;rintro e w1 ⟨rfl,ac⟩;replace hp:=hp.keep ac;replace ac:=obw g ac;replace HG:=hid (HG.out.keep ac (by omega));replace HB:=kb HB ac;clear ac HS1;go_wp2_with fail;cases hx:cB en [44] r with
     | oof=>exact absurd (by rw [HX.out,hx];rfl) hne
     | bad er p =>
       refine (eM hx hp).mono ?_;rintro e wb ⟨rfl,ac⟩;go_wp2_with fail;exact ⟨rfl,zdz (by rw [HX.out,hx] <;> rfl) (HB.out.trans ac)⟩
     | ok t r1 =>
     refine (fV hx hp).mono ?_;rintro e w2 ⟨rfl,aC,ac⟩;clear hp;have hp:=aC;clear aC;replace HG:=hid (HG.out.keep ac (by omega));replace HB:=kb HB ac;clear ac;replace HX:=hid (by have h:=HX.out;rw [hx,cU] at h;exact h);have hLr:r1.length≤gY wr g:=by obtain ⟨_,h⟩:=jk hx;rw [hLf,h];simp
     replace hle:acc.length+2 * r1.length≤200000:=by omega
     clear hx hLf;go_wp2_with fail;cases hx:ce en f' 2 r1 d with
     | oof=>exact absurd (by rw [HX.out,hx];rfl) hne
     | bad er p =>
       refine ((HI.out f' (by omega) r1).bad hx hp hbg (HB.out.row HX2.out hbg)).mono ?_;rintro e wb ⟨rfl,ac⟩;go_wp2_with fail;exact ⟨rfl,zdz (by rw [HX.out,hx] <;> rfl) (HB.out.trans ac)⟩
     | ok xs r2 =>
     refine ((HI.out f' (by omega) r1).ok hx hp hbg (HB.out.row HX2.out hbg)).mono ?_;rintro e w3 ⟨_,rfl,⟨ns,hG2,hA2,-⟩,aC,ac⟩;obtain ⟨hx1,hx2,hx3⟩:=iS hx;have hxl:=it hA2;rw [← hxl] at hx1 hx2;clear hxl;obtain ⟨b2,m2,cur,hv2,hcl2⟩:=hG2.rows (by omega);subst hv2;clear hp;have hp:=aC;clear aC;have HGo:=HG;have HBo:=HB;replace HG:=hid (HG.out.keep ac (by omega));replace HB:=kb HB ac;replace HX:=hid (by have h:=HX.out;rw [hx,cU] at h;exact h);have hsz:=ac.size;have HH:=hid (dg.apart HBo.out.size HGo.out hG2);have HA2:=hid hA2;clear hx ac HGo HBo hA2;have hown:=HG.out.own;have hwB:=HB.out.size;go_wp2_with (at_builtin;refine wpList_append_own_at _ rfl _ _ 25 rfl w.heap.size 27 i0 (.agg #[.int .i64 0,.string ⟨#[]⟩,.int .i64 0,.int .i64 0,.slice none 0 0]) 5 64 Tryz.underlying25 hi iz0 iz1 iz2 rfl (by decide) _ _ _ rfl hown ⟨b2,0,none⟩ ns.length m2 (aW ns) rfl (be ns) hcl2 (dd ns) ?c1 ?c2 ?c3 ?_)
     case c1=>unfold maxLen;omega
     case c2=>omega
     case c3=>omega
     intro v' w4 hown' hgrow hnil hat;have hG4:=HG.out.app HH.out hown' (by simp) hgrow hat;have hp4:=hp.grown hown hgrow (by omega);have hB4:=HB.out.grown hown hgrow (nRe _);have hl4:=hp4.left;obtain ⟨a4,c4,rfl,-,-⟩:=hG4.shape;have HR:=hid (show nv en g d 2 sg X f w (.slice a4 (acc++ns).length c4) w4 from ⟨f',acc++ns,accN++xs,r2,a4,c4,by
      rw [show (acc++ns).isEmpty=false by cases ns <;> simp at hx1 ⊢];have h:=HX.out;rw [h];exact fj _ _ _,by omega,rfl,hG4,eN HA.out HA2.out,hp4,hB4,by rw [lAp];omega⟩)
     clear hG4 hp4 hB4 hown hown' hgrow hnil hat HG HH HX hG2 hcl2;go_wp2_with fail;exact ⟨HR.out,by omega⟩
theorem uG (f:Nat) (g:Nat) (en:Pl) (sg:List UInt8) (l:List Tok) (d:Nat) (w:World) (hp:PS w g en l d) (hne:bw en f 3 sg true l d≠.oof)
  (IH:∀ f',f'<f→∀ l,cC 163 #[.pointer (some ⟨g,0,none⟩)] g en l d fe (ce en f' 3 l d)) :
  Calls Tryz.prog 105 #[.pointer (some ⟨g,0,none⟩),.string (bs sg),.func (.func 163) #[.pointer (some ⟨g,0,none⟩)] #[]] w (aU g en d w fe (bw en f 3 sg true l d)):=by
 obtain ⟨X,hX⟩:∃ X,X=bw en f 3 sg true l d:=⟨_,rfl⟩;rw [← hX] at hne ⊢;have HX:=hid hX;clear hX;have hgl:=hp.lt;obtain ⟨i0,hi,iz0,iz1,iz2⟩:=info_parts fM;have hln:l.length≤100000:=by obtain ⟨_,_,_,_,_,_,_,h⟩:=hp;exact h
 have HS:=hid (fun W r (hW:PS W g en r d)=>ch 0 sg g en r d W hW);have bC:=nb;have HI:=hid IH
 skip
 have HP:=hid hp;clear IH hp;go_enter Tryz.func105,Tryz.ntmps105
 go_wp2_with fail;go_loopw [7] (fun out wr=>nv en g d 3 sg X f w out wr) (fun _ wr=>gY wr g)
 case atStart =>
  exact ⟨f,[],[],l,none,0,by rw [HX.out];exact (fL _).symm,nRe _,rfl,dg.nil _ _,gh,HP.out,aV.refl _ _,by simp;omega⟩
 case round =>
  clear HX HP hln;obtain ⟨f',acc,accN,r,a,cap,hX,hf,rfl,hG,hA,hp,hB,hle⟩:=hrel;have HX:=hid hX;have HG:=hid hG;have HA:=hid hA;have HB:=hid hB;have hLf:=hp.left;cases f' with
  | zero=>rw [bw] at hX;exact absurd hX hne
  | succ f' =>
  rw [bw] at hX;replace HX:=hid hX;clear hX hG hA hB;cases hs:aT r 0 sg with
  | true =>
    replace HX:=hid (by have:=HX.out;rw [hs,if_pos rfl] at this;exact this);have HS1:=hid (fun W hW=>by have:=HS.out W r hW;rw [hs] at this;exact this);clear hs hLf;go_wp2_with fail;refine (HS1.out _ hp).mono ?_;rintro e w1 ⟨rfl,ac⟩;replace hp:=hp.keep ac;replace ac:=obw g ac;replace HG:=hid (HG.out.keep ac (by omega));replace HB:=kb HB ac;clear ac;go_wp2_with fail;go_ret;exact zdE HX.out ⟨acc,HG.out,by rw [List.append_nil];exact HA.out,by omega⟩ hp HB.out
  | false =>
    replace HX:=hid (by have:=HX.out;rw [hs,if_neg (by simp)] at this;exact this);have HS1:=hid (fun W hW=>by have:=HS.out W r hW;rw [hs] at this;exact this);clear hs;by_cases h0:acc.length=0
    ·obtain rfl:=List.length_eq_zero_iff.1 h0;replace HX:=hid (show X=((ce en f' 3 r d).then fun a r=>(bw en f' 3 sg false r d).then fun b r=>PR.ok (a++b) r).then fun b r=>PR.ok (accN++b) r from HX.out);clear h0;go_wp2_with fail;refine (HS1.out _ hp).mono ?_;rintro e w1 ⟨rfl,ac⟩;replace hp:=hp.keep ac;replace ac:=obw g ac;replace HG:=hid (HG.out.keep ac (by omega));replace HB:=kb HB ac;clear ac HS1;go_wp2_with fail;obtain ⟨r1,hr1,hLr⟩:∃ r1,r1=r∧r1.length≤gY wr g:=⟨r,rfl,by omega⟩;rw [← hr1] at HX hp hle;clear hr1 hLf;cases hx:ce en f' 3 r1 d with
     | oof=>exact absurd (by rw [HX.out,hx];rfl) hne
     | bad er p =>
       refine ((HI.out f' (by omega) r1).bad hx hp).mono ?_;rintro e wb ⟨rfl,ac⟩;go_wp2_with fail;exact ⟨rfl,zdz (by rw [HX.out,hx] <;> rfl) (HB.out.trans ac)⟩
     | ok xs r2 =>
     refine ((HI.out f' (by omega) r1).ok hx hp).mono ?_;rintro e w3 ⟨_,rfl,⟨ns,hG2,hA2,-⟩,aC,ac⟩;obtain ⟨hx1,hx2,hx3⟩:=iS hx;have hxl:=it hA2;rw [← hxl] at hx1 hx2;clear hxl;obtain ⟨b2,m2,cur,hv2,hcl2⟩:=hG2.rows (by omega);subst hv2;clear hp;have hp:=aC;clear aC;have HGo:=HG;have HBo:=HB;replace HG:=hid (HG.out.keep ac (by omega));replace HB:=kb HB ac;replace HX:=hid (by have h:=HX.out;rw [hx,cU] at h;exact h);have hsz:=ac.size;have HH:=hid (dg.apart HBo.out.size HGo.out hG2);have HA2:=hid hA2;clear hx ac HGo HBo hA2;have hown:=HG.out.own;have hwB:=HB.out.size;go_wp2_with (at_builtin;refine wpList_append_own_at _ rfl _ _ 25 rfl w.heap.size 27 i0 (.agg #[.int .i64 0,.string ⟨#[]⟩,.int .i64 0,.int .i64 0,.slice none 0 0]) 5 64 Tryz.underlying25 hi iz0 iz1 iz2 rfl (by decide) _ _ _ rfl hown ⟨b2,0,none⟩ ns.length m2 (aW ns) rfl (be ns) hcl2 (dd ns) ?c1 ?c2 ?c3 ?_)
     case c1=>unfold maxLen;omega
     case c2=>omega
     case c3=>omega
     intro v' w4 hown' hgrow hnil hat;have hG4:=HG.out.app HH.out hown' (by simp) hgrow hat;have hp4:=hp.grown hown hgrow (by omega);have hB4:=HB.out.grown hown hgrow (nRe _);have hl4:=hp4.left;obtain ⟨a4,c4,rfl,-,-⟩:=hG4.shape;have HR:=hid (show nv en g d 3 sg X f w (.slice a4 (([]:List NM)++ns).length c4) w4 from ⟨f',([]:List NM)++ns,accN++xs,r2,a4,c4,by
      rw [show (([]:List NM)++ns).isEmpty=false by cases ns <;> simp at hx1 ⊢];have h:=HX.out;rw [h];exact fj _ _ _,by omega,rfl,hG4,eN HA.out HA2.out,hp4,hB4,by rw [lAp];omega⟩)
     clear hG4 hp4 hB4 hown hown' hgrow hnil hat HG HH HX hG2 hcl2;go_wp2_with fail;exact ⟨HR.out,by omega⟩
    ·have hpos:0<acc.length:=by omega
     have hposI:(0:Int)<(acc.length:Int):=by omega
     replace HX:=hid (show X=((cB en [44] r).then fun _ r=>(ce en f' 3 r d).then fun a r=>(bw en f' 3 sg false r d).then fun b r=>PR.ok (a++b) r).then fun b r=>PR.ok (accN++b) r by
      have:=HX.out;rw [show acc.isEmpty=false by cases acc <;> simp at h0 ⊢] at this;exact this)
     clear h0;go_wp2_with fail;refine (HS1.out _ hp).mono ?_;rintro e w1 ⟨rfl,ac⟩;replace hp:=hp.keep ac;replace ac:=obw g ac;replace HG:=hid (HG.out.keep ac (by omega));replace HB:=kb HB ac;clear ac HS1;go_wp2_with fail;cases hx:cB en [44] r with
     | oof=>exact absurd (by rw [HX.out,hx];rfl) hne
     | bad er p =>
       refine (eM hx hp).mono ?_;rintro e wb ⟨rfl,ac⟩;go_wp2_with fail;exact ⟨rfl,zdz (by rw [HX.out,hx] <;> rfl) (HB.out.trans ac)⟩
     | ok t r1 =>
     refine (fV hx hp).mono ?_;rintro e w2 ⟨rfl,aC,ac⟩;clear hp;have hp:=aC;clear aC;replace HG:=hid (HG.out.keep ac (by omega));replace HB:=kb HB ac;clear ac;replace HX:=hid (by have h:=HX.out;rw [hx,cU] at h;exact h);have hLr:r1.length≤gY wr g:=by obtain ⟨_,h⟩:=jk hx;rw [hLf,h];simp
     replace hle:acc.length+2 * r1.length≤200000:=by omega
     clear hx hLf;go_wp2_with fail;cases hx:ce en f' 3 r1 d with
     | oof=>exact absurd (by rw [HX.out,hx];rfl) hne
     | bad er p =>
       refine ((HI.out f' (by omega) r1).bad hx hp).mono ?_;rintro e wb ⟨rfl,ac⟩;go_wp2_with fail;exact ⟨rfl,zdz (by rw [HX.out,hx] <;> rfl) (HB.out.trans ac)⟩
     | ok xs r2 =>
     refine ((HI.out f' (by omega) r1).ok hx hp).mono ?_;rintro e w3 ⟨_,rfl,⟨ns,hG2,hA2,-⟩,aC,ac⟩;obtain ⟨hx1,hx2,hx3⟩:=iS hx;have hxl:=it hA2;rw [← hxl] at hx1 hx2;clear hxl;obtain ⟨b2,m2,cur,hv2,hcl2⟩:=hG2.rows (by omega);subst hv2;clear hp;have hp:=aC;clear aC;have HGo:=HG;have HBo:=HB;replace HG:=hid (HG.out.keep ac (by omega));replace HB:=kb HB ac;replace HX:=hid (by have h:=HX.out;rw [hx,cU] at h;exact h);have hsz:=ac.size;have HH:=hid (dg.apart HBo.out.size HGo.out hG2);have HA2:=hid hA2;clear hx ac HGo HBo hA2;have hown:=HG.out.own;have hwB:=HB.out.size;go_wp2_with (at_builtin;refine wpList_append_own_at _ rfl _ _ 25 rfl w.heap.size 27 i0 (.agg #[.int .i64 0,.string ⟨#[]⟩,.int .i64 0,.int .i64 0,.slice none 0 0]) 5 64 Tryz.underlying25 hi iz0 iz1 iz2 rfl (by decide) _ _ _ rfl hown ⟨b2,0,none⟩ ns.length m2 (aW ns) rfl (be ns) hcl2 (dd ns) ?c1 ?c2 ?c3 ?_)
     case c1=>unfold maxLen;omega
     case c2=>omega
     case c3=>omega
     intro v' w4 hown' hgrow hnil hat;have hG4:=HG.out.app HH.out hown' (by simp) hgrow hat;have hp4:=hp.grown hown hgrow (by omega);have hB4:=HB.out.grown hown hgrow (nRe _);have hl4:=hp4.left;obtain ⟨a4,c4,rfl,-,-⟩:=hG4.shape;have HR:=hid (show nv en g d 3 sg X f w (.slice a4 (acc++ns).length c4) w4 from ⟨f',acc++ns,accN++xs,r2,a4,c4,by
      rw [show (acc++ns).isEmpty=false by cases ns <;> simp at hx1 ⊢];have h:=HX.out;rw [h];exact fj _ _ _,by omega,rfl,hG4,eN HA.out HA2.out,hp4,hB4,by rw [lAp];omega⟩)
     clear hG4 hp4 hB4 hown hown' hgrow hnil hat HG HH HX hG2 hcl2;go_wp2_with fail;exact ⟨HR.out,by omega⟩
theorem sF {en:Pl} {f:Nat} {l:List Tok} {d:Nat} {a:Nd} {r:List Tok} (h:bN en f l d=.ok a r):r.length<l.length :=
 oa ((lW (R:=fun _ _=>True) (en:=en) (en':=en) trivial f (f+(10 * l.length+3)) (by omega)).prim l l d (ki l)) ((kp en _).prim l d (by omega)) h
def uI (en:Pl) (g d:Nat) (X:PR Nd) (f:Nat) (w:World) (xb:Nat) (wr:World):Prop :=
 ∃ (f':Nat) (k:Int) (t:List UInt8) (l c:Int) (ks:List NM) (a:Option Addr) (m:Nat) (xN:Nd) (r:List Tok),
   X=fk en f' xN r d∧f'≤f∧(NM.mk k t l c ks a m).is xN∧am (fun b=>w.heap.size+1≤b∧b≠xb) wr (NM.mk k t l c ks a m)∧wr.heap[xb]? = some (.cells #[.int .i64 k,.string (bs t),.int .i64 l,.int .i64 c,.slice a ks.length m] 27 (0,0)) ∧
   wr.heap[w.heap.size]? = some (.cells #[.int .i64 0,.string ⟨#[]⟩,.int .i64 0,.int .i64 0,.slice none 0 0] 27 (0,0))∧PS wr g en r d∧aV g w wr∧xb<wr.heap.size
theorem zy (f:Nat) (g:Nat) (en:Pl) (l:List Tok) (d:Nat)
  (IH:∀ f',f'≤f→∀ l,cC 138 #[.pointer (some ⟨g,0,none⟩)] g en l d ca (bN en f' l d)) :
  cC 102 #[.pointer (some ⟨g,0,none⟩)] g en l d ca (gN en (f+1) l d):=by
 intro w hp hne;obtain ⟨X,hX⟩:∃ X,X=gN en (f+1) l d:=⟨_,rfl⟩;rw [← hX] at hne ⊢;rw [gN] at hX;have HX:=hid hX;clear hX;have hgl:=hp.lt;have Pg:=hid (fun (b:Nat) (h:w.heap.size+1≤b)=>(show b≠g by omega));obtain ⟨w1,hw,hp1,hB,rr,au⟩:=aN hp (.cells #[.int .i64 0,.string ⟨#[]⟩,.int .i64 0,.int .i64 0,.slice none 0 0] 27);have ae:=hid rr;have an:w.heap.size≠g:=by omega
 have ah:w.heap.size<w1.heap.size:=au;clear hp rr;have hp:=hp1;clear hp1;have HB:=hid hB;clear hB;go_enter Tryz.func102,Tryz.ntmps102
 go_wp2_with fail;rw [← hw.out];clear hw;cases hx:bN en f l d with
 | oof=>exact absurd (by rw [HX.out,hx] <;> rfl) hne
 | bad er p =>
   refine ((IH f (nRe f) l).bad hx hp).mono ?_;rintro e wb ⟨rfl,ac⟩;go_wp2_with fail;exact ⟨rfl,zdz (by rw [HX.out,hx] <;> rfl) (HB.out.trans ac)⟩
 | ok x r =>
   refine ((IH f (nRe f) l).ok hx hp).mono ?_;rintro e w2 ⟨_,rfl,⟨ey,eC,eB,ez,bQ,eD,eA,rfl,hi,hh⟩,aC,ac⟩;clear hp;have hp:=aC;clear aC;have i_x:=hid hi;have hy:=hid (am.less (P':=fun b=>w.heap.size+1≤b) (fun b _ (hb:w1.heap.size≤b)=>(show w.heap.size+1≤b by omega)) hh);replace HB:=kb HB ac;replace ae:=kr ac ae an;replace ah:=lx ae;replace au:=nT au ac.size;have bZ:=hy;clear hy hi hh ac;have ay_x:=hid (am.less (P':=fun b=>w.heap.size+1≤b∧b≠w2.heap.size) (fun b aL hb=>⟨hb,by omega⟩) bZ.out);go_wp2_with fail;obtain ⟨w3,hw,aC,ac,rr,tl⟩:=aN hp (.cells #[.int .i64 ey,.string (bs eC),.int .i64 eB,.int .i64 ez,.slice eD bQ.length eA] 27);have gq:w2.heap.size≠g:=by have:=hp.lt;omega
   have g_x:w.heap.size+1≤w2.heap.size:=au;clear hp;have hp:=aC;clear aC;have u_x_res:=ah;have bu:=hid rr;clear rr;replace HB:=kb HB ac;replace ae:=kr ac ae an;replace ah:=lx ae;replace bZ:=kh ac Pg bZ;replace ay_x:=hid (am.keep (ac.same (fun b hb=>Pg.out b hb.1)) ay_x.out);replace au:=nT au ac.size;have cW:w2.heap.size<w3.heap.size:=tl;clear tl ac;rw [← hw.out];clear hw;replace HX:=thk HX hx;clear hx;have HI:=hid IH;clear IH;go_loopw [] (fun wr=>uI en g d X f w (w2.heap.size) wr) (fun wr=>gY wr g)
   case atStart =>
    exact ⟨f,ey,eC,eB,ez,bQ,eD,eA,x,r,HX.out,nRe _,i_x.out,ay_x.out,bu.out,ae.out,hp,HB.out,cW⟩
   case round =>
    clear HX HB hp ae ah bu cW bZ ay_x i_x au;obtain ⟨f',zL,zM,zK,zI,px,zN,zJ,xN,r1,hX,hf,hi,hh,rx,rr,hp,hB,cW⟩:=hrel;have i_z:=hid hi;have ay_z:=hid hh;have bu:=hid rx;have ae:=hid rr;have HB:=hid hB;have au:w.heap.size+1≤wr.heap.size:=by omega
    have ah:w.heap.size<wr.heap.size:=by omega
    have hLf:=hp.left;clear hi hh rx rr hB;cases f' with
    | zero=>rw [fk] at hX;exact absurd hX hne
    | succ f' =>
    rw [fk] at hX;have HX:=hid hX;clear hX;cases hs:aT r1 0 [43] with
    | false =>
      replace HX:=hid (by have:=HX.out;rw [hs,if_neg (by simp)] at this;exact this);have HS1:=hid (fun W (hW:PS W g en r1 d)=>by have:=ch 0 [43] g en r1 d W hW;rw [hs] at this;exact this);clear hs hLf;go_wp2_with fail;refine (HS1.out _ hp).mono ?_;rintro e w4 ⟨rfl,ac⟩;replace hp:=hp.keep ac;replace ac:=obw g ac;replace HB:=kb HB ac;replace ae:=kr ac ae an;replace ah:=lx ae;replace bu:=kr ac bu gq;replace cW:=lx bu;replace ay_z:=hid (am.keep (ac.same (fun b hb=>Pg.out b hb.1)) ay_z.out);replace au:=nT au ac.size;clear ac;have h_z:=hid (am.less (fun b _ (hb:w.heap.size+1≤b∧b≠w2.heap.size)=>hb.1) ay_z.out);obtain ⟨jH,jE,jK,jM,jG,jC,jL,jF,jD,jJ⟩:=eV bu.out;have hzz:=hgl;have HW:=hid (cu hp HB.out ae.out (by omega) (by omega) (.int .i64 zL) (.string (bs zM)) (.int .i64 zK) (.int .i64 zI) (.slice zN px.length zJ));obtain ⟨cT,cQ,cO,cN,cS,cR,cI,cJ,cH,cP⟩:=eV ae.out;go_wp2_with fail;obtain ⟨wz,hw,fl,fo,fu,hsz,dv⟩:=HW.out;rw [← hw];refine br Tryz.underlying27 (w.heap.size) fu (zdE HX.out ?_ fl fo);have S:d9 (w.heap.size+1≤·) w4 wz:=⟨by omega,fun k _ (hk:w.heap.size+1≤k)=>dv k (by omega)⟩;exact ⟨zL,zM,zK,zI,px,zN,zJ,rfl,i_z.out,am.less (P:=fun b=>w.heap.size+1≤b) (fun b _ (hb:w.heap.size+1≤b)=>(show w.heap.size≤b by omega)) (am.keep S h_z.out)⟩
    | true =>
      replace HX:=hid (by have:=HX.out;rw [hs,if_pos rfl] at this;exact this);have HS1:=hid (fun W (hW:PS W g en r1 d)=>by have:=ch 0 [43] g en r1 d W hW;rw [hs] at this;exact this);clear hs;go_wp2_with fail;refine (HS1.out _ hp).mono ?_;rintro e w5 ⟨rfl,ac⟩;replace hp:=hp.keep ac;replace ac:=obw g ac;replace HB:=kb HB ac;replace ae:=kr ac ae an;replace ah:=lx ae;replace bu:=kr ac bu gq;replace cW:=lx bu;replace ay_z:=hid (am.keep (ac.same (fun b hb=>Pg.out b hb.1)) ay_z.out);replace au:=nT au ac.size;clear ac;go_wp2_with fail;cases hx:bl en true r1 with
      | oof=>exact absurd (by rw [HX.out,hx] <;> rfl) hne
      | bad er p =>
        refine (cc hx hp).mono ?_;rintro e wb ⟨rfl,ac⟩;go_wp2_with fail;exact ⟨rfl,zdz (by rw [HX.out,hx] <;> rfl) (HB.out.trans ac)⟩
      | ok t r2 =>
        refine (c9 hx hp).mono ?_;rintro e w6 ⟨rfl,aC,ac⟩;clear hp;have hp:=aC;clear aC;replace HB:=kb HB ac;replace ae:=kr ac ae an;replace ah:=lx ae;replace bu:=kr ac bu gq;replace cW:=lx bu;replace ay_z:=hid (am.keep (ac.same (fun b hb=>Pg.out b hb.1)) ay_z.out);replace au:=nT au ac.size;clear ac;go_wp2_with fail;obtain ⟨w7,hw,aC,ac,rr,tl⟩:=aN hp (.cells #[.int .i64 (t.1:Int),.string (bs t.2.1),.int .i64 (t.2.2.1:Int),.int .i64 (t.2.2.2:Int)] 46);have bm:w6.heap.size≠g:=by have:=hp.lt;omega
        have om:w.heap.size+1≤w6.heap.size:=au;clear hp;have hp:=aC;clear aC;have u_t_res:=ah;have u_t_x:=cW;have av:=hid rr;clear rr;replace HB:=kb HB ac;replace ae:=kr ac ae an;replace ah:=lx ae;replace bu:=kr ac bu gq;replace cW:=lx bu;replace ay_z:=hid (am.keep (ac.same (fun b hb=>Pg.out b hb.1)) ay_z.out);replace au:=nT au ac.size;have aD:w6.heap.size<w7.heap.size:=tl;clear tl ac;rw [← hw.out];clear hw;have hL2:r1.length=r2.length+1:=by obtain ⟨_,h⟩:=jk hx;rw [h];simp
        replace HX:=thk HX hx;clear hx;refine aH (S:=fun W=>W.heap[w6.heap.size]? = some (.cells #[.int .i64 (t.1:Int),.string (bs t.2.1),.int .i64 (t.2.2.1:Int),.int .i64 (t.2.2.2:Int)] 46)) (by kernel_rfl) ?_;obtain ⟨w8,hw,aC,ac⟩:=dj hp;clear hp;have hp:=aC;clear aC;replace HB:=kb HB ac;replace ae:=kr ac ae an;replace ah:=lx ae;replace bu:=kr ac bu gq;replace cW:=lx bu;replace av:=kr ac av bm;replace aD:=lx av;replace ay_z:=hid (am.keep (ac.same (fun b hb=>Pg.out b hb.1)) ay_z.out);replace au:=nT au ac.size;rw [← hw.out];clear hw ac;have hS:=av.out;refine zdN 0 (some 11) hS 46 (w6.heap.size) 0 [.int .i64 (t.1:Int),.string (bs t.2.1),.int .i64 (t.2.2.1:Int),.int .i64 (t.2.2.2:Int)] (fun W hW=>bt hW) Tryz.underlying46 ?_
        try simp only [aPu,sA,sB,sC]
        refine zdA 2 (some 13) (.pointer (some ⟨g,0,none⟩)) hS ?_
        try simp only [aPu,sA,sB,sC]
        refine WH.tw 1 3 ?_ ?_
        ·intro K hK;obtain ⟨jH,jE,jK,jM,jG,jC,jL,jF,jD,jJ⟩:=eV bu.out;go_simp;clear jH jC jE jL jK jF jM jD jG jJ;clear hS;have hS:=av.out;refine hK.out _ _ hS ?_;clear hK K
         try simp only [aPu,sA,sB,sC]
         refine zdC 3 ?_;intro K hK;go_simp;cases hx:bN en f' r2 d with
         | oof=>exact absurd (by rw [HX.out,hx] <;> rfl) hne
         | bad er p =>
           refine ((HI.out f' (by omega) r2).bad hx hp).mono ?_;rintro e wb ⟨rfl,ac⟩;go_wp2_with fail;exact ⟨rfl,zdz (by rw [HX.out,hx] <;> rfl) (HB.out.trans ac)⟩
         | ok y r3 =>
           refine ((HI.out f' (by omega) r2).ok hx hp).mono ?_;rintro e w9 ⟨_,rfl,⟨mm,mQ,mJ,mH,gQ,mM,mj,rfl,hi,hh⟩,aC,ac⟩;clear hp;have hp:=aC;clear aC;have i_y:=hid hi;have hy:=hid (am.less (P':=fun b=>w.heap.size+1≤b) (fun b _ (hb:w8.heap.size≤b)=>(show w.heap.size+1≤b by omega)) hh);have ay:=hid (am.less (P':=fun b=>w.heap.size+1≤b∧b≠w2.heap.size) (fun b _ (hb:w8.heap.size≤b)=>⟨by omega,by omega⟩) hh);replace HB:=kb HB ac;replace ae:=kr ac ae an;replace ah:=lx ae;replace bu:=kr ac bu gq;replace cW:=lx bu;replace av:=kr ac av bm;replace aD:=lx av;replace ay_z:=hid (am.keep (ac.same (fun b hb=>Pg.out b hb.1)) ay_z.out);replace au:=nT au ac.size;have jj:=hy;clear hy hi hh ac;have ay_y:=ay;clear ay;have hL3:=sF hx;go_wp2_with fail;clear hS;have hS:=av.out;refine hK.out _ _ hS ?_;clear hK K
           try simp only [aPu,sA,sB,sC]
           replace HX:=thk HX hx;clear hx;refine zdC 4 ?_;intro K hK;go_simp;obtain ⟨w10,hw,aC,ac,rr,tl⟩:=aN hp (.cells #[.int .i64 zL,.string (bs zM),.int .i64 zK,.int .i64 zI,.slice zN px.length zJ,.int .i64 mm,.string (bs mQ),.int .i64 mJ,.int .i64 mH,.slice mM gQ.length mj] 27);have eU:w9.heap.size≠g:=by have:=hp.lt;omega
           have jI:w.heap.size+1≤w9.heap.size:=au;clear hp;have hp:=aC;clear aC;have u_kd_res:=ah;have u_kd_x:=cW;have u_kd_t:=aD;have bG:=hid rr;clear rr;replace HB:=kb HB ac;replace ae:=kr ac ae an;replace ah:=lx ae;replace bu:=kr ac bu gq;replace cW:=lx bu;replace av:=kr ac av bm;replace aD:=lx av;replace jj:=kh ac Pg jj;replace ay_z:=hid (am.keep (ac.same (fun b hb=>Pg.out b hb.1)) ay_z.out);replace ay_y:=hid (am.keep (ac.same (fun b hb=>Pg.out b hb.1)) ay_y.out);replace au:=nT au ac.size;have dh:w9.heap.size<w10.heap.size:=tl;clear tl ac;rw [← hw.out];clear hw;clear hS;have hS:=av.out;refine hK.out _ _ hS ?_;clear hK K
           try simp only [aPu,sA,sB,sC]
           refine zdC 5 ?_;intro K hK;go_simp;refine (bW 16 t [43] (some ⟨w9.heap.size,0,none⟩) 2 2 _).mono ?_;rintro e w11 ⟨rfl,ac⟩;replace hp:=hp.keep ac;replace ac:=obw g ac;replace HB:=kb HB ac;replace ae:=kr ac ae an;replace ah:=lx ae;replace bu:=kr ac bu gq;replace cW:=lx bu;replace av:=kr ac av bm;replace aD:=lx av;replace bG:=kr ac bG eU;replace dh:=lx bG;replace jj:=kh ac Pg jj;replace ay_z:=hid (am.keep (ac.same (fun b hb=>Pg.out b hb.1)) ay_z.out);replace ay_y:=hid (am.keep (ac.same (fun b hb=>Pg.out b hb.1)) ay_y.out);replace au:=nT au ac.size;clear ac;go_wp2_with fail;clear hS;have hS:=av.out;refine hK.out _ _ hS ?_;clear hK K
           try simp only [aPu,sA,sB,sC]
           have hzz:=hgl;have HW:=hid (cu hp HB.out bu.out (by omega) (by omega) (.int .i64 16) (.string (bs [43])) (.int .i64 (t.2.2.1:Int)) (.int .i64 (t.2.2.2:Int)) (.slice (some ⟨w9.heap.size,0,none⟩) 2 2));obtain ⟨jH,jE,jK,jM,jG,jC,jL,jF,jD,jJ⟩:=eV bu.out;refine zdC 6 ?_;intro K hK;go_simp;clear jH jC jE jL jK jF jM jD jG jJ;obtain ⟨wz,hw,fl,fo,fu,hsz,dv⟩:=HW.out;rw [← hw];refine hK.out _ _ ((dv _ (by omega)).trans av.out) ?_;clear hK K
           try simp only [aPu,sA,sB,sC]
           have S:d9 (fun b=>w.heap.size+1≤b∧b≠w2.heap.size) w11 wz:=⟨by omega,fun k _ hk=>dv k hk.2⟩;have hl4:=fl.left;have HR:=hid (show uI en g d X f w (w2.heap.size) wz from ⟨f',16,[43],t.2.2.1,t.2.2.2,[(NM.mk zL zM zK zI px zN zJ),(NM.mk mm mQ mJ mH gQ mM mj)],some ⟨w9.heap.size,0,none⟩,2,.mk 16 [43] t.2.2 [xN,y],r3,HX.out,by omega,eK (k:=16) (p:=(t.2.2.1,t.2.2.2)) (ju i_z.out i_y.out) _ _,ef ((dv _ (by omega)).trans bG.out) rfl (by simp) ⟨by omega,by omega⟩ (gl (am.keep S ay_z.out) (am.keep S ay_y.out)) _ _ _ _,fu,(dv _ (by omega)).trans ae.out,fl,fo,by omega⟩);clear S dv fl fo fu HX HB hp;refine zdH ?_;go_wp2_with fail;exact ⟨HR.out,by omega⟩
        ·intro K hK;go_simp;cases hx:bN en f' r2 d with
         | oof=>exact absurd (by rw [HX.out,hx] <;> rfl) hne
         | bad er p =>
           refine ((HI.out f' (by omega) r2).bad hx hp).mono ?_;rintro e wb ⟨rfl,ac⟩;go_wp2_with fail;exact ⟨rfl,zdz (by rw [HX.out,hx] <;> rfl) (HB.out.trans ac)⟩
         | ok y r3 =>
           refine ((HI.out f' (by omega) r2).ok hx hp).mono ?_;rintro e w12 ⟨_,rfl,⟨mm,mQ,mJ,mH,gQ,mM,mj,rfl,hi,hh⟩,aC,ac⟩;clear hp;have hp:=aC;clear aC;have i_y:=hid hi;have hy:=hid (am.less (P':=fun b=>w.heap.size+1≤b) (fun b _ (hb:w8.heap.size≤b)=>(show w.heap.size+1≤b by omega)) hh);have ay:=hid (am.less (P':=fun b=>w.heap.size+1≤b∧b≠w2.heap.size) (fun b _ (hb:w8.heap.size≤b)=>⟨by omega,by omega⟩) hh);replace HB:=kb HB ac;replace ae:=kr ac ae an;replace ah:=lx ae;replace bu:=kr ac bu gq;replace cW:=lx bu;replace av:=kr ac av bm;replace aD:=lx av;replace ay_z:=hid (am.keep (ac.same (fun b hb=>Pg.out b hb.1)) ay_z.out);replace au:=nT au ac.size;have jj:=hy;clear hy hi hh ac;have ay_y:=ay;clear ay;have hL3:=sF hx;go_wp2_with fail;clear hS;have hS:=av.out;refine hK.out _ _ hS ?_;clear hK K
           try simp only [aPu,sA,sB,sC]
           replace HX:=thk HX hx;clear hx;obtain ⟨jH,jE,jK,jM,jG,jC,jL,jF,jD,jJ⟩:=eV bu.out;refine zdC 1 ?_;intro K hK;go_simp;clear jH jC jE jL jK jF jM jD jG jJ;clear hS;have hS:=av.out;refine hK.out _ _ hS ?_;clear hK K
           try simp only [aPu,sA,sB,sC]
           refine zdC 4 ?_;intro K hK;go_simp;obtain ⟨w13,hw,aC,ac,rr,tl⟩:=aN hp (.cells #[.int .i64 zL,.string (bs zM),.int .i64 zK,.int .i64 zI,.slice zN px.length zJ,.int .i64 mm,.string (bs mQ),.int .i64 mJ,.int .i64 mH,.slice mM gQ.length mj] 27);have eU:w12.heap.size≠g:=by have:=hp.lt;omega
           have jI:w.heap.size+1≤w12.heap.size:=au;clear hp;have hp:=aC;clear aC;have u_kd_res:=ah;have u_kd_x:=cW;have u_kd_t:=aD;have bG:=hid rr;clear rr;replace HB:=kb HB ac;replace ae:=kr ac ae an;replace ah:=lx ae;replace bu:=kr ac bu gq;replace cW:=lx bu;replace av:=kr ac av bm;replace aD:=lx av;replace jj:=kh ac Pg jj;replace ay_z:=hid (am.keep (ac.same (fun b hb=>Pg.out b hb.1)) ay_z.out);replace ay_y:=hid (am.keep (ac.same (fun b hb=>Pg.out b hb.1)) ay_y.out);replace au:=nT au ac.size;have dh:w12.heap.size<w13.heap.size:=tl;clear tl ac;rw [← hw.out];clear hw;clear hS;have hS:=av.out;refine hK.out _ _ hS ?_;clear hK K
           try simp only [aPu,sA,sB,sC]
           refine zdC 5 ?_;intro K hK;go_simp;refine (bW 16 t [43] (some ⟨w12.heap.size,0,none⟩) 2 2 _).mono ?_;rintro e w14 ⟨rfl,ac⟩;replace hp:=hp.keep ac;replace ac:=obw g ac;replace HB:=kb HB ac;replace ae:=kr ac ae an;replace ah:=lx ae;replace bu:=kr ac bu gq;replace cW:=lx bu;replace av:=kr ac av bm;replace aD:=lx av;replace bG:=kr ac bG eU;replace dh:=lx bG;replace jj:=kh ac Pg jj;replace ay_z:=hid (am.keep (ac.same (fun b hb=>Pg.out b hb.1)) ay_z.out);replace ay_y:=hid (am.keep (ac.same (fun b hb=>Pg.out b hb.1)) ay_y.out);replace au:=nT au ac.size;clear ac;go_wp2_with fail;clear hS;have hS:=av.out;refine hK.out _ _ hS ?_;clear hK K
           try simp only [aPu,sA,sB,sC]
           have hzz:=hgl;have HW:=hid (cu hp HB.out bu.out (by omega) (by omega) (.int .i64 16) (.string (bs [43])) (.int .i64 (t.2.2.1:Int)) (.int .i64 (t.2.2.2:Int)) (.slice (some ⟨w12.heap.size,0,none⟩) 2 2));obtain ⟨jH,jE,jK,jM,jG,jC,jL,jF,jD,jJ⟩:=eV bu.out;refine zdC 6 ?_;intro K hK;go_simp;clear jH jC jE jL jK jF jM jD jG jJ;obtain ⟨wz,hw,fl,fo,fu,hsz,dv⟩:=HW.out;rw [← hw];refine hK.out _ _ ((dv _ (by omega)).trans av.out) ?_;clear hK K
           try simp only [aPu,sA,sB,sC]
           have S:d9 (fun b=>w.heap.size+1≤b∧b≠w2.heap.size) w14 wz:=⟨by omega,fun k _ hk=>dv k hk.2⟩;have hl4:=fl.left;have HR:=hid (show uI en g d X f w (w2.heap.size) wz from ⟨f',16,[43],t.2.2.1,t.2.2.2,[(NM.mk zL zM zK zI px zN zJ),(NM.mk mm mQ mJ mH gQ mM mj)],some ⟨w12.heap.size,0,none⟩,2,.mk 16 [43] t.2.2 [xN,y],r3,HX.out,by omega,eK (k:=16) (p:=(t.2.2.1,t.2.2.2)) (ju i_z.out i_y.out) _ _,ef ((dv _ (by omega)).trans bG.out) rfl (by simp) ⟨by omega,by omega⟩ (gl (am.keep S ay_z.out) (am.keep S ay_y.out)) _ _ _ _,fu,(dv _ (by omega)).trans ae.out,fl,fo,by omega⟩);clear S dv fl fo fu HX HB hp;refine zdH ?_;go_wp2_with fail;exact ⟨HR.out,by omega⟩
end Go.Proofs.YtfgiihpopngbkaaGreatDoor
