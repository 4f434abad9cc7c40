/- Lemmas and walks that the statement needs: ParseList. -/
import Derived.Test.YtfgiihpopngbkaaGreatDoorM18
namespace Go.Proofs.YtfgiihpopngbkaaGreatDoor
set_option maxRecDepth 100000
open Go.RowKit
open Nat renaming lt_of_lt_of_le→nL,le_trans→nT
def leftW (w:World) (g:Nat):Nat:=match w.cell? ⟨g,0,none⟩ with | some (.slice _ n _)=>n | _=>0
theorem PS.left {w:World} {g:Nat} {en:Pl} {l:List Tok} {d:Nat} (h:PS w g en l d):leftW w g=l.length:=by
 obtain ⟨a,c,hg,_⟩:=h;have:w.cell? ⟨g,0,none⟩=some (.slice a l.length c):=cell_of_row w g 0 _ _ _ hg;unfold leftW;rw [this]
def LRel (en:Pl) (g d k:Nat) (sg:List UInt8) (X:PR (List Nd)) (f:Nat) (w:World) (out:Value) (wr:World):Prop :=
 ∃ (f':Nat) (acc:List NM) (accN:List Nd) (r:List Tok) (a:Option Addr) (cap:Nat),
   X=(pList en f' k sg acc.isEmpty r d).then (fun b r=>.ok (accN++b) r)∧f'≤f∧out=.slice a acc.length cap∧Grows w.heap.size wr out acc∧NM.are acc accN∧PS wr g en r d∧ButAt g w wr∧acc.length+2 * r.length≤200000
theorem then_app_nil (x:PR (List Nd)):(x.then fun b r=>PR.ok ([]++b) r)=x:=by cases x <;> rfl
theorem then_app3 (x:PR (List Nd)) (a b:List Nd):((x.then fun c r=>PR.ok (b++c) r).then fun c r=>PR.ok (a++c) r)=x.then fun c r=>PR.ok ((a++b)++c) r:=by
 cases x with
 | ok c r=>show PR.ok _ _=PR.ok _ _;rw [List.append_assoc]
 | bad e p=>rfl
 | oof=>rfl
theorem relL_refl:∀ l:List Tok,RelL (fun _ _=>True) l l
 | []=>.nil
 | (_,_,_)::l=>.cons trivial (relL_refl l)
theorem RelR_len {α β:Type} {R:Pl→Pl→Prop} {S:α→β→Prop} {x:PR α} {y:PR β} (h:RelR R S x y) {n:Nat} (hy:Fine (·<n) y) {a:α} {r:List Tok} (hx:x=.ok a r):r.length<n:=by
 subst hx;cases y with
 | oof=>exact hy.elim
 | bad e p=>exact h.elim
 | ok b r' =>
   have hl:r.length=r'.length:=by
    have:=h.2;clear h hy;induction this with
    | nil=>rfl
    | cons _ _ ih=>simp [ih]
   rw [hl];exact hy
theorem one_len {en:Pl} {f k:Nat} {l:List Tok} {d:Nat} {a:List Nd} {r:List Tok} (h:pOne en f k l d=.ok a r):1≤a.length∧a.length≤2∧r.length<l.length:=by
 have h3:r.length<l.length:=RelR_len ((expr_rel (R:=fun _ _=>True) (en:=en) (en':=en) trivial f (f+(10 * l.length+6)) (by omega)).one k l l d (relL_refl l)) ((expr_fine en _).one k l d (by omega)) h;refine ⟨?_,?_,h3⟩
 all_goals
  clear h3;cases f with
  | zero=>rw [pOne] at h;cases h
  | succ f =>
    rw [pOne] at h;revert h;generalize pTake en (nameB l) l=x1;generalize pTake en (kindB l 3) l=x2;generalize pTake en true l=x3;generalize pExpr en f l d=x4;intro h;split at h
    ·cases x1 with
     | oof=>cases h
     | bad e p=>cases h
     | ok n r1 =>
     rw [then_ok] at h;cases hx:pEat en [58] r1 with
     | oof=>rw [hx] at h;cases h
     | bad e p=>rw [hx] at h;cases h
     | ok t r2 =>
     rw [hx,then_ok] at h;cases hx:pTake en (typeAt r2) r2 with
     | oof=>rw [hx] at h;cases h
     | bad e p=>rw [hx] at h;cases h
     | ok t r3 =>
     rw [hx,then_ok] at h;split at h
     ·cases hx:pEat en [61] r3 with
      | oof=>rw [hx] at h;cases h
      | bad e p=>rw [hx] at h;cases h
      | ok t r4 =>
      rw [hx,then_ok] at h;cases hx:pExpr en f r4 d with
      | oof=>rw [hx] at h;cases h
      | bad e p=>rw [hx] at h;cases h
      | ok t r4=>rw [hx,then_ok] at h;cases h;simp
     ·cases h;simp
    split at h
    ·split at h
     ·cases x3 with
      | oof=>cases h
      | bad e p=>cases h
      | ok n r1 =>
      rw [then_ok] at h;cases hx:pEat en [61] r1 with
      | oof=>rw [hx] at h;cases h
      | bad e p=>rw [hx] at h;cases h
      | ok t r2 =>
      rw [hx,then_ok] at h;cases hx:pExpr en f r2 d with
      | oof=>rw [hx] at h;cases h
      | bad e p=>rw [hx] at h;cases h
      | ok t r4=>rw [hx,then_ok] at h;cases h;simp
     ·cases x4 with
      | oof=>cases h
      | bad e p=>cases h
      | ok n r1=>rw [then_ok] at h;cases h;simp
    split at h
    ·cases x4 with
     | oof=>cases h
     | bad e p=>cases h
     | ok n r1=>rw [then_ok] at h;cases h;simp
    ·cases x2 with
     | oof=>cases h
     | bad e p=>cases h
     | ok n r1 =>
     rw [then_ok] at h;cases hx:pEat en [58] r1 with
     | oof=>rw [hx] at h;cases h
     | bad e p=>rw [hx] at h;cases h
     | ok t r2 =>
     rw [hx,then_ok] at h;cases hx:pExpr en f r2 d with
     | oof=>rw [hx] at h;cases h
     | bad e p=>rw [hx] at h;cases h
     | ok t r4=>rw [hx,then_ok] at h;cases h;simp
theorem Grows.rows {B:Nat} {w:World} {v:Value} {ns:List NM} (h:Grows B w v ns) (hn:0<ns.length):∃ b m,∃ _:Unit,v=.slice (some ⟨b,0,none⟩) ns.length m∧∀ j u,(nmCells ns)[j]? = some u→w.cell? ((⟨b,0,none⟩:Addr).add j)=some u:=by
 rcases h.own.2 with ⟨_,h0⟩ | ⟨g,cap,cur,hv,_⟩
 ·omega
 ·exact ⟨g,cap,(),hv,fun j u hu=>h.own.cells (g:=g) (by rw [hv];rfl) j u hu⟩
theorem Grows.apart {B:Nat} {w w1:World} {v v2:Value} {ns ns2:List NM} (hB:B≤w.heap.size) (h:Grows B w v ns) (h2:Grows w.heap.size w1 v2 ns2):HeldNs (fun b=>B≤b∧v.ownBlock≠some b) w1 ns2 :=
 HeldNs.less (fun b _ hb=>by
  refine ⟨nT hB hb.1,fun e=>?_⟩;have:=(h.own.lt b e).2;have:=hb.1;omega) h2.held
set_option maxHeartbeats 4000000 in
theorem list_step0 (f:Nat) (b g:Nat) (en:Pl) (sg:List UInt8) (l:List Tok) (d:Nat) (w:World) (hp:PS w g en l d) (hbg:b≠g) (hbx:w.heap[b]? = some (.cells #[.pointer (some ⟨g,0,none⟩)] 53 (0,0))) (hne:pList en f 0 sg true l d≠.oof)
  (IH:∀ f',f'<f→∀ l,DoesBox 106 b g en l d ListR (pOne en f' 0 l d)) :
  Calls Tryz.prog 105 #[.pointer (some ⟨g,0,none⟩),.string (bs sg),.func (.func 106) #[] #[.pointer (some ⟨b,0,none⟩)]] w (RetP g en d w ListR (pList en f 0 sg true l d)):=by
 obtain ⟨X,hX⟩:∃ X,X=pList en f 0 sg true l d:=⟨_,rfl⟩;rw [← hX] at hne ⊢;have HX:=hid hX;clear hX;have hgl:=hp.lt;obtain ⟨i0,hi,iz0,iz1,iz2⟩:=info_parts node_info;have hln:l.length≤100000:=by obtain ⟨_,_,_,_,_,_,_,h⟩:=hp;exact h
 have HS:=hid (fun W r (hW:PS W g en r d)=>sign_any 0 sg g en r d W hW);have hnot:∀ (x:Bool) (w:World),(Op.unary .not (.bool x)).run Tryz.prog w=.ok (.bool (!x)) w:=fun _ _=>rfl
 have HI:=hid IH;have HX2:=hid hbx;clear hbx;have HP:=hid hp;clear IH hp;go_enter Tryz.func105,Tryz.ntmps105
 go_wp2_with fail;go_loopw [7] (fun out wr=>LRel en g d 0 sg X f w out wr) (fun _ wr=>leftW wr g)
 case atStart =>
  exact ⟨f,[],[],l,none,0,by rw [HX.out];exact (then_app_nil _).symm,Nat.le_refl _,rfl,Grows.nil _ _,are_nil,HP.out,ButAt.refl _ _,by simp;omega⟩
 case round =>
  clear HX HP hln;obtain ⟨f',acc,accN,r,a,cap,hX,hf,rfl,hG,hA,hp,hB,hle⟩:=hrel;have HX:=hid hX;have HG:=hid hG;have HA:=hid hA;have HB:=hid hB;have hLf:=hp.left;cases f' with
  | zero=>rw [pList] at hX;exact absurd hX hne
  | succ f' =>
  rw [pList] at hX;replace HX:=hid hX;clear hX hG hA hB;cases hs:signB r 0 sg with
  | true =>
    replace HX:=hid (by have:=HX.out;rw [hs,if_pos rfl] at this;exact this);have HS1:=hid (fun W hW=>by have:=HS.out W r hW;rw [hs] at this;exact this);clear hs hLf;go_wp2_with fail;refine (HS1.out _ hp).mono ?_;rintro e w1 ⟨rfl,hbb⟩;replace hp:=hp.keep hbb;replace hbb:=ButAt.of_below (g:=g) hbb;replace HG:=hid (HG.out.keep hbb (by omega));replace HB:=kb HB hbb;clear hbb;go_wp2_with fail;go_ret;exact RetP.of_ok HX.out ⟨acc,HG.out,by rw [List.append_nil];exact HA.out,by omega⟩ hp HB.out
  | false =>
    replace HX:=hid (by have:=HX.out;rw [hs,if_neg (by simp)] at this;exact this);have HS1:=hid (fun W hW=>by have:=HS.out W r hW;rw [hs] at this;exact this);clear hs;by_cases h0:acc.length=0
    ·obtain rfl:=List.length_eq_zero_iff.1 h0;replace HX:=hid (show X=((pOne en f' 0 r d).then fun a r=>(pList en f' 0 sg false r d).then fun b r=>PR.ok (a++b) r).then fun b r=>PR.ok (accN++b) r from HX.out);clear h0;go_wp2_with fail;refine (HS1.out _ hp).mono ?_;rintro e w1 ⟨rfl,hbb⟩;replace hp:=hp.keep hbb;replace hbb:=ButAt.of_below (g:=g) hbb;replace HG:=hid (HG.out.keep hbb (by omega));replace HB:=kb HB hbb;clear hbb HS1;go_wp2_with fail;obtain ⟨r1,hr1,hLr⟩:∃ r1,r1=r∧r1.length≤leftW wr g:=⟨r,rfl,by omega⟩;rw [← hr1] at HX hp hle;clear hr1 hLf;cases hx:pOne en f' 0 r1 d with
     | oof=>exact absurd (by rw [HX.out,hx];rfl) hne
     | bad er p =>
       refine ((HI.out f' (by omega) r1).bad hx hp hbg (HB.out.row HX2.out hbg)).mono ?_;rintro e wb ⟨rfl,hbb⟩;go_wp2_with fail;exact ⟨rfl,RetP.of_bad (by have h:=HX.out;rw [hx] at h;exact h) (HB.out.trans hbb)⟩
     | ok xs r2 =>
     refine ((HI.out f' (by omega) r1).ok hx hp hbg (HB.out.row HX2.out hbg)).mono ?_;rintro e w3 ⟨_,rfl,⟨ns,hG2,hA2,-⟩,hpn,hbb⟩;obtain ⟨hx1,hx2,hx3⟩:=one_len hx;have hxl:=are_len hA2;rw [← hxl] at hx1 hx2;clear hxl;obtain ⟨b2,m2,cur,hv2,hcl2⟩:=hG2.rows (by omega);subst hv2;clear hp;have hp:=hpn;clear hpn;have HGo:=HG;have HBo:=HB;replace HG:=hid (HG.out.keep hbb (by omega));replace HB:=kb HB hbb;replace HX:=hid (by have h:=HX.out;rw [hx,then_ok] at h;exact h);have hsz:=hbb.size;have HH:=hid (Grows.apart HBo.out.size HGo.out hG2);have HA2:=hid hA2;clear hx hbb HGo HBo hA2;have hown:=HG.out.own;have hwB:=HB.out.size;go_wp2_with (at_builtin;refine wpList_append_own_at _ rfl _ _ 25 rfl w.heap.size 27 i0 (.agg #[.int .i64 0,.string ⟨#[]⟩,.int .i64 0,.int .i64 0,.slice none 0 0]) 5 64 Tryz.underlying25 hi iz0 iz1 iz2 rfl (by decide) _ _ _ rfl hown ⟨b2,0,none⟩ ns.length m2 (nmCells ns) rfl (nmCells_len ns) hcl2 (nmCells_one ns) ?c1 ?c2 ?c3 ?_)
     case c1=>unfold maxLen;omega
     case c2=>omega
     case c3=>omega
     intro v' w4 hown' hgrow hnil hat;have hG4:=HG.out.app HH.out hown' (by simp) hgrow hat;have hp4:=hp.grown hown hgrow (by omega);have hB4:=HB.out.grown hown hgrow (Nat.le_refl _);have hl4:=hp4.left;obtain ⟨a4,c4,rfl,-,-⟩:=hG4.shape;have HR:=hid (show LRel en g d 0 sg X f w (.slice a4 (([]:List NM)++ns).length c4) w4 from ⟨f',([]:List NM)++ns,accN++xs,r2,a4,c4,by
      rw [show (([]:List NM)++ns).isEmpty=false by cases ns <;> simp at hx1 ⊢];have h:=HX.out;rw [h];exact then_app3 _ _ _,by omega,rfl,hG4,are_app HA.out HA2.out,hp4,hB4,by rw [List.length_append];omega⟩)
     clear hG4 hp4 hB4 hown hown' hgrow hnil hat HG HH HX hG2 hcl2;go_wp2_with fail;exact ⟨HR.out,by omega⟩
    ·have hpos:0<acc.length:=by omega
     have hposI:(0:Int)<(acc.length:Int):=by omega
     replace HX:=hid (show X=((pEat en [44] r).then fun _ r=>(pOne en f' 0 r d).then fun a r=>(pList en f' 0 sg false r d).then fun b r=>PR.ok (a++b) r).then fun b r=>PR.ok (accN++b) r by
      have:=HX.out;rw [show acc.isEmpty=false by cases acc <;> simp at h0 ⊢] at this;exact this)
     clear h0;go_wp2_with fail;refine (HS1.out _ hp).mono ?_;rintro e w1 ⟨rfl,hbb⟩;replace hp:=hp.keep hbb;replace hbb:=ButAt.of_below (g:=g) hbb;replace HG:=hid (HG.out.keep hbb (by omega));replace HB:=kb HB hbb;clear hbb HS1;go_wp2_with fail;cases hx:pEat en [44] r with
     | oof=>exact absurd (by rw [HX.out,hx];rfl) hne
     | bad er p =>
       refine (eat_bad hx hp).mono ?_;rintro e wb ⟨rfl,hbb⟩;go_wp2_with fail;exact ⟨rfl,RetP.of_bad (by have h:=HX.out;rw [hx] at h;exact h) (HB.out.trans hbb)⟩
     | ok t r1 =>
     refine (eat_ok hx hp).mono ?_;rintro e w2 ⟨rfl,hpn,hbb⟩;clear hp;have hp:=hpn;clear hpn;replace HG:=hid (HG.out.keep hbb (by omega));replace HB:=kb HB hbb;clear hbb;replace HX:=hid (by have h:=HX.out;rw [hx,then_ok] at h;exact h);have hLr:r1.length≤leftW wr g:=by obtain ⟨_,h⟩:=take_is hx;rw [hLf,h];simp
     replace hle:acc.length+2 * r1.length≤200000:=by omega
     clear hx hLf;go_wp2_with fail;cases hx:pOne en f' 0 r1 d with
     | oof=>exact absurd (by rw [HX.out,hx];rfl) hne
     | bad er p =>
       refine ((HI.out f' (by omega) r1).bad hx hp hbg (HB.out.row HX2.out hbg)).mono ?_;rintro e wb ⟨rfl,hbb⟩;go_wp2_with fail;exact ⟨rfl,RetP.of_bad (by have h:=HX.out;rw [hx] at h;exact h) (HB.out.trans hbb)⟩
     | ok xs r2 =>
     refine ((HI.out f' (by omega) r1).ok hx hp hbg (HB.out.row HX2.out hbg)).mono ?_;rintro e w3 ⟨_,rfl,⟨ns,hG2,hA2,-⟩,hpn,hbb⟩;obtain ⟨hx1,hx2,hx3⟩:=one_len hx;have hxl:=are_len hA2;rw [← hxl] at hx1 hx2;clear hxl;obtain ⟨b2,m2,cur,hv2,hcl2⟩:=hG2.rows (by omega);subst hv2;clear hp;have hp:=hpn;clear hpn;have HGo:=HG;have HBo:=HB;replace HG:=hid (HG.out.keep hbb (by omega));replace HB:=kb HB hbb;replace HX:=hid (by have h:=HX.out;rw [hx,then_ok] at h;exact h);have hsz:=hbb.size;have HH:=hid (Grows.apart HBo.out.size HGo.out hG2);have HA2:=hid hA2;clear hx hbb HGo HBo hA2;have hown:=HG.out.own;have hwB:=HB.out.size;go_wp2_with (at_builtin;refine wpList_append_own_at _ rfl _ _ 25 rfl w.heap.size 27 i0 (.agg #[.int .i64 0,.string ⟨#[]⟩,.int .i64 0,.int .i64 0,.slice none 0 0]) 5 64 Tryz.underlying25 hi iz0 iz1 iz2 rfl (by decide) _ _ _ rfl hown ⟨b2,0,none⟩ ns.length m2 (nmCells ns) rfl (nmCells_len ns) hcl2 (nmCells_one ns) ?c1 ?c2 ?c3 ?_)
     case c1=>unfold maxLen;omega
     case c2=>omega
     case c3=>omega
     intro v' w4 hown' hgrow hnil hat;have hG4:=HG.out.app HH.out hown' (by simp) hgrow hat;have hp4:=hp.grown hown hgrow (by omega);have hB4:=HB.out.grown hown hgrow (Nat.le_refl _);have hl4:=hp4.left;obtain ⟨a4,c4,rfl,-,-⟩:=hG4.shape;have HR:=hid (show LRel en g d 0 sg X f w (.slice a4 (acc++ns).length c4) w4 from ⟨f',acc++ns,accN++xs,r2,a4,c4,by
      rw [show (acc++ns).isEmpty=false by cases ns <;> simp at hx1 ⊢];have h:=HX.out;rw [h];exact then_app3 _ _ _,by omega,rfl,hG4,are_app HA.out HA2.out,hp4,hB4,by rw [List.length_append];omega⟩)
     clear hG4 hp4 hB4 hown hown' hgrow hnil hat HG HH HX hG2 hcl2;go_wp2_with fail;exact ⟨HR.out,by omega⟩
set_option maxHeartbeats 4000000 in
theorem list_step1 (f:Nat) (b g:Nat) (en:Pl) (sg:List UInt8) (l:List Tok) (d:Nat) (w:World) (hp:PS w g en l d) (hbg:b≠g) (hbx:w.heap[b]? = some (.cells #[.pointer (some ⟨g,0,none⟩)] 53 (0,0))) (hne:pList en f 1 sg true l d≠.oof)
  (IH:∀ f',f'<f→∀ l,DoesBox 108 b g en l d ListR (pOne en f' 1 l d)) :
  Calls Tryz.prog 105 #[.pointer (some ⟨g,0,none⟩),.string (bs sg),.func (.func 108) #[] #[.pointer (some ⟨b,0,none⟩)]] w (RetP g en d w ListR (pList en f 1 sg true l d)):=by
 obtain ⟨X,hX⟩:∃ X,X=pList en f 1 sg true l d:=⟨_,rfl⟩;rw [← hX] at hne ⊢;have HX:=hid hX;clear hX;have hgl:=hp.lt;obtain ⟨i0,hi,iz0,iz1,iz2⟩:=info_parts node_info;have hln:l.length≤100000:=by obtain ⟨_,_,_,_,_,_,_,h⟩:=hp;exact h
 have HS:=hid (fun W r (hW:PS W g en r d)=>sign_any 0 sg g en r d W hW);have hnot:∀ (x:Bool) (w:World),(Op.unary .not (.bool x)).run Tryz.prog w=.ok (.bool (!x)) w:=fun _ _=>rfl
 have HI:=hid IH;have HX2:=hid hbx;clear hbx;have HP:=hid hp;clear IH hp;go_enter Tryz.func105,Tryz.ntmps105
 go_wp2_with fail;go_loopw [7] (fun out wr=>LRel en g d 1 sg X f w out wr) (fun _ wr=>leftW wr g)
 case atStart =>
  exact ⟨f,[],[],l,none,0,by rw [HX.out];exact (then_app_nil _).symm,Nat.le_refl _,rfl,Grows.nil _ _,are_nil,HP.out,ButAt.refl _ _,by simp;omega⟩
 case round =>
  clear HX HP hln;obtain ⟨f',acc,accN,r,a,cap,hX,hf,rfl,hG,hA,hp,hB,hle⟩:=hrel;have HX:=hid hX;have HG:=hid hG;have HA:=hid hA;have HB:=hid hB;have hLf:=hp.left;cases f' with
  | zero=>rw [pList] at hX;exact absurd hX hne
  | succ f' =>
  rw [pList] at hX;replace HX:=hid hX;clear hX hG hA hB;cases hs:signB r 0 sg with
  | true =>
    replace HX:=hid (by have:=HX.out;rw [hs,if_pos rfl] at this;exact this);have HS1:=hid (fun W hW=>by have:=HS.out W r hW;rw [hs] at this;exact this);clear hs hLf;go_wp2_with fail;refine (HS1.out _ hp).mono ?_;rintro e w1 ⟨rfl,hbb⟩;replace hp:=hp.keep hbb;replace hbb:=ButAt.of_below (g:=g) hbb;replace HG:=hid (HG.out.keep hbb (by omega));replace HB:=kb HB hbb;clear hbb;go_wp2_with fail;go_ret;exact RetP.of_ok HX.out ⟨acc,HG.out,by rw [List.append_nil];exact HA.out,by omega⟩ hp HB.out
  | false =>
    replace HX:=hid (by have:=HX.out;rw [hs,if_neg (by simp)] at this;exact this);have HS1:=hid (fun W hW=>by have:=HS.out W r hW;rw [hs] at this;exact this);clear hs;by_cases h0:acc.length=0
    ·obtain rfl:=List.length_eq_zero_iff.1 h0;replace HX:=hid (show X=((pOne en f' 1 r d).then fun a r=>(pList en f' 1 sg false r d).then fun b r=>PR.ok (a++b) r).then fun b r=>PR.ok (accN++b) r from HX.out);clear h0;go_wp2_with fail;refine (HS1.out _ hp).mono ?_;rintro e w1 ⟨rfl,hbb⟩;replace hp:=hp.keep hbb;replace hbb:=ButAt.of_below (g:=g) hbb;replace HG:=hid (HG.out.keep hbb (by omega));replace HB:=kb HB hbb;clear hbb HS1;go_wp2_with fail;obtain ⟨r1,hr1,hLr⟩:∃ r1,r1=r∧r1.length≤leftW wr g:=⟨r,rfl,by omega⟩;rw [← hr1] at HX hp hle;clear hr1 hLf;cases hx:pOne en f' 1 r1 d with
     | oof=>exact absurd (by rw [HX.out,hx];rfl) hne
     | bad er p =>
       refine ((HI.out f' (by omega) r1).bad hx hp hbg (HB.out.row HX2.out hbg)).mono ?_;rintro e wb ⟨rfl,hbb⟩;go_wp2_with fail;exact ⟨rfl,RetP.of_bad (by have h:=HX.out;rw [hx] at h;exact h) (HB.out.trans hbb)⟩
     | ok xs r2 =>
     refine ((HI.out f' (by omega) r1).ok hx hp hbg (HB.out.row HX2.out hbg)).mono ?_;rintro e w3 ⟨_,rfl,⟨ns,hG2,hA2,-⟩,hpn,hbb⟩;obtain ⟨hx1,hx2,hx3⟩:=one_len hx;have hxl:=are_len hA2;rw [← hxl] at hx1 hx2;clear hxl;obtain ⟨b2,m2,cur,hv2,hcl2⟩:=hG2.rows (by omega);subst hv2;clear hp;have hp:=hpn;clear hpn;have HGo:=HG;have HBo:=HB;replace HG:=hid (HG.out.keep hbb (by omega));replace HB:=kb HB hbb;replace HX:=hid (by have h:=HX.out;rw [hx,then_ok] at h;exact h);have hsz:=hbb.size;have HH:=hid (Grows.apart HBo.out.size HGo.out hG2);have HA2:=hid hA2;clear hx hbb HGo HBo hA2;have hown:=HG.out.own;have hwB:=HB.out.size;go_wp2_with (at_builtin;refine wpList_append_own_at _ rfl _ _ 25 rfl w.heap.size 27 i0 (.agg #[.int .i64 0,.string ⟨#[]⟩,.int .i64 0,.int .i64 0,.slice none 0 0]) 5 64 Tryz.underlying25 hi iz0 iz1 iz2 rfl (by decide) _ _ _ rfl hown ⟨b2,0,none⟩ ns.length m2 (nmCells ns) rfl (nmCells_len ns) hcl2 (nmCells_one ns) ?c1 ?c2 ?c3 ?_)
     case c1=>unfold maxLen;omega
     case c2=>omega
     case c3=>omega
     intro v' w4 hown' hgrow hnil hat;have hG4:=HG.out.app HH.out hown' (by simp) hgrow hat;have hp4:=hp.grown hown hgrow (by omega);have hB4:=HB.out.grown hown hgrow (Nat.le_refl _);have hl4:=hp4.left;obtain ⟨a4,c4,rfl,-,-⟩:=hG4.shape;have HR:=hid (show LRel en g d 1 sg X f w (.slice a4 (([]:List NM)++ns).length c4) w4 from ⟨f',([]:List NM)++ns,accN++xs,r2,a4,c4,by
      rw [show (([]:List NM)++ns).isEmpty=false by cases ns <;> simp at hx1 ⊢];have h:=HX.out;rw [h];exact then_app3 _ _ _,by omega,rfl,hG4,are_app HA.out HA2.out,hp4,hB4,by rw [List.length_append];omega⟩)
     clear hG4 hp4 hB4 hown hown' hgrow hnil hat HG HH HX hG2 hcl2;go_wp2_with fail;exact ⟨HR.out,by omega⟩
    ·have hpos:0<acc.length:=by omega
     have hposI:(0:Int)<(acc.length:Int):=by omega
     replace HX:=hid (show X=((pEat en [44] r).then fun _ r=>(pOne en f' 1 r d).then fun a r=>(pList en f' 1 sg false r d).then fun b r=>PR.ok (a++b) r).then fun b r=>PR.ok (accN++b) r by
      have:=HX.out;rw [show acc.isEmpty=false by cases acc <;> simp at h0 ⊢] at this;exact this)
     clear h0;go_wp2_with fail;refine (HS1.out _ hp).mono ?_;rintro e w1 ⟨rfl,hbb⟩;replace hp:=hp.keep hbb;replace hbb:=ButAt.of_below (g:=g) hbb;replace HG:=hid (HG.out.keep hbb (by omega));replace HB:=kb HB hbb;clear hbb HS1;go_wp2_with fail;cases hx:pEat en [44] r with
     | oof=>exact absurd (by rw [HX.out,hx];rfl) hne
     | bad er p =>
       refine (eat_bad hx hp).mono ?_;rintro e wb ⟨rfl,hbb⟩;go_wp2_with fail;exact ⟨rfl,RetP.of_bad (by have h:=HX.out;rw [hx] at h;exact h) (HB.out.trans hbb)⟩
     | ok t r1 =>
     refine (eat_ok hx hp).mono ?_;rintro e w2 ⟨rfl,hpn,hbb⟩;clear hp;have hp:=hpn;clear hpn;replace HG:=hid (HG.out.keep hbb (by omega));replace HB:=kb HB hbb;clear hbb;replace HX:=hid (by have h:=HX.out;rw [hx,then_ok] at h;exact h);have hLr:r1.length≤leftW wr g:=by obtain ⟨_,h⟩:=take_is hx;rw [hLf,h];simp
     replace hle:acc.length+2 * r1.length≤200000:=by omega
     clear hx hLf;go_wp2_with fail;cases hx:pOne en f' 1 r1 d with
     | oof=>exact absurd (by rw [HX.out,hx];rfl) hne
     | bad er p =>
       refine ((HI.out f' (by omega) r1).bad hx hp hbg (HB.out.row HX2.out hbg)).mono ?_;rintro e wb ⟨rfl,hbb⟩;go_wp2_with fail;exact ⟨rfl,RetP.of_bad (by have h:=HX.out;rw [hx] at h;exact h) (HB.out.trans hbb)⟩
     | ok xs r2 =>
     refine ((HI.out f' (by omega) r1).ok hx hp hbg (HB.out.row HX2.out hbg)).mono ?_;rintro e w3 ⟨_,rfl,⟨ns,hG2,hA2,-⟩,hpn,hbb⟩;obtain ⟨hx1,hx2,hx3⟩:=one_len hx;have hxl:=are_len hA2;rw [← hxl] at hx1 hx2;clear hxl;obtain ⟨b2,m2,cur,hv2,hcl2⟩:=hG2.rows (by omega);subst hv2;clear hp;have hp:=hpn;clear hpn;have HGo:=HG;have HBo:=HB;replace HG:=hid (HG.out.keep hbb (by omega));replace HB:=kb HB hbb;replace HX:=hid (by have h:=HX.out;rw [hx,then_ok] at h;exact h);have hsz:=hbb.size;have HH:=hid (Grows.apart HBo.out.size HGo.out hG2);have HA2:=hid hA2;clear hx hbb HGo HBo hA2;have hown:=HG.out.own;have hwB:=HB.out.size;go_wp2_with (at_builtin;refine wpList_append_own_at _ rfl _ _ 25 rfl w.heap.size 27 i0 (.agg #[.int .i64 0,.string ⟨#[]⟩,.int .i64 0,.int .i64 0,.slice none 0 0]) 5 64 Tryz.underlying25 hi iz0 iz1 iz2 rfl (by decide) _ _ _ rfl hown ⟨b2,0,none⟩ ns.length m2 (nmCells ns) rfl (nmCells_len ns) hcl2 (nmCells_one ns) ?c1 ?c2 ?c3 ?_)
     case c1=>unfold maxLen;omega
     case c2=>omega
     case c3=>omega
     intro v' w4 hown' hgrow hnil hat;have hG4:=HG.out.app HH.out hown' (by simp) hgrow hat;have hp4:=hp.grown hown hgrow (by omega);have hB4:=HB.out.grown hown hgrow (Nat.le_refl _);have hl4:=hp4.left;obtain ⟨a4,c4,rfl,-,-⟩:=hG4.shape;have HR:=hid (show LRel en g d 1 sg X f w (.slice a4 (acc++ns).length c4) w4 from ⟨f',acc++ns,accN++xs,r2,a4,c4,by
      rw [show (acc++ns).isEmpty=false by cases ns <;> simp at hx1 ⊢];have h:=HX.out;rw [h];exact then_app3 _ _ _,by omega,rfl,hG4,are_app HA.out HA2.out,hp4,hB4,by rw [List.length_append];omega⟩)
     clear hG4 hp4 hB4 hown hown' hgrow hnil hat HG HH HX hG2 hcl2;go_wp2_with fail;exact ⟨HR.out,by omega⟩
set_option maxHeartbeats 4000000 in
theorem list_step2 (f:Nat) (b g:Nat) (en:Pl) (sg:List UInt8) (l:List Tok) (d:Nat) (w:World) (hp:PS w g en l d) (hbg:b≠g) (hbx:w.heap[b]? = some (.cells #[.pointer (some ⟨g,0,none⟩)] 53 (0,0))) (hne:pList en f 2 sg true l d≠.oof)
  (IH:∀ f',f'<f→∀ l,DoesBox 162 b g en l d ListR (pOne en f' 2 l d)) :
  Calls Tryz.prog 105 #[.pointer (some ⟨g,0,none⟩),.string (bs sg),.func (.func 162) #[] #[.pointer (some ⟨b,0,none⟩)]] w (RetP g en d w ListR (pList en f 2 sg true l d)):=by
 obtain ⟨X,hX⟩:∃ X,X=pList en f 2 sg true l d:=⟨_,rfl⟩;rw [← hX] at hne ⊢;have HX:=hid hX;clear hX;have hgl:=hp.lt;obtain ⟨i0,hi,iz0,iz1,iz2⟩:=info_parts node_info;have hln:l.length≤100000:=by obtain ⟨_,_,_,_,_,_,_,h⟩:=hp;exact h
 have HS:=hid (fun W r (hW:PS W g en r d)=>sign_any 0 sg g en r d W hW);have hnot:∀ (x:Bool) (w:World),(Op.unary .not (.bool x)).run Tryz.prog w=.ok (.bool (!x)) w:=fun _ _=>rfl
 have HI:=hid IH;have HX2:=hid hbx;clear hbx;have HP:=hid hp;clear IH hp;go_enter Tryz.func105,Tryz.ntmps105
 go_wp2_with fail;go_loopw [7] (fun out wr=>LRel en g d 2 sg X f w out wr) (fun _ wr=>leftW wr g)
 case atStart =>
  exact ⟨f,[],[],l,none,0,by rw [HX.out];exact (then_app_nil _).symm,Nat.le_refl _,rfl,Grows.nil _ _,are_nil,HP.out,ButAt.refl _ _,by simp;omega⟩
 case round =>
  clear HX HP hln;obtain ⟨f',acc,accN,r,a,cap,hX,hf,rfl,hG,hA,hp,hB,hle⟩:=hrel;have HX:=hid hX;have HG:=hid hG;have HA:=hid hA;have HB:=hid hB;have hLf:=hp.left;cases f' with
  | zero=>rw [pList] at hX;exact absurd hX hne
  | succ f' =>
  rw [pList] at hX;replace HX:=hid hX;clear hX hG hA hB;cases hs:signB r 0 sg with
  | true =>
    replace HX:=hid (by have:=HX.out;rw [hs,if_pos rfl] at this;exact this);have HS1:=hid (fun W hW=>by have:=HS.out W r hW;rw [hs] at this;exact this);clear hs hLf;go_wp2_with fail;refine (HS1.out _ hp).mono ?_;rintro e w1 ⟨rfl,hbb⟩;replace hp:=hp.keep hbb;replace hbb:=ButAt.of_below (g:=g) hbb;replace HG:=hid (HG.out.keep hbb (by omega));replace HB:=kb HB hbb;clear hbb;go_wp2_with fail;go_ret;exact RetP.of_ok HX.out ⟨acc,HG.out,by rw [List.append_nil];exact HA.out,by omega⟩ hp HB.out
  | false =>
    replace HX:=hid (by have:=HX.out;rw [hs,if_neg (by simp)] at this;exact this);have HS1:=hid (fun W hW=>by have:=HS.out W r hW;rw [hs] at this;exact this);clear hs;by_cases h0:acc.length=0
    ·obtain rfl:=List.length_eq_zero_iff.1 h0;replace HX:=hid (show X=((pOne en f' 2 r d).then fun a r=>(pList en f' 2 sg false r d).then fun b r=>PR.ok (a++b) r).then fun b r=>PR.ok (accN++b) r from HX.out);clear h0;go_wp2_with fail;refine (HS1.out _ hp).mono ?_;rintro e w1 ⟨rfl,hbb⟩;replace hp:=hp.keep hbb;replace hbb:=ButAt.of_below (g:=g) hbb;replace HG:=hid (HG.out.keep hbb (by omega));replace HB:=kb HB hbb;clear hbb HS1;go_wp2_with fail;obtain ⟨r1,hr1,hLr⟩:∃ r1,r1=r∧r1.length≤leftW wr g:=⟨r,rfl,by omega⟩;rw [← hr1] at HX hp hle;clear hr1 hLf;cases hx:pOne en f' 2 r1 d with
     | oof=>exact absurd (by rw [HX.out,hx];rfl) hne
     | bad er p =>
       refine ((HI.out f' (by omega) r1).bad hx hp hbg (HB.out.row HX2.out hbg)).mono ?_;rintro e wb ⟨rfl,hbb⟩;go_wp2_with fail;exact ⟨rfl,RetP.of_bad (by have h:=HX.out;rw [hx] at h;exact h) (HB.out.trans hbb)⟩
     | ok xs r2 =>
     refine ((HI.out f' (by omega) r1).ok hx hp hbg (HB.out.row HX2.out hbg)).mono ?_;rintro e w3 ⟨_,rfl,⟨ns,hG2,hA2,-⟩,hpn,hbb⟩;obtain ⟨hx1,hx2,hx3⟩:=one_len hx;have hxl:=are_len hA2;rw [← hxl] at hx1 hx2;clear hxl;obtain ⟨b2,m2,cur,hv2,hcl2⟩:=hG2.rows (by omega);subst hv2;clear hp;have hp:=hpn;clear hpn;have HGo:=HG;have HBo:=HB;replace HG:=hid (HG.out.keep hbb (by omega));replace HB:=kb HB hbb;replace HX:=hid (by have h:=HX.out;rw [hx,then_ok] at h;exact h);have hsz:=hbb.size;have HH:=hid (Grows.apart HBo.out.size HGo.out hG2);have HA2:=hid hA2;clear hx hbb HGo HBo hA2;have hown:=HG.out.own;have hwB:=HB.out.size;go_wp2_with (at_builtin;refine wpList_append_own_at _ rfl _ _ 25 rfl w.heap.size 27 i0 (.agg #[.int .i64 0,.string ⟨#[]⟩,.int .i64 0,.int .i64 0,.slice none 0 0]) 5 64 Tryz.underlying25 hi iz0 iz1 iz2 rfl (by decide) _ _ _ rfl hown ⟨b2,0,none⟩ ns.length m2 (nmCells ns) rfl (nmCells_len ns) hcl2 (nmCells_one ns) ?c1 ?c2 ?c3 ?_)
     case c1=>unfold maxLen;omega
     case c2=>omega
     case c3=>omega
     intro v' w4 hown' hgrow hnil hat;have hG4:=HG.out.app HH.out hown' (by simp) hgrow hat;have hp4:=hp.grown hown hgrow (by omega);have hB4:=HB.out.grown hown hgrow (Nat.le_refl _);have hl4:=hp4.left;obtain ⟨a4,c4,rfl,-,-⟩:=hG4.shape;have HR:=hid (show LRel en g d 2 sg X f w (.slice a4 (([]:List NM)++ns).length c4) w4 from ⟨f',([]:List NM)++ns,accN++xs,r2,a4,c4,by
      rw [show (([]:List NM)++ns).isEmpty=false by cases ns <;> simp at hx1 ⊢];have h:=HX.out;rw [h];exact then_app3 _ _ _,by omega,rfl,hG4,are_app HA.out HA2.out,hp4,hB4,by rw [List.length_append];omega⟩)
     clear hG4 hp4 hB4 hown hown' hgrow hnil hat HG HH HX hG2 hcl2;go_wp2_with fail;exact ⟨HR.out,by omega⟩
    ·have hpos:0<acc.length:=by omega
     have hposI:(0:Int)<(acc.length:Int):=by omega
     replace HX:=hid (show X=((pEat en [44] r).then fun _ r=>(pOne en f' 2 r d).then fun a r=>(pList en f' 2 sg false r d).then fun b r=>PR.ok (a++b) r).then fun b r=>PR.ok (accN++b) r by
      have:=HX.out;rw [show acc.isEmpty=false by cases acc <;> simp at h0 ⊢] at this;exact this)
     clear h0;go_wp2_with fail;refine (HS1.out _ hp).mono ?_;rintro e w1 ⟨rfl,hbb⟩;replace hp:=hp.keep hbb;replace hbb:=ButAt.of_below (g:=g) hbb;replace HG:=hid (HG.out.keep hbb (by omega));replace HB:=kb HB hbb;clear hbb HS1;go_wp2_with fail;cases hx:pEat en [44] r with
     | oof=>exact absurd (by rw [HX.out,hx];rfl) hne
     | bad er p =>
       refine (eat_bad hx hp).mono ?_;rintro e wb ⟨rfl,hbb⟩;go_wp2_with fail;exact ⟨rfl,RetP.of_bad (by have h:=HX.out;rw [hx] at h;exact h) (HB.out.trans hbb)⟩
     | ok t r1 =>
     refine (eat_ok hx hp).mono ?_;rintro e w2 ⟨rfl,hpn,hbb⟩;clear hp;have hp:=hpn;clear hpn;replace HG:=hid (HG.out.keep hbb (by omega));replace HB:=kb HB hbb;clear hbb;replace HX:=hid (by have h:=HX.out;rw [hx,then_ok] at h;exact h);have hLr:r1.length≤leftW wr g:=by obtain ⟨_,h⟩:=take_is hx;rw [hLf,h];simp
     replace hle:acc.length+2 * r1.length≤200000:=by omega
     clear hx hLf;go_wp2_with fail;cases hx:pOne en f' 2 r1 d with
     | oof=>exact absurd (by rw [HX.out,hx];rfl) hne
     | bad er p =>
       refine ((HI.out f' (by omega) r1).bad hx hp hbg (HB.out.row HX2.out hbg)).mono ?_;rintro e wb ⟨rfl,hbb⟩;go_wp2_with fail;exact ⟨rfl,RetP.of_bad (by have h:=HX.out;rw [hx] at h;exact h) (HB.out.trans hbb)⟩
     | ok xs r2 =>
     refine ((HI.out f' (by omega) r1).ok hx hp hbg (HB.out.row HX2.out hbg)).mono ?_;rintro e w3 ⟨_,rfl,⟨ns,hG2,hA2,-⟩,hpn,hbb⟩;obtain ⟨hx1,hx2,hx3⟩:=one_len hx;have hxl:=are_len hA2;rw [← hxl] at hx1 hx2;clear hxl;obtain ⟨b2,m2,cur,hv2,hcl2⟩:=hG2.rows (by omega);subst hv2;clear hp;have hp:=hpn;clear hpn;have HGo:=HG;have HBo:=HB;replace HG:=hid (HG.out.keep hbb (by omega));replace HB:=kb HB hbb;replace HX:=hid (by have h:=HX.out;rw [hx,then_ok] at h;exact h);have hsz:=hbb.size;have HH:=hid (Grows.apart HBo.out.size HGo.out hG2);have HA2:=hid hA2;clear hx hbb HGo HBo hA2;have hown:=HG.out.own;have hwB:=HB.out.size;go_wp2_with (at_builtin;refine wpList_append_own_at _ rfl _ _ 25 rfl w.heap.size 27 i0 (.agg #[.int .i64 0,.string ⟨#[]⟩,.int .i64 0,.int .i64 0,.slice none 0 0]) 5 64 Tryz.underlying25 hi iz0 iz1 iz2 rfl (by decide) _ _ _ rfl hown ⟨b2,0,none⟩ ns.length m2 (nmCells ns) rfl (nmCells_len ns) hcl2 (nmCells_one ns) ?c1 ?c2 ?c3 ?_)
     case c1=>unfold maxLen;omega
     case c2=>omega
     case c3=>omega
     intro v' w4 hown' hgrow hnil hat;have hG4:=HG.out.app HH.out hown' (by simp) hgrow hat;have hp4:=hp.grown hown hgrow (by omega);have hB4:=HB.out.grown hown hgrow (Nat.le_refl _);have hl4:=hp4.left;obtain ⟨a4,c4,rfl,-,-⟩:=hG4.shape;have HR:=hid (show LRel en g d 2 sg X f w (.slice a4 (acc++ns).length c4) w4 from ⟨f',acc++ns,accN++xs,r2,a4,c4,by
      rw [show (acc++ns).isEmpty=false by cases ns <;> simp at hx1 ⊢];have h:=HX.out;rw [h];exact then_app3 _ _ _,by omega,rfl,hG4,are_app HA.out HA2.out,hp4,hB4,by rw [List.length_append];omega⟩)
     clear hG4 hp4 hB4 hown hown' hgrow hnil hat HG HH HX hG2 hcl2;go_wp2_with fail;exact ⟨HR.out,by omega⟩
set_option maxHeartbeats 4000000 in
theorem list_step3 (f:Nat) (g:Nat) (en:Pl) (sg:List UInt8) (l:List Tok) (d:Nat) (w:World) (hp:PS w g en l d) (hne:pList en f 3 sg true l d≠.oof)
  (IH:∀ f',f'<f→∀ l,Does 163 #[.pointer (some ⟨g,0,none⟩)] g en l d ListR (pOne en f' 3 l d)) :
  Calls Tryz.prog 105 #[.pointer (some ⟨g,0,none⟩),.string (bs sg),.func (.func 163) #[.pointer (some ⟨g,0,none⟩)] #[]] w (RetP g en d w ListR (pList en f 3 sg true l d)):=by
 obtain ⟨X,hX⟩:∃ X,X=pList en f 3 sg true l d:=⟨_,rfl⟩;rw [← hX] at hne ⊢;have HX:=hid hX;clear hX;have hgl:=hp.lt;obtain ⟨i0,hi,iz0,iz1,iz2⟩:=info_parts node_info;have hln:l.length≤100000:=by obtain ⟨_,_,_,_,_,_,_,h⟩:=hp;exact h
 have HS:=hid (fun W r (hW:PS W g en r d)=>sign_any 0 sg g en r d W hW);have hnot:∀ (x:Bool) (w:World),(Op.unary .not (.bool x)).run Tryz.prog w=.ok (.bool (!x)) w:=fun _ _=>rfl
 have HI:=hid IH
 skip
 have HP:=hid hp;clear IH hp;go_enter Tryz.func105,Tryz.ntmps105
 go_wp2_with fail;go_loopw [7] (fun out wr=>LRel en g d 3 sg X f w out wr) (fun _ wr=>leftW wr g)
 case atStart =>
  exact ⟨f,[],[],l,none,0,by rw [HX.out];exact (then_app_nil _).symm,Nat.le_refl _,rfl,Grows.nil _ _,are_nil,HP.out,ButAt.refl _ _,by simp;omega⟩
 case round =>
  clear HX HP hln;obtain ⟨f',acc,accN,r,a,cap,hX,hf,rfl,hG,hA,hp,hB,hle⟩:=hrel;have HX:=hid hX;have HG:=hid hG;have HA:=hid hA;have HB:=hid hB;have hLf:=hp.left;cases f' with
  | zero=>rw [pList] at hX;exact absurd hX hne
  | succ f' =>
  rw [pList] at hX;replace HX:=hid hX;clear hX hG hA hB;cases hs:signB r 0 sg with
  | true =>
    replace HX:=hid (by have:=HX.out;rw [hs,if_pos rfl] at this;exact this);have HS1:=hid (fun W hW=>by have:=HS.out W r hW;rw [hs] at this;exact this);clear hs hLf;go_wp2_with fail;refine (HS1.out _ hp).mono ?_;rintro e w1 ⟨rfl,hbb⟩;replace hp:=hp.keep hbb;replace hbb:=ButAt.of_below (g:=g) hbb;replace HG:=hid (HG.out.keep hbb (by omega));replace HB:=kb HB hbb;clear hbb;go_wp2_with fail;go_ret;exact RetP.of_ok HX.out ⟨acc,HG.out,by rw [List.append_nil];exact HA.out,by omega⟩ hp HB.out
  | false =>
    replace HX:=hid (by have:=HX.out;rw [hs,if_neg (by simp)] at this;exact this);have HS1:=hid (fun W hW=>by have:=HS.out W r hW;rw [hs] at this;exact this);clear hs;by_cases h0:acc.length=0
    ·obtain rfl:=List.length_eq_zero_iff.1 h0;replace HX:=hid (show X=((pOne en f' 3 r d).then fun a r=>(pList en f' 3 sg false r d).then fun b r=>PR.ok (a++b) r).then fun b r=>PR.ok (accN++b) r from HX.out);clear h0;go_wp2_with fail;refine (HS1.out _ hp).mono ?_;rintro e w1 ⟨rfl,hbb⟩;replace hp:=hp.keep hbb;replace hbb:=ButAt.of_below (g:=g) hbb;replace HG:=hid (HG.out.keep hbb (by omega));replace HB:=kb HB hbb;clear hbb HS1;go_wp2_with fail;obtain ⟨r1,hr1,hLr⟩:∃ r1,r1=r∧r1.length≤leftW wr g:=⟨r,rfl,by omega⟩;rw [← hr1] at HX hp hle;clear hr1 hLf;cases hx:pOne en f' 3 r1 d with
     | oof=>exact absurd (by rw [HX.out,hx];rfl) hne
     | bad er p =>
       refine ((HI.out f' (by omega) r1).bad hx hp).mono ?_;rintro e wb ⟨rfl,hbb⟩;go_wp2_with fail;exact ⟨rfl,RetP.of_bad (by have h:=HX.out;rw [hx] at h;exact h) (HB.out.trans hbb)⟩
     | ok xs r2 =>
     refine ((HI.out f' (by omega) r1).ok hx hp).mono ?_;rintro e w3 ⟨_,rfl,⟨ns,hG2,hA2,-⟩,hpn,hbb⟩;obtain ⟨hx1,hx2,hx3⟩:=one_len hx;have hxl:=are_len hA2;rw [← hxl] at hx1 hx2;clear hxl;obtain ⟨b2,m2,cur,hv2,hcl2⟩:=hG2.rows (by omega);subst hv2;clear hp;have hp:=hpn;clear hpn;have HGo:=HG;have HBo:=HB;replace HG:=hid (HG.out.keep hbb (by omega));replace HB:=kb HB hbb;replace HX:=hid (by have h:=HX.out;rw [hx,then_ok] at h;exact h);have hsz:=hbb.size;have HH:=hid (Grows.apart HBo.out.size HGo.out hG2);have HA2:=hid hA2;clear hx hbb HGo HBo hA2;have hown:=HG.out.own;have hwB:=HB.out.size;go_wp2_with (at_builtin;refine wpList_append_own_at _ rfl _ _ 25 rfl w.heap.size 27 i0 (.agg #[.int .i64 0,.string ⟨#[]⟩,.int .i64 0,.int .i64 0,.slice none 0 0]) 5 64 Tryz.underlying25 hi iz0 iz1 iz2 rfl (by decide) _ _ _ rfl hown ⟨b2,0,none⟩ ns.length m2 (nmCells ns) rfl (nmCells_len ns) hcl2 (nmCells_one ns) ?c1 ?c2 ?c3 ?_)
     case c1=>unfold maxLen;omega
     case c2=>omega
     case c3=>omega
     intro v' w4 hown' hgrow hnil hat;have hG4:=HG.out.app HH.out hown' (by simp) hgrow hat;have hp4:=hp.grown hown hgrow (by omega);have hB4:=HB.out.grown hown hgrow (Nat.le_refl _);have hl4:=hp4.left;obtain ⟨a4,c4,rfl,-,-⟩:=hG4.shape;have HR:=hid (show LRel en g d 3 sg X f w (.slice a4 (([]:List NM)++ns).length c4) w4 from ⟨f',([]:List NM)++ns,accN++xs,r2,a4,c4,by
      rw [show (([]:List NM)++ns).isEmpty=false by cases ns <;> simp at hx1 ⊢];have h:=HX.out;rw [h];exact then_app3 _ _ _,by omega,rfl,hG4,are_app HA.out HA2.out,hp4,hB4,by rw [List.length_append];omega⟩)
     clear hG4 hp4 hB4 hown hown' hgrow hnil hat HG HH HX hG2 hcl2;go_wp2_with fail;exact ⟨HR.out,by omega⟩
    ·have hpos:0<acc.length:=by omega
     have hposI:(0:Int)<(acc.length:Int):=by omega
     replace HX:=hid (show X=((pEat en [44] r).then fun _ r=>(pOne en f' 3 r d).then fun a r=>(pList en f' 3 sg false r d).then fun b r=>PR.ok (a++b) r).then fun b r=>PR.ok (accN++b) r by
      have:=HX.out;rw [show acc.isEmpty=false by cases acc <;> simp at h0 ⊢] at this;exact this)
     clear h0;go_wp2_with fail;refine (HS1.out _ hp).mono ?_;rintro e w1 ⟨rfl,hbb⟩;replace hp:=hp.keep hbb;replace hbb:=ButAt.of_below (g:=g) hbb;replace HG:=hid (HG.out.keep hbb (by omega));replace HB:=kb HB hbb;clear hbb HS1;go_wp2_with fail;cases hx:pEat en [44] r with
     | oof=>exact absurd (by rw [HX.out,hx];rfl) hne
     | bad er p =>
       refine (eat_bad hx hp).mono ?_;rintro e wb ⟨rfl,hbb⟩;go_wp2_with fail;exact ⟨rfl,RetP.of_bad (by have h:=HX.out;rw [hx] at h;exact h) (HB.out.trans hbb)⟩
     | ok t r1 =>
     refine (eat_ok hx hp).mono ?_;rintro e w2 ⟨rfl,hpn,hbb⟩;clear hp;have hp:=hpn;clear hpn;replace HG:=hid (HG.out.keep hbb (by omega));replace HB:=kb HB hbb;clear hbb;replace HX:=hid (by have h:=HX.out;rw [hx,then_ok] at h;exact h);have hLr:r1.length≤leftW wr g:=by obtain ⟨_,h⟩:=take_is hx;rw [hLf,h];simp
     replace hle:acc.length+2 * r1.length≤200000:=by omega
     clear hx hLf;go_wp2_with fail;cases hx:pOne en f' 3 r1 d with
     | oof=>exact absurd (by rw [HX.out,hx];rfl) hne
     | bad er p =>
       refine ((HI.out f' (by omega) r1).bad hx hp).mono ?_;rintro e wb ⟨rfl,hbb⟩;go_wp2_with fail;exact ⟨rfl,RetP.of_bad (by have h:=HX.out;rw [hx] at h;exact h) (HB.out.trans hbb)⟩
     | ok xs r2 =>
     refine ((HI.out f' (by omega) r1).ok hx hp).mono ?_;rintro e w3 ⟨_,rfl,⟨ns,hG2,hA2,-⟩,hpn,hbb⟩;obtain ⟨hx1,hx2,hx3⟩:=one_len hx;have hxl:=are_len hA2;rw [← hxl] at hx1 hx2;clear hxl;obtain ⟨b2,m2,cur,hv2,hcl2⟩:=hG2.rows (by omega);subst hv2;clear hp;have hp:=hpn;clear hpn;have HGo:=HG;have HBo:=HB;replace HG:=hid (HG.out.keep hbb (by omega));replace HB:=kb HB hbb;replace HX:=hid (by have h:=HX.out;rw [hx,then_ok] at h;exact h);have hsz:=hbb.size;have HH:=hid (Grows.apart HBo.out.size HGo.out hG2);have HA2:=hid hA2;clear hx hbb HGo HBo hA2;have hown:=HG.out.own;have hwB:=HB.out.size;go_wp2_with (at_builtin;refine wpList_append_own_at _ rfl _ _ 25 rfl w.heap.size 27 i0 (.agg #[.int .i64 0,.string ⟨#[]⟩,.int .i64 0,.int .i64 0,.slice none 0 0]) 5 64 Tryz.underlying25 hi iz0 iz1 iz2 rfl (by decide) _ _ _ rfl hown ⟨b2,0,none⟩ ns.length m2 (nmCells ns) rfl (nmCells_len ns) hcl2 (nmCells_one ns) ?c1 ?c2 ?c3 ?_)
     case c1=>unfold maxLen;omega
     case c2=>omega
     case c3=>omega
     intro v' w4 hown' hgrow hnil hat;have hG4:=HG.out.app HH.out hown' (by simp) hgrow hat;have hp4:=hp.grown hown hgrow (by omega);have hB4:=HB.out.grown hown hgrow (Nat.le_refl _);have hl4:=hp4.left;obtain ⟨a4,c4,rfl,-,-⟩:=hG4.shape;have HR:=hid (show LRel en g d 3 sg X f w (.slice a4 (acc++ns).length c4) w4 from ⟨f',acc++ns,accN++xs,r2,a4,c4,by
      rw [show (acc++ns).isEmpty=false by cases ns <;> simp at hx1 ⊢];have h:=HX.out;rw [h];exact then_app3 _ _ _,by omega,rfl,hG4,are_app HA.out HA2.out,hp4,hB4,by rw [List.length_append];omega⟩)
     clear hG4 hp4 hB4 hown hown' hgrow hnil hat HG HH HX hG2 hcl2;go_wp2_with fail;exact ⟨HR.out,by omega⟩
end Go.Proofs.YtfgiihpopngbkaaGreatDoor
