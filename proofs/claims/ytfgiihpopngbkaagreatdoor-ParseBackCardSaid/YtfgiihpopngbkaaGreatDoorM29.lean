/- Lemmas and walks that the statement needs: RefSame, ParseApp, ParseApp2, ParseRows, RowsPlain. -/
import Derived.Test.YtfgiihpopngbkaaGreatDoorM27
import Derived.Test.YtfgiihpopngbkaaGreatDoorM01
import Derived.Test.YtfgiihpopngbkaaGreatDoorM06
import Derived.Test.YtfgiihpopngbkaaGreatDoorM05
import Derived.Test.YtfgiihpopngbkaaGreatDoorM04
namespace Go.Proofs.YtfgiihpopngbkaaGreatDoor
set_option maxRecDepth 100000
open Go.RowKit
open Nat renaming lt_of_lt_of_le→nL,le_trans→nT
def RefSameC (N:Nat):Prop:=∀ (k:Int) (t:List UInt8) (l c:Int) (ks:List NM) (a:Option Addr) (m:Nat) (k':Int) (t':List UInt8) (l' c':Int) (ks':List NM) (a':Option Addr) (m':Nat),(NM.mk k t l c ks a m).hi≤N→∀ w,HeldN AnyB w (.mk k t l c ks a m)→HeldN AnyB w (.mk k' t' l' c' ks' a' m') →
    Calls Tryz.prog 10 #[nodeV k t l c (.slice a ks.length m),nodeV k' t' l' c' (.slice a' ks'.length m')] w fun e w'=>e=.returned (.bool (sameN (NM.mk k t l c ks a m).tr (NM.mk k' t' l' c' ks' a' m').tr))∧Below w.heap.size w w'
set_option maxHeartbeats 2000000 in
theorem refsame_step (N:Nat) (IH:RefSameC N):RefSameC (N+1):=by
 intro k t l c ks a m k' t' l' c' ks' a' m' hN w hH hH';have hl:=hH.kidsAt;have hl':=hH'.kidsAt;rw [hi_mk] at hN;have HC:=hid (fun j (hj:j<ks.length) (hj':j<ks'.length) W (hW:Below w.heap.size w W)=>show Calls Tryz.prog 10 #[nodeV ks[j].k ks[j].t ks[j].l ks[j].c ks[j].sl,nodeV ks'[j].k ks'[j].t ks'[j].l ks'[j].c ks'[j].sl] W (fun e w'=>e=.returned (.bool (sameN ks[j].tr ks'[j].tr))∧Below W.heap.size W w') by
  have h1:=(hl.below hW).get j hj;have h1':=(hl'.below hW).get j hj';have h2:=his_get (ks:=ks) (N:=N) (by omega) j hj;generalize ks[j]=x at *;generalize ks'[j]=y at *;cases x with
  | mk p q r s u v z =>
  cases y with
  | mk p' q' r' s' u' v' z'=>exact IH p q r s u v z p' q' r' s' u' v' z' h2 W h1 h1')
 have HS:=hid (fun W (hW:Below w.heap.size w W)=>hl.below hW);have HS':=hid (fun W (hW:Below w.heap.size w W)=>hl'.below hW);have hln:ks.length≤m∧m≤maxLen:=by obtain ⟨_,_,e,h1,h2,-⟩:=hl.nodes;simp only [Value.slice.injEq] at e;obtain ⟨-,-,rfl⟩:=e;exact ⟨h1,h2⟩
 have hln':ks'.length≤m'∧m'≤maxLen:=by obtain ⟨_,_,e,h1,h2,-⟩:=hl'.nodes;simp only [Value.slice.injEq] at e;obtain ⟨-,-,rfl⟩:=e;exact ⟨h1,h2⟩
 unfold maxLen at hln hln';obtain ⟨hlc,hlm⟩:=hln;obtain ⟨hlc',hlm'⟩:=hln';have HBA:=hid (boxN_two w k t l c (.slice a ks.length m) (.cells #[.int .i64 k',.string (bs t'),.int .i64 l',.int .i64 c',.slice a' ks'.length m'] 27 (0,0)) 27 (0,0));have HBB:=hid (boxN_next w k' t' l' c' (.slice a' ks'.length m') (.cells #[.int .i64 k,.string (bs t),.int .i64 l,.int .i64 c,.slice a ks.length m] 27 (0,0)) 27 (0,0));have hb2n:=below_new2 w (.cells #[.int .i64 k,.string (bs t),.int .i64 l,.int .i64 c,.slice a ks.length m] 27 (0,0)) (.cells #[.int .i64 k',.string (bs t'),.int .i64 l',.int .i64 c',.slice a' ks'.length m'] 27 (0,0));have hba:=HBA.out;have hbb:=HBB.out;obtain ⟨a0,a1,a2,a3,a4⟩:=hba;obtain ⟨b0,b1,b2,b3,b4⟩:=hbb;have HE:=hid (sameN_mk k t (NM.trs ks) k' t' (NM.trs ks'));rw [ntr_mk,ntr_mk];clear hl hl' hH hH' hN IH;generalize sameN (.mk k t (NM.trs ks)) (.mk k' t' (NM.trs ks'))=bb at *;by_cases hc:k=k'
 case neg =>
  have HF:Hid (bb=false):=hid (by rw [HE.out];rw [decide_eq_false hc];rfl);have q:(k != k')=true:=neT hc;clear hc;go_enter Tryz.func10,Tryz.ntmps10
  go_wp2_with fail;go_ret;exact ⟨by rw [HF.out];rfl,hb2n⟩
 subst hc;by_cases hc:t=t'
 case neg =>
  have HF:Hid (bb=false):=hid (by rw [HE.out];rw [decide_eq_false hc];simp);have q:(t == t')=false:=beq_eq_false_iff_ne.2 hc;have q2:(t != t')=true:=bne_iff_ne.2 hc;clear hc;go_enter Tryz.func10,Tryz.ntmps10
  go_wp2_with fail;go_ret;exact ⟨by rw [HF.out];rfl,hb2n⟩
 subst hc;have HE1:Hid (bb=sameNs (NM.trs ks) (NM.trs ks')):=hid (by rw [HE.out];simp);clear HE;by_cases hc:ks.length=ks'.length
 case neg =>
  have HF:Hid (bb=false):=hid (by rw [HE1.out,sameNs_len hc]);have q:((ks.length:Int) != (ks'.length:Int))=true:=neT (by omega);clear hc;go_enter Tryz.func10,Tryz.ntmps10
  go_wp2_with fail;go_ret;exact ⟨by rw [HF.out];rfl,hb2n⟩
 have hll:=hid hc;have u1:((ks.length:Int) != (ks'.length:Int))=false:=neF (by omega);have hll1:ks.length≤ks'.length:=by omega
 clear hc;go_enter Tryz.func10,Tryz.ntmps10
 go_wp2_with fail;go_loopw [30] (fun i wr=>∃ j:Nat,j≤ks.length∧i=.int .i64 j∧Hid (sameNs (NM.trs (ks.take j)) (NM.trs (ks'.take j))=true)∧Below w.heap.size w wr∧BoxN wr w.heap.size k t l c (.slice a ks.length m)∧BoxN wr (w.heap.size+1) k t l' c' (.slice a' ks'.length m')) (fun i _=>ks.length - (intOf i).toNat)
 case atStart=>exact ⟨0,by omega,rfl,hid (by simp [ntrs_nil,sameNs_nil]),hb2n,HBA.out,HBB.out⟩
 case round =>
  obtain ⟨j,hj,rfl,HA,hbw,hba,hbb⟩:=hrel;have HXA:=hid hba;have HXB:=hid hbb;clear a0 a1 a2 a3 a4 b0 b1 b2 b3 b4;obtain ⟨a0,a1,a2,a3,a4⟩:=hba;obtain ⟨b0,b1,b2,b3,b4⟩:=hbb;by_cases hlt:j<ks.length
  ·have hlt':j<ks'.length:=by omega
   obtain ⟨la2,lc2,hv,-,-,hx⟩:=(HS.out _ hbw).nodes;obtain ⟨lb,lo,rfl,hlb,hcl⟩:=hx j hlt;obtain ⟨rfl,rfl⟩:a=some ⟨lb,lo,none⟩∧m=lc2:=by simpa using hv
   obtain ⟨p0,p1,p2,p3,p4⟩:=hcl j hlt;clear hx hv hcl;obtain ⟨la2',lc2',hv,-,-,hx⟩:=(HS'.out _ hbw).nodes;obtain ⟨lb',lo',rfl,hlb',hcl⟩:=hx j hlt';obtain ⟨rfl,rfl⟩:a'=some ⟨lb',lo',none⟩∧m'=lc2':=by simpa using hv
   obtain ⟨r0,r1,r2,r3,r4⟩:=hcl j hlt';clear hx hv hcl;have HCj:=hid (fun W hW=>HC.out j hlt hlt' W (Below.chain hbw hW));have HBad:=hid (fun h=>sameNs_bad (l:=ks) (l':=ks') j hlt hlt' h);have HNx:=hid (fun h=>sameNs_take (l:=ks) (l':=ks') j hlt hlt' HA.out h);generalize sameN ks[j].tr ks'[j].tr=sb at *;generalize ks[j].k=xk at *;generalize ks[j].t=xt at *;generalize ks[j].l=xl at *;generalize ks[j].c=xc at *;generalize ks[j].sl=xs at *;generalize ks'[j].k=yk at *;generalize ks'[j].t=yt at *;generalize ks'[j].l=yl at *;generalize ks'[j].c=yc at *;generalize ks'[j].sl=ys at *;go_wp2_with fail;refine wp_region_wq (by kernel_rfl) (by kernel_rfl) ?_
   repeat (refine WQ.step (fun K hK=>?_);go_simp;first | (refine hK _ ?_;clear hK K) | (apply Exists.intro;refine ⟨fun W hW=>?_,hK _ ?_⟩;(first | (go_at_call 10;exact Calls.quiet_below hW (HCj.out W hW)) | (first | with_reducible rfl | (have zz0:=Below.keeps hW a0;have zz1:=Below.keeps hW a1;have zz2:=Below.keeps hW a2;have zz3:=Below.keeps hW a3;have zz4:=Below.keeps hW a4;have zz5:=Below.keeps hW b0;have zz6:=Below.keeps hW b1;have zz7:=Below.keeps hW b2;have zz8:=Below.keeps hW b3;have zz9:=Below.keeps hW b4;have zz10:=Below.keeps hW p0;have zz11:=Below.keeps hW p1;have zz12:=Below.keeps hW p2;have zz13:=Below.keeps hW p3;have zz14:=Below.keeps hW p4;have zz15:=Below.keeps hW r0;have zz16:=Below.keeps hW r1;have zz17:=Below.keeps hW r2;have zz18:=Below.keeps hW r3;have zz19:=Below.keeps hW r4;go_simp;first | rfl | exact ⟨rfl,rfl⟩ | (rw [if_neg (by omega)];exact ⟨rfl,rfl⟩))));clear hK K))
   refine WQ.nil ?_;intro wq hwq;have hbq:=Below.chain hbw hwq;have hxa:=HXA.out.keeps hwq;have hxb:=HXB.out.keeps hwq;cases sb with
   | true =>
     have HN:=hid (HNx.out rfl);go_wp2_with fail;exact ⟨⟨j+1,by omega,by go_num,HN,hbq,hxa,hxb⟩,by simp [intOf];omega⟩
   | false =>
     have HF:Hid (bb=false):=hid (by rw [HE1.out];exact HBad.out rfl);go_wp2_with fail;go_ret;exact ⟨by rw [HF.out];rfl,hbq⟩
  ·obtain rfl:j=ks.length:=by omega
   have HF:Hid (bb=true):=hid (by rw [HE1.out];have:=HA.out;rwa [List.take_length,hll.out,List.take_length] at this);go_wp2_with fail;go_ret;exact ⟨by rw [HF.out];rfl,hbw⟩
theorem refsame_all:∀ N,RefSameC N
 | 0=>by
   intro k t l c ks a m k' t' l' c' ks' a' m' hN;rw [hi_mk] at hN;omega
 | N+1=>refsame_step N (refsame_all N)
theorem refsame_any (k:Int) (t:List UInt8) (l c:Int) (ks:List NM) (a:Option Addr) (m:Nat) (k':Int) (t':List UInt8) (l' c':Int) (ks':List NM) (a':Option Addr) (m':Nat) (w:World) (h:HeldN AnyB w (.mk k t l c ks a m)) (h':HeldN AnyB w (.mk k' t' l' c' ks' a' m')) :
  Calls Tryz.prog 10 #[nodeV k t l c (.slice a ks.length m),nodeV k' t' l' c' (.slice a' ks'.length m')] w fun e w'=>e=.returned (.bool (sameN (NM.mk k t l c ks a m).tr (NM.mk k' t' l' c' ks' a' m').tr))∧Below w.heap.size w w' :=
 refsame_all _ k t l c ks a m k' t' l' c' ks' a' m' (Nat.le_refl _) w h h'
def Gone {α:Type}:PR α→Prop
 | .ok _ r=>r=[]
 | _=>True
theorem Gone.then {α β:Type} {x:PR α} {k:α→List Tok→PR β} (h:Gone x) (hk:∀ a,Gone (k a [])):Gone (x.then k):=by
 cases x with
 | oof=>trivial
 | bad e p=>trivial
 | ok a r=>have:r=[]:=h;subst this;exact hk a
theorem sign_nil (n:Nat) (s:List UInt8):signB [] n s=false:=rfl
theorem word_nil (s:List UInt8):wordB [] s=false:=rfl
theorem name_nil:nameB []=false:=rfl
theorem kind_nil {k:Nat} (h:k≠0):kindB [] k=false:=by unfold kindB atT zeroT;simp;exact fun e=>h e.symm
theorem take_gone (en:Pl) (is:Bool):Gone (pTake en is []):=by cases is <;> trivial
theorem eat_gone (en:Pl) (s:List UInt8):Gone (pEat en s []):=take_gone en _
theorem open_gone (en:Pl) (is:Bool) (d:Nat):Gone (pOpen en is d []):=by unfold pOpen;split <;> first | trivial | exact take_gone en is
structure ExprN (en:Pl) (f:Nat):Prop where
 prim:∀ d,Gone (pPrim en f [] d)
 sumGo:∀ x d,Gone (pSumGo en f x [] d)
 sum:∀ d,Gone (pSum en f [] d)
 expr:∀ d,Gone (pExpr en f [] d)
 call:∀ d,Gone (pCall en f [] d)
 one:∀ k d,Gone (pOne en f k [] d)
 list:∀ k up first d,Gone (pList en f k up first [] d)
theorem expr_gone (en:Pl):∀ f,ExprN en f
 | 0=>⟨fun _=>by rw [pPrim];trivial,fun _ _=>by rw [pSumGo];trivial,fun _=>by rw [pSum];trivial,fun _=>by rw [pExpr];trivial,fun _=>by rw [pCall];trivial,fun _ _=>by rw [pOne];trivial,fun _ _ _ _=>by rw [pList];trivial⟩
 | f+1=>by
   have ih:=expr_gone en f;refine ⟨?_,?_,?_,?_,?_,?_,?_⟩
   ·intro d;rw [pPrim];simp only [kind_nil (show 3≠0 by decide),kind_nil (show 2≠0 by decide),name_nil,word_nil,sign_nil,Bool.false_and,Bool.false_eq_true,if_false];exact (open_gone en _ d).then fun _=>(ih.expr _).then fun _=>(eat_gone en _).then fun _=>rfl
   ·intro x d;rw [pSumGo];simp only [sign_nil,Bool.false_eq_true,if_false];rfl
   ·intro d;rw [pSum];exact (ih.prim d).then fun _=>ih.sumGo _ _
   ·intro d;rw [pExpr];refine (ih.sum d).then fun _=>?_
    simp only [sign_nil,word_nil,Bool.or_self,Bool.false_eq_true,if_false];rfl
   ·intro d;rw [pCall];exact (take_gone en _).then fun _=>(open_gone en _ d).then fun _=>(ih.list _ _ _ _).then fun _=>(eat_gone en _).then fun _=>rfl
   ·intro k d;rw [pOne];split
    ·refine (take_gone en _).then fun _=>(eat_gone en _).then fun _=>(take_gone en _).then fun _=>?_
     simp only [sign_nil,Bool.false_eq_true,if_false];rfl
    split
    ·simp only [name_nil,Bool.false_and,Bool.false_eq_true,if_false];exact (ih.expr d).then fun _=>rfl
    split
    ·exact (ih.expr d).then fun _=>rfl
    ·exact (take_gone en _).then fun _=>(eat_gone en _).then fun _=>(ih.expr d).then fun _=>rfl
   ·intro k up first d
    rw [pList];split
    ·rfl
    ·have hc:Gone (if first=true then PR.ok (zeroT en) [] else pEat en [44] []):=by
      split
      ·rfl
      ·exact eat_gone en _
     exact hc.then fun _=>(ih.one _ _).then fun _=>(ih.list _ _ _ _).then fun _=>rfl
structure StmtN (en:Pl) (f:Nat):Prop where
 block:∀ d,Gone (pBlock en f [] d)
 stmt:∀ d,Gone (pStmt en f [] d)
 stmts:∀ up d,Gone (pStmts en f up [] d)
theorem stmt_gone (en:Pl):∀ f,StmtN en f
 | 0=>⟨fun _=>by rw [pBlock];trivial,fun _=>by rw [pStmt];trivial,fun _ _=>by rw [pStmts];trivial⟩
 | f+1=>by
   have ih:=stmt_gone en f;have ie:=expr_gone en f;refine ⟨?_,?_,?_⟩
   ·intro d;rw [pBlock];exact (open_gone en _ d).then fun _=>(ih.stmts _ _).then fun _=>(eat_gone en _).then fun _=>rfl
   ·intro d;rw [pStmt];simp only [word_nil,name_nil,Bool.false_and,Bool.false_eq_true,if_false];exact (take_gone en _).then fun _=>(eat_gone en _).then fun _=>(ie.expr d).then fun _=>(eat_gone en _).then fun _=>rfl
   ·intro up d;rw [pStmts];simp only [true_or,if_true];rfl
end Go.Proofs.YtfgiihpopngbkaaGreatDoor
namespace Go.Proofs.YtfgiihpopngbkaaGreatDoor
open Go.RowKit
open Nat renaming lt_of_lt_of_le→nL,le_trans→nT
theorem RelL.refl (R:Pl→Pl→Prop) (h:∀ p,R p p):∀ l:List Tok,RelL R l l
 | []=>.nil
 | (_,_,p)::l=>.cons (h p) (RelL.refl R h l)
theorem RelL.len {R:Pl→Pl→Prop} {l l':List Tok} (h:RelL R l l'):l.length=l'.length:=by
 induction h with
 | nil=>rfl
 | cons _ _ ih=>simp [ih]
theorem RelR.less {α β:Type} {R:Pl→Pl→Prop} {S:α→β→Prop} {p:Nat→Prop} {x:PR α} {y:PR β} (h:RelR R S x y) (hy:Fine p y):∀ a r,x=.ok a r→p r.length:=by
 rintro a r rfl;cases y with
 | ok b r'=>rw [h.2.len];exact hy
 | bad e q=>exact h.elim
 | oof=>exact h.elim
theorem triv_refl:∀ p:Pl,(fun _ _:Pl=>True) p p:=fun _=>trivial
theorem less_prim (en:Pl) (f:Nat) (l:List Tok) (d:Nat):∀ a r,pPrim en f l d=.ok a r→r.length<l.length :=
 RelR.less ((expr_rel (R:=fun _ _=>True) (en:=en) (en':=en) trivial f (f+(10 * l.length+3)) (by omega)).prim l l d (RelL.refl _ triv_refl l)) ((expr_fine en _).prim l d (by omega))
theorem less_one (en:Pl) (f k:Nat) (l:List Tok) (d:Nat):∀ a r,pOne en f k l d=.ok a r→r.length<l.length :=
 RelR.less ((expr_rel (R:=fun _ _=>True) (en:=en) (en':=en) trivial f (f+(10 * l.length+6)) (by omega)).one k l l d (RelL.refl _ triv_refl l)) ((expr_fine en _).one k l d (by omega))
theorem less_stmt (en:Pl) (f:Nat) (l:List Tok) (d:Nat):∀ a r,pStmt en f l d=.ok a r→r.length<l.length :=
 RelR.less ((stmt_rel (R:=fun _ _=>True) (en:=en) (en':=en) trivial f (f+(10 * l.length+8)) (by omega)).stmt l l d (RelL.refl _ triv_refl l)) ((stmt_fine en _).stmt l d (by omega))
def App {α:Type} (m:List Tok):PR α→PR α→Prop
 | .ok a r,y=>r≠[]→y=.ok a (r++m)
 | _,_=>True
theorem App.of_gone {α:Type} {m:List Tok} {x y:PR α} (h:Gone x):App m x y:=by
 cases x with
 | ok a r=>intro hne;exact absurd h hne
 | bad e p=>trivial
 | oof=>trivial
theorem App.then {α β:Type} {m:List Tok} {x y:PR α} {k k':α→List Tok→PR β} (h:App m x y) (hg:∀ a,Gone (k a [])) (hk:∀ a r,r≠[]→App m (k a r) (k' a (r++m))):App m (x.then k) (y.then k'):=by
 cases x with
 | oof=>trivial
 | bad e p=>trivial
 | ok a r =>
   by_cases hr:r=[]
   ·subst hr;exact App.of_gone (hg a)
   ·rw [h hr];exact hk a r hr
section
variable {m:List Tok}
theorem at_app {l:List Tok} (h:l≠[]) (en en':Pl):atT en' (l++m) 0=atT en l 0:=by
 cases l with
 | nil=>exact absurd rfl h
 | cons t r=>rfl
theorem at_app1 {l:List Tok} (h:1<l.length) (en en':Pl):atT en' (l++m) 1=atT en l 1:=by
 match l,h with
 | t::u::r,_=>rfl
theorem sign_app {l:List Tok} (h:l≠[]) (s:List UInt8):signB (l++m) 0 s=signB l 0 s:=by unfold signB;rw [at_app h]
theorem sign_app1 {l:List Tok} (h:1<l.length) (s:List UInt8):signB (l++m) 1 s=signB l 1 s:=by unfold signB;rw [at_app1 h]
theorem word_app {l:List Tok} (h:l≠[]) (s:List UInt8):wordB (l++m) s=wordB l s:=by unfold wordB;rw [at_app h]
theorem name_app {l:List Tok} (h:l≠[]):nameB (l++m)=nameB l:=by unfold nameB;rw [at_app h]
theorem kind_app {l:List Tok} (h:l≠[]) (k:Nat):kindB (l++m) k=kindB l k:=by unfold kindB;rw [at_app h]
theorem type_app {l:List Tok} (h:l≠[]):typeAt (l++m)=typeAt l:=by unfold typeAt kindB;rw [at_app h]
def Full {α:Type} (m:List Tok):PR α→PR α→Prop
 | .ok a r,y=>y=.ok a (r++m)
 | _,_=>True
theorem Full.app {α:Type} {x y:PR α} (h:Full m x y):App m x y:=by
 cases x with
 | ok a r=>exact fun _=>h
 | bad e p=>trivial
 | oof=>trivial
theorem Full.then {α β:Type} {x y:PR α} {k k':α→List Tok→PR β} (h:Full m x y) (hk:∀ a r,Full m (k a r) (k' a (r++m))):Full m (x.then k) (y.then k'):=by
 cases x with
 | oof=>trivial
 | bad e p=>trivial
 | ok a r=>have:y=.ok a (r++m):=h;rw [this];exact hk a r
theorem take_full (en en':Pl) (is:Bool) (l:List Tok):Full m (pTake en is l) (pTake en' is (l++m)):=by
 unfold pTake;cases is with
 | false=>trivial
 | true=>cases l with
   | nil=>trivial
   | cons t r=>rfl
theorem eat_full (en en':Pl) (s:List UInt8) (l:List Tok):Full m (pEat en s l) (pEat en' s (l++m)):=by
 cases l with
 | nil=>unfold pEat;rw [sign_nil];trivial
 | cons t r=>unfold pEat;rw [sign_app (by simp)];exact take_full en en' _ _
theorem open_full (en en':Pl) (is:Bool) (d:Nat) (l:List Tok):Full m (pOpen en is d l) (pOpen en' is d (l++m)):=by
 unfold pOpen;split
 ·trivial
 ·exact take_full en en' is l
structure ExprA (m:List Tok) (en en':Pl) (f:Nat):Prop where
 prim:∀ l d,l≠[]→App m (pPrim en f l d) (pPrim en' f (l++m) d)
 sumGo:∀ x l d,l≠[]→App m (pSumGo en f x l d) (pSumGo en' f x (l++m) d)
 sum:∀ l d,l≠[]→App m (pSum en f l d) (pSum en' f (l++m) d)
 expr:∀ l d,l≠[]→App m (pExpr en f l d) (pExpr en' f (l++m) d)
 call:∀ l d,l≠[]→App m (pCall en f l d) (pCall en' f (l++m) d)
 one:∀ k l d,l≠[]→App m (pOne en f k l d) (pOne en' f k (l++m) d)
 list:∀ k up first l d,l≠[]→App m (pList en f k up first l d) (pList en' f k up first (l++m) d)
theorem expr_app (en en':Pl):∀ f,ExprA m en en' f
 | 0=>⟨fun _ _ _=>by rw [pPrim];trivial,fun _ _ _ _=>by rw [pSumGo];trivial,fun _ _ _=>by rw [pSum];trivial,fun _ _ _=>by rw [pExpr];trivial,fun _ _ _=>by rw [pCall];trivial,fun _ _ _ _=>by rw [pOne];trivial,fun _ _ _ _ _ _=>by rw [pList];trivial⟩
 | f+1=>by
   have ih:=expr_app en en' f;have g:=expr_gone en f;have done:∀ {x:Nd} {r:List Tok},r≠[]→App m (PR.ok x r) (PR.ok x (r++m)):=fun _ _=>rfl
   have dones:∀ {x:List Nd} {r:List Tok},r≠[]→App m (PR.ok x r) (PR.ok x (r++m)):=fun _ _=>rfl
   refine ⟨?_,?_,?_,?_,?_,?_,?_⟩
   ·intro l d hl;by_cases h1:1<l.length
    ·rw [pPrim,pPrim];simp only [kind_app hl,name_app hl,sign_app hl,sign_app1 h1,word_app hl,at_app hl en en'];split
     ·exact (take_full en en' true l).app.then (fun _=>rfl) fun _ r hr=>done hr
     split
     ·exact (take_full en en' true l).app.then (fun _=>rfl) fun _ r hr=>done hr
     split
     ·exact ih.call l d hl
     split
     ·exact (take_full en en' true l).app.then (fun _=>rfl) fun _ r hr=>done hr
     split
     ·exact (open_full en en' true d l).app.then (fun _=>(g.prim _).then fun _=>rfl) fun _ r hr=>(ih.prim r _ hr).then (fun _=>rfl) fun _ r hr=>done hr
     split
     ·exact (open_full en en' true d l).app.then (fun _=>(g.list _ _ _ _).then fun _=>(eat_gone en _).then fun _=>rfl) fun _ r hr =>
       (ih.list _ _ _ r _ hr).then (fun _=>(eat_gone en _).then fun _=>rfl) fun _ r hr=>(eat_full en en' _ r).app.then (fun _=>rfl) fun _ r hr=>done hr
     split
     ·exact (open_full en en' true d l).app.then (fun _=>(g.list _ _ _ _).then fun _=>(eat_gone en _).then fun _=>rfl) fun _ r hr =>
       (ih.list _ _ _ r _ hr).then (fun _=>(eat_gone en _).then fun _=>rfl) fun _ r hr=>(eat_full en en' _ r).app.then (fun _=>rfl) fun _ r hr=>done hr
     exact (open_full en en' _ d l).app.then (fun _=>(g.expr _).then fun _=>(eat_gone en _).then fun _=>rfl) fun _ r hr =>
       (ih.expr r _ hr).then (fun _=>(eat_gone en _).then fun _=>rfl) fun _ r hr=>(eat_full en en' _ r).app.then (fun _=>rfl) fun _ r hr=>done hr
    ·refine App.of_gone ?_;have hs:=less_prim en (f+1) l d;cases hx:pPrim en (f+1) l d with
     | ok a r=>have:=hs a r hx;exact List.eq_nil_of_length_eq_zero (by omega)
     | bad e p=>trivial
     | oof=>trivial
   ·intro x l d hl;rw [pSumGo,pSumGo];simp only [sign_app hl];split
    ·exact (take_full en en' true l).app.then (fun _=>(g.prim _).then fun _=>g.sumGo _ _) fun _ r hr=>(ih.prim r d hr).then (fun _=>g.sumGo _ _) fun _ r hr=>ih.sumGo _ r d hr
    ·exact done hl
   ·intro l d hl;rw [pSum,pSum];exact (ih.prim l d hl).then (fun _=>g.sumGo _ _) fun _ r hr=>ih.sumGo _ r d hr
   ·intro l d hl;rw [pExpr,pExpr];refine (ih.sum l d hl).then (fun _=>?_) fun _ r hr=>?_
    ·simp only [sign_nil,word_nil,Bool.or_self,Bool.false_eq_true,if_false];rfl
    ·simp only [sign_app hr,word_app hr];split
     ·exact (take_full en en' true r).app.then (fun _=>(g.sum _).then fun _=>rfl) fun _ r hr=>(ih.sum r d hr).then (fun _=>rfl) fun _ r hr=>done hr
     ·exact done hr
   ·intro l d hl;rw [pCall,pCall];simp only [name_app hl];refine (take_full en en' _ l).app.then (fun _=>(open_gone en _ d).then fun _=>(g.list _ _ _ _).then fun _=>(eat_gone en _).then fun _=>rfl) fun _ r hr=>?_
    simp only [sign_app hr];exact (open_full en en' _ d r).app.then (fun _=>(g.list _ _ _ _).then fun _=>(eat_gone en _).then fun _=>rfl) fun _ r hr =>
     (ih.list _ _ _ r _ hr).then (fun _=>(eat_gone en _).then fun _=>rfl) fun _ r hr=>(eat_full en en' _ r).app.then (fun _=>rfl) fun _ r hr=>done hr
   ·intro k l d hl;by_cases h1:1<l.length
    ·rw [pOne,pOne];simp only [kind_app hl,name_app hl,sign_app1 h1,at_app hl en en'];split
     ·refine (take_full en en' _ l).app.then (fun _=>(eat_gone en _).then fun _=>(take_gone en _).then fun _=>by simp only [sign_nil,Bool.false_eq_true,if_false];rfl) fun _ r hr=>?_
      refine (eat_full en en' _ r).app.then (fun _=>(take_gone en _).then fun _=>by simp only [sign_nil,Bool.false_eq_true,if_false];rfl) fun _ r hr=>?_
      simp only [type_app hr];refine (take_full en en' _ r).app.then (fun _=>by simp only [sign_nil,Bool.false_eq_true,if_false];rfl) fun _ r hr=>?_
      simp only [sign_app hr];split
      ·exact (eat_full en en' _ r).app.then (fun _=>(g.expr _).then fun _=>rfl) fun _ r hr=>(ih.expr r d hr).then (fun _=>rfl) fun _ r hr=>dones hr
      ·exact dones hr
     split
     ·split
      ·exact (take_full en en' true l).app.then (fun _=>(eat_gone en _).then fun _=>(g.expr _).then fun _=>rfl) fun _ r hr=>(eat_full en en' _ r).app.then (fun _=>(g.expr _).then fun _=>rfl) fun _ r hr=>(ih.expr r d hr).then (fun _=>rfl) fun _ r hr=>dones hr
      ·exact (ih.expr l d hl).then (fun _=>rfl) fun _ r hr=>dones hr
     split
     ·exact (ih.expr l d hl).then (fun _=>rfl) fun _ r hr=>dones hr
     ·exact (take_full en en' _ l).app.then (fun _=>(eat_gone en _).then fun _=>(g.expr _).then fun _=>rfl) fun _ r hr=>(eat_full en en' _ r).app.then (fun _=>(g.expr _).then fun _=>rfl) fun _ r hr=>(ih.expr r d hr).then (fun _=>rfl) fun _ r hr=>dones hr
    ·refine App.of_gone ?_;have hs:=less_one en (f+1) k l d;cases hx:pOne en (f+1) k l d with
     | ok a r=>have:=hs a r hx;exact List.eq_nil_of_length_eq_zero (by omega)
     | bad e p=>trivial
     | oof=>trivial
   ·intro k up first l d hl
    rw [pList,pList];simp only [sign_app hl];split
    ·exact dones hl
    ·cases first with
     | true =>
       simp only [if_true];exact (ih.one k l d hl).then (fun _=>(g.list _ _ _ _).then fun _=>rfl) fun _ r hr=>(ih.list _ _ _ r d hr).then (fun _=>rfl) fun _ r hr=>dones hr
     | false =>
       simp only [Bool.false_eq_true,if_false];exact (eat_full en en' _ l).app.then (fun _=>(g.one _ _).then fun _=>(g.list _ _ _ _).then fun _=>rfl) fun _ r hr =>
        (ih.one k r d hr).then (fun _=>(g.list _ _ _ _).then fun _=>rfl) fun _ r hr=>(ih.list _ _ _ r d hr).then (fun _=>rfl) fun _ r hr=>dones hr
structure StmtA (m:List Tok) (en en':Pl) (f:Nat):Prop where
 block:∀ l d,l≠[]→App m (pBlock en f l d) (pBlock en' f (l++m) d)
 stmt:∀ l d,l≠[]→App m (pStmt en f l d) (pStmt en' f (l++m) d)
 stmts:∀ up l d,l≠[]→App m (pStmts en f up l d) (pStmts en' f up (l++m) d)
theorem stmt_app (en en':Pl):∀ f,StmtA m en en' f
 | 0=>⟨fun _ _ _=>by rw [pBlock];trivial,fun _ _ _=>by rw [pStmt];trivial,fun _ _ _ _=>by rw [pStmts];trivial⟩
 | f+1=>by
   have ih:=stmt_app en en' f;have ie:=expr_app (m:=m) en en' f;have g:=expr_gone en f;have gs:=stmt_gone en f;have done:∀ {x:Nd} {r:List Tok},r≠[]→App m (PR.ok x r) (PR.ok x (r++m)):=fun _ _=>rfl
   have dones:∀ {x:List Nd} {r:List Tok},r≠[]→App m (PR.ok x r) (PR.ok x (r++m)):=fun _ _=>rfl
   refine ⟨?_,?_,?_⟩
   ·intro l d hl;rw [pBlock,pBlock];simp only [sign_app hl];exact (open_full en en' _ d l).app.then (fun _=>(gs.stmts _ _).then fun _=>(eat_gone en _).then fun _=>rfl) fun _ r hr =>
     (ih.stmts _ r _ hr).then (fun _=>(eat_gone en _).then fun _=>rfl) fun _ r hr=>(eat_full en en' _ r).app.then (fun _=>rfl) fun _ r hr=>done hr
   ·intro l d hl;by_cases h1:1<l.length
    ·rw [pStmt,pStmt];simp only [word_app hl,name_app hl,sign_app1 h1,at_app hl en en'];split
     ·refine (take_full en en' true l).app.then (fun _=>(take_gone en _).then fun _=>(take_gone en _).then fun _=>(g.expr _).then fun _=>(gs.block _).then fun _=>rfl) fun _ r hr=>?_
      simp only [name_app hr];refine (take_full en en' _ r).app.then (fun _=>(take_gone en _).then fun _=>(g.expr _).then fun _=>(gs.block _).then fun _=>rfl) fun _ r hr=>?_
      simp only [word_app hr];exact (take_full en en' _ r).app.then (fun _=>(g.expr _).then fun _=>(gs.block _).then fun _=>rfl) fun _ r hr=>(ie.expr r d hr).then (fun _=>(gs.block _).then fun _=>rfl) fun _ r hr=>(ih.block r d hr).then (fun _=>rfl) fun _ r hr=>done hr
     split
     ·refine (take_full en en' true l).app.then (fun _=>(g.expr _).then fun _=>(gs.block _).then fun _=>by simp only [word_nil,Bool.false_eq_true,if_false];rfl) fun _ r hr=>?_
      refine (ie.expr r d hr).then (fun _=>(gs.block _).then fun _=>by simp only [word_nil,Bool.false_eq_true,if_false];rfl) fun _ r hr=>?_
      refine (ih.block r d hr).then (fun _=>by simp only [word_nil,Bool.false_eq_true,if_false];rfl) fun _ r hr=>?_
      simp only [word_app hr];split
      ·exact (take_full en en' true r).app.then (fun _=>(gs.block _).then fun _=>rfl) fun _ r hr=>(ih.block r d hr).then (fun _=>rfl) fun _ r hr=>done hr
      ·exact done hr
     split
     ·refine (take_full en en' true l).app.then (fun _=>(take_gone en _).then fun _=>(eat_gone en _).then fun _=>(g.list _ _ _ _).then fun _=>(eat_gone en _).then fun _=>(gs.block _).then fun _=>rfl) fun _ r hr=>?_
      simp only [name_app hr];exact (take_full en en' _ r).app.then (fun _=>(eat_gone en _).then fun _=>(g.list _ _ _ _).then fun _=>(eat_gone en _).then fun _=>(gs.block _).then fun _=>rfl) fun _ r hr =>
       (eat_full en en' _ r).app.then (fun _=>(g.list _ _ _ _).then fun _=>(eat_gone en _).then fun _=>(gs.block _).then fun _=>rfl) fun _ r hr =>
       (ie.list _ _ _ r d hr).then (fun _=>(eat_gone en _).then fun _=>(gs.block _).then fun _=>rfl) fun _ r hr =>
       (eat_full en en' _ r).app.then (fun _=>(gs.block _).then fun _=>rfl) fun _ r hr=>(ih.block r d hr).then (fun _=>rfl) fun _ r hr=>done hr
     split
     ·exact (ie.call l d hl).then (fun _=>(eat_gone en _).then fun _=>rfl) fun _ r hr=>(eat_full en en' _ r).app.then (fun _=>rfl) fun _ r hr=>done hr
     ·exact (take_full en en' _ l).app.then (fun _=>(eat_gone en _).then fun _=>(g.expr _).then fun _=>(eat_gone en _).then fun _=>rfl) fun _ r hr =>
       (eat_full en en' _ r).app.then (fun _=>(g.expr _).then fun _=>(eat_gone en _).then fun _=>rfl) fun _ r hr=>(ie.expr r d hr).then (fun _=>(eat_gone en _).then fun _=>rfl) fun _ r hr =>
       (eat_full en en' _ r).app.then (fun _=>rfl) fun _ r hr=>done hr
    ·refine App.of_gone ?_;have hs:=less_stmt en (f+1) l d;cases hx:pStmt en (f+1) l d with
     | ok a r=>have:=hs a r hx;exact List.eq_nil_of_length_eq_zero (by omega)
     | bad e p=>trivial
     | oof=>trivial
   ·intro up l d hl;rw [pStmts,pStmts];have e:(l++m=[]∨(up=true∧signB (l++m) 0 [125]=true))=(l=[]∨(up=true∧signB l 0 [125]=true)):=by
     rw [sign_app hl];apply propext;simp [hl]
    simp only [e];split
    ·exact dones hl
    ·exact (ih.stmt l d hl).then (fun _=>(gs.stmts _ _).then fun _=>rfl) fun _ r hr=>(ih.stmts _ r d hr).then (fun _=>rfl) fun _ r hr=>dones hr
end
end Go.Proofs.YtfgiihpopngbkaaGreatDoor
namespace Go.Proofs.YtfgiihpopngbkaaGreatDoor
open Go.RowKit
open Nat renaming lt_of_lt_of_le→nL,le_trans→nT
def Dead {α:Type}:PR α→Prop
 | .ok _ _=>False
 | _=>True
theorem Dead.then {α β:Type} {x:PR α} {k:α→List Tok→PR β} (h:Dead x):Dead (x.then k):=by
 cases x with
 | ok a r=>exact h.elim
 | bad e p=>trivial
 | oof=>trivial
theorem Gone.dead {α β:Type} {x:PR α} {k:α→List Tok→PR β} (h:Gone x) (hk:∀ a,Dead (k a [])):Dead (x.then k):=by
 cases x with
 | oof=>trivial
 | bad e p=>trivial
 | ok a r=>have:r=[]:=h;subst this;exact hk a
theorem dead_less {α:Type} {x:PR α} (h:∀ a r,x=.ok a r→r.length<([]:List Tok).length):Dead x:=by
 cases x with
 | ok a r=>have:=h a r rfl;simp at this
 | bad e p=>trivial
 | oof=>trivial
theorem eat_dead (en:Pl) (s:List UInt8):Dead (pEat en s []):=by unfold pEat pTake;rw [sign_nil];trivial
theorem name_dead (en:Pl):Dead (pTake en (nameB []) []):=by unfold pTake;rw [name_nil];trivial
theorem expr_dead (en:Pl) (f d:Nat):Dead (pExpr en f [] d) :=
 dead_less (RelR.less ((expr_rel (R:=fun _ _=>True) (en:=en) (en':=en) trivial f (f+5) (by omega)).expr [] [] d .nil) ((expr_fine en _).expr [] d (by simp)))
theorem block_dead (en:Pl) (f d:Nat):Dead (pBlock en f [] d) :=
 dead_less (RelR.less ((stmt_rel (R:=fun _ _=>True) (en:=en) (en':=en) trivial f (f+2) (by omega)).block [] [] d .nil) ((stmt_fine en _).block [] d (by simp)))
theorem Full.of_dead {α:Type} {m:List Tok} {x y:PR α} (h:Dead x):Full m x y:=by
 cases x with
 | ok a r=>exact h.elim
 | bad e p=>trivial
 | oof=>trivial
theorem App.full {α β:Type} {m:List Tok} {x y:PR α} {k k':α→List Tok→PR β} (h:App m x y) (hd:∀ a,Dead (k a [])) (hk:∀ a r,r≠[]→Full m (k a r) (k' a (r++m))):Full m (x.then k) (y.then k'):=by
 cases x with
 | oof=>trivial
 | bad e p=>trivial
 | ok a r =>
   by_cases hr:r=[]
   ·subst hr;exact Full.of_dead (hd a)
   ·rw [h hr];exact hk a r hr
section
variable {m:List Tok}
theorem block_full (en en':Pl):∀ f l d,l≠[]→Full m (pBlock en f l d) (pBlock en' f (l++m) d)
 | 0,_,_,_=>by rw [pBlock];trivial
 | f+1,l,d,hl=>by
   rw [pBlock,pBlock];simp only [sign_app hl];exact (open_full en en' _ d l).app.full (fun _=>((stmt_gone en f).stmts _ _).dead fun _=>(eat_dead en _).then) fun _ r hr =>
    ((stmt_app en en' f).stmts _ r _ hr).full (fun _=>(eat_dead en _).then) fun _ r hr=>(eat_full en en' _ r).then fun _ _=>rfl
theorem one_left {l:List Tok} (hl:l≠[]) (h:¬ 1<l.length):∃ t,l=[t]:=by
 match l,hl,h with
 | [t],_,_=>exact ⟨t,rfl⟩
 | t::u::r,_,h=>exact absurd (by simp) h
theorem take_one (en:Pl) (is:Bool) (t:Tok):Gone (pTake en is [t]):=by cases is <;> first | trivial | rfl
theorem stmt_full (hm:wordB m wElse=false) (en en':Pl):∀ f l d,l≠[]→Full m (pStmt en f l d) (pStmt en' f (l++m) d)
 | 0,_,_,_=>by rw [pStmt];trivial
 | f+1,l,d,hl=>by
   have ih:=stmt_app (m:=m) en en' f;have ie:=expr_app (m:=m) en en' f;have g:=expr_gone en f;have gs:=stmt_gone en f;by_cases h1:1<l.length
   ·rw [pStmt,pStmt];simp only [word_app hl,name_app hl,sign_app1 h1,at_app hl en en'];split
    ·refine (take_full en en' true l).app.full (fun _=>(name_dead en).then) fun _ r hr=>?_
     simp only [name_app hr];refine (take_full en en' _ r).app.full (fun _=>(take_gone en _).dead fun _=>(expr_dead en f d).then) fun _ r hr=>?_
     simp only [word_app hr];exact (take_full en en' _ r).app.full (fun _=>(expr_dead en f d).then) fun _ r hr=>(ie.expr r d hr).full (fun _=>(block_dead en f d).then) fun _ r hr=>(block_full en en' f r d hr).then fun _ _=>rfl
    split
    ·refine (take_full en en' true l).app.full (fun _=>(expr_dead en f d).then) fun _ r hr=>?_
     refine (ie.expr r d hr).full (fun _=>(block_dead en f d).then) fun _ r hr=>?_
     refine (block_full en en' f r d hr).then fun _ r=>?_
     by_cases hr:r=[]
     ·subst hr;simp only [List.nil_append,word_nil,hm,Bool.false_eq_true,if_false];rfl
     ·simp only [word_app hr];split
      ·exact (take_full en en' true r).app.full (fun _=>(block_dead en f d).then) fun _ r hr=>(block_full en en' f r d hr).then fun _ _=>rfl
      ·rfl
    split
    ·refine (take_full en en' true l).app.full (fun _=>(name_dead en).then) fun _ r hr=>?_
     simp only [name_app hr];exact (take_full en en' _ r).app.full (fun _=>(eat_dead en _).then) fun _ r hr =>
      (eat_full en en' _ r).app.full (fun _=>(g.list _ _ _ _).dead fun _=>(eat_dead en _).then) fun _ r hr =>
      (ie.list _ _ _ r d hr).full (fun _=>(eat_dead en _).then) fun _ r hr =>
      (eat_full en en' _ r).app.full (fun _=>(block_dead en f d).then) fun _ r hr=>(block_full en en' f r d hr).then fun _ _=>rfl
    split
    ·exact (ie.call l d hl).full (fun _=>(eat_dead en _).then) fun _ r hr=>(eat_full en en' _ r).then fun _ _=>rfl
    ·exact (take_full en en' _ l).app.full (fun _=>(eat_dead en _).then) fun _ r hr =>
      (eat_full en en' _ r).app.full (fun _=>(expr_dead en f d).then) fun _ r hr=>(ie.expr r d hr).full (fun _=>(eat_dead en _).then) fun _ r hr =>
      (eat_full en en' _ r).then fun _ _=>rfl
   ·obtain ⟨t,rfl⟩:=one_left hl h1;refine Full.of_dead ?_;rw [pStmt];have hs:signB [t] 1 [40]=false:=rfl;split
    ·exact (take_one en true t).dead fun _=>(name_dead en).then
    split
    ·exact (take_one en true t).dead fun _=>(expr_dead en f d).then
    split
    ·exact (take_one en true t).dead fun _=>(name_dead en).then
    split
    ·rename_i h;rw [hs,Bool.and_false] at h;cases h
    ·exact (take_one en _ t).dead fun _=>(eat_dead en _).then
end
end Go.Proofs.YtfgiihpopngbkaaGreatDoor
namespace Go.Proofs.YtfgiihpopngbkaaGreatDoor
set_option maxRecDepth 100000
open Go.RowKit
open Nat renaming lt_of_lt_of_le→nL,le_trans→nT
abbrev Any2:Pl→Pl→Prop:=fun _ _=>True
mutual
theorem rel_tr {R:Pl→Pl→Prop}:∀ {x y:Nd},RelN R x y→x.tr=y.tr
 | .mk k s p a,_,h=>by
   cases h with
   | mk hp ht=>rw [tr_mk,tr_mk,rel_trs ht]
theorem rel_trs {R:Pl→Pl→Prop}:∀ {x y:List Nd},RelNs R x y→Nd.trs x=Nd.trs y
 | [],_,h=>by cases h;rfl
 | x::xs,_,h=>by
   cases h with
   | cons h1 h2=>rw [trs_cons,trs_cons,rel_tr h1,rel_trs h2]
end
mutual
theorem any_tran1:∀ {x y z:Nd},RelN Any2 x y→RelN Any2 y z→RelN Any2 x z
 | .mk k s p a,_,_,h,g=>by
   cases h with
   | mk hp ht =>
   cases g with
   | mk gp gt=>exact .mk trivial (any_trans ht gt)
theorem any_trans:∀ {x y z:List Nd},RelNs Any2 x y→RelNs Any2 y z→RelNs Any2 x z
 | [],_,_,h,g=>by cases h;exact g
 | x::xs,_,_,h,g=>by
   cases h with
   | cons h1 h2 =>
   cases g with
   | cons g1 g2=>exact .cons (any_tran1 h1 g1) (any_trans h2 g2)
end
theorem anyL_trans {x y z:List Tok} (h:RelL Any2 x y) (g:RelL Any2 y z):RelL Any2 x z:=by
 induction h generalizing z with
 | nil=>exact g
 | cons _ _ ih=>cases g with | cons _ g2=>exact .cons trivial (ih g2)
mutual
theorem any_sym1:∀ {x y:Nd},RelN Any2 x y→RelN Any2 y x
 | .mk k s p a,_,h=>by
   cases h with
   | mk hp ht=>exact .mk trivial (any_sym ht)
theorem any_sym:∀ {x y:List Nd},RelNs Any2 x y→RelNs Any2 y x
 | [],_,h=>by cases h;exact .nil
 | x::xs,_,h=>by
   cases h with
   | cons h1 h2=>exact .cons (any_sym1 h1) (any_sym h2)
end
theorem anyL_sym {x y:List Tok} (h:RelL Any2 x y):RelL Any2 y x:=by
 induction h with
 | nil=>exact .nil
 | cons _ _ ih=>exact .cons trivial ih
theorem rel_bare:∀ {l l':List Tok},bare l=bare l'→RelL Any2 l l'
 | [],[],_=>.nil
 | [],_::_,h=>by cases h
 | _::_,[],h=>by cases h
 | (k,s,p)::l,(k',s',p')::l',h=>by
   have h':(k,s)::bare l=(k',s')::bare l':=h;obtain ⟨h1,h2⟩:=List.cons.inj h';simp only [Prod.mk.injEq] at h1;obtain ⟨rfl,rfl⟩:=h1;exact .cons trivial (rel_bare h2)
theorem stmts_more (en en':Pl) {f f':Nat} {l l':List Tok} {d:Nat} (up:Bool) (hl:RelL Any2 l l') (hf:10 * l.length+9≤f) (hf':10 * l.length+9≤f') :
  RelR Any2 (RelNs Any2) (pStmts en f up l d) (pStmts en' f' up l' d):=by
 have h1:=(stmt_rel (R:=Any2) (en:=en) (en':=en') trivial (min f f') f' (by omega)).stmts up l l' d hl;have h2:=(stmt_rel (R:=Any2) (en:=en) (en':=en) trivial (min f f') f (by omega)).stmts up l l d (RelL.refl _ triv_refl l);have h3:=(stmt_fine en (min f f')).stmts up l d (by omega);revert h1 h2 h3;cases pStmts en (min f f') up l d with
 | oof=>intro _ _ h;exact h.elim
 | bad e p =>
   intro h1 h2 _;cases hx:pStmts en f up l d with
   | oof=>trivial
   | ok a r=>rw [hx] at h2;exact h2.elim
   | bad e2 p2 =>
     rw [hx] at h2;cases hy:pStmts en' f' up l' d with
     | oof=>rw [hy] at h1;exact h1.elim
     | ok a r=>rw [hy] at h1;exact h1.elim
     | bad e3 p3=>rw [hy] at h1;exact ⟨h2.1.symm.trans h1.1,trivial⟩
 | ok a r =>
   intro h1 h2 _;cases hx:pStmts en f up l d with
   | oof=>trivial
   | bad e2 p2=>rw [hx] at h2;exact h2.elim
   | ok a2 r2 =>
     rw [hx] at h2;cases hy:pStmts en' f' up l' d with
     | oof=>rw [hy] at h1;exact h1.elim
     | bad a r=>rw [hy] at h1;exact h1.elim
     | ok a3 r3 =>
       rw [hy] at h1;exact ⟨any_trans (any_sym h2.1) h1.1,anyL_trans (anyL_sym h2.2) h1.2⟩
theorem else_bad (en:Pl) (f:Nat) {l:List Tok} {d:Nat} (h:wordB l wElse=true):Dead (pStmt en f l d):=by
 cases f with
 | zero=>rw [pStmt];trivial
 | succ f =>
   have h':=h;unfold wordB at h;simp only [Bool.and_eq_true,beq_iff_eq] at h;obtain ⟨h1,h2⟩:=h;have a1:wordB l wFor=false:=by unfold wordB;rw [h2];simp [wElse,wFor]
   have a2:wordB l wIf=false:=by unfold wordB;rw [h2];simp [wElse,wIf]
   have a3:wordB l wRule=false:=by unfold wordB;rw [h2];simp [wElse,wRule]
   have a4:nameB l=false:=by unfold nameB;rw [h1,h2];decide
   rw [pStmt];simp only [a1,a2,a3,a4,Bool.false_and,Bool.false_eq_true,if_false];unfold pTake;rw [if_neg (by simp)];trivial
theorem then_split {α β:Type} {x:PR α} {k:α→List Tok→PR β} {b:β} {r:List Tok} (h:x.then k=.ok b r):∃ a r',x=.ok a r'∧k a r'=.ok b r:=by
 cases x with
 | oof=>cases h
 | bad e p=>cases h
 | ok a r'=>exact ⟨a,r',rfl,h⟩
theorem stmts_ahead {m:List Tok} (hm:wordB m wElse=false) (en en':Pl) (d:Nat):∀ f l x r,pStmts en f false l d=.ok x r →
  ∃ g,f≤g+l.length∧pStmts en' f false (l++m) d=(pStmts en' g false m d).then fun b r=>.ok (x++b) r
 | 0,l,x,r,h=>by rw [pStmts] at h;cases h
 | f+1,l,x,r,h=>by
   by_cases hl:l=[]
   ·subst hl;rw [pStmts,if_pos (.inl rfl)] at h;injection h with h1 h2
    subst h1;refine ⟨f+1,by omega,?_⟩;show pStmts en' (f+1) false m d=_;cases pStmts en' (f+1) false m d <;> rfl
   ·rw [pStmts,if_neg (by simp [hl])] at h;obtain ⟨a,r1,h1,h⟩:=then_split h;obtain ⟨b,r2,h2,h⟩:=then_split h;injection h with h3 h4
    subst h3;have hfull:=stmt_full hm en en' f l d hl;rw [h1] at hfull;have hfull:pStmt en' f (l++m) d=.ok a (r1++m):=hfull;have hless:=less_stmt en f l d a r1 h1;obtain ⟨g,hg,hgo⟩:=stmts_ahead hm en en' d f r1 b r2 h2;refine ⟨g,by omega,?_⟩;rw [pStmts,if_neg (by simp [hl]),hfull];show (pStmts en' f false (r1++m) d).then _=_;rw [hgo];cases pStmts en' g false m d <;> rfl
theorem no_else (en:Pl) {f:Nat} {l:List Tok} {d:Nat} {x:List Nd} {r:List Tok} (h:pStmts en f false l d=.ok x r):wordB l wElse=false:=by
 cases hw:wordB l wElse with
 | false=>rfl
 | true =>
   cases f with
   | zero=>rw [pStmts] at h;cases h
   | succ f =>
     rw [pStmts,if_neg (by have:=word_ne hw;simp [this])] at h;obtain ⟨a,r1,h1,h⟩:=then_split h;have:=else_bad en f (d:=d) hw;rw [h1] at this;exact this.elim
theorem down_any (d:Nat):∀ l:List Tok,RelL Any2 l (downT d l)
 | []=>.nil
 | (_,_,_)::r=>.cons trivial (down_any d r)
theorem read_rows {a b:List UInt8} (hl:a.length+b.length+1≤65536) {x y:List Nd} {r r':List Tok} (ha:readL a=.ok x r) (hb:readL b=.ok y r') :
  ∃ z rz,readL (a++10::b)=.ok z rz∧Nd.trs z=Nd.trs x++Nd.trs y:=by
 have ga:=all_good (s:=a) (by omega);have gb:=all_good (s:=b) (by omega);have gc:=all_good (s:=a++10::b) (by rw [List.length_append,List.length_cons];omega);have ha':=ha;have hb':=hb;unfold readL at ha hb;rw [ga] at ha;rw [gb] at hb;by_cases ea:(lexL (1,1) a).2.1=0
 ·rw [if_pos ea] at ha;by_cases eb:(lexL (1,1) b).2.1=0
  ·rw [if_pos eb] at hb;have hp:=parts_plain a b ea eb;unfold readL;rw [gc,hp,if_pos rfl];generalize (lexL (1,1) a).1=la at *;generalize (lexL (1,1) b).1=lb at *;generalize advs (1,1) (a++10::b)=en' at *;generalize (advs (1,1) a).1=k at *;have hrel:=down_any k lb;have hlen:(downT k lb).length=lb.length:=down_len k lb;have hm:wordB (downT k lb) wElse=false:=by rw [hrel.word];exact no_else _ hb
   -- the first file at more fuel
   have m1:=stmts_more (advs (1,1) a) (advs (1,1) a) (f:=10 * la.length+20) (f':=20 * (la.length+lb.length)+100) (d:=0) false (RelL.refl Any2 triv_refl la) (by omega) (by omega);rw [ha] at m1;cases e1:pStmts (advs (1,1) a) (20 * (la.length+lb.length)+100) false la 0 with
   | oof=>rw [e1] at m1;exact m1.elim
   | bad e p=>rw [e1] at m1;exact m1.elim
   | ok x1 r1 =>
     rw [e1] at m1;obtain ⟨g,hg,hgo⟩:=stmts_ahead hm (advs (1,1) a) en' 0 _ _ _ _ e1;have m2:=stmts_more (advs (1,1) b) en' (f:=10 * lb.length+20) (f':=g) (d:=0) false hrel (by omega) (by omega);rw [hb] at m2;cases e2:pStmts en' g false (downT k lb) 0 with
     | oof=>rw [e2] at m2;exact m2.elim
     | bad e p=>rw [e2] at m2;exact m2.elim
     | ok y1 r2 =>
       rw [e2] at m2 hgo;have hll:(la++downT k lb).length=la.length+lb.length:=by rw [List.length_append,hlen]
       have m3:=stmts_more en' en' (f:=20 * (la.length+lb.length)+100) (f':=10 * (la++downT k lb).length+20) (d:=0) false (RelL.refl Any2 triv_refl (la++downT k lb)) (by omega) (by omega);rw [hgo] at m3;show ∃ z rz,pStmts en' (10 * (la++downT k lb).length+20) false (la++downT k lb) 0=.ok z rz∧_;cases e3:pStmts en' (10 * (la++downT k lb).length+20) false (la++downT k lb) 0 with
       | oof=>rw [e3] at m3;exact m3.elim
       | bad e p=>rw [e3] at m3;exact m3.elim
       | ok z rz =>
         rw [e3] at m3;refine ⟨z,rz,rfl,?_⟩;rw [← rel_trs m3.1,trs_app,← rel_trs m1.1,← rel_trs m2.1]
  ·rw [if_neg eb] at hb;cases hb
 ·rw [if_neg ea] at ha;cases ha
theorem stmts_few (en:Pl) (up:Bool) (d:Nat):∀ f l x r,pStmts en f up l d=.ok x r→x.length+r.length≤l.length
 | 0,l,x,r,h=>by rw [pStmts] at h;cases h
 | f+1,l,x,r,h=>by
   rw [pStmts] at h;split at h
   ·injection h with h1 h2
    subst h1 h2;simp
   ·obtain ⟨a,r1,h1,h⟩:=then_split h;obtain ⟨b,r2,h2,h⟩:=then_split h;injection h with h3 h4
    subst h3 h4;have e1:=less_stmt en f l d a r1 h1;have e2:=stmts_few en up d f r1 b r2 h2;rw [List.length_cons];omega
theorem again_len:∀ l:List Tok,l.length≤(againL l).length
 | []=>Nat.le_refl _
 | t::r=>by
   have ih:=again_len r;have e:againL (t::r)=(writ t.1 t.2.1++[32])++againL r:=by simp [againL]
   rw [e,List.length_append,List.length_append,List.length_cons,List.length_cons];omega
theorem read_few {s:List UInt8} (h:s.length≤60000) {x:List Nd} {r:List Tok} (hx:readL s=.ok x r):x.length≤120000:=by
 have ga:=all_good (s:=s) (by omega);unfold readL at hx;rw [ga] at hx;by_cases e:(lexL (1,1) s).2.1=0
 ·rw [if_pos e] at hx;have h1:=stmts_few _ _ _ _ _ _ _ hx;have h2:=again_len (lexL (1,1) s).1;have h3:=(lex_again s.length s (1,1) (Nat.le_refl _) e).1;omega
 ·rw [if_neg e] at hx;cases hx
end Go.Proofs.YtfgiihpopngbkaaGreatDoor
