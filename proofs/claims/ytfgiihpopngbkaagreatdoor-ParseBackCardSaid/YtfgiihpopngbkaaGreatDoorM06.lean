/- Lemmas and walks that the statement needs: ParseRel, ParseNode, ParseGrow, ParseHelp, MayPlain, PageLine. -/
import Derived.Test.YtfgiihpopngbkaaGreatDoorM01
import Derived.Test.YtfgiihpopngbkaaGreatDoorM05
import Derived.Maps.AppendAt
import Derived.Test.YtfgiihpopngbkaaGreatDoorM03
import Derived.Test.YtfgiihpopngbkaaGreatDoorM04
namespace Go.Proofs.YtfgiihpopngbkaaGreatDoor
open Go.RowKit
open List renaming setIfInBounds_toArray→sA,set_cons_zero→sB,set_cons_succ→sC
open Nat renaming lt_of_lt_of_le→nL,le_trans→nT
inductive RelL (R:Pl→Pl→Prop):List Tok→List Tok→Prop where
 | nil:RelL R [] []
 | cons {k:Nat} {s:List UInt8} {p p':Pl} {l l':List Tok} (h:R p p') (t:RelL R l l'):RelL R ((k,s,p)::l) ((k,s,p')::l')
mutual
inductive RelN (R:Pl→Pl→Prop):Nd→Nd→Prop where
 | mk {k:Nat} {s:List UInt8} {p p':Pl} {a a':List Nd} (h:R p p') (t:RelNs R a a'):RelN R (.mk k s p a) (.mk k s p' a')
inductive RelNs (R:Pl→Pl→Prop):List Nd→List Nd→Prop where
 | nil:RelNs R [] []
 | cons {x x':Nd} {a a':List Nd} (h:RelN R x x') (t:RelNs R a a'):RelNs R (x::a) (x'::a')
end
theorem RelNs.append {R:Pl→Pl→Prop} {a a' b b':List Nd} (h:RelNs R a a') (t:RelNs R b b'):RelNs R (a++b) (a'++b'):=by
 induction a generalizing a' with
 | nil=>cases h;exact t
 | cons x a ih=>cases h with | cons h1 h2=>exact .cons h1 (ih h2)
def RelR {α β:Type} (R:Pl→Pl→Prop) (S:α→β→Prop):PR α→PR β→Prop
 | .oof,_=>True
 | .ok a r,.ok b r'=>S a b∧RelL R r r'
 | .bad e p,.bad e' p'=>e=e'∧R p p'
 | _,_=>False
section
variable {R:Pl→Pl→Prop}
theorem RelR.then {α β γ δ:Type} {S:α→β→Prop} {T:γ→δ→Prop} {x:PR α} {y:PR β} {k:α→List Tok→PR γ} {k':β→List Tok→PR δ} (h:RelR R S x y)
  (hk:∀ a b r r',S a b→RelL R r r'→RelR R T (k a r) (k' b r')):RelR R T (x.then k) (y.then k'):=by
 cases x with
 | oof=>trivial
 | ok a r=>cases y with
   | ok b r'=>exact hk a b r r' h.1 h.2
   | bad e p=>exact h.elim
   | oof=>exact h.elim
 | bad e p=>cases y with
   | ok b r'=>exact h.elim
   | bad e' p'=>exact h
   | oof=>exact h.elim
def TokR (R:Pl→Pl→Prop) (t t':Tok):Prop:=t.1=t'.1∧t.2.1=t'.2.1∧R t.2.2 t'.2.2
theorem RelL.at {l l':List Tok} (h:RelL R l l') {en en':Pl} (he:R en en'):∀ n,TokR R (atT en l n) (atT en' l' n):=by
 induction h with
 | nil=>intro n;exact ⟨rfl,rfl,he⟩
 | cons h t ih =>
   intro n;cases n with
   | zero=>exact ⟨rfl,rfl,h⟩
   | succ n=>exact ih n
theorem RelL.same {l l':List Tok} (h:RelL R l l'):∀ n,(atT (0,0) l n).1=(atT (0,0) l' n).1∧(atT (0,0) l n).2.1=(atT (0,0) l' n).2.1:=by
 induction h with
 | nil=>intro n;exact ⟨rfl,rfl⟩
 | cons h t ih =>
   intro n;cases n with
   | zero=>exact ⟨rfl,rfl⟩
   | succ n=>exact ih n
theorem RelL.sign {l l':List Tok} (h:RelL R l l') (n:Nat) (s:List UInt8):signB l' n s=signB l n s:=by
 unfold signB;rw [(h.same n).1,(h.same n).2]
theorem RelL.word {l l':List Tok} (h:RelL R l l') (s:List UInt8):wordB l' s=wordB l s:=by
 unfold wordB;rw [(h.same 0).1,(h.same 0).2]
theorem RelL.name {l l':List Tok} (h:RelL R l l'):nameB l'=nameB l:=by
 unfold nameB;rw [(h.same 0).1,(h.same 0).2]
theorem RelL.kind {l l':List Tok} (h:RelL R l l') (k:Nat):kindB l' k=kindB l k:=by
 unfold kindB;rw [(h.same 0).1]
theorem RelL.type {l l':List Tok} (h:RelL R l l'):typeAt l'=typeAt l:=by
 unfold typeAt kindB;rw [(h.same 0).1,(h.same 0).2]
theorem RelL.isNil {l l':List Tok} (h:RelL R l l'):l'=[] ↔ l=[]:=by
 cases h with
 | nil=>exact Iff.rfl
 | cons h t=>simp
variable {en en':Pl} (he:R en en')
include he
theorem take_rel {l l':List Tok} (h:RelL R l l') (is:Bool):RelR R (TokR R) (pTake en is l) (pTake en' is l'):=by
 unfold pTake;cases is with
 | false=>exact ⟨rfl,(h.at he 0).2.2⟩
 | true =>
   cases h with
   | nil=>trivial
   | cons h t=>exact ⟨⟨rfl,rfl,h⟩,t⟩
theorem eat_rel {l l':List Tok} (h:RelL R l l') (s:List UInt8):RelR R (TokR R) (pEat en s l) (pEat en' s l'):=by
 unfold pEat;rw [h.sign];exact take_rel he h _
theorem open_rel {l l':List Tok} (h:RelL R l l') (is:Bool) (d:Nat):RelR R (TokR R) (pOpen en is d l) (pOpen en' is d l'):=by
 unfold pOpen;split
 ·exact ⟨rfl,(h.at he 0).2.2⟩
 ·exact take_rel he h is
structure ExprR (R:Pl→Pl→Prop) (en en':Pl) (f f':Nat):Prop where
 prim:∀ l l' d,RelL R l l'→RelR R (RelN R) (pPrim en f l d) (pPrim en' f' l' d)
 sumGo:∀ x x' l l' d,RelN R x x'→RelL R l l'→RelR R (RelN R) (pSumGo en f x l d) (pSumGo en' f' x' l' d)
 sum:∀ l l' d,RelL R l l'→RelR R (RelN R) (pSum en f l d) (pSum en' f' l' d)
 expr:∀ l l' d,RelL R l l'→RelR R (RelN R) (pExpr en f l d) (pExpr en' f' l' d)
 call:∀ l l' d,RelL R l l'→RelR R (RelN R) (pCall en f l d) (pCall en' f' l' d)
 one:∀ k l l' d,RelL R l l'→RelR R (RelNs R) (pOne en f k l d) (pOne en' f' k l' d)
 list:∀ k up first l l' d,RelL R l l'→RelR R (RelNs R) (pList en f k up first l d) (pList en' f' k up first l' d)
theorem expr_rel:∀ f f':Nat,f≤f'→ExprR R en en' f f'
 | 0,_,_=>⟨fun _ _ _ _=>by rw [pPrim];trivial,fun _ _ _ _ _ _ _=>by rw [pSumGo];trivial,fun _ _ _ _=>by rw [pSum];trivial,fun _ _ _ _=>by rw [pExpr];trivial,fun _ _ _ _=>by rw [pCall];trivial,fun _ _ _ _ _=>by rw [pOne];trivial,fun _ _ _ _ _ _ _=>by rw [pList];trivial⟩
 | f+1,0,h=>absurd h (by omega)
 | f+1,f'+1,hf=>by
   have ih:=expr_rel f f' (by omega);have one1:∀ {k:Nat} {s:List UInt8} {p p':Pl} {x x':Nd},R p p'→RelN R x x'→RelN R (.mk k s p [x]) (.mk k s p' [x']):=fun h1 h2=>.mk h1 (.cons h2 .nil)
   have two2:∀ {k:Nat} {s:List UInt8} {p p':Pl} {x x' y y':Nd},R p p'→RelN R x x'→RelN R y y'→RelN R (.mk k s p [x,y]) (.mk k s p' [x',y']):=fun h1 h2 h3=>.mk h1 (.cons h2 (.cons h3 .nil))
   refine ⟨?_,?_,?_,?_,?_,?_,?_⟩
   ·intro l l' d hl;have ht:=hl.at he 0;obtain ⟨ht1,ht2,ht3⟩:=ht;rw [pPrim,pPrim];simp only [hl.kind,hl.name,hl.sign,hl.word];split
    ·exact (take_rel he hl true).then fun _ _ _ _ _ hr=>⟨by rw [ht2];exact .mk ht3 .nil,hr⟩
    split
    ·exact (take_rel he hl true).then fun _ _ _ _ _ hr=>⟨by rw [ht2];exact .mk ht3 .nil,hr⟩
    split
    ·exact ih.call _ _ _ hl
    split
    ·exact (take_rel he hl true).then fun _ _ _ _ _ hr=>⟨by rw [ht2];exact .mk ht3 .nil,hr⟩
    split
    ·exact (open_rel he hl true d).then fun _ _ _ _ _ hr=>(ih.prim _ _ _ hr).then fun _ _ _ _ hx hr=>⟨one1 ht3 hx,hr⟩
    split
    ·exact (open_rel he hl true d).then fun _ _ _ _ _ hr=>(ih.list _ _ _ _ _ _ hr).then fun _ _ _ _ hx hr=>(eat_rel he hr _).then fun _ _ _ _ _ hr=>⟨.mk ht3 hx,hr⟩
    split
    ·exact (open_rel he hl true d).then fun _ _ _ _ _ hr=>(ih.list _ _ _ _ _ _ hr).then fun _ _ _ _ hx hr=>(eat_rel he hr _).then fun _ _ _ _ _ hr=>⟨.mk ht3 hx,hr⟩
    exact (open_rel he hl _ d).then fun _ _ _ _ _ hr=>(ih.expr _ _ _ hr).then fun _ _ _ _ hx hr=>(eat_rel he hr _).then fun _ _ _ _ _ hr=>⟨hx,hr⟩
   ·intro x x' l l' d hx hl;rw [pSumGo,pSumGo];simp only [hl.sign];split
    ·exact (take_rel he hl true).then fun _ _ _ _ ht hr=>(ih.prim _ _ _ hr).then fun _ _ _ _ hy hr=>ih.sumGo _ _ _ _ _ (two2 ht.2.2 hx hy) hr
    ·exact ⟨hx,hl⟩
   ·intro l l' d hl;rw [pSum,pSum];exact (ih.prim _ _ _ hl).then fun _ _ _ _ hx hr=>ih.sumGo _ _ _ _ _ hx hr
   ·intro l l' d hl;rw [pExpr,pExpr];refine (ih.sum _ _ _ hl).then fun _ _ r r' hx hr=>?_
    simp only [hr.sign,hr.word];split
    ·exact (take_rel he hr true).then fun _ _ _ _ ht hr=>(ih.sum _ _ _ hr).then fun _ _ _ _ hy hr=>⟨by rw [ht.2.1];exact two2 ht.2.2 hx hy,hr⟩
    ·exact ⟨hx,hr⟩
   ·intro l l' d hl;rw [pCall,pCall];simp only [hl.name];refine (take_rel he hl _).then fun _ _ _ _ ht hr=>?_
    simp only [hr.sign];exact (open_rel he hr _ d).then fun _ _ _ _ _ hr=>(ih.list _ _ _ _ _ _ hr).then fun _ _ _ _ hx hr=>(eat_rel he hr _).then fun _ _ _ _ _ hr=>⟨by rw [ht.2.1];exact .mk ht.2.2 hx,hr⟩
   ·intro k l l' d hl;rw [pOne,pOne];simp only [hl.name,hl.sign,hl.kind];split
    ·refine (take_rel he hl _).then fun _ _ _ _ hn hr=>(eat_rel he hr _).then fun _ _ _ _ _ hr=>?_
     simp only [hr.type];refine (take_rel he hr _).then fun _ _ _ _ ht hr=>?_
     simp only [hr.sign];split
     ·exact (eat_rel he hr _).then fun _ _ _ _ _ hr=>(ih.expr _ _ _ hr).then fun _ _ _ _ hx hr=>⟨by rw [hn.2.1,ht.2.1];exact .cons (two2 hn.2.2 (.mk ht.2.2 .nil) hx) .nil,hr⟩
     ·exact ⟨by rw [hn.2.1,ht.2.1];exact .cons (one1 hn.2.2 (.mk ht.2.2 .nil)) .nil,hr⟩
    split
    ·obtain ⟨ht1,ht2,ht3⟩:=hl.at he 0;split
     ·exact (take_rel he hl true).then fun _ _ _ _ _ hr=>(eat_rel he hr _).then fun _ _ _ _ _ hr=>(ih.expr _ _ _ hr).then fun _ _ _ _ hx hr=>⟨by rw [ht2];exact .cons (one1 ht3 hx) .nil,hr⟩
     ·exact (ih.expr _ _ _ hl).then fun _ _ _ _ hx hr=>⟨.cons (one1 ht3 hx) .nil,hr⟩
    split
    ·exact (ih.expr _ _ _ hl).then fun _ _ _ _ hx hr=>⟨.cons hx .nil,hr⟩
    ·exact (take_rel he hl _).then fun _ _ _ _ ht hr=>(eat_rel he hr _).then fun _ _ _ _ _ hr=>(ih.expr _ _ _ hr).then fun _ _ _ _ hx hr=>⟨by rw [ht.2.1];exact .cons (.mk ht.2.2 .nil) (.cons hx .nil),hr⟩
   ·intro k up first l l' d hl
    rw [pList,pList];simp only [hl.sign];split
    ·exact ⟨.nil,hl⟩
    ·have hc:RelR R (fun (_:Tok) (_:Tok)=>True) (if first=true then PR.ok (zeroT en) l else pEat en [44] l) (if first=true then PR.ok (zeroT en') l' else pEat en' [44] l'):=by
      split
      ·exact ⟨trivial,hl⟩
      ·have:=eat_rel he hl [44];revert this;cases pEat en [44] l <;> cases pEat en' [44] l' <;> intro h
       all_goals first | exact ⟨trivial,h.2⟩ | exact h
     exact hc.then fun _ _ _ _ _ hr=>(ih.one _ _ _ _ hr).then fun _ _ _ _ ha hr=>(ih.list _ _ _ _ _ _ hr).then fun _ _ _ _ hb hr=>⟨ha.append hb,hr⟩
structure StmtR (R:Pl→Pl→Prop) (en en':Pl) (f f':Nat):Prop where
 block:∀ l l' d,RelL R l l'→RelR R (RelN R) (pBlock en f l d) (pBlock en' f' l' d)
 stmt:∀ l l' d,RelL R l l'→RelR R (RelN R) (pStmt en f l d) (pStmt en' f' l' d)
 stmts:∀ up l l' d,RelL R l l'→RelR R (RelNs R) (pStmts en f up l d) (pStmts en' f' up l' d)
theorem stmt_rel:∀ f f':Nat,f≤f'→StmtR R en en' f f'
 | 0,_,_=>⟨fun _ _ _ _=>by rw [pBlock];trivial,fun _ _ _ _=>by rw [pStmt];trivial,fun _ _ _ _ _=>by rw [pStmts];trivial⟩
 | f+1,0,h=>absurd h (by omega)
 | f+1,f'+1,hf=>by
   have ih:=stmt_rel f f' (by omega);have ie:=expr_rel he f f' (by omega);refine ⟨?_,?_,?_⟩
   ·intro l l' d hl;rw [pBlock,pBlock];simp only [hl.sign];exact (open_rel he hl _ d).then fun _ _ _ _ ht hr=>(ih.stmts _ _ _ _ hr).then fun _ _ _ _ hx hr=>(eat_rel he hr _).then fun _ _ _ _ _ hr=>⟨.mk ht.2.2 hx,hr⟩
   ·intro l l' d hl;obtain ⟨ht1,ht2,ht3⟩:=hl.at he 0;rw [pStmt,pStmt];simp only [hl.word,hl.name,hl.sign];split
    ·refine (take_rel he hl true).then fun _ _ _ _ _ hr=>?_
     simp only [hr.name];refine (take_rel he hr _).then fun _ _ _ _ hn hr=>?_
     simp only [hr.word];exact (take_rel he hr _).then fun _ _ _ _ _ hr=>(ie.expr _ _ _ hr).then fun _ _ _ _ hx hr=>(ih.block _ _ _ hr).then fun _ _ _ _ hy hr=>⟨by rw [hn.2.1];exact .mk ht3 (.cons hx (.cons hy .nil)),hr⟩
    split
    ·refine (take_rel he hl true).then fun _ _ _ _ _ hr=>(ie.expr _ _ _ hr).then fun _ _ _ _ hx hr=>(ih.block _ _ _ hr).then fun _ _ _ _ hy hr=>?_
     simp only [hr.word];split
     ·exact (take_rel he hr true).then fun _ _ _ _ _ hr=>(ih.block _ _ _ hr).then fun _ _ _ _ hz hr=>⟨.mk ht3 (.cons hx (.cons hy (.cons hz .nil))),hr⟩
     ·exact ⟨.mk ht3 (.cons hx (.cons hy .nil)),hr⟩
    split
    ·refine (take_rel he hl true).then fun _ _ _ _ _ hr=>?_
     simp only [hr.name];exact (take_rel he hr _).then fun _ _ _ _ hn hr=>(eat_rel he hr _).then fun _ _ _ _ _ hr=>(ie.list _ _ _ _ _ _ hr).then fun _ _ _ _ hk hr=>(eat_rel he hr _).then fun _ _ _ _ _ hr =>
      (ih.block _ _ _ hr).then fun _ _ _ _ hy hr=>⟨by rw [hn.2.1];exact .mk ht3 (hk.append (.cons hy .nil)),hr⟩
    split
    ·exact (ie.call _ _ _ hl).then fun _ _ _ _ hx hr=>(eat_rel he hr _).then fun _ _ _ _ _ hr=>⟨.mk ht3 (.cons hx .nil),hr⟩
    ·exact (take_rel he hl _).then fun _ _ _ _ hn hr=>(eat_rel he hr _).then fun _ _ _ _ _ hr=>(ie.expr _ _ _ hr).then fun _ _ _ _ hx hr=>(eat_rel he hr _).then fun _ _ _ _ _ hr =>
      ⟨by rw [hn.2.1];exact .mk ht3 (.cons hx .nil),hr⟩
   ·intro up l l' d hl;rw [pStmts,pStmts];simp only [hl.sign,hl.isNil];split
    ·exact ⟨.nil,hl⟩
    ·exact (ih.stmt _ _ _ hl).then fun _ _ _ _ hx hr=>(ih.stmts _ _ _ _ hr).then fun _ _ _ _ hb hr=>⟨.cons hx hb,hr⟩
end
end Go.Proofs.YtfgiihpopngbkaaGreatDoor
namespace Go.Proofs.YtfgiihpopngbkaaGreatDoor
set_option maxRecDepth 100000
open Go.RowKit
open List renaming setIfInBounds_toArray→sA,set_cons_zero→sB,set_cons_succ→sC
open Nat renaming lt_of_lt_of_le→nL,le_trans→nT
set_option maxHeartbeats 1000000 in
theorem node_any (k:Int) (t:Tok) (s:List UInt8) (a:Option Addr) (n c:Nat) (w:World) :
  Calls Tryz.prog 20 #[.int .i64 k,tokA t,.string (bs s),.slice a n c] w fun e w'=>e=.returned (nodeV k s t.2.2.1 t.2.2.2 (.slice a n c))∧Below w.heap.size w w':=by
 go_enter Tryz.func20,Tryz.ntmps20
 go_wp2_with fail;have hz:=heap_alloc_new (w.alloc (.cells #[.int .i64 t.1,.string (bs t.2.1),.int .i64 t.2.2.1,.int .i64 t.2.2.2] 46)) (.cells #[.int .i64 k,.string (bs s),.int .i64 t.2.2.1,.int .i64 t.2.2.2,.slice a n c] 27);rw [World.size_alloc] at hz;exact bodyPost_ret (results_cell_row rfl _ _ (w.heap.size+1) _ _ _ _ rfl hz Tryz.underlying27 rfl (by kernel_rfl)) rfl ⟨rfl,Below.chain (below_new w _) (below_new _ _)⟩
def NodeR (P:Nat→Prop) (w:World) (v:Value) (a:Nd):Prop :=
 ∃ (k:Int) (t:List UInt8) (l c:Int) (ks:List NM) (ad:Option Addr) (cap:Nat),v=nodeV k t l c (.slice ad ks.length cap)∧(NM.mk k t l c ks ad cap).is a∧HeldN P w (.mk k t l c ks ad cap)
def RetP {α:Type} (g:Nat) (en:Pl) (d:Nat) (w:World) (R:Nat→World→Value→α→Prop) (x:PR α) (e:Ending) (w':World):Prop :=
 match x with
 | .ok a r=>∃ v,e=.returned v∧R w.heap.size w' v a∧PS w' g en r d∧ButAt g w w'
 | .bad er p=>e=.panicked [wrongV er p]∧ButAt g w w'
 | .oof=>False
def NodeN (B:Nat):World→Value→Nd→Prop:=NodeR (B≤·)
def Does {α:Type} (F:FuncId) (args:Array Value) (g:Nat) (en:Pl) (l:List Tok) (d:Nat) (R:Nat→World→Value→α→Prop) (x:PR α):Prop :=
 ∀ w,PS w g en l d→x≠.oof→Calls Tryz.prog F args w (RetP g en d w R x)
theorem Does.ok {α:Type} {F:FuncId} {args:Array Value} {g:Nat} {en:Pl} {l:List Tok} {d:Nat} {R:Nat→World→Value→α→Prop} {x:PR α} (h:Does F args g en l d R x) {a:α} {r:List Tok} (hx:x=.ok a r) {w:World} (hp:PS w g en l d) :
  Calls Tryz.prog F args w fun e w'=>∃ v,e=.returned v∧R w.heap.size w' v a∧PS w' g en r d∧ButAt g w w':=by
 subst hx;exact h w hp nofun
theorem Does.bad {α:Type} {F:FuncId} {args:Array Value} {g:Nat} {en:Pl} {l:List Tok} {d:Nat} {R:Nat→World→Value→α→Prop} {x:PR α} (h:Does F args g en l d R x) {er:Nat} {p:Pl} (hx:x=.bad er p) {w:World} (hp:PS w g en l d) :
  Calls Tryz.prog F args w fun e w'=>e=.panicked [wrongV er p]∧ButAt g w w':=by
 subst hx;exact h w hp nofun
theorem then_ok {α β:Type} (a:α) (r:List Tok) (k:α→List Tok→PR β):(PR.ok a r).then k=k a r:=rfl
theorem thk {α β:Type} {X:PR β} {y:PR α} {k:α→List Tok→PR β} {a:α} {r:List Tok} (H:Hid (X=y.then k)) (h:y=.ok a r):Hid (X=k a r):=by
 have e:=H.out;rw [h] at e;exact hid e
theorem thb {α β:Type} {X:PR β} {y:PR α} {k:α→List Tok→PR β} {n:Nat} {p:Pl} (H:Hid (X=y.then k)) (h:y=.bad n p):X=.bad n p:=by
 have e:=H.out;rw [h] at e;exact e
theorem tho {α β:Type} {X:PR β} {y:PR α} {k:α→List Tok→PR β} (H:Hid (X=y.then k)) (h:y=.oof):X=.oof:=by
 have e:=H.out;rw [h] at e;exact e
theorem RetP.of_bad {α:Type} {g:Nat} {en:Pl} {d:Nat} {w:World} {R:Nat→World→Value→α→Prop} {x:PR α} {er:Nat} {p:Pl} {w':World} (hx:x=.bad er p) (hb:ButAt g w w'):RetP g en d w R x (.panicked [wrongV er p]) w':=by
 subst hx;exact ⟨rfl,hb⟩
theorem RetP.of_ok {α:Type} {g:Nat} {en:Pl} {d:Nat} {w:World} {R:Nat→World→Value→α→Prop} {x:PR α} {a:α} {r:List Tok} {v:Value} {w':World} (hx:x=.ok a r) (hR:R w.heap.size w' v a) (hp:PS w' g en r d) (hb:ButAt g w w'):RetP g en d w R x (.returned v) w':=by
 subst hx;exact ⟨v,rfl,hR,hp,hb⟩
theorem NodeR.keep {P:Nat→Prop} {w w':World} {v:Value} {a:Nd} (h:NodeR P w v a) (hb:Same P w w'):NodeR P w' v a:=by
 obtain ⟨k,t,l,c,ks,ad,cap,rfl,hi,hh⟩:=h;exact ⟨k,t,l,c,ks,ad,cap,rfl,hi,HeldN.keep hb hh⟩
structure Grows (B:Nat) (w:World) (v:Value) (ns:List NM):Prop where
 own:w.ownsRow B 27 5 v ns.length (nmCells ns)
 held:HeldNs (fun b=>B≤b∧v.ownBlock≠some b) w ns
theorem Grows.nil (B:Nat) (w:World):Grows B w (.slice none 0 0) []:=⟨⟨rfl,.inl ⟨rfl,rfl⟩⟩,heldNs_nil⟩
theorem ownsRow_same {w w':World} {B:Nat} {e:TypeId} {size:Nat} {v:Value} {n:Nat} {xs:List Value} (h:w.ownsRow B e size v n xs) (hb:∀ k,k<w.heap.size→B≤k→w'.heap[k]? = w.heap[k]?):w'.ownsRow B e size v n xs:=by
 obtain ⟨hl,h⟩:=h;refine ⟨hl,?_⟩;rcases h with h | ⟨g,cap,cur,hv,hg,hh,r⟩
 ·exact .inl h
 ·exact .inr ⟨g,cap,cur,hv,hg,(hb g (Array.getElem?_eq_some_iff.1 hh).1 hg).trans hh,r⟩
theorem Grows.keep {B g:Nat} {w w':World} {v:Value} {ns:List NM} (h:Grows B w v ns) (hb:ButAt g w w') (hg:g<B):Grows B w' v ns :=
 ⟨ownsRow_same h.own (fun k hk hB=>hb.block k hk (by omega)),HeldNs.keep (hb.same (fun b hb=>(by omega))) h.held⟩
theorem Grows.shape {B:Nat} {w:World} {v:Value} {ns:List NM} (h:Grows B w v ns):∃ a cap,v=.slice a ns.length cap∧ns.length≤cap∧cap≤maxLen:=by
 obtain ⟨⟨_,h⟩,_⟩:=h;rcases h with ⟨rfl,h0⟩ | ⟨g,cap,cur,rfl,_,_,hc,hm,_⟩
 ·exact ⟨none,0,by rw [h0],by omega,by omega⟩
 ·exact ⟨_,cap,rfl,hc,hm⟩
theorem Grows.kids {B:Nat} {w:World} {a:Option Addr} {cap:Nat} {ns:List NM} (h:Grows B w (.slice a ns.length cap) ns) (k l c:Int) (t:List UInt8):HeldN (B≤·) w (.mk k t l c ns a cap):=by
 obtain ⟨ho,hh⟩:=h;have hm:ns.length≤maxLen:=by
  rcases ho.2 with ⟨_,h0⟩ | ⟨_,cap',_,_,_,_,hc,hm,_⟩ <;> omega
 refine mk_heldN ⟨SliceAt.of_owns ho hm,fun b off n' c' e _=>?_⟩ (HeldNs.less (fun b _ hb=>hb.1) hh);rcases ho.2 with ⟨e',_⟩ | ⟨g,cap',_,e',hg,_⟩
 ·rw [e] at e';cases e'
 ·rw [e] at e';simp at e';obtain ⟨⟨rfl,_⟩,_⟩:=e';exact hg
theorem Grows.less {B B':Nat} {w:World} {v:Value} {ns:List NM} (h:Grows B w v ns) (hB:B'≤B):Grows B' w v ns:=by
 refine ⟨⟨h.own.1,?_⟩,HeldNs.less (fun b _ hb=>⟨nT hB hb.1,hb.2⟩) h.held⟩;rcases h.own.2 with h | ⟨g,cap,cur,hv,hg,r⟩
 ·exact .inl h
 ·exact .inr ⟨g,cap,cur,hv,nT hB hg,r⟩
theorem Grows.laid {B:Nat} {w W:World} {ns:List NM} {cs:Array Value} (hr:W.heap[w.heap.size]? = some (.cells cs 27 (0,0))) (hc:cs.toList=nmCells ns) (hl:ns.length≤1000) (hB:B≤w.heap.size) (hh:HeldNs (B≤·) w ns) (hS:Same (B≤·) w W) :
  Grows B W (.slice (some ⟨w.heap.size,0,none⟩) ns.length ns.length) ns:=by
 refine ⟨⟨nmCells_len ns,.inr ⟨w.heap.size,ns.length,cs,rfl,hB,hr,Nat.le_refl _,by unfold maxLen;omega,?_,?_⟩⟩,?_⟩
 ·rw [← Array.length_toList,hc,nmCells_len]
 ·rw [hc,List.take_of_length_le (by rw [nmCells_len];omega)]
 ·refine HeldNs.keep (P:=fun b=>B≤b∧(Value.slice (some ⟨w.heap.size,0,none⟩) ns.length ns.length).ownBlock≠some b) ⟨hS.1,fun k hk hP=>hS.2 k hk hP.1⟩ (HeldNs.less (fun b hb hP=>⟨hP,?_⟩) hh);simp [Value.ownBlock];omega
structure Grow2 (B B2:Nat) (w:World) (v:Value) (ns:List NM):Prop where
 own:w.ownsRow B2 27 5 v ns.length (nmCells ns)
 held:HeldNs (fun b=>B≤b∧v.ownBlock≠some b) w ns
theorem Grows.two {B B2:Nat} {w:World} {v:Value} {ns:List NM} (h:Grows B2 w v ns) (hB:B≤B2):Grow2 B B2 w v ns:=⟨h.own,HeldNs.less (fun _b _ hb=>⟨nT hB hb.1,hb.2⟩) h.held⟩
theorem Grow2.laid {B:Nat} {w W:World} {ns:List NM} {cs:Array Value} (hr:W.heap[w.heap.size]? = some (.cells cs 27 (0,0))) (hc:cs.toList=nmCells ns) (hl:ns.length≤1000) (hB:B≤w.heap.size) (hh:HeldNs (B≤·) w ns) (hS:Same (B≤·) w W) :
  Grow2 B w.heap.size W (.slice (some ⟨w.heap.size,0,none⟩) ns.length ns.length) ns:=by
 have h:=Grows.laid hr hc hl hB hh hS;refine ⟨⟨h.own.1,?_⟩,h.held⟩;rcases h.own.2 with ⟨e,_⟩ | ⟨g,cap,cur,hv,hg,r⟩
 ·cases e
 ·refine .inr ⟨g,cap,cur,hv,?_,r⟩;simp at hv;omega
theorem Grow2.one {B B2:Nat} {w:World} {v:Value} {ns:List NM} (h:Grow2 B B2 w v ns) (hB:B≤B2):Grows B w v ns:=by
 refine ⟨⟨h.own.1,?_⟩,h.held⟩;rcases h.own.2 with h | ⟨g,cap,cur,hv,hg,r⟩
 ·exact .inl h
 ·exact .inr ⟨g,cap,cur,hv,nT hB hg,r⟩
theorem Grow2.keep {B B2 g:Nat} {w w':World} {v:Value} {ns:List NM} (h:Grow2 B B2 w v ns) (hb:ButAt g w w') (hg:g<B) (hB:B≤B2):Grow2 B B2 w' v ns :=
 ⟨ownsRow_same h.own (fun k hk hB=>hb.block k hk (by omega)),HeldNs.keep (hb.same (fun b hb=>(by omega))) h.held⟩
theorem grown_low {B:Nat} {w w':World} {v:Value} {e:TypeId} {size n:Nat} {xs:List Value} (ho:w.ownsRow B e size v n xs) (hg:w.grownBy w' v.ownBlock):∀ k,k<w.heap.size→k<B→w'.heap[k]? = w.heap[k]?:=fun k hk hB =>
 hg.block k hk (fun h=>by have:=ho.lt k h.symm;omega)
theorem Grows.app {B:Nat} {w w':World} {v v':Value} {ns:List NM} {xs:List NM} (h:Grows B w v ns) (hx:HeldNs (fun b=>B≤b∧v.ownBlock≠some b) w xs) {m:Nat} (ho:w'.ownsRow B 27 5 v' m (nmCells ns++nmCells xs)) (hm:m=ns.length+xs.length) (hg:w.grownBy w' v.ownBlock)
  (hat:v'.ownBlock=v.ownBlock∨v'.ownBlock=some w.heap.size):Grows B w' v' (ns++xs):=by
 refine ⟨by rw [List.length_append,nmCells_app,← hm];exact ho,?_⟩;have hh:=heldNs_app h.held hx;have hk:=HeldNs.keep (w':=w') ⟨hg.size,fun k hk hP=>hg.block k hk (fun e=>hP.2 e.symm)⟩ (HeldNs.less (P':=fun b=>(B≤b∧v.ownBlock≠some b)∧b<w.heap.size) (fun b hb hP=>⟨hP,hb⟩) hh |> HeldNs.less (P':=fun b=>(B≤b∧v.ownBlock≠some b)) (fun b _ hP=>hP.1));have hk2:HeldNs (fun b=>(B≤b∧v.ownBlock≠some b)∧b<w.heap.size) w' (ns++xs) :=
  HeldNs.keep ⟨hg.size,fun k hk hP=>hg.block k hk (fun e=>hP.1.2 e.symm)⟩ (HeldNs.less (fun b hb hP=>⟨hP,hb⟩) hh)
 clear hk;refine HeldNs.less (fun b _ hP=>⟨hP.1.1,?_⟩) hk2;rcases hat with e | e
 ·rw [e];exact hP.1.2
 ·rw [e];intro h;simp at h;omega
theorem Grow2.app {B B2:Nat} {w w':World} {v v':Value} {ns:List NM} {xs:List NM} (h:Grow2 B B2 w v ns) (hx:HeldNs (fun b=>B≤b∧v.ownBlock≠some b) w xs) {m:Nat} (ho:w'.ownsRow B2 27 5 v' m (nmCells ns++nmCells xs)) (hm:m=ns.length+xs.length) (hg:w.grownBy w' v.ownBlock)
  (hat:v'.ownBlock=v.ownBlock∨v'.ownBlock=some w.heap.size):Grow2 B B2 w' v' (ns++xs):=by
 refine ⟨by rw [List.length_append,nmCells_app,← hm];exact ho,?_⟩;have hh:=heldNs_app h.held hx;have hk2:HeldNs (fun b=>(B≤b∧v.ownBlock≠some b)∧b<w.heap.size) w' (ns++xs) :=
  HeldNs.keep ⟨hg.size,fun k hk hP=>hg.block k hk (fun e=>hP.1.2 e.symm)⟩ (HeldNs.less (fun b hb hP=>⟨hP,hb⟩) hh)
 refine HeldNs.less (fun b _ hP=>⟨hP.1.1,?_⟩) hk2;rcases hat with e | e
 ·rw [e];exact hP.1.2
 ·rw [e];intro h;simp at h;omega
theorem Grow2.fresh {B B2:Nat} {w:World} {v:Value} {ns:List NM} (h:Grow2 B B2 w v ns) {k:Nat} (hk:v.ownBlock=some k):k<w.heap.size:=(h.own.lt k hk).2
theorem ButAt.grown {g B:Nat} {w w1 w2:World} (h:ButAt g w w1) {v:Value} {e:TypeId} {size n:Nat} {xs:List Value} (ho:w1.ownsRow B e size v n xs) (hg:w1.grownBy w2 v.ownBlock) (hB:w.heap.size≤B):ButAt g w w2 :=
 ⟨hg.os.trans h.os,hg.tape.trans h.tape,hg.output.trans h.output,nT h.size hg.size,fun k hk hne=>(grown_low ho hg k (nL hk h.size) (by omega)).trans (h.block k hk hne)⟩
theorem PS.grown {g B:Nat} {en:Pl} {l:List Tok} {d:Nat} {w1 w2:World} (h:PS w1 g en l d) {v:Value} {e:TypeId} {size n:Nat} {xs:List Value} (ho:w1.ownsRow B e size v n xs) (hg:w1.grownBy w2 v.ownBlock) (hB:g<B):PS w2 g en l d :=
 h.upto hg.size (fun k hk=>grown_low ho hg k (by have:=h.lt;omega) (by omega))
theorem node_info:(Tryz.prog.info? 27).map (fun i=>(i.zero,i.size,i.bytes))=some (some (.agg #[.int .i64 0,.string ⟨#[]⟩,.int .i64 0,.int .i64 0,.slice none 0 0]),5,64):=by kernel_rfl
def ListR (B:Nat) (w:World) (v:Value) (a:List Nd):Prop:=∃ ns,Grows B w v ns∧NM.are ns a∧ns.length≤200000
def OneN (B:Nat) (w:World) (v:Value) (a:List Nd):Prop:=∃ y,a=[y]∧NodeN B w v y
theorem news_of_row {w:World} {b:Nat} {cs:Array Value} {t:TypeId} (h:w.heap[b]? = some (.cells cs t (0,0))) {xs:List Value} (hx:cs.toList=xs):∀ j u,xs[j]? = some u→w.cell? ((⟨b,0,none⟩:Addr).add j)=some u:=by
 intro j u hu;have hadd:(⟨b,0,none⟩:Addr).add j=⟨b,j,none⟩:=by unfold Addr.add;split <;> simp_all
 rw [hadd,cell_of_row w b j _ _ _ h];rw [← hx] at hu;simpa using hu
theorem oper_append_own_at {P:Program} {o:Oper} {a:Act} {w:World} {Q:Exit→Act→World→Prop} {K:Act→World→Prop} (s x:Operand) (t:TypeId)
  (ho:o.op=.call { callee:=.builtin .append,args:=#[s,x],argTypes:=#[t,t] })
  (base:Nat) (e:TypeId) (i:TypeInfo) (z:Value) (size bytes:Nat) (ht:P.underlying t=some (.slice e)) (hi:P.info? e=some i) (hz:i.zero=some z)
  (hsize:i.size=size) (hby:i.bytes=bytes) (hzs:z.cells.size=size) (hsz:0<size)
  (v:Value) (n:Nat) (xs:List Value) (hs:a.eval s=v) (hown:w.ownsRow base e size v n xs)
  (ad:Addr) (m c:Nat) (news:List Value) (hx:a.eval x=.slice (some ad) m c) (hl:news.length=m * size) (hnews:∀ j u,news[j]? = some u→w.cell? (ad.add j)=some u) (h1:∀ u ∈ news,u.oneCell'=true)
  (h63:n+m≤maxLen) (hbytes:(n+m) * bytes≤140737488355328) (hbase:base≤w.heap.size)
  (h:∀ v' w',w'.ownsRow base e size v' (n+m) (xs++news)→w.grownBy w' v.ownBlock→(v'.ownBlock=v.ownBlock∨v'.ownBlock=some w.heap.size)→K (a.put o.dst v') w'):Oper.wp P o a w K Q:=by
 obtain ⟨v',w',hr,h2,h3,h4,h5⟩:=run_append_own_at (P:=P) w base t o.type e i z size bytes ht hi hz hsize hby hzs hsz v n xs hown ad m c news hl hnews h1 h63 hbytes hbase;unfold Oper.wp execOp;simp only [ho,resolve,invoke,builtin,Sem.run_bind,Sem.run_pure,Result.andThen_ok,List.map_toArray,List.map_cons,List.map_nil,hs,hx,hr];exact h v' w' h2 h3 h5
theorem range_of_row {w:World} {b:Nat} {cs:Array Value} {t:TypeId} (h:w.heap[b]? = some (.cells cs t (0,0))):w.rangeAt b 0 cs.toList:=by
 intro j u hu;rw [Nat.zero_add,cell_of_row w b j _ _ _ h];simpa using hu
theorem enter1 {w:World} {g:Nat} {en:Pl} {l:List Tok} {d:Nat} (hp:PS w g en l d) (o:Obj):∃ W,Hid (W=w.alloc o)∧PS W g en l d∧ButAt g w W∧W.heap[w.heap.size]? = some o∧w.heap.size<W.heap.size :=
 ⟨_,hid rfl,hp.keep (below_new w o),ButAt.of_below (below_new w o),heap_alloc_new w o,by rw [World.size_alloc];omega⟩
theorem enter2 {w:World} {g:Nat} {en:Pl} {l:List Tok} {d:Nat} (hp:PS w g en l d) (o o':Obj):∃ W,Hid (W=(w.alloc o).alloc o')∧PS W g en l d∧ButAt g w W∧W.heap[w.heap.size]? = some o∧W.heap[w.heap.size+1]? = some o'∧w.heap.size+1<W.heap.size :=
 ⟨_,hid rfl,(hp.keep (below_new w o)).keep (below_new _ o'),ButAt.of_below (Below.chain (below_new w o) (below_new _ o')),alloc_row (heap_alloc_new w o) o',by have:=heap_alloc_new (w.alloc o) o';rwa [World.size_alloc] at this,by rw [World.size_alloc,World.size_alloc];omega⟩
theorem enter_drew {w:World} {g:Nat} {en:Pl} {l:List Tok} {d:Nat} (hp:PS w g en l d):∃ W,Hid (W=w.drew)∧PS W g en l d∧ButAt g w W :=
 ⟨_,hid rfl,hp.keep (Drawn.below ⟨1,rfl⟩),ButAt.of_below (Drawn.below ⟨1,rfl⟩)⟩
theorem row1 {w:World} {b:Nat} {x0:Value} {T:TypeId} (h:w.heap[b]? = some (.cells #[x0] T (0,0))):w.cell? ⟨b,0,none⟩=some x0∧w.frozen? ⟨b,0,none⟩=false :=
 ⟨cell_of_row w b 0 _ _ _ h,frozen_of_row h 0⟩
theorem deep_down {w:World} {g:Nat} {en:Pl} {l:List Tok} {d:Nat} (hp:PS w g en l (d+1)):∃ W,Hid (W=w.setCell ⟨g,3,none⟩ (.int .i64 (d:Int)))∧PS W g en l d∧ButAt g w W :=
 ⟨_,hid rfl,hp.deep (by have:=hp.d60;omega),(ButAt.refl g w).set 3 _⟩
def Tr.kd (x:Tr):Int:=x.top.1
def Tr.tx (x:Tr):List UInt8:=x.top.2
def mE (x:Tr):Bool:=isE x.kd && okT x
def mA (x:Tr):Bool:=x.kd == 15 && okT x
def mP (x:Tr):Bool:=x.kd == 7 && okT x
def mB (x:Tr):Bool:=x.kd == 8 && okT x
def mS (x:Tr):Bool:=isS x.kd && okT x
theorem kd_mk (k:Int) (t:List UInt8) (l:List Tr):(Tr.mk k t l).kd=k:=rfl
theorem tx_mk (k:Int) (t:List UInt8) (l:List Tr):(Tr.mk k t l).tx=t:=rfl
theorem all_ok (q:Int→Bool):∀ l:List Tr,((tops l).all (fun x=>q x.1) && okTs l)=l.all (fun x=>q x.kd && okT x)
 | []=>by rw [tops_nil,okTs_nil];rfl
 | x::r=>by
   have ih:=all_ok q r;rw [tops_cons,okTs_cons,List.all_cons,List.all_cons,← ih];show ((q x.kd && _) && (okT x && _))=((q x.kd && okT x) && (_ && _));cases q x.kd <;> cases okT x <;> simp
theorem okTs_all:∀ l:List Tr,okTs l=l.all okT
 | []=>by rw [okTs_nil];rfl
 | x::r=>by rw [okTs_cons,List.all_cons,okTs_all r]
theorem mE_9 (t:List UInt8) (l:List Tr):mE (.mk 9 t l)=(l.isEmpty && nameS t):=by
 unfold mE;rw [okT_mk,kd_mk];cases l with
 | nil=>rw [tops_nil,okTs_nil,Bool.and_true];rfl
 | cons x r=>rfl
theorem mE_10 (t:List UInt8) (l:List Tr):mE (.mk 10 t l)=(l.isEmpty && oneT 2 t):=by
 unfold mE;rw [okT_mk,kd_mk];cases l with
 | nil=>rw [tops_nil,okTs_nil,Bool.and_true];rfl
 | cons x r=>rfl
theorem mE_11 (t:List UInt8) (l:List Tr):mE (.mk 11 t l)=(l.isEmpty && !(t.any badQ)):=by
 unfold mE;rw [okT_mk,kd_mk];cases l with
 | nil=>rw [tops_nil,okTs_nil,Bool.and_true];rfl
 | cons x r=>rfl
theorem mE_12 (t:List UInt8) (l:List Tr):mE (.mk 12 t l)=(t.isEmpty && l.all mE):=by
 unfold mE;rw [okT_mk,kd_mk];show (true && ((t.isEmpty && (tops l).all (fun x=>isE x.1)) && okTs l))=_;rw [Bool.true_and,Bool.and_assoc,all_ok isE]
def dictE:List Tr→Bool
 | []=>true
 | [_]=>false
 | a::b::r=>a.kd == 11 && mE a && mE b && dictE r
theorem dict_ok:∀ l:List Tr,(dictB (tops l) && okTs l)=dictE l
 | []=>by rw [tops_nil,okTs_nil];rfl
 | [x]=>rfl
 | a::b::r=>by
   have ih:=dict_ok r;rw [tops_cons,tops_cons,okTs_cons,okTs_cons];show ((a.kd == 11 && isE a.kd && isE b.kd && dictB (tops r)) && _)=(a.kd == 11 && (isE a.kd && okT a) && (isE b.kd && okT b) && dictE r);rw [← ih];cases a.kd == 11 <;> cases isE a.kd <;> cases isE b.kd <;> cases okT a <;> cases okT b <;> simp
theorem mE_13 (t:List UInt8) (l:List Tr):mE (.mk 13 t l)=(t.isEmpty && dictE l):=by
 unfold mE;rw [okT_mk,kd_mk];show (true && ((t.isEmpty && dictB (tops l)) && okTs l))=_;rw [Bool.true_and,Bool.and_assoc,dict_ok]
theorem mE_14 (t:List UInt8) (l:List Tr):mE (.mk 14 t l)=(nameS t && l.all mA):=by
 unfold mE;rw [okT_mk,kd_mk];show (true && ((nameS t && (tops l).all (fun x=>x.1 == 15)) && okTs l))=_;rw [Bool.true_and,Bool.and_assoc,all_ok (fun k=>k == 15)];rfl
theorem mE_16 (t:List UInt8) (l:List Tr):mE (.mk 16 t l)=(decide (l.length=if t=wNot then 1 else 2) && (opB t || t == wNot) && l.all mE):=by
 unfold mE;rw [okT_mk,kd_mk];show (true && ((if t=wNot then oneE (tops l) else opB t && twoE (tops l)) && okTs l))=_;rw [Bool.true_and];have ha:=all_ok isE l;by_cases ht:t=wNot
 ·rw [if_pos ht,if_pos ht];have hb:(t == wNot)=true:=by simpa using ht
  rw [hb]
  match l,ha with
  | [],_=>rfl
  | [a],ha=>rw [← ha];simp [oneE,tops,Tr.top]
  | a::b::r,_=>simp [oneE,tops]
 ·rw [if_neg ht,if_neg ht];have hb:(t == wNot)=false:=by simpa using ht
  rw [hb]
  match l,ha with
  | [],_=>simp [twoE,tops]
  | [a],_=>simp [twoE,tops]
  | [a,b],ha=>rw [← ha];cases opB t <;> simp [twoE,tops,Bool.and_assoc]
  | a::b::c::r,_=>simp [twoE,tops]
theorem mE_no {k:Int} (t:List UInt8) (l:List Tr) (h:isE k=false):mE (.mk k t l)=false:=by unfold mE;rw [kd_mk,h];rfl
def oneM:List Tr→Bool
 | [a]=>mE a
 | _=>false
theorem one_ok:∀ l:List Tr,(oneE (tops l) && okTs l)=oneM l
 | []=>rfl
 | [a]=>by rw [okTs_cons,okTs_nil,Bool.and_true];rfl
 | _::_::_=>rfl
theorem mA_15 (t:List UInt8) (l:List Tr):mA (.mk 15 t l)=((t.isEmpty || nameS t) && oneM l):=by
 unfold mA;rw [okT_mk,kd_mk];show (true && (((t.isEmpty || nameS t) && oneE (tops l)) && okTs l))=_;rw [Bool.true_and,Bool.and_assoc,one_ok]
theorem mA_no {k:Int} (t:List UInt8) (l:List Tr) (h:(k == 15)=false):mA (.mk k t l)=false:=by unfold mA;rw [kd_mk,h];rfl
theorem type_name {t:List UInt8} (h:typeB t=true):nameS t=true:=by
 have h1:=tok_oneT (type_tok h) (.inl rfl) (by
  unfold typeB at h;simp only [Bool.or_eq_true,beq_iff_eq] at h;rcases h with ((((rfl | rfl) | rfl) | rfl) | rfl) | rfl <;> decide)
 unfold nameS;rw [h1];unfold typeB at h;simp only [Bool.or_eq_true,beq_iff_eq] at h;rcases h with ((((rfl | rfl) | rfl) | rfl) | rfl) | rfl <;> decide
def typeM (a:Tr):Bool:=a.kd == 9 && typeB a.tx && a.kids.isEmpty
theorem type_ok (a:Tr):(a.kd == 9 && typeB a.tx && okT a)=typeM a:=by
 cases a with
 | mk k t l =>
   rw [kd_mk,tx_mk];unfold typeM;rw [kd_mk,tx_mk];by_cases hk:k=9
   ·subst hk;have:=mE_9 t l;unfold mE at this;rw [show isE (Tr.mk 9 t l).kd=true from rfl,Bool.true_and] at this;rw [this];cases ht:typeB t with
    | false=>simp
    | true=>rw [type_name ht];simp [Tr.kids]
   ·rw [show (k == 9)=false by simpa using hk];rfl
def paramM:List Tr→Bool
 | [a]=>typeM a
 | [a,b]=>typeM a && mE b
 | _=>false
theorem mP_7 (t:List UInt8) (l:List Tr):mP (.mk 7 t l)=(nameS t && paramM l):=by
 unfold mP;rw [okT_mk,kd_mk];show (true && ((nameS t && paramB (tops l)) && okTs l))=_;rw [Bool.true_and,Bool.and_assoc];congr 1
 match l with
 | []=>rfl
 | [a]=>rw [okTs_cons,okTs_nil,Bool.and_true];exact type_ok a
 | [a,b] =>
   rw [okTs_cons,okTs_cons,okTs_nil,Bool.and_true];show ((a.kd == 9 && typeB a.tx && isE b.kd) && (okT a && okT b))=(typeM a && (isE b.kd && okT b));rw [← type_ok a];cases a.kd == 9 <;> cases typeB a.tx <;> cases isE b.kd <;> cases okT a <;> cases okT b <;> rfl
 | _::_::_::_=>rfl
theorem mP_no {k:Int} (t:List UInt8) (l:List Tr) (h:(k == 7)=false):mP (.mk k t l)=false:=by unfold mP;rw [kd_mk,h];rfl
theorem mB_8 (t:List UInt8) (l:List Tr):mB (.mk 8 t l)=(t.isEmpty && l.all mS):=by
 unfold mB;rw [okT_mk,kd_mk];show (true && ((t.isEmpty && (tops l).all (fun x=>isS x.1)) && okTs l))=_;rw [Bool.true_and,Bool.and_assoc,all_ok isS];rfl
theorem mB_no {k:Int} (t:List UInt8) (l:List Tr) (h:(k == 8)=false):mB (.mk k t l)=false:=by unfold mB;rw [kd_mk,h];rfl
theorem mS_2 (t:List UInt8) (l:List Tr):mS (.mk 2 t l)=(nameS t && oneM l):=by
 unfold mS;rw [okT_mk,kd_mk];show (true && ((nameS t && oneE (tops l)) && okTs l))=_;rw [Bool.true_and,Bool.and_assoc,one_ok]
def doM:List Tr→Bool
 | [a]=>a.kd == 14 && mE a
 | _=>false
theorem mS_3 (t:List UInt8) (l:List Tr):mS (.mk 3 t l)=(t.isEmpty && doM l):=by
 unfold mS;rw [okT_mk,kd_mk];show (true && ((t.isEmpty && (match tops l with | [a]=>a.1 == 14 | _=>false)) && okTs l))=_;rw [Bool.true_and,Bool.and_assoc];congr 1
 match l with
 | []=>rfl
 | [a] =>
   rw [okTs_cons,okTs_nil,Bool.and_true];show ((a.kd == 14) && okT a)=(a.kd == 14 && (isE a.kd && okT a));by_cases h:a.kd=14
   ·rw [h];rfl
   ·rw [show (a.kd == 14)=false by simpa using h];rfl
 | _::_::_=>rfl
def forM:List Tr→Bool
 | [a,b]=>mE a && mB b
 | _=>false
theorem for_ok:∀ l:List Tr,(forB (tops l) && okTs l)=forM l
 | []=>rfl
 | [_]=>rfl
 | [a,b]=>by
   rw [okTs_cons,okTs_cons,okTs_nil,Bool.and_true];show ((isE a.kd && b.kd == 8) && (okT a && okT b))=((isE a.kd && okT a) && (b.kd == 8 && okT b));cases isE a.kd <;> cases b.kd == 8 <;> cases okT a <;> cases okT b <;> rfl
 | _::_::_::_=>rfl
theorem mS_4 (t:List UInt8) (l:List Tr):mS (.mk 4 t l)=(nameS t && forM l):=by
 unfold mS;rw [okT_mk,kd_mk];show (true && ((nameS t && forB (tops l)) && okTs l))=_;rw [Bool.true_and,Bool.and_assoc,for_ok]
def ifM:List Tr→Bool
 | [a,b]=>mE a && mB b
 | [a,b,c]=>mE a && mB b && mB c
 | _=>false
theorem mS_5 (t:List UInt8) (l:List Tr):mS (.mk 5 t l)=(t.isEmpty && ifM l):=by
 unfold mS;rw [okT_mk,kd_mk];show (true && ((t.isEmpty && ifB (tops l)) && okTs l))=_;rw [Bool.true_and,Bool.and_assoc];congr 1
 match l with
 | []=>rfl
 | [_]=>rfl
 | [a,b] =>
   rw [okTs_cons,okTs_cons,okTs_nil,Bool.and_true];show ((isE a.kd && b.kd == 8) && (okT a && okT b))=((isE a.kd && okT a) && (b.kd == 8 && okT b));cases isE a.kd <;> cases b.kd == 8 <;> cases okT a <;> cases okT b <;> rfl
 | [a,b,c] =>
   rw [okTs_cons,okTs_cons,okTs_cons,okTs_nil,Bool.and_true];show ((isE a.kd && b.kd == 8 && c.kd == 8) && (okT a && (okT b && okT c)))=((isE a.kd && okT a) && (b.kd == 8 && okT b) && (c.kd == 8 && okT c));cases isE a.kd <;> cases b.kd == 8 <;> cases c.kd == 8 <;> cases okT a <;> cases okT b <;> cases okT c <;> rfl
 | _::_::_::_::_=>rfl
def ruleM (l:List Tr):Bool:=match l.getLast? with | some b=>l.dropLast.all mP && mB b | none=>false
theorem rule_ok:∀ l:List Tr,(ruleB (tops l) && okTs l)=ruleM l
 | []=>rfl
 | [a]=>by
   rw [okTs_cons,okTs_nil,Bool.and_true];show ((a.kd == 8) && okT a)=(true && (a.kd == 8 && okT a));rw [Bool.true_and]
 | a::b::r=>by
   have ih:=rule_ok (b::r);rw [okTs_cons];show ((a.kd == 7 && ruleB (tops (b::r))) && (okT a && okTs (b::r)))=_;unfold ruleM at ih ⊢;rw [List.getLast?_cons_cons,List.dropLast_cons_cons,List.all_cons];cases e:(b::r).getLast? with
   | none=>simp at e
   | some z =>
     rw [e] at ih;simp only at ih ⊢;show _=((a.kd == 7 && okT a) && (b::r).dropLast.all mP && mB z);rw [Bool.and_assoc (a.kd == 7 && okT a),← ih];cases a.kd == 7 <;> cases okT a <;> simp
theorem mS_6 (t:List UInt8) (l:List Tr):mS (.mk 6 t l)=(nameS t && ruleM l):=by
 unfold mS;rw [okT_mk,kd_mk];show (true && ((nameS t && ruleB (tops l)) && okTs l))=_;rw [Bool.true_and,Bool.and_assoc,rule_ok]
theorem mS_no {k:Int} (t:List UInt8) (l:List Tr) (h:isS k=false):mS (.mk k t l)=false:=by unfold mS;rw [kd_mk,h];rfl
theorem low_keep {pb:Nat} {w w':World} (h:Below pb w w'):Same (·<pb) w w':=⟨h.size,fun k _ hk=>h.block k hk⟩
theorem rep_tabs (n:Nat):(Lib.repeatL (⟨#[9]⟩:ByteArray).data.toList n)=List.replicate n 9:=by
 induction n with
 | zero=>rfl
 | succ n ih=>rw [List.replicate_succ,← ih];rfl
theorem kids_low {pb:Nat} {w:World} {k l c:Int} {t:List UInt8} {ks:List NM} {a:Option Addr} {m:Nat} (h:HeldN (·<pb) w (.mk k t l c ks a m)) (hn:0<ks.length) :
  ∃ kb ko,a=some ⟨kb,ko,none⟩∧kb<pb∧kb<w.heap.size∧ks.length≤m∧m≤maxLen∧(∀ j (hj:j<ks.length),FiveN w kb (ko+j * 5) ks[j]):=by
 obtain ⟨la,lc,hv,h1,h2,hx⟩:=h.any.kidsAt.nodes;obtain ⟨rfl,rfl⟩:a=la∧m=lc:=by simpa using hv
 obtain ⟨kb,ko,rfl,hlt,hc⟩:=hx 0 hn;refine ⟨kb,ko,rfl,?_,hlt,h1,h2,hc⟩;exact (heldN_mk h).1.2 kb ko _ _ rfl (by intro e;have:=nmCells_len ks;rw [e] at this;simp at this;omega)
theorem kid_low {pb:Nat} {w:World} {k l c:Int} {t:List UInt8} {ks:List NM} {a:Option Addr} {m:Nat} (h:HeldN (·<pb) w (.mk k t l c ks a m)) (j:Nat) (hj:j<ks.length):HeldN (·<pb) w ks[j]:=heldNs_get (heldN_mk h).2 j hj
def Puts (F:FuncId) (pb:Nat) (out:Nat→List Piece) (x:NM):Prop :=
 ∀ acc t w,PageAt pb pb acc t w→HeldN (·<pb) w x→t≤100000→acc.length+(render (out t)).length≤140737488355000 →
   Calls Tryz.prog F #[.pointer (some ⟨pb,0,none⟩),x.val] w fun e w'=>e=.returned (.tuple #[])∧PageAt pb pb (acc++render (out t)) t w'∧PK pb w w'
set_option maxHeartbeats 1000000 in
theorem line_any (pb:Nat) (acc:List UInt8) (t:Nat) (w:World) (h:PageAt pb pb acc t w) (ht:t≤100000) (hlen:acc.length+t≤140737488355000) :
  Calls Tryz.prog 41 #[.pointer (some ⟨pb,0,none⟩)] w fun e w'=>e=.returned (.tuple #[])∧PageAt pb pb (acc++List.replicate t 9) t w'∧PK pb w w':=by
 have HP:=hid h;have hlt:=h.lt.2;go_enter Tryz.func41,Tryz.ntmps41
 go_wp2_with fail;refine wp_region_wh (S:=fun W=>∃ p v,W.heap[pb]? = some (.cells #[p,v,.int .i64 (t:Int)] 66 (0,0))) (by kernel_rfl) ?_;obtain ⟨w1,hw,hbb⟩:∃ W,Hid (W=w.drew)∧Below w.heap.size w W:=⟨_,hid rfl,Drawn.below ⟨1,rfl⟩⟩;rw [← hw.out];clear hw;have HP1:=hid (HP.out.below hbb);have HK:=hid (PK.of hbb (Nat.le_of_lt hlt));have hlt1:pb<w1.heap.size:=HP1.out.lt.2;have hS:=HP1.out.row;clear hbb h HP;refine WH.tk 0 (some 2) (.pointer (some ⟨pb,0,none⟩)) hS ?_;(try simp only [Act.put,sA,sB,sC]);refine WH.tk 1 (some 3) (.pointer (some ⟨pb,0,none⟩)) hS ?_;(try simp only [Act.put,sA,sB,sC]);refine WH.tk 2 (some 4) (.pointer (some ⟨pb,0,none⟩)) hS ?_;(try simp only [Act.put,sA,sB,sC]);refine WH.tk 3 (some 5) (.pointer (some ⟨pb,0,none⟩)) hS ?_;(try simp only [Act.put,sA,sB,sC]);refine WH.tk 4 (some 6) (.pointer (some ⟨pb,0,none⟩)) hS ?_;(try simp only [Act.put,sA,sB,sC]);refine WH.tk 5 (some 7) (.pointer (some ⟨pb,2,none⟩)) hS ?_;(try simp only [Act.put,sA,sB,sC]);refine WH.take 6 (some 8) rfl rfl (by kernel_rfl) (by kernel_rfl) (by kernel_rfl) (fun _ _ _ _ h=>h) hS ⟨.int .i64 (t:Int),⟨by kernel_rfl,fun W hW=>by obtain ⟨p,v,hr⟩:=hW;have q:W.cell? ⟨pb,2,none⟩=some (.int .i64 (t:Int)):=cell_of_row W _ 2 _ _ _ hr;go_simp⟩,?_⟩;(try simp only [Act.put,sA,sB,sC]);refine WH.one 7 (by kernel_rfl) rfl (by kernel_rfl) ?_;intro K hK;go_simp;refine (Tryz.strings_Repeat ⟨#[9]⟩ t w1 (by omega) (by show 1 * t≤_;omega)).mono ?_;rintro e w2 ⟨rfl,hb2⟩;rw [rep_tabs];have hbs:(⟨(List.replicate t (9:UInt8)).toArray⟩:ByteArray)=bs (List.replicate t 9):=rfl;rw [hbs];clear hbs;have HP2:=hid (HP1.out.below hb2);have HK2:=hid (HK.out.trans (PK.of hb2 (Nat.le_of_lt hlt1)));clear hb2 HP1 HK;go_wp2_with fail;refine hK.out _ _ HP2.out.row ?_;clear hK K;(try simp only [Act.put,sA,sB,sC]);refine WH.one 8 (by kernel_rfl) rfl (by kernel_rfl) ?_;intro K hK;go_simp;refine (wstr pb acc t (List.replicate t 9) w2 HP2.out (by rw [List.length_replicate];omega)).mono ?_;rintro e w3 ⟨rfl,hp3,hk3⟩;have HP3:=hid hp3;have HK3:=hid (HK2.out.trans hk3);clear hp3 hk3 HK2 HP2;go_wp2_with fail;refine hK.out _ _ HP3.out.row ?_;clear hK K;(try simp only [Act.put,sA,sB,sC]);refine WH.done (by kernel_rfl) ?_;go_wp2_with fail
 go_end0
 exact ⟨rfl,HP3.out,HK3.out⟩
set_option maxHeartbeats 1000000 in
theorem two_any (k:Int) (t:List UInt8) (l c:Int) (sl:Option Addr) (n m:Nat) (w:World) :
  Calls Tryz.prog 117 #[nodeV k t l c (.slice sl n m)] w fun e w'=>e=.returned (.bool (twoT (k,t)))∧Below w.heap.size w w':=by
 have HO:Hid (twoT (k,t)=(k == 16 && !(t == [110,111,116]))):=hid rfl;cases q:(k == 16) with
 | false =>
   go_enter Tryz.func117,Tryz.ntmps117
   go_wp2_with fail;go_ret;exact ⟨by rw [HO.out,q];rfl,below_new w _⟩
 | true =>
   cases q2:(t == [110,111,116]) with
   | false =>
     go_enter Tryz.func117,Tryz.ntmps117
     go_wp2_with fail;go_ret;exact ⟨by rw [HO.out,q,q2];rfl,below_new w _⟩
   | true =>
     go_enter Tryz.func117,Tryz.ntmps117
     go_wp2_with fail;go_ret;exact ⟨by rw [HO.out,q,q2];rfl,below_new w _⟩
end Go.Proofs.YtfgiihpopngbkaaGreatDoor
