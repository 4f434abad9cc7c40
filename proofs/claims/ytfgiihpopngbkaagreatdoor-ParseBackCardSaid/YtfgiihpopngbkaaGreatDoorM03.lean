/- Lemmas and walks that the statement needs: QuietBelow, QuietHeld, NodeMem, ParseAt, ParseTake, PageBuild, PageWrite. -/
import Derived.Test.YtfgiihpopngbkaaGreatDoorM01
import Derived.Deep.Quiet
import Derived.Deep.QuietTactic
import Derived.Deep.RegionHeld3
import Derived.Deep.MidRow
import Derived.Test.YtfgiihpopngbkaaGreatDoorM02
import Derived.ChangeKeysEq
import Derived.Test.YtfgiihpopngbkaaGreatDoorShelf
import Derived.RegionTactic
import Derived.Lib.FrozenHead
namespace Go.Proofs.YtfgiihpopngbkaaGreatDoor
set_option maxRecDepth 100000
open Go.RowKit
open Nat renaming lt_of_lt_of_le→nL,le_trans→nT
theorem wp_region_below {P:Program} {id:Nat} {Q:Exit→Act→World→Prop} {a:Act} {w:World} {l:List Oper} (hm:P.follows .mixedOrders=true) (hB:Region.lexB .any l.toArray=true)
  (h:wpQuiet P l.toArray (fun w'=>Below w.heap.size w w') (fun a'=>∀ w',Below w.heap.size w w'→Q .normal a' w') l a):(Code.region id l.toArray true).wp P Q a w :=
 wp_region_quiet (C:=fun w'=>Below w.heap.size w w') hm hB ⟨rfl,rfl,rfl,Nat.le_refl _,fun _ _=>rfl⟩ (by simpa using h)
theorem Calls.quiet_below {P:Program} {f:FuncId} {args:Array Value} {w W:World} {v:Value} (hW:Below w.heap.size w W)
  (h:Calls P f args W fun e w'=>e=.returned v∧Below W.heap.size W w'):Calls P f args W fun e w''=>e=.returned v∧Below w.heap.size w w'' :=
 h.mono fun _ _ ⟨he,hb⟩=>⟨he,Below.chain hW hb⟩
theorem Below.keeps {w W:World} (hW:Below w.heap.size w W) {a:Addr} {v:Value} (h:w.cell? a=some v):W.cell? a=some v:=(hW.cell (World.block_lt_of_cell? w _ h)).trans h
structure WQ (P:Program) (ops:Array Oper) (C:World→Prop) (Q:Act→Prop) (l:List Oper) (a:Act):Prop where
 out:wpQuiet P ops C Q l a
theorem WQ.step {P:Program} {ops:Array Oper} {C:World→Prop} {Q:Act→Prop} {a:Act} {o:Oper} {rest:List Oper}
  (h:∀ K:Act→Prop,(∀ a,WQ P ops C Q rest a→K a)→if Region.wanted o (yielded ops a.tmps) then o.quiet P a C K else K (a.put o.dst undef)):WQ P ops C Q (o::rest) a :=
 ⟨wpQuiet_step (fun K hK=>h K (fun a ha=>hK a ha.out))⟩
theorem WQ.nil {P:Program} {ops:Array Oper} {C:World→Prop} {Q:Act→Prop} {a:Act} (h:Q a):WQ P ops C Q [] a:=⟨wpQuiet_nil h⟩
theorem wp_region_wq {P:Program} {id:Nat} {Q:Exit→Act→World→Prop} {a:Act} {w:World} {l:List Oper} (hm:P.follows .mixedOrders=true) (hB:Region.lexB .any l.toArray=true)
  (h:WQ P l.toArray (fun w'=>Below w.heap.size w w') (fun a'=>∀ w',Below w.heap.size w w'→Q .normal a' w') l a):(Code.region id l.toArray true).wp P Q a w:=wp_region_below hm hB h.out
end Go.Proofs.YtfgiihpopngbkaaGreatDoor
namespace Go.Proofs.YtfgiihpopngbkaaGreatDoor
open Go.RowKit
open Nat renaming lt_of_lt_of_le→nL,le_trans→nT
structure WH (P:Program) (ops:Array Oper) (Q:Exit→Act→World→Prop) (S:World→Prop) (fuel:Nat) (listed:Array Bool) (a:Act) (w:World):Prop where
 out:wpAnyH P .any ops Q S fuel listed a w
variable {P:Program} {ops:Array Oper} {Q:Exit→Act→World→Prop} {S:World→Prop} {fuel:Nat} {listed:Array Bool} {a:Act} {w:World}
theorem wp_region_wh {id:Nat} {l:List Oper} (hm:P.follows .mixedOrders=true) (h:WH P l.toArray Q S l.length (Array.replicate l.length false) a w.drew):(Code.region id l.toArray true).wp P Q a w :=
 wp_region_held (S:=S) hm (by simpa using h.out)
theorem WH.take (i:Nat) (dst:Option Tmp) {oi:Oper} (hi:ops[i]? = some oi) (hd:oi.dst=dst) (hs:Region.noSelect ops=true) (hf:Region.free .any ops listed i=true) (hr:(Region.ready .any ops listed).contains i=true)
  (hQ':∀ v c a w,Q (.panic c) (a.put oi.dst v) w→Q (.panic c) a w) (hS:S w)
  (h:∃ v,(Region.wanted oi (yielded ops a.tmps)=true∧∀ W,S W→(execOp a.eval oi).run P W=.ok (.value v) W)∧WH P ops Q S fuel (listed.setIfInBounds i true) (a.put dst v) w):WH P ops Q S (fuel+1) listed a w:=by
 subst hd;obtain ⟨v,hy,h⟩:=h;exact ⟨wpAnyH_take hi hs hf hr (hQ' v) (.inl hy) hS h.out⟩
theorem WH.skip (i:Nat) (dst:Option Tmp) {oi:Oper} (hi:ops[i]? = some oi) (hd:oi.dst=dst) (hs:Region.noSelect ops=true) (hf:Region.free .any ops listed i=true) (hr:(Region.ready .any ops listed).contains i=true)
  (hQ:∀ c a w,Q (.panic c) (a.put oi.dst undef) w→Q (.panic c) a w) (hS:S w) (hw:Region.wanted oi (yielded ops a.tmps)=false)
  (h:WH P ops Q S fuel (listed.setIfInBounds i true) (a.put dst undef) w):WH P ops Q S (fuel+1) listed a w:=by
 subst hd;exact ⟨wpAnyH_take hi hs hf hr hQ (.inr ⟨hw,rfl⟩) hS h.out⟩
theorem WH.one (i:Nat) {oi:Oper} (hr:Region.ready .any ops listed=[i]) (hi:ops[i]? = some oi) (hw:Region.wanted oi (yielded ops a.tmps)=true)
  (h:∀ K':Act→World→Prop,Shut (∀ a w,S w→WH P ops Q S fuel (listed.setIfInBounds i true) a w→K' a w)→Oper.wp P oi a w K' Q):WH P ops Q S (fuel+1) listed a w :=
 ⟨wpAnyH_all hr (by simp) (fun j hj=>by
  obtain rfl:j=i:=by simpa using hj
  exact wpOp_step hi (fun K' hK=>by rw [if_pos hw];exact h K' (fun a w hS hW=>hK a w ⟨hS,hW.out⟩)))⟩
theorem WH.two (i j:Nat) {oi oj:Oper} (hr:Region.ready .any ops listed=[i,j]) (hi:ops[i]? = some oi) (hw:Region.wanted oi (yielded ops a.tmps)=true) (hj:ops[j]? = some oj) (hv:Region.wanted oj (yielded ops a.tmps)=true)
  (h:∀ K':Act→World→Prop,Shut (∀ a w,S w→WH P ops Q S fuel (listed.setIfInBounds i true) a w→K' a w)→Oper.wp P oi a w K' Q)
  (h':∀ K':Act→World→Prop,Shut (∀ a w,S w→WH P ops Q S fuel (listed.setIfInBounds j true) a w→K' a w)→Oper.wp P oj a w K' Q):WH P ops Q S (fuel+1) listed a w :=
 ⟨wpAnyH_all hr (by simp) (fun k hk=>by
  rcases List.mem_cons.1 hk with rfl | hk
  ·exact wpOp_step hi (fun K' hK=>by rw [if_pos hw];exact h K' (fun a w hS hW=>hK a w ⟨hS,hW.out⟩))
  ·obtain rfl:k=j:=by simpa using hk
   exact wpOp_step hj (fun K' hK=>by rw [if_pos hv];exact h' K' (fun a w hS hW=>hK a w ⟨hS,hW.out⟩)))⟩
theorem WH.three (i j k:Nat) {oi oj ok:Oper} (hr:Region.ready .any ops listed=[i,j,k]) (hi:ops[i]? = some oi) (hj:ops[j]? = some oj) (hk:ops[k]? = some ok)
  (hwi:Region.wanted oi (yielded ops a.tmps)=true) (hwj:Region.wanted oj (yielded ops a.tmps)=true) (hwk:Region.wanted ok (yielded ops a.tmps)=true)
  (h:∀ K':Act→World→Prop,Shut (∀ a w,S w→WH P ops Q S fuel (listed.setIfInBounds i true) a w→K' a w)→Oper.wp P oi a w K' Q)
  (h':∀ K':Act→World→Prop,Shut (∀ a w,S w→WH P ops Q S fuel (listed.setIfInBounds j true) a w→K' a w)→Oper.wp P oj a w K' Q)
  (h'':∀ K':Act→World→Prop,Shut (∀ a w,S w→WH P ops Q S fuel (listed.setIfInBounds k true) a w→K' a w)→Oper.wp P ok a w K' Q):WH P ops Q S (fuel+1) listed a w :=
 ⟨wpAnyH_all hr (by simp) (fun m hm=>by
  simp only [List.mem_cons,List.not_mem_nil,or_false] at hm;rcases hm with rfl | rfl | rfl
  ·exact wpOp_step hi (fun K' hK=>by rw [if_pos hwi];exact h K' (fun a w hS hW=>hK a w ⟨hS,hW.out⟩))
  ·exact wpOp_step hj (fun K' hK=>by rw [if_pos hwj];exact h' K' (fun a w hS hW=>hK a w ⟨hS,hW.out⟩))
  ·exact wpOp_step hk (fun K' hK=>by rw [if_pos hwk];exact h'' K' (fun a w hS hW=>hK a w ⟨hS,hW.out⟩)))⟩
theorem WH.take_load (i:Nat) (dst:Option Tmp) {oi:Oper} (hi:ops[i]? = some oi) (hd:oi.dst=dst) (hs:Region.noSelect ops=true) (hf:Region.free .any ops listed i=true) (hr:(Region.ready .any ops listed).contains i=true)
  (hQ':∀ v c a w,Q (.panic c) (a.put oi.dst v) w→Q (.panic c) a w) (hS:S w) (hw:Region.wanted oi (yielded ops a.tmps)=true)
  (ty:TypeId) (x:Operand) (ho:oi.op=.load ty x) (b o:Nat) (hx:a.eval x=.pointer (some ⟨b,o,none⟩)) (cs:List Value) (d:TypeDesc) (hc:∀ w,S w→w.rangeAt b o cs)
  (hu:P.underlying ty=some d) (hrow:d.isRow=true) (hsz:(P.info? ty).map (·.size)=some cs.length)
  (h:WH P ops Q S fuel (listed.setIfInBounds i true) (a.put dst (.agg cs.toArray)) w):WH P ops Q S (fuel+1) listed a w:=by
 subst hd;exact ⟨wpAnyH_take hi hs hf hr (hQ' _) (yieldsIf_load_mid hw ty x ho b o hx cs d hc hu hrow hsz) hS h.out⟩
theorem WH.tk (i:Nat) (dst:Option Tmp) (v:Value) (hS:S w) {oi:Oper} (h:WH P ops Q S fuel (listed.setIfInBounds i true) (a.put dst v) w)
  (hi:ops[i]? = some oi:=by rfl) (hd:oi.dst=dst:=by rfl) (hs:Region.noSelect ops=true:=by kernel_rfl) (hf:Region.free .any ops listed i=true:=by kernel_rfl) (hr:(Region.ready .any ops listed).contains i=true:=by kernel_rfl)
  (hQ':∀ v c a w,Q (.panic c) (a.put oi.dst v) w→Q (.panic c) a w:=by exact fun _ _ _ _ h=>h) (hw:Region.wanted oi (yielded ops a.tmps)=true:=by kernel_rfl) (hv:∀ W,S W→(execOp a.eval oi).run P W=.ok (.value v) W:=by exact fun _ _=>rfl):WH P ops Q S (fuel+1) listed a w :=
 WH.take i dst hi hd hs hf hr hQ' hS ⟨v,⟨hw,hv⟩,h⟩
theorem WH.sk (i:Nat) (dst:Option Tmp) (hS:S w) {oi:Oper} (h:WH P ops Q S fuel (listed.setIfInBounds i true) (a.put dst undef) w)
  (hi:ops[i]? = some oi:=by rfl) (hd:oi.dst=dst:=by rfl) (hs:Region.noSelect ops=true:=by kernel_rfl) (hf:Region.free .any ops listed i=true:=by kernel_rfl) (hr:(Region.ready .any ops listed).contains i=true:=by kernel_rfl)
  (hQ:∀ c a w,Q (.panic c) (a.put oi.dst undef) w→Q (.panic c) a w:=by exact fun _ _ _ h=>h) (hw:Region.wanted oi (yielded ops a.tmps)=false:=by kernel_rfl):WH P ops Q S (fuel+1) listed a w :=
 WH.skip i dst hi hd hs hf hr hQ hS hw h
theorem WH.tl (i:Nat) (dst:Option Tmp) (hS:S w) (ty:TypeId) (b o:Nat) (cs:List Value) (hc:∀ w,S w→w.rangeAt b o cs) {d:TypeDesc} (hu:P.underlying ty=some d) {oi:Oper} {x:Operand} (h:WH P ops Q S fuel (listed.setIfInBounds i true) (a.put dst (.agg cs.toArray)) w)
  (hi:ops[i]? = some oi:=by rfl) (hd:oi.dst=dst:=by rfl) (hs:Region.noSelect ops=true:=by kernel_rfl) (hf:Region.free .any ops listed i=true:=by kernel_rfl) (hr:(Region.ready .any ops listed).contains i=true:=by kernel_rfl)
  (hQ':∀ v c a w,Q (.panic c) (a.put oi.dst v) w→Q (.panic c) a w:=by exact fun _ _ _ _ h=>h) (hw:Region.wanted oi (yielded ops a.tmps)=true:=by kernel_rfl)
  (ho:oi.op=.load ty x:=by rfl) (hx:a.eval x=.pointer (some ⟨b,o,none⟩):=by rfl) (hrow:d.isRow=true:=by rfl) (hsz:(P.info? ty).map (·.size)=some cs.length:=by kernel_rfl):WH P ops Q S (fuel+1) listed a w :=
 WH.take_load i dst hi hd hs hf hr hQ' hS hw ty x ho b o hx cs d hc hu hrow hsz h
theorem WH.done (hr:Region.ready .any ops listed=[]) (h:Q .normal a w):WH P ops Q S fuel listed a w:=⟨wpAnyH_done hr h fuel⟩
end Go.Proofs.YtfgiihpopngbkaaGreatDoor
namespace Go.Proofs.YtfgiihpopngbkaaGreatDoor
set_option maxRecDepth 100000
open Go.RowKit
open Nat renaming lt_of_lt_of_le→nL,le_trans→nT
inductive NM where
 | mk (k:Int) (t:List UInt8) (l c:Int) (kids:List NM) (a:Option Addr) (cap:Nat)
def NM.kids:NM→List NM | .mk _ _ _ _ ks _ _=>ks
def NM.k:NM→Int | .mk k _ _ _ _ _ _=>k
def NM.t:NM→List UInt8 | .mk _ t _ _ _ _ _=>t
def NM.l:NM→Int | .mk _ _ l _ _ _ _=>l
def NM.c:NM→Int | .mk _ _ _ c _ _ _=>c
def NM.sl:NM→Value | .mk _ _ _ _ ks a cap=>.slice a ks.length cap
def NM.cells:NM→List Value | .mk k t l c ks a cap=>[.int .i64 k,.string (bs t),.int .i64 l,.int .i64 c,.slice a ks.length cap]
abbrev nodeV (k:Int) (t:List UInt8) (l c:Int) (s:Value):Value:=.agg #[.int .i64 k,.string (bs t),.int .i64 l,.int .i64 c,s]
def NM.val (x:NM):Value:=nodeV x.k x.t x.l x.c x.sl
def nmCells (l:List NM):List Value:=l.flatMap NM.cells
theorem nmCells_cons (x:NM) (l:List NM):nmCells (x::l)=x.cells++nmCells l:=rfl
theorem nmCells_app (a b:List NM):nmCells (a++b)=nmCells a++nmCells b:=by simp [nmCells]
theorem NM.cells_len (x:NM):x.cells.length=5:=by cases x;rfl
theorem nmCells_len (l:List NM):(nmCells l).length=l.length * 5:=by
 induction l with
 | nil=>rfl
 | cons x l ih=>rw [nmCells_cons,List.length_append,NM.cells_len,ih,List.length_cons];omega
theorem NM.cells_one (x:NM):∀ u ∈ x.cells,u.oneCell'=true:=by
 cases x with
 | mk k t l c ks a cap =>
   intro u hu;simp only [NM.cells,List.mem_cons,List.not_mem_nil,or_false] at hu;rcases hu with rfl | rfl | rfl | rfl | rfl <;> rfl
theorem nmCells_one (l:List NM):∀ u ∈ nmCells l,u.oneCell'=true:=by
 intro u hu;simp only [nmCells,List.mem_flatMap] at hu;obtain ⟨x,_,hx⟩:=hu;exact x.cells_one u hx
def SliceFrom (P:Nat→Prop) (w:World) (size:Nat) (v:Value) (n:Nat) (xs:List Value):Prop :=
 SliceAt w size v n xs∧∀ b off n' c,v=.slice (some ⟨b,off,none⟩) n' c→xs≠[]→P b
mutual
def HeldN (P:Nat→Prop) (w:World):NM→Prop
 | .mk _ _ _ _ ks a cap=>SliceFrom P w 5 (.slice a ks.length cap) ks.length (nmCells ks)∧HeldNs P w ks
def HeldNs (P:Nat→Prop) (w:World):List NM→Prop
 | []=>True
 | x::r=>HeldN P w x∧HeldNs P w r
end
theorem heldN_mk {P:Nat→Prop} {w:World} {k l c:Int} {t:List UInt8} {ks:List NM} {a:Option Addr} {cap:Nat} (h:HeldN P w (.mk k t l c ks a cap)):SliceFrom P w 5 (.slice a ks.length cap) ks.length (nmCells ks)∧HeldNs P w ks:=by unfold HeldN at h;exact h
theorem mk_heldN {P:Nat→Prop} {w:World} {k l c:Int} {t:List UInt8} {ks:List NM} {a:Option Addr} {cap:Nat} (h:SliceFrom P w 5 (.slice a ks.length cap) ks.length (nmCells ks)) (h':HeldNs P w ks):HeldN P w (.mk k t l c ks a cap):=by unfold HeldN;exact ⟨h,h'⟩
theorem heldNs_nil {P:Nat→Prop} {w:World}:HeldNs P w []:=by unfold HeldNs;trivial
theorem heldNs_app {P:Nat→Prop} {w:World}:∀ {a b:List NM},HeldNs P w a→HeldNs P w b→HeldNs P w (a++b)
 | [],_,_,h=>h
 | x::r,b,h,h'=>by unfold HeldNs at h;show HeldNs P w (x::(r++b));unfold HeldNs;exact ⟨h.1,heldNs_app h.2 h'⟩
theorem heldNs_one {P:Nat→Prop} {w:World} {x:NM} (h:HeldN P w x):HeldNs P w [x]:=by unfold HeldNs;exact ⟨h,by unfold HeldNs;trivial⟩
theorem heldNs_two {P:Nat→Prop} {w:World} {x y:NM} (h:HeldN P w x) (h':HeldN P w y):HeldNs P w [x,y]:=by unfold HeldNs;exact ⟨h,heldNs_one h'⟩
theorem heldNs_get {P:Nat→Prop} {w:World}:∀ {l:List NM},HeldNs P w l→∀ k (h:k<l.length),HeldN P w l[k]
 | [],_,k,h=>by simp at h
 | v::r,hl,k,h=>by
   unfold HeldNs at hl;cases k with
   | zero=>exact hl.1
   | succ k=>exact heldNs_get hl.2 k (by simpa using h)
def Same (P:Nat→Prop) (w w':World):Prop:=w.heap.size≤w'.heap.size∧∀ k,k<w.heap.size→P k→w'.heap[k]? = w.heap[k]?
theorem Same.of_below {P:Nat→Prop} {w w':World} (h:Below w.heap.size w w'):Same P w w':=⟨h.size,fun k hk _=>h.block k hk⟩
theorem Same.trans {P:Nat→Prop} {w w1 w2:World} (h:Same P w w1) (k:Same P w1 w2):Same P w w2 :=
 ⟨nT h.1 k.1,fun j hj hl=>(k.2 j (nL hj h.1) hl).trans (h.2 j hj hl)⟩
theorem Same.refl (P:Nat→Prop) (w:World):Same P w w:=⟨Nat.le_refl _,fun _ _ _=>rfl⟩
theorem SliceFrom.keep {P:Nat→Prop} {w w':World} {size:Nat} {v:Value} {n:Nat} {xs:List Value} (h:SliceFrom P w size v n xs) (hb:Same P w w'):SliceFrom P w' size v n xs:=by
 obtain ⟨⟨hl,a,c,rfl,hc,hm,hn,hx⟩,hlo⟩:=h;refine ⟨⟨hl,a,c,rfl,hc,hm,hn,fun hne=>?_⟩,hlo⟩;obtain ⟨b,off,rfl,hlt,hcell⟩:=hx hne;refine ⟨b,off,rfl,nL hlt hb.1,fun j u hu=>?_⟩;rw [← hcell j u hu];exact World.cell?_of_block (w:=w) (hb.2 b hlt (hlo b off _ _ rfl hne))
mutual
theorem HeldN.keep {P:Nat→Prop} {w w':World} (hb:Same P w w'):∀ {x:NM},HeldN P w x→HeldN P w' x
 | .mk _ _ _ _ ks a cap,h=>by unfold HeldN at h ⊢;exact ⟨h.1.keep hb,HeldNs.keep hb h.2⟩
theorem HeldNs.keep {P:Nat→Prop} {w w':World} (hb:Same P w w'):∀ {l:List NM},HeldNs P w l→HeldNs P w' l
 | [],_=>by unfold HeldNs;trivial
 | x::r,h=>by unfold HeldNs at h ⊢;exact ⟨HeldN.keep hb h.1,HeldNs.keep hb h.2⟩
end
theorem SliceFrom.less {P P':Nat→Prop} {w:World} (hl:∀ b,b<w.heap.size→P b→P' b) {size:Nat} {v:Value} {n:Nat} {xs:List Value} (h:SliceFrom P w size v n xs):SliceFrom P' w size v n xs :=
 ⟨h.1,fun b o n' c e hne=>by
  obtain ⟨_,a,c',e',_,_,_,hx⟩:=h.1;obtain ⟨b',o',rfl,hlt,_⟩:=hx hne;have:b'=b:=by rw [e] at e';simp at e';exact e'.1.1.symm
  subst this;exact hl _ hlt (h.2 _ _ _ _ e hne)⟩
mutual
theorem HeldN.less {P P':Nat→Prop} {w:World} (hl:∀ b,b<w.heap.size→P b→P' b):∀ {x:NM},HeldN P w x→HeldN P' w x
 | .mk _ _ _ _ ks a cap,h=>by unfold HeldN at h ⊢;exact ⟨h.1.less hl,HeldNs.less hl h.2⟩
theorem HeldNs.less {P P':Nat→Prop} {w:World} (hl:∀ b,b<w.heap.size→P b→P' b):∀ {l:List NM},HeldNs P w l→HeldNs P' w l
 | [],_=>by unfold HeldNs;trivial
 | x::r,h=>by unfold HeldNs at h ⊢;exact ⟨HeldN.less hl h.1,HeldNs.less hl h.2⟩
end
mutual
def NM.is:NM→Nd→Prop
 | .mk k t l c ks _ _,.mk k' t' p ks'=>k=k'∧t=t'∧l=(p.1:Int)∧c=(p.2:Int)∧NM.are ks ks'
def NM.are:List NM→List Nd→Prop
 | [],[]=>True
 | x::r,y::s=>NM.is x y∧NM.are r s
 | [],_::_=>False
 | _::_,[]=>False
end
theorem are_app:∀ {a:List NM} {a':List Nd} {b:List NM} {b':List Nd},NM.are a a'→NM.are b b'→NM.are (a++b) (a'++b')
 | [],[],_,_,_,h=>h
 | x::r,y::s,b,b',h,h'=>by unfold NM.are at h;show NM.are (x::(r++b)) (y::(s++b'));unfold NM.are;exact ⟨h.1,are_app h.2 h'⟩
 | [],_::_,_,_,h,_=>by unfold NM.are at h;exact h.elim
 | _::_,[],_,_,h,_=>by unfold NM.are at h;exact h.elim
theorem are_one {x:NM} {y:Nd} (h:x.is y):NM.are [x] [y]:=by unfold NM.are;exact ⟨h,by unfold NM.are;trivial⟩
theorem are_two {x x':NM} {y y':Nd} (h:x.is y) (h':x'.is y'):NM.are [x,x'] [y,y']:=by unfold NM.are;exact ⟨h,are_one h'⟩
theorem are_len:∀ {a:List NM} {a':List Nd},NM.are a a'→a.length=a'.length
 | [],[],_=>rfl
 | x::r,y::s,h=>by unfold NM.are at h;simp [are_len h.2]
 | [],_::_,h=>by unfold NM.are at h;exact h.elim
 | _::_,[],h=>by unfold NM.are at h;exact h.elim
theorem is_mk {k:Nat} {t:List UInt8} {p:Pl} {ks:List NM} {ks':List Nd} (h:NM.are ks ks') (a:Option Addr) (c:Nat):(NM.mk (k:Int) t (p.1:Int) (p.2:Int) ks a c).is (.mk k t p ks'):=by
 unfold NM.is;exact ⟨rfl,rfl,rfl,rfl,h⟩
theorem are_nil:NM.are [] []:=by unfold NM.are;trivial
theorem held_kids {P:Nat→Prop} {w:World} {b:Nat} {cs:Array Value} {T:TypeId} (hr:w.heap[b]? = some (.cells cs T (0,0))) {ks:List NM} (hc:cs.toList=nmCells ks) (hl:ks.length≤1000) (hP:P b) (hh:HeldNs P w ks) (k l c:Int) (t:List UInt8) :
  HeldN P w (.mk k t l c ks (some ⟨b,0,none⟩) ks.length):=by
 refine mk_heldN ⟨⟨nmCells_len ks,_,_,rfl,Nat.le_refl _,by unfold maxLen;omega,fun h=>(by cases h),fun _=>⟨b,0,rfl,(Array.getElem?_eq_some_iff.1 hr).1,fun j u hu=>?_⟩⟩,fun b' o n c' e _=>?_⟩ hh
 ·rw [Nat.zero_add,cell_of_row w b j _ _ _ hr];rw [← hc] at hu;simpa using hu
 ·simp at e;obtain ⟨⟨rfl,_⟩,_⟩:=e;exact hP
theorem held_none {P:Nat→Prop} {w:World} (k l c:Int) (t:List UInt8):HeldN P w (.mk k t l c [] none 0) :=
 mk_heldN ⟨SliceAt.nil w 5,fun _ _ _ _ _ h=>absurd rfl h⟩ heldNs_nil
abbrev tokA (t:Tok):Value:=.agg #[.int .i64 t.1,.string (bs t.2.1),.int .i64 t.2.2.1,.int .i64 t.2.2.2]
structure TokAt (w:World) (b o:Nat) (t:Tok):Prop where
 c0:w.cell? ⟨b,o,none⟩=some (.int .i64 t.1)
 c1:w.cell? ⟨b,o+1,none⟩=some (.string (bs t.2.1))
 c2:w.cell? ⟨b,o+2,none⟩=some (.int .i64 t.2.2.1)
 c3:w.cell? ⟨b,o+3,none⟩=some (.int .i64 t.2.2.2)
theorem TokAt.same {w w':World} {b o:Nat} {t:Tok} (h:TokAt w b o t) (e:w'.heap[b]? = w.heap[b]?):TokAt w' b o t :=
 ⟨(World.cell?_of_block (w:=w) e).trans h.c0,(World.cell?_of_block (w:=w) e).trans h.c1,(World.cell?_of_block (w:=w) e).trans h.c2,(World.cell?_of_block (w:=w) e).trans h.c3⟩
def ToksAt (w:World) (g:Nat) (a:Option Addr) (l:List Tok):Prop :=
 l≠[]→∃ b off,a=some ⟨b,off,none⟩∧b<g∧b<w.heap.size∧∀ j (h:j<l.length),TokAt w b (off+j * 4) l[j]
theorem ToksAt.same {w w':World} {g:Nat} {a:Option Addr} {l:List Tok} (h:ToksAt w g a l) (hs:w.heap.size≤w'.heap.size) (e:∀ b,b<g→b<w.heap.size→w'.heap[b]? = w.heap[b]?):ToksAt w' g a l:=by
 intro hne;obtain ⟨b,off,ha,hb,hbs,ht⟩:=h hne;exact ⟨b,off,ha,hb,by omega,fun j hj=>(ht j hj).same (e b hb hbs)⟩
abbrev parC (v:Value) (en:Pl) (d:Int):Array Value:=#[v,.int .i64 en.1,.int .i64 en.2,.int .i64 d]
def PS (w:World) (g:Nat) (en:Pl) (l:List Tok) (d:Nat):Prop :=
 ∃ a c,w.heap[g]? = some (.cells (parC (.slice a l.length c) en d) 56 (0,0))∧l.length≤c∧c≤maxLen∧ToksAt w g a l∧d≤60∧l.length≤100000
def PSw (w:World) (g:Nat) (en:Pl) (l:List Tok):Prop :=
 ∃ a c,(∃ v,w.heap[g]? = some (.cells #[.slice a l.length c,.int .i64 en.1,.int .i64 en.2,v] 56 (0,0)))∧l.length≤c∧c≤maxLen∧ToksAt w g a l
theorem PS.w {w:World} {g:Nat} {en:Pl} {l:List Tok} {d:Nat} (h:PS w g en l d):PSw w g en l:=by
 obtain ⟨a,c,h,hc,hm,ht,_⟩:=h;exact ⟨a,c,⟨_,h⟩,hc,hm,ht⟩
theorem PSw.keep {w w':World} {g:Nat} {en:Pl} {l:List Tok} (h:PSw w g en l) (hb:Below w.heap.size w w'):PSw w' g en l:=by
 obtain ⟨a,c,⟨v,hg⟩,hc,hm,ht⟩:=h;exact ⟨a,c,⟨v,(hb.block g (Array.getElem?_eq_some_iff.1 hg).1).trans hg⟩,hc,hm,ht.same hb.size (fun b _ hb'=>hb.block b hb')⟩
theorem PSw.deep {w:World} {g:Nat} {en:Pl} {l:List Tok} (h:PSw w g en l) (v:Value):PSw (w.setCell ⟨g,3,none⟩ v) g en l:=by
 obtain ⟨a,c,⟨v',hg⟩,hc,hm,ht⟩:=h;exact ⟨a,c,⟨v,heap_setCell_same _ g 3 _ _ _ hg⟩,hc,hm,ht.same (by simp [World.setCell]) (fun b hb _=>heap_setCell_other w ⟨g,3,none⟩ b _ (by show b≠g;omega))⟩
theorem PS.lt {w:World} {g:Nat} {en:Pl} {l:List Tok} {d:Nat} (h:PS w g en l d):g<w.heap.size:=by
 obtain ⟨a,c,h,_⟩:=h;exact (Array.getElem?_eq_some_iff.1 h).1
theorem PS.keep {w w':World} {g:Nat} {en:Pl} {l:List Tok} {d:Nat} (h:PS w g en l d) (hb:Below w.heap.size w w'):PS w' g en l d:=by
 have hlt:=h.lt;obtain ⟨a,c,hg,hc,hm,ht,hd⟩:=h;exact ⟨a,c,(hb.block g hlt).trans hg,hc,hm,ht.same hb.size (fun b _ hb'=>hb.block b hb'),hd⟩
theorem set4_heap {w:World} {b:Nat} {x0 x1 x2 x3:Value} {t:TypeId} (h:w.heap[b]? = some (.cells #[x0,x1,x2,x3] t (0,0))) (y0 y1 y2 y3:Value) :
  ((((w.setCell ⟨b,0,none⟩ y0).setCell ⟨b,1,none⟩ y1).setCell ⟨b,2,none⟩ y2).setCell ⟨b,3,none⟩ y3).heap[b]? = some (.cells #[y0,y1,y2,y3] t (0,0)) :=
 heap_setCell_same _ b 3 _ _ y3 (heap_setCell_same _ b 2 _ _ y2 (heap_setCell_same _ b 1 _ _ y1 (heap_setCell_same _ b 0 _ _ y0 h)))
theorem set5_heap {w:World} {b:Nat} {x0 x1 x2 x3 x4:Value} {t:TypeId} (h:w.heap[b]? = some (.cells #[x0,x1,x2,x3,x4] t (0,0))) (y0 y1 y2 y3 y4:Value) :
  (((((w.setCell ⟨b,0,none⟩ y0).setCell ⟨b,1,none⟩ y1).setCell ⟨b,2,none⟩ y2).setCell ⟨b,3,none⟩ y3).setCell ⟨b,4,none⟩ y4).heap[b]? = some (.cells #[y0,y1,y2,y3,y4] t (0,0)) :=
 heap_setCell_same _ b 4 _ _ y4 (heap_setCell_same _ b 3 _ _ y3 (heap_setCell_same _ b 2 _ _ y2 (heap_setCell_same _ b 1 _ _ y1 (heap_setCell_same _ b 0 _ _ y0 h))))
set_option maxHeartbeats 1000000 in
theorem at_anyw (n:Nat) (g:Nat) (en:Pl) (l:List Tok) (w:World) (h:PSw w g en l) :
  Calls Tryz.prog 61 #[.pointer (some ⟨g,0,none⟩),.int .i64 (n:Int)] w fun e w'=>e=.returned (tokA (atT en l n))∧Below w.heap.size w w':=by
 obtain ⟨a,c,⟨v,hg⟩,hc,hm,ht⟩:=h;have hgl:g<w.heap.size:=(Array.getElem?_eq_some_iff.1 hg).1;have c0:=cell_of_row w g 0 _ _ _ hg;have c1:=cell_of_row w g 1 _ _ _ hg;have c2:=cell_of_row w g 2 _ _ _ hg;by_cases hn:n<l.length
 ·obtain ⟨b,off,rfl,hbg,hbs,htok⟩:=ht (by intro e;subst e;simp at hn);obtain ⟨t0,t1,t2,t3⟩:=htok n hn;have e:atT en l n=l[n]:=by unfold atT;rw [List.getD_eq_getElem?_getD,List.getElem?_eq_getElem hn];rfl
  rw [e];have q:¬ ((l.length:Int)≤(n:Int)):=by omega
  clear hg ht htok;go_enter Tryz.func61,Tryz.ntmps61
  go_wp2_with fail;refine bodyPost_ret (results_cell_row rfl _ _ w.heap.size _ _ _ _ rfl (heap_alloc_new w _) Tryz.underlying46 rfl (by kernel_rfl)) rfl ⟨rfl,below_new w _⟩
 ·have e:atT en l n=zeroT en:=by unfold atT;rw [List.getD_eq_getElem?_getD,List.getElem?_eq_none (by omega)];rfl
  rw [e];have q:(l.length:Int)≤(n:Int):=by omega
  clear hg ht;go_enter Tryz.func61,Tryz.ntmps61
  go_wp2_with fail;refine bodyPost_ret (results_cell_row rfl _ _ w.heap.size _ _ _ _ rfl (heap_alloc_new w _) Tryz.underlying46 rfl (by kernel_rfl)) rfl ⟨rfl,below_new w _⟩
theorem at_any (n:Nat) (g:Nat) (en:Pl) (l:List Tok) (d:Nat) (w:World) (h:PS w g en l d) :
  Calls Tryz.prog 61 #[.pointer (some ⟨g,0,none⟩),.int .i64 (n:Int)] w fun e w'=>e=.returned (tokA (atT en l n))∧Below w.heap.size w w':=at_anyw n g en l w h.w
abbrev wrongV (e:Nat) (p:Pl):PanicEntry:={ v:=.iface 51 (.agg #[.int .i64 e,.int .i64 p.1,.int .i64 p.2]),recovered:=false }
theorem at_kind (en:Pl) (l:List Tok) (n:Nat):(atT en l n).1=(atT (0,0) l n).1∧(atT en l n).2.1=(atT (0,0) l n).2.1:=by
 unfold atT;rw [List.getD_eq_getElem?_getD,List.getD_eq_getElem?_getD];cases l[n]? <;> exact ⟨rfl,rfl⟩
theorem tok_field0 (t:Tok) (W:World):(Instr.field 46 (.agg #[.int .i64 t.1,.string (bs t.2.1),.int .i64 t.2.2.1,.int .i64 t.2.2.2]) 0).run Tryz.prog W=.ok (.int .i64 t.1) W:=by kernel_rfl
theorem tok_field1 (t:Tok) (W:World):(Instr.field 46 (.agg #[.int .i64 t.1,.string (bs t.2.1),.int .i64 t.2.2.1,.int .i64 t.2.2.2]) 1).run Tryz.prog W=.ok (.string (bs t.2.1)) W:=by kernel_rfl
theorem tok_field2 (t:Tok) (W:World):(Instr.field 46 (.agg #[.int .i64 t.1,.string (bs t.2.1),.int .i64 t.2.2.1,.int .i64 t.2.2.2]) 2).run Tryz.prog W=.ok (.agg #[.int .i64 t.2.2.1,.int .i64 t.2.2.2]) W:=by kernel_rfl
attribute [go_sem] tok_field0 tok_field1 tok_field2
set_option maxHeartbeats 1000000 in
theorem fail_any (er:Nat) (g:Nat) (en:Pl) (l:List Tok) (w:World) (h:PSw w g en l) :
  Calls Tryz.prog 101 #[.pointer (some ⟨g,0,none⟩),.int .i64 (er:Int)] w fun e w'=>e=.panicked [wrongV er (atT en l 0).2.2]∧Below w.heap.size w w':=by
 have H1:=at_anyw 0 g en l w h;generalize atT en l 0=t at *;clear h;go_enter Tryz.func101,Tryz.ntmps101
 go_wp2_with fail;refine H1.mono ?_;rintro e w1 ⟨rfl,hb1⟩;go_wp2_with fail;exact ⟨rfl,rfl,hb1⟩
set_option maxHeartbeats 1000000 in
theorem sign_any (n:Nat) (s:List UInt8) (g:Nat) (en:Pl) (l:List Tok) (d:Nat) (w:World) (h:PS w g en l d) :
  Calls Tryz.prog 33 #[.pointer (some ⟨g,0,none⟩),.int .i64 (n:Int),.string (bs s)] w fun e w'=>e=.returned (.bool (signB l n s))∧Below w.heap.size w w':=by
 have H1:=hid (fun W (hW:Below w.heap.size w W)=>at_any n g en l d W (h.keep hW));have hk:=at_kind en l n;have hs:signB l n s=((atT en l n).1 == 4 && (atT en l n).2.1 == s):=by rw [hk.1,hk.2];rfl
 rw [hs];clear h hk hs;generalize atT en l n=t at *;by_cases hk:t.1=4
 ·have q:((t.1:Int) == 4)=true:=eqT (by omega);have q':(t.1 == 4)=true:=by simpa using hk
  rw [q',Bool.true_and];clear hk q';by_cases hx:t.2.1=s
  ·have q2:(t.2.1 == s)=true:=by simpa using hx
   rw [q2];clear hx;go_enter Tryz.func33,Tryz.ntmps33
   go_wp2_with fail;refine (H1.out w (Below.refl _ _)).mono ?_;rintro e w1 ⟨rfl,hb1⟩;go_wp2_with fail;refine (H1.out w1 hb1).mono ?_;rintro e w2 ⟨rfl,hb2⟩;go_wp2_with fail;go_ret;exact ⟨rfl,Below.chain hb1 hb2⟩
  ·have q2:(t.2.1 == s)=false:=by simpa using hx
   rw [q2];clear hx;go_enter Tryz.func33,Tryz.ntmps33
   go_wp2_with fail;refine (H1.out w (Below.refl _ _)).mono ?_;rintro e w1 ⟨rfl,hb1⟩;go_wp2_with fail;refine (H1.out w1 hb1).mono ?_;rintro e w2 ⟨rfl,hb2⟩;go_wp2_with fail;go_ret;exact ⟨rfl,Below.chain hb1 hb2⟩
 ·have q:((t.1:Int) == 4)=false:=eqF (by omega);have q':(t.1 == 4)=false:=by simpa using hk
  rw [q',Bool.false_and];clear hk q';go_enter Tryz.func33,Tryz.ntmps33
  go_wp2_with fail;refine (H1.out w (Below.refl _ _)).mono ?_;rintro e w1 ⟨rfl,hb1⟩;go_wp2_with fail;go_ret;exact ⟨rfl,hb1⟩
set_option maxHeartbeats 1000000 in
theorem word_any (s:List UInt8) (g:Nat) (en:Pl) (l:List Tok) (d:Nat) (w:World) (h:PS w g en l d) :
  Calls Tryz.prog 62 #[.pointer (some ⟨g,0,none⟩),.string (bs s)] w fun e w'=>e=.returned (.bool (wordB l s))∧Below w.heap.size w w':=by
 have H1:=hid (fun W (hW:Below w.heap.size w W)=>at_any 0 g en l d W (h.keep hW));have hk:=at_kind en l 0;have hs:wordB l s=((atT en l 0).1 == 1 && (atT en l 0).2.1 == s):=by rw [hk.1,hk.2];rfl
 rw [hs];clear h hk hs;generalize atT en l 0=t at *;by_cases hk:t.1=1
 ·have q:((t.1:Int) == 1)=true:=eqT (by omega);have q':(t.1 == 1)=true:=by simpa using hk
  rw [q',Bool.true_and];clear hk q';by_cases hx:t.2.1=s
  ·have q2:(t.2.1 == s)=true:=by simpa using hx
   rw [q2];clear hx;go_enter Tryz.func62,Tryz.ntmps62
   go_wp2_with fail;refine (H1.out w (Below.refl _ _)).mono ?_;rintro e w1 ⟨rfl,hb1⟩;go_wp2_with fail;refine (H1.out w1 hb1).mono ?_;rintro e w2 ⟨rfl,hb2⟩;go_wp2_with fail;go_ret;exact ⟨rfl,Below.chain hb1 hb2⟩
  ·have q2:(t.2.1 == s)=false:=by simpa using hx
   rw [q2];clear hx;go_enter Tryz.func62,Tryz.ntmps62
   go_wp2_with fail;refine (H1.out w (Below.refl _ _)).mono ?_;rintro e w1 ⟨rfl,hb1⟩;go_wp2_with fail;refine (H1.out w1 hb1).mono ?_;rintro e w2 ⟨rfl,hb2⟩;go_wp2_with fail;go_ret;exact ⟨rfl,Below.chain hb1 hb2⟩
 ·have q:((t.1:Int) == 1)=false:=eqF (by omega);have q':(t.1 == 1)=false:=by simpa using hk
  rw [q',Bool.false_and];clear hk q';go_enter Tryz.func62,Tryz.ntmps62
  go_wp2_with fail;refine (H1.out w (Below.refl _ _)).mono ?_;rintro e w1 ⟨rfl,hb1⟩;go_wp2_with fail;go_ret;exact ⟨rfl,hb1⟩
theorem lits_get (zs:List (List UInt8)) (W:World) (b:Nat) (t:TypeId) (h:W.heap[b]? = some (.cells (strCells zs).toArray t (0,0))):∀ j,j<(zs.map bs).length→W.cell? ⟨b,0+j,none⟩=some (.string ((zs.map bs).getD j ByteArray.empty)):=by
 intro j hj;rw [List.length_map] at hj;rw [Nat.zero_add,cell_of_row W b j _ _ _ h];rw [List.getElem?_toArray,strCells_get zs j hj,List.getD_eq_getElem?_getD,List.getElem?_map,List.getElem?_eq_getElem hj];rfl
theorem contains_bs (zs:List (List UInt8)) (s:List UInt8):Lib.containsS (zs.map bs) (bs s)=zs.contains s:=by
 rw [Bool.eq_iff_iff,Lib.containsS_iff,List.contains_iff_mem];constructor
 ·intro h;obtain ⟨z,hz,e⟩:=List.mem_map.1 h;have:z=s:=by have:=congrArg (fun x=>x.data.toList) e;simpa [bs] using this
  rw [← this];exact hz
 ·exact fun h=>List.mem_map.2 ⟨s,h,rfl⟩
theorem contains_any (zs:List (List UInt8)) (s:List UInt8) (W:World) (b c:Nat) (t:TypeId) (h:W.heap[b]? = some (.cells (strCells zs).toArray t (0,0))) (hz:zs.length≤1000) :
  Calls Tryz.prog 75 #[.slice (some ⟨b,0,none⟩) zs.length c,.string (bs s)] W fun e w'=>e=.returned (.bool (zs.contains s))∧w'=W:=by
 refine (Tryz.slices_Contains_string b 0 zs.length c (zs.map bs) (bs s) W (by simp) (by omega) (lits_get zs W b t h)).mono ?_;rintro e w' ⟨rfl,rfl⟩;refine ⟨?_,rfl⟩;rw [List.take_of_length_le (by simp),contains_bs]
def resL:List (List UInt8):=[wFor,wIn,wIf,wElse,wRule,wNot]
def typL:List (List UInt8):=[[116,101,120,116],[98,111,111,108],[105,110,116],[116,101,120,116,115],[102,105,108,101,115],[108,97,98,101,108,115]]
theorem res_contains (s:List UInt8):resL.contains s=reservedB s:=by
 unfold resL reservedB;rw [Bool.eq_iff_iff];simp [or_assoc]
theorem typ_contains (s:List UInt8):typL.contains s=typeB s:=by
 unfold typL typeB;rw [Bool.eq_iff_iff];simp [or_assoc]
set_option maxHeartbeats 1000000 in
theorem reserved_any (s:List UInt8) (w:World) :
  Calls Tryz.prog 72 #[.string (bs s)] w fun e w'=>e=.returned (.bool (reservedB s))∧Below w.heap.size w w':=by
 have H:=hid (fun W (b c:Nat) (t:TypeId) (h:W.heap[b]? = some (.cells (strCells resL).toArray t (0,0)))=>contains_any resL s W b c t h (by decide));rw [← res_contains];generalize resL.contains s=r at *;go_enter Tryz.func72,Tryz.ntmps72
 go_wp2_with fail;refine (H.out _ _ _ 9 (heap_alloc_new w _)).mono ?_;rintro e w1 ⟨rfl,rfl⟩;go_wp2_with fail;go_ret;exact ⟨rfl,below_new w _⟩
set_option maxHeartbeats 1000000 in
theorem isType_any (s:List UInt8) (w:World) :
  Calls Tryz.prog 76 #[.string (bs s)] w fun e w'=>e=.returned (.bool (typeB s))∧Below w.heap.size w w':=by
 have H:=hid (fun W (b c:Nat) (t:TypeId) (h:W.heap[b]? = some (.cells (strCells typL).toArray t (0,0)))=>contains_any typL s W b c t h (by decide));rw [← typ_contains];generalize typL.contains s=r at *;go_enter Tryz.func76,Tryz.ntmps76
 go_wp2_with fail;refine (H.out _ _ _ 9 (heap_alloc_new w _)).mono ?_;rintro e w1 ⟨rfl,rfl⟩;go_wp2_with fail;go_ret;exact ⟨rfl,below_new w _⟩
set_option maxHeartbeats 1000000 in
theorem name_any (g:Nat) (en:Pl) (l:List Tok) (d:Nat) (w:World) (h:PS w g en l d) :
  Calls Tryz.prog 64 #[.pointer (some ⟨g,0,none⟩)] w fun e w'=>e=.returned (.bool (nameB l))∧Below w.heap.size w w':=by
 have H1:=hid (fun W (hW:Below w.heap.size w W)=>at_any 0 g en l d W (h.keep hW));have hk:=at_kind en l 0;have hs:nameB l=((atT en l 0).1 == 1 && !reservedB (atT en l 0).2.1):=by rw [hk.1,hk.2];rfl
 rw [hs];clear h hk hs;generalize atT en l 0=t at *;have HR:=hid (fun W=>reserved_any t.2.1 W);generalize reservedB t.2.1=rb at *;by_cases hk:t.1=1
 ·have q:((t.1:Int) == 1)=true:=eqT (by omega);have q':(t.1 == 1)=true:=by simpa using hk
  rw [q',Bool.true_and];clear hk q';go_enter Tryz.func64,Tryz.ntmps64
  go_wp2_with fail;refine (H1.out w (Below.refl _ _)).mono ?_;rintro e w1 ⟨rfl,hb1⟩;go_wp2_with fail;refine (H1.out w1 hb1).mono ?_;rintro e w2 ⟨rfl,hb2⟩;go_wp2_with fail;refine (HR.out w2).mono ?_;rintro e w3 ⟨rfl,hb3⟩;have hnot:∀ (x:Bool) (w:World),(Op.unary .not (.bool x)).run Tryz.prog w=.ok (.bool (!x)) w:=fun _ _=>rfl
  go_wp2_with fail;go_ret;exact ⟨rfl,Below.chain (Below.chain hb1 hb2) hb3⟩
 ·have q:((t.1:Int) == 1)=false:=eqF (by omega);have q':(t.1 == 1)=false:=by simpa using hk
  rw [q',Bool.false_and];clear hk q';go_enter Tryz.func64,Tryz.ntmps64
  go_wp2_with fail;refine (H1.out w (Below.refl _ _)).mono ?_;rintro e w1 ⟨rfl,hb1⟩;go_wp2_with fail;go_ret;exact ⟨rfl,hb1⟩
def PageP (B pb:Nat) (p:Value) (l:List UInt8) (t:Nat) (w:World):Prop :=
 B≤pb∧∃ v,w.heap[pb]? = some (.cells #[p,v,.int .i64 (t:Int)] 66 (0,0))∧w.ownsRowF B 5 1 v l.length (Lib.byteCells l)
def PageAt (B pb:Nat) (l:List UInt8) (t:Nat) (w:World):Prop:=PageP B pb (.pointer none) l t w∨PageP B pb (.pointer (some ⟨pb,0,none⟩)) l t w
theorem page_lies:liesAt Tryz.prog Tryz.prog.depth 66 (3 / Tryz.prog.cellsOf 66) 0 64 1=true:=by kernel_rfl
theorem page_ne:(66:TypeId)≠5:=by decide
theorem PageP.below {B pb:Nat} {p:Value} {l:List UInt8} {t:Nat} {w w':World} (h:PageP B pb p l t w) (hb:Below w.heap.size w w'):PageP B pb p l t w':=by
 obtain ⟨hB,v,hbk,hl,hown⟩:=h;refine ⟨hB,v,(hb.block pb (Array.getElem?_eq_some_iff.1 hbk).1).trans hbk,hl,?_⟩;rcases hown with h0 | ⟨g,cap,cur,fz,hv,hg,hh,r⟩
 ·exact .inl h0
 ·exact .inr ⟨g,cap,cur,fz,hv,hg,(hb.block g (Array.getElem?_eq_some_iff.1 hh).1).trans hh,r⟩
theorem PageAt.below {B pb:Nat} {l:List UInt8} {t:Nat} {w w':World} (h:PageAt B pb l t w) (hb:Below w.heap.size w w'):PageAt B pb l t w' :=
 h.elim (fun x=>.inl (x.below hb)) (fun x=>.inr (x.below hb))
theorem PageAt.lt {B pb:Nat} {l:List UInt8} {t:Nat} {w:World} (h:PageAt B pb l t w):B≤pb∧pb<w.heap.size:=by
 rcases h with ⟨hB,v,hbk,_⟩ | ⟨hB,v,hbk,_⟩ <;> exact ⟨hB,(Array.getElem?_eq_some_iff.1 hbk).1⟩
theorem PageAt.row {B pb:Nat} {l:List UInt8} {t:Nat} {w:World} (h:PageAt B pb l t w):∃ p v,w.heap[pb]? = some (.cells #[p,v,.int .i64 (t:Int)] 66 (0,0)):=by
 rcases h with ⟨hB,v,hbk,_⟩ | ⟨hB,v,hbk,_⟩ <;> exact ⟨_,v,hbk⟩
theorem PageP.tabs {B pb:Nat} {p:Value} {l:List UInt8} {t:Nat} {w:World} (h:PageP B pb p l t w) (t':Nat):PageP B pb p l t' (w.setCell ⟨pb,2,none⟩ (.int .i64 (t':Int))):=by
 obtain ⟨hB,v,hbk,hown⟩:=h;have hne:=Lib.ownBlock_neF hown hbk page_ne;refine ⟨hB,v,heap_setCell_same _ pb 2 _ _ _ hbk,hown.kept (row:=some pb) ⟨rfl,rfl,rfl,by simp [World.setCell],fun k _ hk=>Below.heap_setCell _ _ _ _ (fun e=>hk (by simp [e]))⟩ (Or.inr hne)⟩
theorem PageAt.tabs {B pb:Nat} {l:List UInt8} {t:Nat} {w:World} (h:PageAt B pb l t w) (t':Nat):PageAt B pb l t' (w.setCell ⟨pb,2,none⟩ (.int .i64 (t':Int))) :=
 h.elim (fun x=>.inl (x.tabs t')) (fun x=>.inr (x.tabs t'))
theorem PageP.put {B pb:Nat} {p v v':Value} {l:List UInt8} {t:Nat} {w:World} (hB:B≤pb) (hb:w.heap[pb]? = some (.cells #[p,v,.int .i64 (t:Int)] 66 (0,0))) (hown:w.ownsRowF B 5 1 v' l.length (Lib.byteCells l)) :
  PageP B pb p l t (w.setCell ⟨pb,1,none⟩ v'):=by
 have hne:=Lib.ownBlock_neF hown hb page_ne;exact ⟨hB,v',heap_setCell_same _ pb 1 _ _ _ hb,hown.kept (row:=some pb) ⟨rfl,rfl,rfl,by simp [World.setCell],fun k _ hk=>Below.heap_setCell _ _ _ _ (fun e=>hk (by simp [e]))⟩ (Or.inr hne)⟩
theorem page_new (w:World) (B:Nat) (hB:B≤w.heap.size):PageAt B w.heap.size [] 0 (w.alloc (.cells #[.pointer none,.slice none 0 0,.int .i64 0] 66)) :=
 .inl ⟨hB,.slice none 0 0,heap_alloc_new w _,by simp [Lib.byteCells],.inl ⟨rfl,by simp⟩⟩
set_option maxHeartbeats 1000000 in
theorem pcheck_fresh (b:Nat) (w:World) (h0:w.cell? ⟨b,0,none⟩=some (.pointer none)) (hsh:w.shape? b=some (66,3)) (hfz:w.frozen? ⟨b,0,none⟩=false) :
  Calls Tryz.prog 84 #[.pointer (some ⟨b,0,none⟩)] w fun e w'=>e=.returned (.tuple #[])∧w'=w.setCell ⟨b,0,none⟩ (.pointer (some ⟨b,0,none⟩)):=by
 obtain ⟨j,hj,hjs⟩:=Option.map_eq_some_iff.1 builder_size;go_enter Tryz.func84,Tryz.ntmps84
 go_wp2
 rw [Lib.run_to_unsafe w ⟨b,0,none⟩ Tryz.underlying62 Tryz.underlying142 hj (by rw [hjs];decide) hsh (Nat.zero_lt_succ 2)];simp only [Result.andThen];rw [Oper.upon_value]
 go_wp2
 rw [run_callFunc_extern Tryz.func118 (by kernel_rfl) (by kernel_rfl) (by kernel_rfl) (e:=Extern.AbiNoEscape.same) (by kernel_rfl)];rw [Lib.run_noEscape];simp only [Result.andThen];rw [Oper.upon_value]
 go_wp2
 rw [Lib.run_from_unsafe w ⟨b,0,none⟩ Tryz.underlying142 Tryz.underlying62 hj hsh page_lies];simp only [Result.andThen];rw [Oper.upon_value]
 go_wp2
 go_end0
 exact ⟨rfl,rfl⟩
structure PK (pb:Nat) (w w':World):Prop where
 below:Below pb w w'
 kept:Lib.OthersKept 5 (some pb) w w'
theorem PK.trans {pb:Nat} {a b c:World} (h:PK pb a b) (k:PK pb b c):PK pb a c:=⟨h.below.trans k.below,h.kept.trans k.kept⟩
theorem PK.refl (pb:Nat) (w:World):PK pb w w:=⟨Below.refl _ _,Lib.OthersKept.refl _ _ _⟩
theorem PK.of {pb:Nat} {w w':World} (h:Below w.heap.size w w') (hp:pb≤w.heap.size):PK pb w w' :=
 ⟨h.mono hp,fun k _o ho _ _=>(h.block k (Array.getElem?_eq_some_iff.1 ho).1).trans ho⟩
theorem PK.row {pb:Nat} {w w':World} (h:PK pb w w') {k:Nat} {cs:Array Value} {T:TypeId} {fr:Nat × Nat} (hr:w.heap[k]? = some (.cells cs T fr)) (hk:k≠pb) (hT:T≠5):w'.heap[k]? = some (.cells cs T fr) :=
 h.kept k _ hr (by simpa using hk) (fun c fz e=>hT (by cases e;rfl))
theorem pcheck_any (B b:Nat) (l:List UInt8) (t:Nat) (w:World) (h:PageAt B b l t w) :
  Calls Tryz.prog 84 #[.pointer (some ⟨b,0,none⟩)] w fun e w'=>e=.returned (.tuple #[])∧PageP B b (.pointer (some ⟨b,0,none⟩)) l t w'∧Below B w w'∧Lib.OthersKept 5 (some b) w w':=by
 rcases h with ⟨hB,v,hbk,hown⟩ | h
 ·have hne:=Lib.ownBlock_neF hown hbk page_ne;refine (pcheck_fresh b w (cell_of_row w b 0 _ _ _ hbk) (by simp [World.shape?,hbk]) (Lib.frozen_of_heap hbk 0)).mono ?_;rintro e w' ⟨rfl,rfl⟩;exact ⟨rfl,⟨hB,v,heap_setCell_same _ b 0 _ _ _ hbk,hown.kept (row:=some b) ⟨rfl,rfl,rfl,by simp [World.setCell],fun k _ hk=>Below.heap_setCell _ _ _ _ (fun e=>hk (by simp [e]))⟩ (Or.inr hne)⟩,(Below.refl B w).setCell (p:=⟨b,0,none⟩) hB _,(Lib.OthersKept.refl _ _ w).setCell ⟨b,0,none⟩ rfl _⟩
 ·obtain ⟨hB,v,hbk,hown⟩:=h;refine (copyCheck_used b w (cell_of_row w b 0 _ _ _ hbk)).mono ?_;rintro e w' ⟨rfl,rfl⟩;exact ⟨rfl,⟨hB,v,hbk,hown⟩,Below.refl B _,Lib.OthersKept.refl _ _ _⟩
set_option maxHeartbeats 1000000 in
theorem pbyte_any (B b:Nat) (l:List UInt8) (t:Nat) (c:UInt8) (w:World) (h:PageAt B b l t w) (hlen:l.length+1≤140737488355328) :
  Calls Tryz.prog 43 #[.pointer (some ⟨b,0,none⟩),.int .u8 c.toNat] w fun e w'=>e=.returned .nilIface∧PageAt B b (l++[c]) t w'∧Below B w w'∧Lib.OthersKept 5 (some b) w w':=by
 have hlt0:=h.lt;obtain ⟨i0,hi,hz0,hz1,hz2⟩:=info_parts byte_info;go_enter Tryz.func43,Tryz.ntmps43
 go_wp2_with (go_at_call 84;refine (pcheck_any B b l t _ h).mono ?_)
 rintro e w1 ⟨rfl,h1,hb1,hk1⟩;obtain ⟨hB,v,hbk,hown⟩:=h1;have hne:=Lib.ownBlock_neF hown hbk page_ne;have c0:w1.cell? ⟨b,0,none⟩=some (.pointer (some ⟨b,0,none⟩)):=cell_of_row w1 b 0 _ _ _ hbk;have c1:w1.cell? ⟨b,1,none⟩=some v:=cell_of_row w1 b 1 _ _ _ hbk;go_wp2_with (at_builtin;refine wpList_append_ownF _ rfl _ _ 41 rfl B 5 i0 (.int .u8 0) 1 1 Tryz.underlying41 hi hz0 hz1 hz2 rfl (by decide) _ _ _ rfl (hown.alloc _) ⟨w1.heap.size,0,none⟩ 1 1 [.int .u8 c.toNat] rfl rfl ?c1 ?c2 ?c3 ?c4 ?c5 ?_)
 case c1 =>
  intro j u hj
  match j,hj with
  | 0,hj=>simp at hj;subst hj;simp [Addr.add]
 case c2=>intro u hu;simp at hu;subst hu;rfl
 case c3=>unfold maxLen;omega
 case c4=>omega
 case c5=>have:=hb1.size;simp;omega
 intro v' w2 hown' hgrow _;have hlt:b<w1.heap.size:=(Array.getElem?_eq_some_iff.1 hbk).1;have hb2:w2.heap[b]? = some (.cells #[.pointer (some ⟨b,0,none⟩),v,.int .i64 (t:Int)] 66 (0,0)):=by
  rw [hgrow.block b (by simp;omega) (fun e=>hne e.symm),Lib.alloc_old w1 _ b hlt];exact hbk
 have d0:w2.cell? ⟨b,0,none⟩=some (.pointer (some ⟨b,0,none⟩)):=cell_of_row w2 b 0 _ _ _ hb2;have d1:w2.cell? ⟨b,1,none⟩=some v:=cell_of_row w2 b 1 _ _ _ hb2;have f1:w2.frozen? ⟨b,1,none⟩=false:=Lib.frozen_of_heap hb2 1;obtain ⟨g,cap,rfl⟩:∃ g cap,v'=.slice (some ⟨g,0,none⟩) (l.length+1) cap:=by
  rcases hown'.2 with ⟨_,h0⟩ | ⟨g,cap,cur,fz,hv,_⟩
  ·omega
  ·exact ⟨g,cap,hv⟩
 go_wp2
 go_ret;refine ⟨rfl,.inr ?_,?_,((hk1.alloc _).grown hgrow (Lib.ownsRowF_kind (hown.alloc _))).setCell ⟨b,1,none⟩ rfl _⟩
 ·exact PageP.put hB hb2 (by rw [byteCells_append,List.length_append];exact hown')
 ·exact ((hb1.alloc (by have:=hb1.size;omega) _).grown hgrow (by have:=hb1.size;simp;omega) (fun k hk=>(hown.lt k hk).1)).setCell (p:=⟨b,1,none⟩) hB _
set_option maxHeartbeats 1000000 in
theorem pstring_any (B b:Nat) (l:List UInt8) (t:Nat) (s:List UInt8) (w:World) (h:PageAt B b l t w) (hlen:l.length+s.length≤140737488355328) :
  Calls Tryz.prog 77 #[.pointer (some ⟨b,0,none⟩),.string (bs s)] w fun e w'=>e=.returned (.tuple #[.int .i64 s.length,.nilIface])∧PageAt B b (l++s) t w'∧Below B w w'∧Lib.OthersKept 5 (some b) w w':=by
 have hlt0:=h.lt;obtain ⟨i0,hi,hz0,hz1,hz2⟩:=info_parts byte_info;go_enter Tryz.func77,Tryz.ntmps77
 go_wp2_with (go_at_call 84;refine (pcheck_any B b l t _ h).mono ?_)
 rintro e w1 ⟨rfl,h1,hb1,hk1⟩;obtain ⟨hB,v,hbk,hown⟩:=h1;have hne:=Lib.ownBlock_neF hown hbk page_ne;have c0:w1.cell? ⟨b,0,none⟩=some (.pointer (some ⟨b,0,none⟩)):=cell_of_row w1 b 0 _ _ _ hbk;have c1:w1.cell? ⟨b,1,none⟩=some v:=cell_of_row w1 b 1 _ _ _ hbk;go_wp2_with (at_builtin;refine Lib.wpList_append_own_stringF _ rfl _ _ 41 9 rfl B 5 i0 Tryz.underlying41 Tryz.underlying9 hi hz0 hz1 hz2 _ _ _ rfl hown (bs s) rfl ?c3 ?c4 ?c5 ?_)
 case c3=>show l.length+s.length≤maxLen;unfold maxLen;omega
 case c4=>show l.length+s.length≤140737488355328;omega
 case c5=>have:=hb1.size;omega
 intro v' w2 hown' hgrow _;have hown':w2.ownsRowF B 5 1 v' (l.length+s.length) (Lib.byteCells l++Lib.strCells (bs s)):=hown';have hlt:b<w1.heap.size:=(Array.getElem?_eq_some_iff.1 hbk).1;have hb2:w2.heap[b]? = some (.cells #[.pointer (some ⟨b,0,none⟩),v,.int .i64 (t:Int)] 66 (0,0)):=by
  rw [hgrow.block b hlt (fun e=>hne e.symm)];exact hbk
 have d0:w2.cell? ⟨b,0,none⟩=some (.pointer (some ⟨b,0,none⟩)):=cell_of_row w2 b 0 _ _ _ hb2;have d1:w2.cell? ⟨b,1,none⟩=some v:=cell_of_row w2 b 1 _ _ _ hb2;have f1:w2.frozen? ⟨b,1,none⟩=false:=Lib.frozen_of_heap hb2 1;obtain ⟨ao,n',cap,rfl⟩:∃ ao n' cap,v'=.slice ao n' cap:=by
  rcases hown'.2 with ⟨hv,_⟩ | ⟨g,cap,cur,fz,hv,_⟩
  ·exact ⟨_,_,_,hv⟩
  ·exact ⟨_,_,_,hv⟩
 go_wp2
 go_ret2
 refine ⟨rfl,.inr ?_,?_,(hk1.grown hgrow (Lib.ownsRowF_kind hown)).setCell ⟨b,1,none⟩ rfl _⟩
 ·exact PageP.put hB hb2 (by rw [byteCells_append,List.length_append,← byteCells_str s];exact hown')
 ·exact (hb1.grown hgrow (by have:=hb1.size;omega) (fun k hk=>(hown.lt k hk).1)).setCell (p:=⟨b,1,none⟩) hB _
theorem wbyte (pb:Nat) (l:List UInt8) (t:Nat) (c:UInt8) (w:World) (h:PageAt pb pb l t w) (hlen:l.length+1≤140737488355328) :
  Calls Tryz.prog 43 #[.pointer (some ⟨pb,0,none⟩),.int .u8 c.toNat] w fun e w'=>e=.returned .nilIface∧PageAt pb pb (l++[c]) t w'∧PK pb w w' :=
 (pbyte_any pb pb l t c w h hlen).mono fun _ _ ⟨h1,h2,h3,h4⟩=>⟨h1,h2,h3,h4⟩
theorem wstr (pb:Nat) (l:List UInt8) (t:Nat) (s:List UInt8) (w:World) (h:PageAt pb pb l t w) (hlen:l.length+s.length≤140737488355328) :
  Calls Tryz.prog 77 #[.pointer (some ⟨pb,0,none⟩),.string (bs s)] w fun e w'=>e=.returned (.tuple #[.int .i64 s.length,.nilIface])∧PageAt pb pb (l++s) t w'∧PK pb w w' :=
 (pstring_any pb pb l t s w h hlen).mono fun _ _ ⟨h1,h2,h3,h4⟩=>⟨h1,h2,h3,h4⟩
end Go.Proofs.YtfgiihpopngbkaaGreatDoor
