/- Lemmas for TopFoundUpto: Range, PathWalks, PathMay, PathUnder, Less, W6, W7, PackPlain, PackLaws, NumPlain, W8, ShaPlain, W9, W17. -/
import Derived.Test.YtlbipokkdiiaiaaGreatDoorF01
import Derived.RangeFuncNested
import Derived.RangeFuncBound
import Derived.RangeFuncCalls
import Derived.RangeFuncLeaves
import Derived.RangeFuncFrom
import Derived.Shelf.Abstract
import Derived.Shelf.RegionOpen
import Derived.OwnWalkIn
import Derived.TacticsInMore
import Derived.LoopNIn
import Derived.LoopIn
import Derived.Test.YtlbipokkdiiaiaaGreatDoorChecked
import Derived.Test.YtlbipokkdiiaiaaGreatDoorF05
import Derived.Test.YtlbipokkdiiaiaaGreatDoorF06
import Derived.Lib.ItoaNum
import Derived.Lib.ParseIntBCases
import Derived.Laws.BitsAllLaws
import Derived.Deep.OwnRows
import Derived.Great.BuildSlice
namespace Go.Proofs.YtlbipokkdiiaiaaGreatDoor
open Go.RowKit
variable {F:Fence} {n:Nat} {P:Program}
structure bh (lo hi:Nat) (W W':World):Prop where
 size:W.heap.size≤W'.heap.size
 block:∀k,lo≤k→k<hi→W'.heap[k]?=W.heap[k]?
theorem bh.refl (lo hi:Nat) (W:World):bh lo hi W W:=⟨Nat.le_refl _,fun _ _ _=>rfl⟩
theorem bh.trans {lo hi:Nat} {A B C:World} (h:bh lo hi A B) (k:bh lo hi B C):bh lo hi A C:=
 ⟨Nat.le_trans h.size k.size,fun i a b=>(k.block i a b).trans (h.block i a b)⟩
theorem bh.below {lo hi B:Nat} {W W':World} (h:Below B W W') (hB:hi≤B):bh lo hi W W':=⟨h.size,fun k _ hk=>h.block k (by omega)⟩
theorem bh.setCell {lo hi:Nat} (W:World) (a:Addr) (v:Value) (h:a.block<lo∨hi≤a.block):bh lo hi W (W.setCell a v):=
 ⟨by simp[World.setCell],fun k h1 h2=>Below.heap_setCell W a v k (by omega)⟩
theorem bh.putObj {lo hi:Nat} (W:World) (l:Nat) (o:Obj) (h:hi≤l):bh lo hi W (W.putObj l o):=
 ⟨by simp,fun _ _ h2=>World.putObj_heap_other (by omega)⟩
theorem bh.cell {lo hi:Nat} {W W':World} (h:bh lo hi W W') {p:Addr} (h1:lo≤p.block) (h2:p.block<hi):W'.cell? p=W.cell? p:=World.cell?_of_block (w:=W) (h.block _ h1 h2)
theorem bh.frozen {lo hi:Nat} {W W':World} (h:bh lo hi W W') {p:Addr} (h1:lo≤p.block) (h2:p.block<hi):W'.frozen? p=W.frozen? p:=World.frozen?_of_block (w:=W) (h.block _ h1 h2)
theorem dy {W W':World} (h:Below W.heap.size W W'):KeepsOthers W W':=
 ⟨h.size,fun k _ hk _=>(h.block k (Array.getElem?_eq_some_iff.1 hk).1).trans hk⟩
def iX {β:Type} (b:Nat) (J:β→World→Prop):Prop:=∀s W v,J s W→J s (W.setCell ⟨b,0,none⟩ v)
def zde {α:Type} (F:Fence) (n:Nat) (P:Program) (g:Nat) (lb:Array Value) (encs:α→Array Value) (Kp:World→World→Prop) (b:Nat) (S Sp:List α→Prop) (w:World):Prop:=
 ∀(l:Nat) (J Jx:List α→World→Prop) (W:World),Kp w W→AbidesFrom W.heap.size J→AbidesFrom W.heap.size Jx→iX b J→iX b Jx→
  (∀pre x W1,J pre W1→YieldAt F (n-1) P l (encs x) W1 fun e W'=>
   (e=.returned (.bool true)∧J (pre++[x]) W'∧Kp W1 W')∨(e=.returned (.bool false)∧Jx (pre++[x]) W'))→
  J [] W→
  CallsIn F n P g (#[.func (.yield l) #[] #[]]++lb) W fun e W'=>(∃v,e=.returned v)∧((∃xs,S xs∧J xs W')∨(∃pre,Sp pre∧Jx pre W'))
theorem kF {α:Type} {g:Operand} {ps:Array Tmp} {assign body:Code} {Q:Exit→Act→World→Prop} {a:Act} {w:World}
 (hro:F.round=none) (h1:1≤n) {gf:Nat} {lb:Array Value} (hg:a.eval g=.func (.func gf) #[] lb) (hFg:F.fn gf) (eg:∀args w,(callFunc gf args).run P w=.ok (.enter gf args) w)
 {encs:α→Array Value} {lo hi b:Nat} {S Sp:List α→Prop} (hseq:zde F (n-1) P gf lb encs (bh lo hi) b S Sp w)
 (hhi:hi≤w.heap.size) (hb:b<w.heap.size) (hps:∀x,(encs x).size=ps.size)
 (I:List α→World→Prop) (Ix:Code→List α→World→Prop) (hI:OwnFrom w.heap.size I) (hIx:∀c,OwnFrom w.heap.size (Ix c)) (hIb:iX b I) (hIxb:∀c,iX b (Ix c)) (h0:I [] w) (a₁:α→Act)
 (hassign:∀(l:Nat) (x:α) (W:World) (K:Act→World→Prop),K (a₁ x) W→
  assign.wpIn (F.inRound l) (n-1-1) P (Exit.then K (fun _ _ _=>False)) {tmps:=(ps.zip (encs x)).foldl (fun t (p,v)=>t.setIfInBounds p v) a.tmps,defers:=[]} W)
 (hbody:∀(l:Nat) (pre:List α) (x:α) (W:World),I pre W→body.wpIn (F.inRound l) (n-1-1) P (ownPostK (bh lo hi) I Ix (pre++[x]) W) (a₁ x) W)
 (hdone:∀(D:Nat) (xs:List α) (W:World),w.heap.size≤D→S xs→I xs W→W.heap[D]?=some (.deferred (some []))→Q .normal {a with defers:={target:=.collected D,args:=#[]}::a.defers} W)
 (hstop:∀(D:Nat) (c:Code) (pre:List α) (W:World),w.heap.size≤D→Sp pre→Ix c pre W→W.heap[D]?=some (.deferred (some []))→c.wpIn F n P Q {a with defers:={target:=.collected D,args:=#[]}::a.defers} W):
 (Code.rangeFunc g ps assign body).wpIn F n P Q a w:=by
 refine wpIn_rangeFunc fun fn hfn=>?_
 rw[hro]
 obtain⟨rec,hrec⟩:∃rec:LoopState→Option Code→Loop,rec=fun st pe=>{state:=st,pending:=pe,fn,tmps:=a.tmps,params:=ps,assign,body,defers:=w.heap.size}:=⟨_,rfl⟩
 obtain⟨W1,hW1⟩:∃W1,(w.alloc (.deferred (some []))).alloc (.loop (rec .ready none))=W1:=⟨_,rfl⟩
 have hbelow:Below w.heap.size w W1:=by rw[←hW1];exact((Below.refl _ w).alloc (Nat.le_refl _) _).alloc (by simp) _
 have hL1:W1.heap[w.heap.size+1]?=some (.loop (rec .ready none)):=by
  have:=World.alloc_heap_new (w.alloc (.deferred (some []))) (.loop (rec .ready none))
  rw[World.size_alloc] at this
  rw[←hW1];exact this
 have hD1:W1.heap[w.heap.size]?=some (.deferred (some [])):=by
  rw[←hW1];exact(Below.heap_alloc _ _ _ (by simp)).trans (World.alloc_heap_new w _)
 have hI1:I [] W1:=by rw[←hW1];exact hI.alloc _ (hI.alloc _ h0)
 have hsize1:w.heap.size+2≤W1.heap.size:=by rw[←hW1];simp
 refine⟨w.heap.size+1,[{target:=.collected w.heap.size,args:=#[]}],W1,{target:=.fn (.func gf) lb,args:=#[.func (.yield (w.heap.size+1)) #[] #[]]},W1,gf,
  #[.func (.yield (w.heap.size+1)) #[] #[]]++lb,W1,?_,?_,?_,?_,fun _=>h1,?_⟩
 ·rw[←hW1,hrec];exact run_enterLoop_outer _ _ _ _ _
 ·simp only[resolve,hg];simp[go_sem]
 ·intro f' hf';simp[Target.leads] at hf';subst hf';exact hFg
 ·simp[invoke,go_sem,eg]
 have far:∀{A:World} {row:Option Nat},(∀r,row=some r→W1.heap.size≤r∧∃o:Obj,A.heap[r]?=some o∧o.isWalk=true)→∀r,row=some r→w.heap.size≤r∧∃o:Obj,A.heap[r]?=some o∧o.isCells=false:=
  fun hr r e=>by obtain⟨hB,o,ho,hw⟩:=hr r e;exact⟨by omega,o,ho,Obj.not_cells_of_walk hw⟩
 have kept:∀{A B:World} {row:Option Nat} {k:Nat} {o:Obj},A.grownBy B row→(∀r,row=some r→W1.heap.size≤r∧∃o:Obj,A.heap[r]?=some o∧o.isWalk=true)→A.heap[k]?=some o→o.isWalk=false→B.heap[k]?=some o:=
  fun hg' hr hk ho=>(grownBy_keeps hg' (fun r e=>(hr r e).2) hk ho).trans hk
 have put:∀(W:World) (l:Nat) (o':Obj),w.heap.size≤l→bh lo hi W (W.putObj l o'):=fun W l o' hl=>bh.putObj W l o' (by omega)
 refine(hseq (w.heap.size+1)
  (fun pre W=>I pre W∧W.heap[w.heap.size+1]?=some (.loop (rec .ready none))∧W.heap[w.heap.size]?=some (.deferred (some [])))
  (fun pre W=>∃c,Ix c pre W∧W.heap[w.heap.size+1]?=some (.loop (rec .done (some c)))∧W.heap[w.heap.size]?=some (.deferred (some [])))
  W1 (bh.below hbelow hhi)
  (fun s A B row hs hg' hr=>⟨hI s A B row hs.1 hg' (far hr),kept hg' hr hs.2.1 rfl,kept hg' hr hs.2.2 rfl⟩)
  (fun s A B row hs hg' hr=>by obtain⟨c,hc,hl,hk⟩:=hs;exact⟨c,hIx c s A B row hc hg' (far hr),kept hg' hr hl rfl,kept hg' hr hk rfl⟩)
  (fun s W v hs=>⟨hIb s W v hs.1,(Below.heap_setCell W _ v _ (by show _≠b;omega)).trans hs.2.1,(Below.heap_setCell W _ v _ (by show _≠b;omega)).trans hs.2.2⟩)
  (fun s W v hs=>by obtain⟨c,hc,hl,hk⟩:=hs;exact⟨c,hIxb c s W v hc,(Below.heap_setCell W _ v _ (by show _≠b;omega)).trans hl,(Below.heap_setCell W _ v _ (by show _≠b;omega)).trans hk⟩)
  ?_ ⟨hI1,hL1,hD1⟩).mono ?_
 ·
  rintro pre x W ⟨hi',hl,hk⟩
  have aK:w.heap.size+1<W.heap.size:=(Array.getElem?_eq_some_iff.1 hl).1
  have hy:=run_yield (P:=P) (args:=encs x) hl (by rw[hrec];exact hps x)
  rw[hrec] at hy
  refine⟨fn,_,assign,body,hy,roundIn_of_wpIn hfn (hassign _ x W _ ⟨_,run_beginRound hl (by rw[hrec]),?_⟩)⟩
  have hl2:(W.putObj (w.heap.size+1) (.loop {rec .ready none with state:=.busy})).heap[w.heap.size+1]?=some (.loop {rec .ready none with state:=.busy}):=World.putObj_heap_same aK
  have hk2:(W.putObj (w.heap.size+1) (.loop {rec .ready none with state:=.busy})).heap[w.heap.size]?=some (.deferred (some [])):=(World.putObj_heap_other (by omega)).trans hk
  refine wpIn_mono (hbody _ pre x _ (hI.putObj _ hi' (by omega) hl rfl)) ?_
  have fin:∀(jump:Option Code) (W3:World),KeepsOthers (W.putObj (w.heap.size+1) (.loop {rec .ready none with state:=.busy})) W3→
   (Instr.endRound (w.heap.size+1) jump).run P W3=.ok (.bool jump.isNone) (W3.putObj (w.heap.size+1) (.loop (rec (if jump.isNone then .ready else .done) jump)))∧
   W3.heap[w.heap.size+1]?=some (.loop {rec .ready none with state:=.busy})∧
   (W3.putObj (w.heap.size+1) (.loop (rec (if jump.isNone then .ready else .done) jump))).heap[w.heap.size+1]?=some (.loop (rec (if jump.isNone then .ready else .done) jump))∧
   (W3.putObj (w.heap.size+1) (.loop (rec (if jump.isNone then .ready else .done) jump))).heap[w.heap.size]?=some (.deferred (some [])):=by
   intro jump W3 hk3
   have hl3:=hk3.same _ _ hl2 rfl
   have hend:=run_endRound (P:=P) jump hl3
   rw[hrec] at hend ⊢
   exact⟨hend,by rw[hrec] at hl3;exact hl3,World.putObj_heap_same (Array.getElem?_eq_some_iff.1 hl3).1,(World.putObj_heap_other (by omega)).trans (hk3.same _ _ hk2 rfl)⟩
  have leave:∀(c:Code) (W3:World),KeepsOthers (W.putObj (w.heap.size+1) (.loop {rec .ready none with state:=.busy})) W3→Ix c (pre++[x]) W3→
   (Instr.endRound (w.heap.size+1) (some c)).run P W3=.ok (.bool false) (W3.putObj (w.heap.size+1) (.loop (rec .done (some c))))∧
   (∃c',Ix c' (pre++[x]) (W3.putObj (w.heap.size+1) (.loop (rec .done (some c))))∧(W3.putObj (w.heap.size+1) (.loop (rec .done (some c)))).heap[w.heap.size+1]?=some (.loop (rec .done (some c')))∧
    (W3.putObj (w.heap.size+1) (.loop (rec .done (some c)))).heap[w.heap.size]?=some (.deferred (some []))):=by
   intro c W3 hk3 hx3
   obtain⟨hr,hl3,hl4,hk4⟩:=fin (some c) W3 hk3
   exact⟨hr,c,(hIx c).putObj _ hx3 (by omega) hl3 rfl,hl4,hk4⟩
  rintro e a3 W3 hp
  cases e with
  |normal=>
   obtain⟨hk3,hkp3,hi3⟩:=hp
   obtain⟨hr,hl3,hl4,hk4⟩:=fin none W3 hk3
   exact⟨_,_,hr,.inl ⟨rfl,⟨hI.putObj _ hi3 (by omega) hl3 rfl,hl4,hk4⟩,((put W _ _ (by omega)).trans hkp3).trans (put W3 _ _ (by omega))⟩⟩
  |ret=>obtain⟨hr,hx⟩:=leave .ret W3 hp.1 hp.2;exact⟨_,_,hr,.inr ⟨rfl,hx⟩⟩
  |exit id=>obtain⟨hr,hx⟩:=leave (.exit id) W3 hp.1 hp.2;exact⟨_,_,hr,.inr ⟨rfl,hx⟩⟩
  |goto t=>obtain⟨hr,hx⟩:=leave (.goto t) W3 hp.1 hp.2;exact⟨_,_,hr,.inr ⟨rfl,hx⟩⟩
  |panic ch=>exact hp.elim
  |outgrown=>exact hp.elim
 ·
  rintro e W2 ⟨⟨v,rfl⟩,(⟨xs,hS,hi',hl,hk⟩|⟨pre,hSp,c,hi',hl,hk⟩)⟩
  ·have hend:=run_endLoop (P:=P) hl (by rw[hrec];simp)
   rw[hrec] at hend
   exact⟨none,_,hend,hdone _ xs _ (Nat.le_refl _) hS (hI.putObj _ hi' (by omega) hl rfl) ((World.putObj_heap_other (by omega)).trans hk)⟩
  ·have hend:=run_endLoop (P:=P) hl (by rw[hrec];simp)
   rw[hrec] at hend
   exact⟨some c,_,hend,hstop _ c pre _ (Nat.le_refl _) hSp ((hIx c).putObj _ hi' (by omega) hl rfl) ((World.putObj_heap_other (by omega)).trans hk)⟩
end Go.Proofs.YtlbipokkdiiaiaaGreatDoor
namespace Go.Proofs.YtlbipokkdiiaiaaGreatDoor
open Go.RowKit
theorem idx4':∀c:Fin 128,decide (0≤Lib.indexByte [95,46,45,43] (UInt8.ofNat c.1))=(c.1==95||c.1==46||c.1==45||c.1==43):=by decide
theorem zeU (c:Nat) (h:c<128):decide (0≤Lib.indexByte [95,46,45,43] (UInt8.ofNat c))=(c==95||c==46||c==45||c==43):=idx4' ⟨c,h⟩
set_option maxHeartbeats 400000 in
set_option maxRecDepth 100000 in
theorem zaY (c:Nat) (hc:c≤1114111) (w:World):Calls Tryz.prog 145 #[.int .i32 c] w fun e w'=>e=.returned (.bool (dG c))∧w=w':=by
 go_enter Tryz.func145,Tryz.ntmps145
 go_wp2_with (go_at_call 187;refine(Tryz.strings_IndexByte _ _ _).mono ?_;rintro e w' ⟨rfl,rfl⟩)
 all_goals
  go_ret
  refine⟨congrArg (fun x=>Ending.returned (Value.bool x)) ?_,rfl⟩
  first
   |(have h4:=zeU c (by omega)
     rw[h4,Bool.eq_iff_iff]
     simp only[dG,Bool.or_eq_true,Bool.and_eq_true,decide_eq_true_eq,beq_iff_eq]
     omega)
   |(rw[Bool.eq_iff_iff]
     simp only[dG,Bool.or_eq_true,Bool.and_eq_true,decide_eq_true_eq,beq_iff_eq]
     omega)
   |(symm
     simp only[dG,Bool.or_eq_true,Bool.and_eq_true,decide_eq_true_eq,beq_iff_eq]
     omega)
   |go_goals
theorem zbI (c:Nat) (hc:c≤1114111) (b:Bool) (h:dG c=b) (w:World):Calls Tryz.prog 145 #[.int .i32 c] w fun e w'=>e=.returned (.bool b)∧w=w':=by
 subst h;exact zaY c hc w
set_option maxHeartbeats 400000 in
theorem se (c:Nat) (hc:c≤1114111) (w:World):Calls Tryz.prog 144 #[.int .i32 c] w fun e w'=>e=.returned (.bool (!dG c))∧w=w':=by
 obtain⟨b,hb⟩:∃b,dG c=b:=⟨_,rfl⟩
 have Hb:=hid hb;clear hb
 rw[Hb.out]
 go_enter Tryz.func144,Tryz.ntmps144
 go_wp2_with (go_at_call 145;refine(zbI c hc b Hb.out _).mono ?_;rintro e w' ⟨rfl,rfl⟩)
 go_ret
 exact⟨rfl,rfl⟩
theorem rY (w:World):Go.Proofs.PredGrows Tryz.prog 144 #[] (fun x=>!dG x) w:=by
 intro W x hx _
 exact(se x hx W).mono fun _ _ ⟨h,h2⟩=>⟨h,h2▸Below.refl _ _⟩
set_option maxHeartbeats 400000 in
theorem zE (l:List UInt8) (w:World):Calls Tryz.prog 95 #[.string (bs l)] w fun e w'=>e=.returned (.bool (pA l))∧Below w.heap.size w w':=by
 have eg:∀args w,(callFunc 144 args).run Tryz.prog w=.ok (.enter 144 args) w:=enters_of Tryz.func144 (by kernel_rfl) rfl
 have hcon:=Tryz.strings_ContainsFunc_grows 144 #[] eg (fun x=>!dG x) (bs l)
 rw[pU l] at hcon
 obtain⟨b,hb⟩:∃b,(l.all fun b=>dG b.toNat)=b:=⟨_,rfl⟩
 rw[hb] at hcon
 have Hb:=hid hb;clear hb
 have Hcon:=hid hcon;clear hcon
 have hE:(l.isEmpty)=decide (l=[]):=by cases l<;>simp
 have Hp:Hid (pA l=(!decide (l=[])&&decide (l.length≤64)&&!(l==[46])&&!(l==[46,46])&&b)):=by
  apply hid;rw[pA,hE,Hb.out]
 clear hE
 by_cases h0:l=[]
 ·subst h0
  go_enter Tryz.func95,Tryz.ntmps95
  go_wp2_with fail
  go_ret
  exact⟨rfl,Below.refl _ _⟩
 ·have h0':l.isEmpty=false:=by simpa using h0
  by_cases h64:l.length≤64
  ·have H0:=hid h0;clear h0
   rcases Bool.eq_false_or_eq_true (l==[46]) with h1|h1
   ·go_enter Tryz.func95,Tryz.ntmps95
    go_wp2_with fail
    go_ret
    exact⟨by rw[Hp.out,h1];simp,Below.refl _ _⟩
   ·rcases Bool.eq_false_or_eq_true (l==[46,46]) with h2|h2
    ·go_enter Tryz.func95,Tryz.ntmps95
     go_wp2_with fail
     go_ret
     exact⟨by rw[Hp.out,h1,h2];simp,Below.refl _ _⟩
    ·go_enter Tryz.func95,Tryz.ntmps95
     go_wp2_with fail
     refine(Hcon.out w (rY w)).mono ?_
     rintro e w1 ⟨rfl,hb1⟩
     go_wp2_with fail
     go_ret
     exact⟨by rw[Hp.out,h1,h2,decide_eq_false H0.out,decide_eq_true h64];simp,hb1⟩
  ·go_enter Tryz.func95,Tryz.ntmps95
   go_wp2_with fail
   go_ret
   exact⟨by rw[Hp.out,decide_eq_false h64];simp,Below.refl _ _⟩
theorem zb9 (l:List UInt8) (b:Bool) (h:pA l=b) (w:World):Calls Tryz.prog 95 #[.string (bs l)] w fun e w'=>e=.returned (.bool b)∧Below w.heap.size w w':=by
 subst h;exact zE l w
open Go.Shelf
attribute [local go_sem] Oper.semAt_some
def zo (w:World) (b:Nat):Nat:=match w.cell? ⟨b,0,none⟩ with|some (.string s)=>s.size|_=>0
theorem tA {w:World} {b:Nat} {s:List UInt8} (h:w.cell? ⟨b,0,none⟩=some (.string (bs s))):zo w b=s.length:=by unfold zo;rw[h];rfl
set_option maxHeartbeats 2000000 in
set_option maxRecDepth 100000 in
theorem zP (n:Nat) (hn:1≤n) (l c b d lo hi:Nat) (hlo:lo≤c∧lo≤d∧lo≤b) (hhi:c<hi∧d<hi∧b<hi) (hbc:b≠c∧b≠d) (s:List UInt8) (hs:s.length≤1000000000000000)
 (J Jx:List (List UInt8)→World→Prop) (W:World) (hJ:iX b J)
 (hY:∀pre x W1,J pre W1→YieldAt Fence.wide (n-1) Tryz.prog l #[.string (bs x)] W1 fun e W'=>
  (e=.returned (.bool true)∧J (pre++[x]) W'∧bh lo hi W1 W')∨(e=.returned (.bool false)∧Jx (pre++[x]) W'))
 (hc:W.cell? ⟨c,0,none⟩=some (.string (bs [47]))) (hd:W.cell? ⟨d,0,none⟩=some (.int .i64 0)) (hb:W.cell? ⟨b,0,none⟩=some (.string (bs s))) (hf:W.frozen? ⟨b,0,none⟩=false) (h0:J [] W):
 CallsIn Fence.wide n Tryz.prog 183 #[.func (.yield l) #[] #[],.pointer (some ⟨c,0,none⟩),.pointer (some ⟨b,0,none⟩),.pointer (some ⟨d,0,none⟩)] W fun e W'=>(∃v,e=.returned v)∧
  ((∃ys,ys=cT s∧J ys W')∨(∃pre,pre <+: cT s∧Jx pre W')):=by
 have Hs0:=hid hs;clear hs
 refine callsIn_of_wp Tryz.func183 rfl trivial ?_ rfl
 simp only[Tryz.ntmps183,List.size_toArray,List.length_cons,List.length_nil,Nat.reduceAdd,Nat.reduceSub,Array.replicate_succ,Array.replicate_zero,List.push_toArray,List.append_toArray,List.nil_append,List.cons_append]
 gi_wp2
 gi_loopw [7] (fun _ wr=>∃(pre:List (List UInt8)) (rest:List UInt8),cT s=pre++cT rest∧rest.length≤s.length∧wr.cell? ⟨b,0,none⟩=some (.string (bs rest))∧wr.frozen? ⟨b,0,none⟩=false∧wr.cell? ⟨c,0,none⟩=some (.string (bs [47]))∧wr.cell? ⟨d,0,none⟩=some (.int .i64 0)∧J pre wr) (fun _ wr=>zo wr b)
 case atStart=>exact⟨[],s,rfl,Nat.le_refl _,hb,hf,hc,hd,h0⟩
 case round=>
  clear hb hf hc hd h0
  obtain⟨pre,rest,hsp,hle,hb,hf,hc,hd,hj⟩:=hrel
  have Hsp:=hid hsp;clear hsp
  have bY:rest.length≤1000000000000000:=Nat.le_trans hle Hs0.out
  by_cases hneg:Lib.indexByte rest 47<0
  ·obtain⟨fn,tmps,assign,body,hy,hR⟩:=hY pre rest wr hj
   have Hsn:=hid (ul rest hneg)
   gi_wp2_with fail
   refine⟨trivial,(callsIn_wide.2 (Tryz.strings_Index_one (bs rest) 47 _)).mono ?_⟩
   rintro e w' ⟨rfl,rfl⟩
   rw[wN]
   gi_wp2_with fail
   refine hR.mono ?_
   rintro e W' (⟨rfl,hj',hk⟩|⟨rfl,hjx⟩)
   ·gi_wp2
    go_end0
    exact⟨⟨_,rfl⟩,.inl ⟨pre++[rest],by rw[Hsp.out,Hsn.out],hj'⟩⟩
   ·gi_wp2
    go_end0
    exact⟨⟨_,rfl⟩,.inr ⟨pre++[rest],by rw[Hsp.out,Hsn.out];exact List.prefix_refl _,hjx⟩⟩
  ·obtain⟨i,hi⟩:∃i:Nat,Lib.indexByte rest 47=i:=⟨(Lib.indexByte rest 47).toNat,by omega⟩
   have Hi:=hid hi;clear hneg
   have hss:=us rest i hi
   clear hi
   have hil:=hss.2
   have Hss:=hid hss.1;clear hss
   obtain⟨fn,tmps,assign,body,hy,hR⟩:=hY pre (rest.take i) wr hj
   gi_wp2_with fail
   refine⟨trivial,(callsIn_wide.2 (Tryz.strings_Index_one (bs rest) 47 _)).mono ?_⟩
   rintro e w' ⟨rfl,rfl⟩
   rw[wN,Hi.out]
   gi_wp2_with fail
   refine hR.mono ?_
   rintro e W' (⟨rfl,hj',hk⟩|⟨rfl,hjx⟩)
   ·have hb':W'.cell? ⟨b,0,none⟩=some (.string (bs rest)):=(hk.cell (p:=⟨b,0,none⟩) hlo.2.2 hhi.2.2).trans hb
    have hc':W'.cell? ⟨c,0,none⟩=some (.string (bs [47])):=(hk.cell (p:=⟨c,0,none⟩) hlo.1 hhi.1).trans hc
    have hd':W'.cell? ⟨d,0,none⟩=some (.int .i64 0):=(hk.cell (p:=⟨d,0,none⟩) hlo.2.1 hhi.2.1).trans hd
    have hf':W'.frozen? ⟨b,0,none⟩=false:=(hk.frozen (p:=⟨b,0,none⟩) hlo.2.2 hhi.2.2).trans hf
    gi_wp2
    have he:List.take (rest.length-(i+1)) (List.drop (i+1) rest)=List.drop (i+1) rest:=List.take_of_length_le (by rw[List.length_drop];exact Nat.le_refl _)
    rw[he]
    have hcell:(W'.setCell ⟨b,0,none⟩ (.string (bs (rest.drop (i+1))))).cell? ⟨b,0,none⟩=some (.string (bs (rest.drop (i+1)))):=World.cell?_setCell_same' _ _ _ (by rw[hb'];rfl)
    refine⟨⟨pre++[rest.take i],rest.drop (i+1),?_,by rw[List.length_drop];omega,hcell,by rw[World.frozen?_setCell];exact hf',?_,?_,hJ _ _ _ hj'⟩,?_⟩
    ·rw[Hsp.out,Hss.out,List.append_assoc];rfl
    ·exact(World.cell?_of_block (w:=W') (Below.heap_setCell W' _ _ c (by show c≠b;omega))).trans hc'
    ·exact(World.cell?_of_block (w:=W') (Below.heap_setCell W' _ _ d (by show d≠b;omega))).trans hd'
    ·rw[tA hcell,tA hb,List.length_drop];omega
   ·gi_wp2
    refine bodyPost_ret (results_none rfl _ _ _) rfl ?_
    exact⟨⟨_,rfl⟩,.inr ⟨pre++[rest.take i],⟨cT (rest.drop (i+1)),by rw[Hsp.out,Hss.out,List.append_assoc];rfl⟩,hjx⟩⟩
theorem yp (n:Nat) (hn:1≤n) (c b d lo hi:Nat) (hlo:lo≤c∧lo≤d∧lo≤b) (hhi:c<hi∧d<hi∧b<hi) (hbc:b≠c∧b≠d) (s:List UInt8) (hs:s.length≤1000000000000000) (w:World)
 (hc:w.cell? ⟨c,0,none⟩=some (.string (bs [47]))) (hd:w.cell? ⟨d,0,none⟩=some (.int .i64 0)) (hb:w.cell? ⟨b,0,none⟩=some (.string (bs s))) (hf:w.frozen? ⟨b,0,none⟩=false):
 zde Fence.wide n Tryz.prog 183 #[.pointer (some ⟨c,0,none⟩),.pointer (some ⟨b,0,none⟩),.pointer (some ⟨d,0,none⟩)] (fun x:List UInt8=>#[.string (bs x)]) (bh lo hi) b (fun xs=>xs=cT s) (fun pre=>pre <+: cT s) w:=by
 intro l J Jx W hk _ _ hJ _ hY h0
 refine(zP n hn l c b d lo hi hlo hhi hbc s hs J Jx W hJ hY ?_ ?_ ?_ ?_ h0).mono ?_
 ·exact(hk.cell (p:=⟨c,0,none⟩) hlo.1 hhi.1).trans hc
 ·exact(hk.cell (p:=⟨d,0,none⟩) hlo.2.1 hhi.2.1).trans hd
 ·exact(hk.cell (p:=⟨b,0,none⟩) hlo.2.2 hhi.2.2).trans hb
 ·exact(hk.frozen (p:=⟨b,0,none⟩) hlo.2.2 hhi.2.2).trans hf
 ·rintro e W' ⟨h1,h2⟩;exact⟨h1,h2⟩
set_option maxHeartbeats 400000 in
theorem rH (s c:List UInt8) (w:World):
 Calls Tryz.prog 94 #[.string (bs s),.string (bs c)] w fun e w'=>e=.returned (.func (.func 183) #[] #[.pointer (some ⟨w.heap.size+1,0,none⟩),.pointer (some ⟨w.heap.size,0,none⟩),.pointer (some ⟨w.heap.size+2,0,none⟩)])∧
  w'=((w.alloc (.cells #[.string (bs s)] 9)).alloc (.cells #[.string (bs c)] 9)).alloc (.cells #[.int .i64 0] 3):=by
 go_enter Tryz.func94,Tryz.ntmps94
 go_wp2
 go_ret
 exact⟨rfl,rfl⟩
def ri (pre:List (List UInt8)):Prop:=pre.length≤16∧∀x∈pre,pA x=true
theorem zcU {s:List UInt8} (h:ri (cT s)):dS s=true:=by
 unfold dS
 rw[decide_eq_true h.1,Bool.true_and,List.all_eq_true]
 exact h.2
theorem zdD {s:List UInt8} {pre:List (List UInt8)} (hp:pre <+: cT s) (h:¬ri pre):dS s=false:=by
 rw[←Bool.not_eq_true]
 intro hm
 unfold dS at hm
 simp only[Bool.and_eq_true,decide_eq_true_eq,List.all_eq_true] at hm
 exact h ⟨Nat.le_trans hp.length_le hm.1,fun x hx=>hm.2 x (hp.subset hx)⟩
theorem iZ (w:World) (v:Value) (t:TypeId):(w.alloc (.cells #[v] t)).cell? ⟨w.heap.size,0,none⟩=some v∧(w.alloc (.cells #[v] t)).frozen? ⟨w.heap.size,0,none⟩=false:=by
 refine⟨by rw[World.cell?_alloc_mark];rfl,?_⟩
 rw[World.frozen?_alloc_mark];rfl
theorem dR {w:World} {k:Nat} {v:Value} (o:Obj) (hk:k<w.heap.size) (h:w.cell? ⟨k,0,none⟩=some v∧w.frozen? ⟨k,0,none⟩=false):(w.alloc o).cell? ⟨k,0,none⟩=some v∧(w.alloc o).frozen? ⟨k,0,none⟩=false:=
 ⟨(World.cell?_of_block (w:=w) (Below.heap_alloc w o k hk)).trans h.1,(World.frozen?_of_block (w:=w) (Below.heap_alloc w o k hk)).trans h.2⟩
set_option maxRecDepth 100000 in
set_option maxHeartbeats 2000000 in
theorem jn (s:List UInt8) (hs:s.length≤1000000000000000) (w:World):
 Calls Tryz.prog 51 #[.string (bs s)] w fun e w'=>e=.returned (.bool (dS s))∧Below w.heap.size w w':=by
 refine(callsIn_wide (n:=5)).1 ?_
 refine callsIn_of_wp_marks Tryz.func51 rfl trivial ?_ rfl
 simp only[Tryz.ntmps51,List.size_toArray,List.length_cons,List.length_nil,Nat.reduceAdd,Nat.reduceSub,Array.replicate_succ,Array.replicate_zero,List.push_toArray,List.append_toArray,List.nil_append,List.cons_append]
 gi_wp2_with fail
 refine⟨trivial,(callsIn_wide.2 (rH s [47] _)).mono ?_⟩
 rintro e w5 ⟨rfl,hw5⟩
 simp only[World.size_alloc]
 have hsz:w5.heap.size=w.heap.size+5:=by rw[hw5];simp
 have hB:Below w.heap.size w w5:=by
  rw[hw5];exact(((((Below.refl _ w).alloc (Nat.le_refl _) _).alloc (by simp) _).alloc (by simp;omega) _).alloc (by simp;omega) _).alloc (by simp;omega) _
 have c0:w5.cell? ⟨w.heap.size,0,none⟩=some (.bool false)∧w5.frozen? ⟨w.heap.size,0,none⟩=false:=by
  rw[hw5];exact dR _ (by simp;try omega) (dR _ (by simp;try omega) (dR _ (by simp;try omega) (dR _ (by simp) (iZ w _ _))))
 have c1:w5.cell? ⟨w.heap.size+1,0,none⟩=some (.int .i64 0)∧w5.frozen? ⟨w.heap.size+1,0,none⟩=false:=by
  have:=iZ (w.alloc (.cells #[.bool false] 4)) (.int .i64 0) 3
  rw[World.size_alloc] at this
  rw[hw5];exact dR _ (by simp;try omega) (dR _ (by simp;try omega) (dR _ (by simp) this))
 have c2:w5.cell? ⟨w.heap.size+2,0,none⟩=some (.string (bs s))∧w5.frozen? ⟨w.heap.size+2,0,none⟩=false:=by
  have:=iZ ((w.alloc (.cells #[.bool false] 4)).alloc (.cells #[.int .i64 0] 3)) (.string (bs s)) 9
  simp only[World.size_alloc] at this
  rw[hw5];exact dR _ (by simp) (dR _ (by simp) this)
 have c3:w5.cell? ⟨w.heap.size+3,0,none⟩=some (.string (bs [47])):=by
  have:=iZ (((w.alloc (.cells #[.bool false] 4)).alloc (.cells #[.int .i64 0] 3)).alloc (.cells #[.string (bs s)] 9)) (.string (bs [47])) 9
  simp only[World.size_alloc] at this
  rw[hw5];exact(dR _ (by simp) this).1
 have c4:w5.cell? ⟨w.heap.size+4,0,none⟩=some (.int .i64 0):=by
  have:=iZ ((((w.alloc (.cells #[.bool false] 4)).alloc (.cells #[.int .i64 0] 3)).alloc (.cells #[.string (bs s)] 9)).alloc (.cells #[.string (bs [47])] 9)) (.int .i64 0) 3
  simp only[World.size_alloc] at this
  rw[hw5];exact this.1
 clear hw5
 have Hsz:=hid hsz
 clear hsz
 gi_wp2_with fail
 have hsz:=Hsz.out
 refine kF (lo:=w.heap.size+2) (hi:=w.heap.size+5) (b:=w.heap.size+2) rfl (by omega) (gf:=183) (lb:=#[.pointer (some ⟨w.heap.size+3,0,none⟩),.pointer (some ⟨w.heap.size+2,0,none⟩),.pointer (some ⟨w.heap.size+4,0,none⟩)]) rfl trivial (enters_of Tryz.func183 (by kernel_rfl) rfl)
  (yp _ (by omega) (w.heap.size+3) (w.heap.size+2) (w.heap.size+4) (w.heap.size+2) (w.heap.size+5) (by omega) (by omega) (by omega) s hs w5 c3 c4 c2.1 c2.2) (by omega) (by omega) (fun _=>rfl)
  (fun pre W=>(ri pre∧W.cell? ⟨w.heap.size+1,0,none⟩=some (.int .i64 pre.length)∧W.frozen? ⟨w.heap.size+1,0,none⟩=false∧W.cell? ⟨w.heap.size,0,none⟩=some (.bool false)∧W.frozen? ⟨w.heap.size,0,none⟩=false)∧Below w.heap.size w5 W)
  (fun c pre W=>(c=.ret∧¬ri pre∧W.cell? ⟨w.heap.size,0,none⟩=some (.bool false))∧Below w.heap.size w5 W)
  (OwnFrom.and (Own.from (fun s A B row hs hg hr=>⟨hs.1,cell_kept hs.2.1 hg hr,(frozen_kept hs.2.1 hg hr).trans hs.2.2.1,cell_kept hs.2.2.2.1 hg hr,(frozen_kept hs.2.2.2.1 hg hr).trans hs.2.2.2.2⟩) _) (ownFrom_below (by omega) (by omega)))
  (fun c=>OwnFrom.and (Own.from (fun s A B row hs hg hr=>⟨hs.1,hs.2.1,cell_kept hs.2.2 hg hr⟩) _) (ownFrom_below (by omega) (by omega)))
  (fun pre W v hs=>⟨⟨hs.1.1,(World.cell?_of_block (w:=W) (Below.heap_setCell W _ _ (w.heap.size+1) (by show _≠w.heap.size+2;omega))).trans hs.1.2.1,by rw[World.frozen?_setCell];exact hs.1.2.2.1,
   (World.cell?_of_block (w:=W) (Below.heap_setCell W _ _ w.heap.size (by show _≠w.heap.size+2;omega))).trans hs.1.2.2.2.1,by rw[World.frozen?_setCell];exact hs.1.2.2.2.2⟩,hs.2.setCell (p:=⟨w.heap.size+2,0,none⟩) (by simp) _⟩)
  (fun c pre W v hs=>⟨⟨hs.1.1,hs.1.2.1,(World.cell?_of_block (w:=W) (Below.heap_setCell W _ _ w.heap.size (by show _≠w.heap.size+2;omega))).trans hs.1.2.2⟩,hs.2.setCell (p:=⟨w.heap.size+2,0,none⟩) (by simp) _⟩)
  ⟨⟨⟨by simp,by simp⟩,c1.1,c1.2,c0.1,c0.2⟩,Below.refl _ _⟩
  (fun x=>{tmps:=#[.string (bs s),undef,.pointer (some ⟨w.heap.size,0,none⟩),.pointer (some ⟨w.heap.size+1,0,none⟩),.string (bs x),.string (bs s),.func (.func 183) #[] #[.pointer (some ⟨w.heap.size+3,0,none⟩),.pointer (some ⟨w.heap.size+2,0,none⟩),.pointer (some ⟨w.heap.size+4,0,none⟩)],.string (bs x),undef,undef,undef,undef,undef,undef,undef,undef,undef],defers:=[]}) ?assign ?body ?done ?stop
 case assign=>
  intro l x W K hK
  gi_wp2
  exact hK
 case body=>
  rintro l pre x W ⟨⟨hg,hn,hfn,hr,hfr⟩,hBW⟩
  have hgl:=hg.1
  have Hg:=hid hg
  clear hg c0 c1 c2 c3 c4 hB
  have hk1:KeepsOthers W (W.setCell ⟨w.heap.size+1,0,none⟩ (.int .i64 (pre.length+1))):=KeepsOthers.setCell _ _ _
  have hB1:Below w.heap.size w5 (W.setCell ⟨w.heap.size+1,0,none⟩ (.int .i64 (pre.length+1))):=hBW.setCell (p:=⟨w.heap.size+1,0,none⟩) (by simp) _
  have hc1:(W.setCell ⟨w.heap.size+1,0,none⟩ (.int .i64 (pre.length+1))).cell? ⟨w.heap.size+1,0,none⟩=some (.int .i64 (pre.length+1)):=World.cell?_setCell_same' _ _ _ (by rw[hn];rfl)
  have hc0:(W.setCell ⟨w.heap.size+1,0,none⟩ (.int .i64 (pre.length+1))).cell? ⟨w.heap.size,0,none⟩=some (.bool false):=(World.cell?_of_block (w:=W) (Below.heap_setCell W _ _ w.heap.size (by show _≠w.heap.size+1;omega))).trans hr
  have hf0:(W.setCell ⟨w.heap.size+1,0,none⟩ (.int .i64 (pre.length+1))).frozen? ⟨w.heap.size,0,none⟩=false:=by rw[World.frozen?_setCell];exact hfr
  have hf1:(W.setCell ⟨w.heap.size+1,0,none⟩ (.int .i64 (pre.length+1))).frozen? ⟨w.heap.size+1,0,none⟩=false:=by rw[World.frozen?_setCell];exact hfn
  have hkb:bh (w.heap.size+2) (w.heap.size+5) W (W.setCell ⟨w.heap.size+1,0,none⟩ (.int .i64 (pre.length+1))):=bh.setCell _ _ _ (.inl (by simp))
  have hz1:w.heap.size+5≤W.heap.size→w.heap.size+5≤(W.setCell ⟨w.heap.size+1,0,none⟩ (.int .i64 (pre.length+1))).heap.size:=by simp[World.setCell]
  by_cases h16:16≤pre.length
  ·gi_wp2
   refine⟨trivial,?_⟩
   gi_wp2
   refine⟨hk1.trans (KeepsOthers.setCell _ _ _),⟨rfl,fun h=>?_,World.cell?_setCell_same' _ _ _ (by rw[hc0];rfl)⟩,hB1.setCell (p:=⟨w.heap.size,0,none⟩) (by simp) _⟩
   have:=h.1
   simp at this
   omega
  ·obtain⟨b,hb⟩:∃b,pA x=b:=⟨_,rfl⟩
   have Hb:=hid hb;clear hb
   gi_wp2_with fail
   refine⟨trivial,(CallsIn.inRound l (callsIn_wide.2 (zb9 x b Hb.out _))).mono ?_⟩
   rintro e w2 ⟨rfl,hb2⟩
   have hko:=hk1.trans (dy hb2)
   have hlt0:w.heap.size+5≤W.heap.size:=by have:=hBW.size;omega
   have hlt1:w.heap.size+5≤(W.setCell ⟨w.heap.size+1,0,none⟩ (.int .i64 (pre.length+1))).heap.size:=hz1 hlt0
   have hkb2:=hkb.trans (bh.below hb2 (by omega))
   have hB2:=hB1.trans (hb2.mono (by omega))
   have d1:=(hb2.cell (p:=⟨w.heap.size+1,0,none⟩) (by simp;omega)).trans hc1
   have d0:=(hb2.cell (p:=⟨w.heap.size,0,none⟩) (by simp;omega)).trans hc0
   have g0:=(hb2.frozen (p:=⟨w.heap.size,0,none⟩) (by simp;omega)).trans hf0
   have g1:=(hb2.frozen (p:=⟨w.heap.size+1,0,none⟩) (by simp;omega)).trans hf1
   clear hb2 hc1 hc0 hf0 hf1 hz1 hn hfn hr hfr
   cases b with
   |true=>
    gi_wp2
    refine⟨hko,hkb2,⟨⟨?_,?_⟩,?_,g1,d0,g0⟩,hB2⟩
    ·simp;omega
    ·intro y hy
     rcases List.mem_append.1 hy with h|h
     ·exact Hg.out.2 y h
     ·rw[List.mem_singleton.1 h];exact Hb.out
    ·rw[d1,List.length_append];simp
   |false=>
    gi_wp2
    refine⟨hko.trans (KeepsOthers.setCell _ _ _),⟨rfl,fun h=>?_,World.cell?_setCell_same' _ _ _ (by rw[d0];rfl)⟩,hB2.setCell (p:=⟨w.heap.size,0,none⟩) (by simp) _⟩
    have:=h.2 x (by simp)
    rw[Hb.out] at this;cases this
 case done=>
  rintro D xs W hD rfl ⟨⟨hg,_,_,hr,hfr⟩,hBW⟩ hK
  gi_wp2
  have hK':=(KeepsOthers.setCell W ⟨w.heap.size,0,none⟩ (.bool true)).same D _ hK rfl
  refine⟨by simp,.inl ⟨_,_,rfl,run_takeDeferred hK',?_⟩⟩
  have hc5:=cell_kept (World.cell?_setCell_same' W ⟨w.heap.size,0,none⟩ (.bool true) (by rw[hr];rfl)) (grownBy_putObj' _ D (.deferred none)) (fun r e=>by cases e;exact⟨_,hK',rfl⟩)
  refine⟨.bool true,?_,by rw[zcU hg],hB.trans ((hBW.setCell (p:=⟨w.heap.size,0,none⟩) (by simp) _).trans (belowK_b (w:=w) (Nat.le_refl _) _ D _ _ (by omega) hK' rfl rfl))⟩
  simp[results,Tryz.f51,go_sem,hc5]
 case stop=>
  rintro D c pre W hD hpre ⟨⟨rfl,hbad,hr⟩,hBW⟩ hK
  gi_wp2
  refine⟨by simp,.inl ⟨_,_,rfl,run_takeDeferred hK,?_⟩⟩
  have hc5:=cell_kept hr (grownBy_putObj' _ D (.deferred none)) (fun r e=>by cases e;exact⟨_,hK,rfl⟩)
  refine⟨.bool false,?_,by rw[zdD hpre hbad],hB.trans (hBW.trans (belowK_b (w:=w) (Nat.le_refl _) W D _ _ (by omega) hK rfl rfl))⟩
  simp[results,Tryz.f51,go_sem,hc5]
end Go.Proofs.YtlbipokkdiiaiaaGreatDoor
namespace Go.Proofs.YtlbipokkdiiaiaaGreatDoor
open Go.RowKit
theorem ja (s:List UInt8) (hs:s.length≤1000000000000000) (b:Bool) (h:dS s=b) (w:World):
 Calls Tryz.prog 51 #[.string (bs s)] w fun e w'=>e=.returned (.bool b)∧Below w.heap.size w w':=by
 subst h;exact jn s hs w
set_option maxHeartbeats 400000 in
theorem qV (s d:List UInt8) (hs:s.length≤1000000000000000) (hd:d.length≤1000000000000000) (w:World):
 Calls Tryz.prog 89 #[.string (bs s),.string (bs d)] w fun e w'=>e=.returned (.bool (fZ s d))∧Below w.heap.size w w':=by
 obtain⟨bm,hbm⟩:∃bm,dS s=bm:=⟨_,rfl⟩
 obtain⟨bd,hbd⟩:∃bd,dS d=bd:=⟨_,rfl⟩
 have Hm:=hid (ja s hs bm hbm)
 have Hd:=hid (ja d hd bd hbd)
 obtain⟨bp,hbp⟩:∃bp,Lib.hasPrefix s (d++[47])=bp:=⟨_,rfl⟩
 have Hu:Hid (fZ s d=(bm&&(d.isEmpty||(bd&&bp)))):=by apply hid;rw[fZ,hbm,hbd,hbp]
 have Hp:Hid (∀w,Calls Tryz.prog 131 #[.string (bs s),.string (bs (d++[47]))] w fun e w'=>e=.returned (.bool bp)∧w'=w):=by
  apply hid;intro w;rw[←hbp];exact Tryz.strings_HasPrefix (bs s) (bs (d++[47])) w
 clear hbm hbd hbp
 cases bm with
 |false=>
  go_enter Tryz.func89,Tryz.ntmps89
  go_wp2_with fail
  refine(Hm.out _).mono ?_
  rintro e w1 ⟨rfl,hb1⟩
  go_wp2_with fail
  go_ret
  exact⟨by rw[Hu.out];rfl,hb1⟩
 |true=>
  by_cases h0:d=[]
  ·subst h0
   go_enter Tryz.func89,Tryz.ntmps89
   go_wp2_with fail
   refine(Hm.out _).mono ?_
   rintro e w1 ⟨rfl,hb1⟩
   go_wp2_with fail
   go_ret
   exact⟨by rw[Hu.out];rfl,hb1⟩
  ·have h0':d.isEmpty=false:=by simpa using h0
   clear h0
   cases bd with
   |false=>
    go_enter Tryz.func89,Tryz.ntmps89
    go_wp2_with fail
    refine(Hm.out _).mono ?_
    rintro e w1 ⟨rfl,hb1⟩
    go_wp2_with fail
    refine(Hd.out _).mono ?_
    rintro e w2 ⟨rfl,hb2⟩
    go_wp2_with fail
    go_ret
    exact⟨by rw[Hu.out,h0'];rfl,Below.chain hb1 hb2⟩
   |true=>
    go_enter Tryz.func89,Tryz.ntmps89
    go_wp2_with fail
    refine(Hm.out _).mono ?_
    rintro e w1 ⟨rfl,hb1⟩
    go_wp2_with fail
    refine(Hd.out _).mono ?_
    rintro e w2 ⟨rfl,hb2⟩
    go_wp2_with fail
    refine(Hp.out _).mono ?_
    rintro e w3 ⟨rfl,rfl⟩
    go_wp2_with fail
    go_ret
    exact⟨by rw[Hu.out,h0'];simp,Below.chain hb1 hb2⟩
theorem zaf (s d:List UInt8) (hs:s.length≤1000000000000000) (hd:d.length≤1000000000000000) (b:Bool) (h:fZ s d=b) (w:World):
 Calls Tryz.prog 89 #[.string (bs s),.string (bs d)] w fun e w'=>e=.returned (.bool b)∧Below w.heap.size w w':=by
 subst h;exact qV s d hs hd w
theorem lQ (l:List UInt8):Op.bytesLess l l=false:=by
 induction l with
 |nil=>rfl
 |cons c l ih=>simp[Op.bytesLess,ih]
abbrev zeS (a b:List UInt8):Bool:=Op.bytesLess a b
open Exec
set_option maxRecDepth 100000
def uq (met:List (List UInt8)):List RdL→Int
 |[]=>0
 |r::l=>if dS r.path then if r.path∈met then 8 else if r.is||decide (r.sum=dg0) then uq (met++[r.path]) l else 5 else 1
def zav (ahead:Option (List UInt8)):List MdL→Int
 |[]=>0
 |m::l=>if fZ m.path [111,117,116] then(match ahead with
  |some q=>if m.path=q then 8 else if zeS m.path q then 2 else zav (some m.path) l
  |none=>zav (some m.path) l) else 1
def zbd (t:TcL):Int:=if t.reads.length>500∨t.outs.length>1000 then 6 else if uq [] t.reads≠0 then uq [] t.reads else zav none t.outs
def zdS (l:List RdL):Prop:=∀r∈l,r.path.length≤1000000000000000
def zdx (l:List MdL):Prop:=∀r∈l,r.path.length≤1000000000000000
structure zdQ (t:TcL):Prop where
 rd:zdS t.reads
 ou:zdx t.outs
def dig (n:Nat):List UInt8:=if n<10 then[UInt8.ofNat (48+n)] else dig (n/10)++[UInt8.ofNat (48+n%10)]
theorem zp {n:Nat} (h:n<10):dig n=[UInt8.ofNat (48+n)]:=by rw[dig,if_pos h]
theorem zdM {n:Nat} (h:¬n<10):dig n=dig (n/10)++[UInt8.ofNat (48+n%10)]:=by rw[dig,if_neg h]
theorem zdW (k:Nat):∀n,n≤k→dig n=Lib.decDigits n:=by
 induction k with
 |zero=>intro n h;obtain rfl:n=0:=by omega
        rw[zp (by omega),Lib.decDigits,dif_pos (by omega)]
 |succ k ih=>
  intro n h
  by_cases hn:n<10
  ·rw[zp hn,Lib.decDigits,dif_pos hn]
  ·rw[zdM hn,Lib.decDigits,dif_neg hn,ih (n/10) (by omega)]
theorem ow (n:Nat):Lib.itoa n=dig n:=by
 rw[Lib.itoa,if_neg (by omega),zdW n n (Nat.le_refl _)];rfl
def fin (out:List (List UInt8)) (p:List (List UInt8)×Nat):List (List UInt8)×Nat:=if p.2=0 then(out++p.1,0) else([],p.2)
theorem ub {n:Nat} (h:n<256):(UInt8.ofNat n).toNat=n:=by simp[UInt8.toNat_ofNat'];omega
def j8 (x n:Int):Int:=bits .or .u32 (x/2^n.toNat) (x*2^(32-n).toNat%4294967296)
theorem rE (k:IntKind) (a b:Int):bits .or k a b=bits .or k b a:=by
 show k.wrap ((BitVec.ofInt k.bits a ||| BitVec.ofInt k.bits b).toNat:Int)=k.wrap ((BitVec.ofInt k.bits b ||| BitVec.ofInt k.bits a).toNat:Int)
 rw[BitVec.or_comm]
def zbr (x:Int):Int:=bits .xor .u32 (bits .xor .u32 (j8 x 7) (j8 x 18)) (x/8)
def zal (x:Int):Int:=bits .xor .u32 (bits .xor .u32 (j8 x 17) (j8 x 19)) (x/1024)
def vQ (a b c d:Int):Int:=(((a+zbr b)%4294967296+c)%4294967296+zal d)%4294967296
theorem ut (a b c d:Int):vQ a b c d=(a+zbr b+c+zal d)%4294967296:=by unfold vQ;omega
def wy (ws:List Int) (i:Nat):Int:=vQ (ws.getD (i-16) 0) (ws.getD (i-15) 0) (ws.getD (i-7) 0) (ws.getD (i-2) 0)
def zdh (a b c d:Int):Int:=bits .or .u32 (bits .or .u32 (bits .or .u32 (a*16777216) (b*65536)) (c*256)) d
def dh (b:List UInt8) (i:Nat):Int:=(b.getD i 0).toNat
def jX (b:List UInt8) (i:Nat):Int:=zdh (dh b (4*i)) (dh b (4*i+1)) (dh b (4*i+2)) (dh b (4*i+3))
def zeW (x:Int):Int:=bits .xor .u32 (if IntKind.u32.signed=true then -1 else IntKind.u32.max) x
def zea (e f g h k w:Int):Int:=
 h+bits .xor .u32 (bits .xor .u32 (j8 e 6) (j8 e 11)) (j8 e 25)+bits .xor .u32 (bits .and .u32 e f) (bits .and .u32 (zeW e) g)+k+w
def zey (a b c:Int):Int:=
 bits .xor .u32 (bits .xor .u32 (j8 a 2) (j8 a 13)) (j8 a 22)+bits .xor .u32 (bits .xor .u32 (bits .and .u32 a b) (bits .and .u32 a c)) (bits .and .u32 b c)
def aS (b:List UInt8):Nat→List Int
 |0=>[]
 |k+1=>aS b k++[if k<16 then jX b k else wy (aS b k) k]
theorem dY (b:List UInt8) (k:Nat):(aS b k).length=k:=by
 induction k with
 |zero=>rfl
 |succ k ih=>rw[aS,List.length_append,ih];rfl
def j5 (b:List UInt8):List Int:=aS b 64
def jk (v:List Int) (k w:Int):List Int:=
 let t:=zea (v.getD 4 0) (v.getD 5 0) (v.getD 6 0) (v.getD 7 0) k w
 [(t+zey (v.getD 0 0) (v.getD 1 0) (v.getD 2 0))%4294967296,v.getD 0 0,v.getD 1 0,v.getD 2 0,(v.getD 3 0+t)%4294967296,v.getD 4 0,v.getD 5 0,v.getD 6 0]
def bJ (ks ws h:List Int):Nat→List Int
 |0=>h
 |n+1=>jk (bJ ks ws h n) (ks.getD n 0) (ws.getD n 0)
theorem si {ks ws h:List Int} (hh:h.length=8) (n:Nat):(bJ ks ws h n).length=8:=by
 cases n with
 |zero=>exact hh
 |succ n=>rfl
def nR (h v:List Int) (k:Nat):List Int:=(List.range k).map fun i=>(h.getD i 0+v.getD i 0)%4294967296
def ww (h v:List Int):List Int:=nR h v 8
def cy (ks h:List Int) (b:List UInt8):List Int:=ww h (bJ ks (j5 b) h 64)
theorem jN (ks h:List Int) (b:List UInt8):(cy ks h b).length=8:=by unfold cy ww nR;simp
def aY (ks h:List Int) (b:List UInt8):List Int:=
 if _h:b.length<64 then h else aY ks (cy ks h (b.take 64)) (b.drop 64)
termination_by b.length
decreasing_by rw[List.length_drop];omega
theorem ct {ks h:List Int} {b:List UInt8} (hb:b.length<64):aY ks h b=h:=by rw[aY,dif_pos hb]
theorem eT {ks h:List Int} {b:List UInt8} (hb:64≤b.length):aY ks h b=aY ks (cy ks h (b.take 64)) (b.drop 64):=by rw[aY,dif_neg (by omega)]
def bS (b:List UInt8):List UInt8:=b.drop (b.length/64*64)
theorem mi (ks:List Int) (k:Nat):∀(h:List Int) (a b:List UInt8),a.length=64*k→aY ks h (a++b)=aY ks (aY ks h a) b:=by
 induction k with
 |zero=>
  intro h a b ha
  have:a=[]:=List.length_eq_zero_iff.1 (by omega)
  subst this
  rw[ct (b:=[]) (by simp),List.nil_append]
 |succ k ih=>
  intro h a b ha
  have hd:(a.drop 64).length=64*k:=by rw[List.length_drop];omega
  rw[eT (b:=a++b) (by rw[List.length_append];omega),eT (b:=a) (by omega),List.take_append_of_le_length (by omega),List.drop_append_of_le_length (by omega),ih _ _ _ hd]
theorem my (ks h:List Int) (b:List UInt8):aY ks h (b.take (b.length/64*64))=aY ks h b:=by
 have e:b=b.take (b.length/64*64)++bS b:=by unfold bS;rw[List.take_append_drop]
 have hl:(b.take (b.length/64*64)).length=64*(b.length/64):=by rw[List.length_take];omega
 have hs:(bS b).length<64:=by unfold bS;rw[List.length_drop];omega
 conv=>rhs;rw[e]
 rw[mi ks _ h _ _ hl,ct hs]
theorem qv (ks h:List Int) (a b:List UInt8):aY ks (aY ks h a) (bS a++b)=aY ks h (a++b):=by
 have e:a=a.take (a.length/64*64)++bS a:=by unfold bS;rw[List.take_append_drop]
 have hl:(a.take (a.length/64*64)).length=64*(a.length/64):=by rw[List.length_take];omega
 conv=>rhs;rw[e,List.append_assoc]
 rw[mi ks _ h _ _ hl,my]
theorem uk (b:List UInt8):(bS b).length<64:=by unfold bS;rw[List.length_drop];omega
theorem xO (a b:List UInt8):bS (bS a++b)=bS (a++b):=by
 have e:a=a.take (a.length/64*64)++bS a:=by unfold bS;rw[List.take_append_drop]
 have hl:(a.take (a.length/64*64)).length=a.length/64*64:=by rw[List.length_take];omega
 have hla:a.length=a.length/64*64+(bS a).length:=by unfold bS;rw[List.length_drop];omega
 have e2:a++b=a.take (a.length/64*64)++(bS a++b):=by rw[←List.append_assoc,←e]
 have hq:(a++b).length/64*64=a.length/64*64+(bS a++b).length/64*64:=by
  simp only[List.length_append];omega
 show(bS a++b).drop ((bS a++b).length/64*64)=(a++b).drop ((a++b).length/64*64)
 rw[hq,e2]
 generalize bS a++b=c at *
 generalize a.take (a.length/64*64)=d at *
 rw[←hl,List.drop_append]
 rw[List.drop_of_length_le (l:=d) (by omega),List.nil_append,show d.length+c.length/64*64-d.length=c.length/64*64 by omega]
def u5 (n:Nat):List UInt8:=List.replicate ((119-n%64)%64) 0
def mC (n:Nat):Nat→List UInt8
 |0=>[]
 |k+1=>mC n k++[UInt8.ofNat (8*n/2^(8*(7-k))%256)]
def zdy (n:Nat):List UInt8:=mC n 8
theorem zbE (m:Nat):((UInt8.ofNat (m%256)).toNat:Int)=(m:Int)%256:=by
 rw[UInt8.toNat_ofNat_of_lt' (by have:=Nat.mod_lt m (show 0<256 by decide);exact this)]
 omega
def fP (s:List UInt8):List UInt8:=s++128::u5 s.length++zdy s.length
def br:List Int:=[1116352408,1899447441,3049323471,3921009573,961987163,1508970993,2453635748,2870763221,3624381080,310598401,607225278,1426881987,1925078388,2162078206,2614888103,3248222580,3835390401,4022224774,264347078,604807628,770255983,1249150122,1555081692,1996064986,2554220882,2821834349,2952996808,3210313671,3336571891,3584528711,113926993,338241895,666307205,773529912,1294757372,1396182291,1695183700,1986661051,2177026350,2456956037,2730485921,2820302411,3259730800,3345764771,3516065817,3600352804,4094571909,275423344,430227734,506948616,659060556,883997877,958139571,1322822218,1537002063,1747873779,1955562222,2024104815,2227730452,2361852424,2428436474,2756734187,3204031479,3329325298]
def cQ:List Int:=[1779033703,3144134277,1013904242,2773480762,1359893119,2600822924,528734635,1541459225]
def pw (v:List Int) (i:Nat):Int:=v.getD (i/4) 0/2^(24-8*(i%4))%256
def nz (v:List Int):List Int:=(List.range 32).map (pw v)
def dA (v:List Int) (k:Nat):Array Value:=((List.range 32).map fun i=>Value.int .u8 (if i<k then pw v i else 0)).toArray
theorem dZ (v:List Int) (k:Nat):(dA v k).size=32:=by simp[dA]
theorem xf (v:List Int) (k:Nat):(dA v k).setIfInBounds k (.int .u8 (pw v k))=dA v (k+1):=by
 apply Array.ext
 ·simp[dA]
 ·intro i h1 h2
  rw[Array.size_setIfInBounds,dZ] at h1
  rw[Array.getElem_setIfInBounds (by rw[dZ];exact h1)]
  by_cases hik:k=i
  ·subst hik;rw[if_pos rfl];simp[dA]
  ·rw[if_neg hik]
   have:(i<k+1)=(i<k):=by apply propext;omega
   simp[dA,this]
theorem tq (v:List Int):dA v 32=((nz v).map (Value.int .u8)).toArray:=by
 unfold dA nz
 rw[List.map_map]
 refine congrArg List.toArray (List.map_congr_left ?_)
 intro i hi
 rw[List.mem_range] at hi
 simp only[Function.comp,if_pos hi]
theorem oE (ks h:List Int) (b:List UInt8) (k:Nat) (hk:64*k+64≤b.length):aY ks h (b.take (64*k+64))=cy ks (aY ks h (b.take (64*k))) ((b.drop (64*k)).take 64):=by
 rw[List.take_add,mi ks k h _ _ (by rw[List.length_take];omega),eT (by rw[List.length_take,List.length_drop];omega)]
 rw[List.take_take,Nat.min_self,List.drop_take,Nat.sub_self,List.take_zero,ct (b:=[]) (by simp)]
def zd1 (s:List UInt8):List Int:=nz (aY br cQ (fP s))
theorem yZ (s:List UInt8):aY br (aY br cQ s) (bS s++(128::u5 s.length++zdy s.length))=aY br cQ (fP s):=by
 rw[qv]
 unfold fP
 rw[List.append_assoc]
def lh (b:List UInt8) (j:Nat):Nat→Int
 |0=>0
 |m+1=>bits .or .u32 (lh b j m*256%4294967296) (dh b (4*j+m))
theorem tT (a:Nat) (b:UInt8) (h:a*256+256≤4294967296):bits .or .u32 ((a:Int)*256) ((b.toNat:Nat):Int)=((a*256+b.toNat:Nat):Int):=by
 have hb:=b.toNat_lt
 have:=u32_or_nat (a*256) b.toNat (by omega) (by omega)
 rw[show((a*256:Nat):Int)=(a:Int)*256 by omega] at this
 rw[this,Nat.mul_comm a 256,show(256:Nat)=2^8 from rfl,←Nat.two_pow_add_eq_or_of_lt (by omega)]
theorem rM (a b n:Nat) (ha:a*(256*n)+256*n≤4294967296) (hb:b<256) (k:Nat) (hn:n=2^k):bits .or .u32 ((a*(256*n):Nat):Int) ((b*n:Nat):Int)=((a*256+b)*n:Nat):=by
 have hbn:b*n<256*n:=Nat.mul_lt_mul_of_pos_right hb (by rw[hn];exact Nat.two_pow_pos k)
 have e:=u32_or_nat (a*(256*n)) (b*n) (by omega) (by omega)
 rw[e,hn,show 256*2^k=2^(8+k) by rw[Nat.pow_add],Nat.mul_comm a,←Nat.two_pow_add_eq_or_of_lt (by rw[Nat.pow_add];rw[hn] at hbn;exact hbn)]
 congr 1
 rw[Nat.pow_add,Nat.add_mul]
 congr 1
 rw[Nat.mul_comm (2^8*2^k) a,Nat.mul_assoc]
theorem xE (b:List UInt8) (j:Nat):lh b j 4=jX b j:=by
 unfold jX
 simp only[lh,Nat.add_zero]
 have lt:∀i,(b.getD i 0).toNat<256:=fun i=>(b.getD i 0).toNat_lt
 have e0:bits .or .u32 (0*256%4294967296) (dh b (4*j))=((b.getD (4*j) 0).toNat:Int):=by
  have:=tT 0 (b.getD (4*j) 0) (by omega)
  simpa[dh] using this
 rw[e0]
 have s:∀(a i:Nat),a*256+256≤4294967296→bits .or .u32 ((a:Int)*256%4294967296) (dh b i)=((a*256+(b.getD i 0).toNat:Nat):Int):=fun a i h=>by
  rw[Int.emod_eq_of_lt (by omega) (by omega)]
  exact tT a _ h
 have l0:=lt (4*j)
 have l1:=lt (4*j+1)
 have l2:=lt (4*j+2)
 have l3:=lt (4*j+3)
 rw[s _ (4*j+1) (by omega),s _ (4*j+2) (by omega),s _ (4*j+3) (by omega)]
 unfold zdh dh
 generalize (b.getD (4*j) 0).toNat=a0 at *
 generalize (b.getD (4*j+1) 0).toNat=a1 at *
 generalize (b.getD (4*j+2) 0).toNat=a2 at *
 generalize (b.getD (4*j+3) 0).toNat=a3 at *
 have h1:=rM a0 a1 65536 (by omega) l1 16 (by decide)
 rw[show((a0*(256*65536):Nat):Int)=(a0:Int)*16777216 by omega,show((a1*65536:Nat):Int)=(a1:Int)*65536 by omega] at h1
 have h2:=rM (a0*256+a1) a2 256 (by omega) l2 8 (by decide)
 rw[show(((a0*256+a1)*(256*256):Nat):Int)=(((a0*256+a1)*65536:Nat):Int) by omega,show((a2*256:Nat):Int)=(a2:Int)*256 by omega] at h2
 have h3:=rM ((a0*256+a1)*256+a2) a3 1 (by omega) l3 0 (by decide)
 rw[show(((((a0*256+a1)*256+a2)*(256*1)):Nat):Int)=((((a0*256+a1)*256+a2)*256:Nat):Int) by omega,Nat.mul_one,Nat.mul_one] at h3
 rw[h1,h2,h3]
def gM (b:List UInt8) (k:Nat):Array Value:=((List.range 64).map fun j=>Value.int .u32 (lh b j (min 4 (k-4*j)))).toArray
theorem lO (b:List UInt8) (k:Nat):(gM b k).size=64:=by simp[gM]
theorem zbX (b:List UInt8) (k:Nat) (hk:k<64):(gM b k)[k/4]?=some (.int .u32 (lh b (k/4) (k%4))):=by
 have e:min 4 (k-4*(k/4))=k%4:=by omega
 simp[gM,show k/4<64 by omega,e]
theorem w7 (b:List UInt8) (k:Nat):(gM b k).setIfInBounds (k/4) (.int .u32 (bits .or .u32 (lh b (k/4) (k%4)*256%4294967296) (dh b k)))=gM b (k+1):=by
 apply Array.ext
 ·simp[gM]
 ·intro i h1 h2
  rw[Array.size_setIfInBounds,lO] at h1
  rw[Array.getElem_setIfInBounds (by rw[lO];exact h1)]
  by_cases hik:k/4=i
  ·rw[if_pos hik]
   subst hik
   have e:min 4 (k+1-4*(k/4))=k%4+1:=by omega
   have e2:4*(k/4)+k%4=k:=by omega
   simp[gM,e,lh,e2]
  ·rw[if_neg hik]
   have e:min 4 (k+1-4*i)=min 4 (k-4*i):=by omega
   simp[gM,e]
def fu (ws:List Int):Array Value:=((List.range 64).map fun j=>Value.int .u32 (ws.getD j 0)).toArray
theorem fF (ws:List Int):(fu ws).size=64:=by simp[fu]
theorem zc1 (ws:List Int) (j:Nat) (hj:j<64):(fu ws)[j]?=some (.int .u32 (ws.getD j 0)):=by simp[fu,hj]
theorem s7 (b:List UInt8) (k:Nat) (hk:k≤16):∀j,j<k→(aS b k).getD j 0=jX b j:=by
 induction k with
 |zero=>intro j hj;omega
 |succ k ih=>
  intro j hj
  rw[aS,if_pos (by omega)]
  by_cases hjk:j<k
  ·rw[←ih (by omega) j hjk]
   simp[List.getD_eq_getElem?_getD,List.getElem?_append_left (show j<(aS b k).length by rw[dY];exact hjk)]
  ·obtain rfl:k=j:=by omega
   simp[List.getD_eq_getElem?_getD,dY]
theorem zL (b:List UInt8):gM b 64=fu (aS b 16):=by
 unfold gM fu
 refine congrArg List.toArray (List.map_congr_left ?_)
 intro j hj
 rw[List.mem_range] at hj
 by_cases h:j<16
 ·rw[s7 b 16 (Nat.le_refl _) j h,←xE]
  have e:min 4 (64-4*j)=4:=by omega
  rw[e]
 ·have e:min 4 (64-4*j)=0:=by omega
  rw[e,lh]
  simp[List.getD_eq_getElem?_getD,List.getElem?_eq_none (show(aS b 16).length≤j by rw[dY];omega)]
theorem qW (ws:List Int) (x:Int) (k:Nat) (hk:ws.length=k):(fu ws).setIfInBounds k (.int .u32 x)=fu (ws++[x]):=by
 subst hk
 apply Array.ext
 ·simp[fu]
 ·intro i h1 h2
  rw[Array.size_setIfInBounds,fF] at h1
  rw[Array.getElem_setIfInBounds (by rw[fF];exact h1)]
  by_cases hik:ws.length=i
  ·rw[if_pos hik]
   subst hik
   simp[fu]
  ·rw[if_neg hik]
   by_cases aK:i<ws.length
   ·simp[fu,List.getD_eq_getElem?_getD,List.getElem?_append_left aK]
   ·simp[fu,List.getD_eq_getElem?_getD,List.getElem?_append_right (show ws.length≤i by omega),List.getElem?_eq_none (show ws.length≤i by omega),List.getElem?_eq_none (show[x].length≤i-ws.length by simp;omega)]
theorem zW (ws:List Int) (h:ws.length=64):fu ws=(ws.map (Value.int .u32)).toArray:=by
 apply Array.ext
 ·simp[fu,h]
 ·intro i h1 h2
  have h3:i<ws.length:=by simpa using h2
  simp[fu,h3]
def ie (h v:List Int) (k:Nat):List Int:=(List.range 8).map fun i=>if i<k then(h.getD i 0+v.getD i 0)%4294967296 else h.getD i 0
theorem tQ (h v:List Int) (k:Nat):(ie h v k).length=8:=by simp[ie]
theorem w8 {h:List Int} (v:List Int) (hl:h.length=8):ie h v 0=h:=by
 apply List.ext_getElem
 ·simp[ie,hl]
 ·intro i h1 h2
  simp[ie,h2]
theorem zaV (h v:List Int):ie h v 8=nR h v 8:=by
 unfold ie nR
 refine List.map_congr_left fun i hi=>?_
 rw[List.mem_range] at hi
 simp only[if_pos hi]
theorem zi (h v:List Int) (k:Nat) (hk:k<8):(ie h v k).getD k 0=h.getD k 0:=by simp[ie,hk]
theorem xq (h v:List Int) (rest:List Value) (k:Nat) (hk:k<8):
 (((ie h v k).map (Value.int .u32))++rest).toArray.setIfInBounds k (.int .u32 ((h.getD k 0+v.getD k 0)%4294967296))=(((ie h v (k+1)).map (Value.int .u32))++rest).toArray:=by
 apply Array.ext
 ·simp[ie]
 ·intro i h1 h2
  have hs:i<(((ie h v k).map (Value.int .u32))++rest).toArray.size:=by simpa using h1
  rw[Array.getElem_setIfInBounds hs]
  by_cases hik:k=i
  ·rw[if_pos hik]
   subst hik
   simp[ie,hk]
  ·rw[if_neg hik]
   have e:(i<k+1)=(i<k):=by apply propext;omega
   simp[ie,e,List.getElem_append]
structure zcf where
 kind:Int
 id:Nat
 sum:Dg
 data:List UInt8
 traces:List TcL
 why:Int
structure zd9 where
 sum:Bool
 data:Bool
 why:Bool
 least:Int
 traces:Int
def zdC:List zd9:=[⟨false,false,false,0,0⟩,⟨true,false,false,0,0⟩,⟨true,false,false,0,0⟩,⟨false,false,false,1,1⟩,⟨true,true,false,0,0⟩,⟨false,false,false,0,8⟩,⟨true,true,false,0,0⟩,⟨false,false,false,0,0⟩,⟨false,false,true,0,0⟩]
def tP (k:Int):zd9:=zdC.getD k.toNat ⟨false,false,false,0,0⟩
def zed (m:zcf):Bool:=
 (!(tP m.kind).sum&&!decide (m.sum=dg0))||(!(tP m.kind).data&&!m.data.isEmpty)||((tP m.kind).traces==0&&decide (0<m.traces.length))||((tP m.kind).least==1&&!(m.traces.length==1))
  ||(!(tP m.kind).why&&!(m.why==0))||((tP m.kind).why&&(decide (m.why<1)||decide (m.why>19)))
structure zc3 (m:zcf):Prop where
 k1:1≤m.kind
 k8:m.kind≤8
 arg:zed m=false
 nd:m.data.length≤65536
 nt:m.traces.length≤8
 tr:∀t∈m.traces,zbd t=0
section
variable {ops:Array Oper} {rest:List Oper} {o:Oper} {a:Act} {w:World} {Q:Exit→Act→World→Prop}
theorem zeL {t e sz by_:Nat} {xs:Array Value} (h0:0<sz) (h1:sz≤1000) (hxs:xs.size=sz) (hu:Tryz.prog.underlying t=some (.slice e)) (hinfo:iT e sz by_=true) (w:World):
 (Instr.buildSlice t 1 #[(0,.agg xs)]).run Tryz.prog w=.ok (.slice (some ⟨w.heap.size,0,none⟩) 1 1) (w.alloc (.cells xs e)):=by
 obtain⟨i,z,hi,hz,hs, -,hzs⟩:=dw hinfo
 refine run_buildSlice w t e 1 _ xs i z hu hi hz (by rw[hs];omega) (by rw[hs];omega) ?_
 have:=Great.fill_whole (s:=sz) h0 [.agg xs] ((Array.range (1*sz)).map (z.cells[· % z.cells.size]!)) (by simpa[Value.cells] using hxs) (by simp)
 rw[hs]
 simpa[Value.cells] using this
theorem zbs {t e sz by_:Nat} {xs:Array Value} {p:Operand} (h0:0<sz) (h1:sz≤1000) (hxs:xs.size=sz) (hu:Tryz.prog.underlying t=some (.slice e)) (hinfo:iT e sz by_=true)
 (h:∀W1,Below w.heap.size w W1→W1.heap[w.heap.size]?=some (.cells xs e (0,0))→W1.heap.size=w.heap.size+1→wpList Tryz.prog ops Q rest (a.put o.dst (.slice (some ⟨w.heap.size,0,none⟩) 1 1)) W1)
 (ho:o.op=.buildSlice t 1 #[(0,p)]:=by rfl) (hx:a.eval p=.agg xs:=by rfl) (hw:Region.wanted o (yielded ops a.tmps)=true:=by rfl):
 wpList Tryz.prog ops Q (o::rest) a w:=by
 refine gA (v:=.slice (some ⟨w.heap.size,0,none⟩) 1 1) (w':=w.alloc (.cells xs e)) ?_ (h _ (ab w _) (heap_alloc_new w _) (by rw[World.size_alloc])) hw
 have hr:=zeL (t:=t) (e:=e) (sz:=sz) (by_:=by_) h0 h1 hxs hu hinfo w
 unfold execOp
 simp only[ho,List.map_toArray,List.map_cons,List.map_nil,hx,Sem.run_bind,hr,Result.andThen_ok,Sem.run_pure]
end
theorem WL.ld {ops:Array Oper} {Q:Exit→Act→World→Prop} {S:World→Prop} {k fuel:Nat} {listed:Array Bool} {a:Act} {w:World} (i:Nat) (dst:Option Tmp) {ty n:Nat} (rt:cZ ty n) {b off:Nat} {cs:List Value} {x:Operand} {oi:Oper}
 (hr:∀W,S W→W.rangeAt b off cs) (hl:cs.length=n) (hi:ops[i]?=some oi) (hS:S w) (h:WL Tryz.prog ops Q S k fuel (listed.setIfInBounds i true) (a.put dst (.agg cs.toArray)) w)
 (ho:oi.op=.load ty x:=by rfl) (hx:a.eval x=.pointer (some ⟨b,off,none⟩):=by rfl) (hd:oi.dst=dst:=by rfl)
 (hs:Region.noSelect ops=true:=by kernel_rfl) (hf:Region.free .any ops listed i=true:=by kernel_rfl) (hrd:(Region.ready .any ops listed).contains i=true:=by kernel_rfl)
 (hQ:∀c a w,Q (.panic c) (a.put oi.dst (.agg cs.toArray)) w→Q (.panic c) a w:=by exact fun _ _ _ h=>h) (hwt:Region.wanted oi (yielded ops a.tmps)=true:=by kernel_rfl) (hw:waits ops k i=true:=by kernel_rfl) (hkl:listed.getD k false=false:=by kernel_rfl) (hki:k≠i:=by decide):WL Tryz.prog ops Q S k (fuel+1) listed a w:=
 WL.tk i dst _ hS h (fun W hW=>yh rt (hr W hW) hl ho hx) hi hd hs hf hrd hQ hwt hw hkl hki
def InT (I:Nat→Prop) (x:TcM):Prop:=(∀k,x.rv.ownBlock=some k→I k)∧∀k,x.ov.ownBlock=some k→I k
theorem de {α:Type} {w w':World} {sz:Nat} {f:α→List Value} {v:Value} {l:List α} (h:aJ w sz f v l) (hs:w.heap.size≤w'.heap.size) (hk:∀k,v.ownBlock=some k→k<w.heap.size→w'.heap[k]?=w.heap[k]?):aJ w' sz f v l:=by
 obtain⟨hl,a,c,rfl,hc,hm,hn,hx⟩:=h
 refine⟨hl,a,c,rfl,hc,hm,hn,fun hne=>?_⟩
 obtain⟨b,off,rfl,aK,aO⟩:=hx hne
 exact⟨b,off,rfl,Nat.lt_of_lt_of_le aK hs,fun j u hu=>(World.cell?_of_block (hk b rfl aK)).trans (aO j u hu)⟩
theorem gR.stay {w w':World} {x:TcM} (h:gR w x) (hs:w.heap.size≤w'.heap.size) (hk:∀k,(x.rv.ownBlock=some k∨x.ov.ownBlock=some k)→k<w.heap.size→w'.heap[k]?=w.heap[k]?):gR w' x:=
 ⟨de h.1 hs fun k e=>hk k (.inl e),de h.2 hs fun k e=>hk k (.inr e)⟩
def InE (I:Nat→Prop) (x:TcM):Prop:=∀k,((x.t.reads≠[]∧x.rv.ownBlock=some k)∨(x.t.outs≠[]∧x.ov.ownBlock=some k))→I k
def za4:Value:=.slice none 0 0
structure vH (B:Nat) (D I:Nat→Prop) (w:World) (dp mb:Nat) (M:Dg→Option Value) (L:Dg→List TcM):Prop where
 db:w.heap[dp]?=some (.cells #[.int .i64 8,.map (some mb)] 172 (0,0))
 mp:∃o,w.heap[mb]?=some o∧fT dgv M o
 row:∀d,w.ownsRow B 44 34 ((M d).getD za4) (L d).length (tcs (L d))
 few:∀d,(L d).length≤8
 cap:∀d a n c,(M d).getD za4=.slice (some a) n c→1≤c
 held:∀d,∀x∈L d,gR w x∧InT I x∧zbd x.t=0∧x.t.key=d
 dd:D dp
 dm:D mb
 dne:dp≠mb
 drow:∀d k,((M d).getD za4).ownBlock=some k→D k∧k≠mb∧k≠dp
 apart:∀d e k,((M d).getD za4).ownBlock=some k→((M e).getD za4).ownBlock=some k→d=e
 di:∀k,D k→¬I k
 db_:∀k,D k→B≤k∧k<w.heap.size
 ib:∀k,I k→k<w.heap.size
theorem vH.keep {B:Nat} {D I F:Nat→Prop} {w w':World} {dp mb:Nat} {M:Dg→Option Value} {L:Dg→List TcM} (h:vH B D I w dp mb M L) (hf:aw F w w') (hF:∀k,D k∨I k→¬F k):vH B D I w' dp mb M L where
 db:=(hf.block dp (h.db_ dp h.dd).2 (hF dp (.inl h.dd))).trans h.db
 mp:=by
  obtain⟨o,ho,hm⟩:=h.mp
  exact⟨o,(hf.block mb (h.db_ mb h.dm).2 (hF mb (.inl h.dm))).trans ho,hm⟩
 row:=fun d=>aU (h.row d) fun k hk=>hf.block k (h.db_ k (h.drow d k hk).1).2 (hF k (.inl (h.drow d k hk).1))
 few:=h.few
 cap:=h.cap
 held:=fun d x hx=>by
  obtain⟨h1,h2,h3⟩:=h.held d x hx
  refine⟨h1.stay hf.size fun k hk _=>?_,h2,h3⟩
  have hI:I k:=by rcases hk with hk|hk;exact h2.1 k hk;exact h2.2 k hk
  exact hf.block k (h.ib k hI) (hF k (.inr hI))
 dd:=h.dd
 dm:=h.dm
 dne:=h.dne
 drow:=h.drow
 apart:=h.apart
 di:=h.di
 db_:=fun k hk=>⟨(h.db_ k hk).1,Nat.lt_of_lt_of_le (h.db_ k hk).2 hf.size⟩
 ib:=fun k hk=>Nat.lt_of_lt_of_le (h.ib k hk) hf.size
theorem vH.below {B:Nat} {D I:Nat→Prop} {w w':World} {dp mb:Nat} {M:Dg→Option Value} {L:Dg→List TcM} (h:vH B D I w dp mb M L) (hb:Below w.heap.size w w'):vH B D I w' dp mb M L:=
 h.keep (aw.of_below (D:=fun _=>False) hb) fun _ _ e=>e
end Go.Proofs.YtlbipokkdiiaiaaGreatDoor
