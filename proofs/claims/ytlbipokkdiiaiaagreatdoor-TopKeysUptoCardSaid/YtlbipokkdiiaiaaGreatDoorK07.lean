/- Lemmas for TopKeysUpto: W11, W13, W14, W15, W16, TreePlain, Range, PathWalks, PathMay, PathUnder, Less, W6, W7, PackPlain, PackLaws, NumPlain, W8. -/
import Derived.Test.YtlbipokkdiiaiaaGreatDoorK06
import Derived.Lib.SliceRun
import Derived.Lib.Overlaps
import Derived.Lib.AppendZerosOnto
import Derived.Test.YtlbipokkdiiaiaaGreatDoorK01
import Derived.Lib.Strings
import Derived.RangeFuncNested
import Derived.RangeFuncBound
import Derived.RangeFuncCalls
import Derived.RangeFuncLeaves
import Derived.RangeFuncFrom
import Derived.Shelf.Abstract
import Derived.Shelf.RegionOpen
import Derived.OwnWalkIn
import Derived.TacticsInMore
import Derived.LoopNIn
import Derived.LoopIn
import Derived.Test.YtlbipokkdiiaiaaGreatDoorChecked
import Derived.Lib.ItoaNum
import Derived.Lib.ParseIntBCases
import Derived.Laws.BitsAllLaws
import Derived.Deep.OwnRows
namespace Go.Proofs.YtlbipokkdiiaiaaGreatDoor
open Go.RowKit Exec
set_option maxRecDepth 100000
noncomputable def gg (E sz by_:Nat):Bool:=match Tryz.prog.info? E with|some i=>(match i.zero with|some z=>z.cells.size==sz&&i.size==sz&&i.bytes==by_|_=>false)|none=>false
theorem cW {E sz by_:Nat} (h:gg E sz by_=true):∃i z,Tryz.prog.info? E=some i∧i.zero=some z∧i.size=sz∧i.bytes=by_∧z.cells.size=sz:=by
 unfold gg at h
 split at h
 ·rename_i i hi
  split at h
  ·rename_i z hz
   simp only[Bool.and_eq_true,beq_iff_eq] at h
   exact⟨i,z,hi,hz,h.1.2,h.2,h.1.1⟩
  ·cases h
 ·cases h
theorem zaV {α:Type} {f:α→List Value} {l:List α} (h:∀x∈l,∀u∈f x,u.oneCell'=true):∀u∈l.flatMap f,u.oneCell'=true:=by
 intro u hu
 obtain⟨x,hx,hu⟩:=List.mem_flatMap.1 hu
 exact h x hx u hu
theorem cV {α:Type} {w:World} {base e sz:Nat} {v:Value} {f:α→List Value} {l:List α} (h:w.ownsRow base e sz v l.length (l.flatMap f)) (hn:l.length≤maxLen):aE w sz f v l:=ap.of_owns h hn
set_option maxHeartbeats 1000000 in
theorem vC (v0:Value) (l:List RdL) (w:World) (h0:aE w 34 RdL.cells v0 l) (h1:∀u∈l.flatMap RdL.cells,u.oneCell'=true) (bI:l.length≤1000000):
 Calls Tryz.prog 158 #[v0] w fun e w'=>∃v,e=.returned v∧w'.ownsRow w.heap.size 100 34 v l.length (l.flatMap RdL.cells)∧Below w.heap.size w w':=by
 obtain⟨i0,z,hi,hz,hs,hby,hzs⟩:=cW (E:=100) (sz:=34) (by_:=56) (by kernel_rfl)
 have h00:=h0
 obtain⟨a0,c0,rfl,hc0,hm0,hnone, -⟩:=h0.out RdL.len (by omega)
 have q22:∀(w:World) (a:Option Addr) (n c n' c':Nat),(binOp .eql 41 (.slice a n c) (.slice none n' c')).run Tryz.prog w=.ok (.bool a.isNone) w:=fun w a n c n' c'=>Lib.run_eql_slice_nil w _ _ a n c n' c' Tryz.underlying41
 cases a0 with
 |none=>
  have hc:=hnone rfl
  subst hc
  obtain rfl:l=[]:=List.eq_nil_of_length_eq_zero (by omega)
  go_enter Tryz.func158,Tryz.ntmps158
  go_wp2_with fail
  go_ret
  exact⟨_,rfl,⟨rfl,.inl ⟨rfl,rfl⟩⟩,Below.refl _ _⟩
 |some ad=>
  have Hs:=hid h00
  have H1:=hid h1
  clear hnone h00 h0 h1
  go_enter Tryz.func158,Tryz.ntmps158
  go_wp2_with (at_builtin;go_must (refine eH rfl _ _ 41 rfl w.heap.size 100 i0 z 34 56 Tryz.underlying41 hi hz hs hby hzs (by decide) _ 0 [] rfl ?c1 _ l.length (l.flatMap RdL.cells) rfl ?c2 ?c3 ?c4 ?c5 ?c6 ?_))
  case c1=>exact World.ownsRow_made w #[] 0 (Nat.le_refl _) (Nat.zero_le _) (by simp)
  case c2=>exact ap.below Hs.out ((Below.refl _ w).alloc (Nat.le_refl _) _) (Nat.le_refl _)
  case c3=>exact H1.out
  case c4=>unfold maxLen;omega
  case c5=>omega
  case c6=>simp
  intro v' w1 hown hgrow
  go_wp2_with fail
  go_ret
  exact⟨v',rfl,by simpa using hown,((Below.refl _ w).alloc (Nat.le_refl _) _).grown hgrow (by simp) (by intro k hk;simp[Value.ownBlock] at hk;omega)⟩
theorem ax {w:World} {base e sz n:Nat} {v:Value} {xs:List Value} (h:w.ownsRow base e sz v n xs):∃a c,v=.slice a n c:=by
 obtain⟨_,⟨rfl,rfl⟩|⟨g,cap,cur,rfl,_⟩⟩:=h
 ·exact⟨_,_,rfl⟩
 ·exact⟨_,_,rfl⟩
theorem aJ {w w':World} {base e sz n:Nat} {v:Value} {xs:List Value} (h:w.ownsRow base e sz v n xs) (hk:∀k,v.ownBlock=some k→w'.heap[k]?=w.heap[k]?):w'.ownsRow base e sz v n xs:=by
 obtain⟨hl,⟨rfl,rfl⟩|⟨g,cap,cur,rfl,hb,hg,hr⟩⟩:=h
 ·exact⟨hl,.inl ⟨rfl,rfl⟩⟩
 ·exact⟨hl,.inr ⟨g,cap,cur,rfl,hb,(hk g rfl).trans hg,hr⟩⟩
theorem aK {w:World} {base base' e sz n:Nat} {v:Value} {xs:List Value} (h:w.ownsRow base e sz v n xs) (hb:base'≤base):w.ownsRow base' e sz v n xs:=by
 obtain⟨hl,⟨rfl,rfl⟩|⟨g,cap,cur,rfl,hb',hr⟩⟩:=h
 ·exact⟨hl,.inl ⟨rfl,rfl⟩⟩
 ·exact⟨hl,.inr ⟨g,cap,cur,rfl,by omega,hr⟩⟩
section
variable {ops:Array Oper} {rest:List Oper} {o:Oper} {a:Act} {w:World} {Q:Exit→Act→World→Prop}
end
theorem tG {α:Type} {ys:List α} {i:Nat} (x:α) (h:i<ys.length):(ys.set i x).take (i+1)=ys.take i++[x]:=by
 rw[nF _ i (by simpa using h),List.take_set,List.set_eq_of_length_le (by simp;omega)]
 simp
abbrev kK:=List UInt8×List UInt8
def ed (fs:List kK):List Value:=fs.flatMap fun f=>[.string (bs f.1),.string (bs f.2)]
theorem jL (fs:List kK):(ed fs).length=fs.length*2:=by
 induction fs with
 |nil=>rfl
 |cons f fs ih=>simp[ed] at ih ⊢;omega
theorem pR (fs:List kK):∀k (h:k<fs.length),(ed fs)[k*2]?=some (.string (bs fs[k].1))∧(ed fs)[k*2+1]?=some (.string (bs fs[k].2)):=by
 induction fs with
 |nil=>intro k h;simp at h
 |cons f fs ih=>
  intro k h
  have e:ed (f::fs)=.string (bs f.1)::.string (bs f.2)::ed fs:=rfl
  cases k with
  |zero=>rw[e];exact⟨rfl,rfl⟩
  |succ k=>
   have:=ih k (by simpa using h)
   rw[e,show(k+1)*2=k*2+1+1 by omega]
   simpa using this
theorem ap.files {w:World} {v:Value} {n:Nat} {fs:List kK} (h:ap w 2 v n (ed fs)):n=fs.length∧∃a c,v=.slice a fs.length c∧fs.length≤c∧c≤maxLen∧
 (∀k,k<fs.length→∃b off,a=some ⟨b,off,none⟩∧b<w.heap.size∧∀j (hj:j<fs.length),w.cell? ⟨b,off+j*2,none⟩=some (.string (bs fs[j].1))∧w.cell? ⟨b,off+j*2+1,none⟩=some (.string (bs fs[j].2))):=by
 obtain⟨hl,a,c,rfl,hc,hm, -,hx⟩:=h
 have hn:n=fs.length:=by rw[jL] at hl;omega
 subst hn
 refine⟨rfl,a,c,rfl,hc,hm,fun k hk=>?_⟩
 obtain⟨b,off,rfl,aH,hcell⟩:=hx (by intro e;have:=jL fs;rw[e] at this;simp at this;omega)
 refine⟨b,off,rfl,aH,fun j hj=>?_⟩
 have hg:=pR fs j hj
 exact⟨hcell _ _ hg.1,by rw[Nat.add_assoc];exact hcell _ _ hg.2⟩
def zbM:List UInt8:=[111,117,116]
def gq (s dir:List UInt8):Bool:=dY s&&(dir.isEmpty||(dY dir&&Lib.hasPrefix s (dir++[47])))
def nC (p:List UInt8):Bool:=!dY p||p==zbM||gq p zbM
def fR (f:kK) (ahead:List UInt8) (first:Bool):Nat:=
 if nC f.1=true then 7
 else if first=false∧(f.1==ahead)=true then 8
 else if first=false∧Op.bytesLess f.1 ahead=true then 2
 else if 65536<f.2.length then 6 else 0
def ef (ahead:List UInt8) (first:Bool):List kK→Nat
 |[]=>0
 |f::fs=>if fR f ahead first=0 then ef f.1 false fs else fR f ahead first
def fm (fs:List kK):Nat:=if 1024<fs.length then 6 else ef [] true fs
variable {F:Fence} {n:Nat} {P:Program}
structure br (lo hi:Nat) (W W':World):Prop where
 size:W.heap.size≤W'.heap.size
 block:∀k,lo≤k→k<hi→W'.heap[k]?=W.heap[k]?
theorem br.trans {lo hi:Nat} {A B C:World} (h:br lo hi A B) (k:br lo hi B C):br lo hi A C:=
 ⟨Nat.le_trans h.size k.size,fun i a b=>(k.block i a b).trans (h.block i a b)⟩
theorem br.below {lo hi B:Nat} {W W':World} (h:Below B W W') (hB:hi≤B):br lo hi W W':=⟨h.size,fun k _ hk=>h.block k (by omega)⟩
theorem br.setCell {lo hi:Nat} (W:World) (a:Addr) (v:Value) (h:a.block<lo∨hi≤a.block):br lo hi W (W.setCell a v):=
 ⟨by simp[World.setCell],fun k h1 h2=>Below.heap_setCell W a v k (by omega)⟩
theorem br.putObj {lo hi:Nat} (W:World) (l:Nat) (o:Obj) (h:hi≤l):br lo hi W (W.putObj l o):=
 ⟨by simp,fun _ _ h2=>World.putObj_heap_other (by omega)⟩
theorem br.cell {lo hi:Nat} {W W':World} (h:br lo hi W W') {p:Addr} (h1:lo≤p.block) (h2:p.block<hi):W'.cell? p=W.cell? p:=World.cell?_of_block (w:=W) (h.block _ h1 h2)
theorem br.frozen {lo hi:Nat} {W W':World} (h:br lo hi W W') {p:Addr} (h1:lo≤p.block) (h2:p.block<hi):W'.frozen? p=W.frozen? p:=World.frozen?_of_block (w:=W) (h.block _ h1 h2)
theorem dz {W W':World} (h:Below W.heap.size W W'):KeepsOthers W W':=
 ⟨h.size,fun k _ hk _=>(h.block k (Array.getElem?_eq_some_iff.1 hk).1).trans hk⟩
def iZ {β:Type} (b:Nat) (J:β→World→Prop):Prop:=∀s W v,J s W→J s (W.setCell ⟨b,0,none⟩ v)
def zdK {α:Type} (F:Fence) (n:Nat) (P:Program) (g:Nat) (lb:Array Value) (encs:α→Array Value) (Kp:World→World→Prop) (b:Nat) (S Sp:List α→Prop) (w:World):Prop:=
 ∀(l:Nat) (J Jx:List α→World→Prop) (W:World),Kp w W→AbidesFrom W.heap.size J→AbidesFrom W.heap.size Jx→iZ b J→iZ b Jx→
  (∀pre x W1,J pre W1→YieldAt F (n-1) P l (encs x) W1 fun e W'=>
   (e=.returned (.bool true)∧J (pre++[x]) W'∧Kp W1 W')∨(e=.returned (.bool false)∧Jx (pre++[x]) W'))→
  J [] W→
  CallsIn F n P g (#[.func (.yield l) #[] #[]]++lb) W fun e W'=>(∃v,e=.returned v)∧((∃xs,S xs∧J xs W')∨(∃pre,Sp pre∧Jx pre W'))
theorem kH {α:Type} {g:Operand} {ps:Array Tmp} {assign body:Code} {Q:Exit→Act→World→Prop} {a:Act} {w:World}
 (hro:F.round=none) (h1:1≤n) {gf:Nat} {lb:Array Value} (hg:a.eval g=.func (.func gf) #[] lb) (hFg:F.fn gf) (eg:∀args w,(callFunc gf args).run P w=.ok (.enter gf args) w)
 {encs:α→Array Value} {lo hi b:Nat} {S Sp:List α→Prop} (hseq:zdK F (n-1) P gf lb encs (br lo hi) b S Sp w)
 (hhi:hi≤w.heap.size) (hb:b<w.heap.size) (hps:∀x,(encs x).size=ps.size)
 (I:List α→World→Prop) (Ix:Code→List α→World→Prop) (hI:OwnFrom w.heap.size I) (hIx:∀c,OwnFrom w.heap.size (Ix c)) (hIb:iZ b I) (hIxb:∀c,iZ b (Ix c)) (h0:I [] w) (a₁:α→Act)
 (hassign:∀(l:Nat) (x:α) (W:World) (K:Act→World→Prop),K (a₁ x) W→
  assign.wpIn (F.inRound l) (n-1-1) P (Exit.then K (fun _ _ _=>False)) {tmps:=(ps.zip (encs x)).foldl (fun t (p,v)=>t.setIfInBounds p v) a.tmps,defers:=[]} W)
 (hbody:∀(l:Nat) (pre:List α) (x:α) (W:World),I pre W→body.wpIn (F.inRound l) (n-1-1) P (ownPostK (br lo hi) I Ix (pre++[x]) W) (a₁ x) W)
 (hdone:∀(D:Nat) (xs:List α) (W:World),w.heap.size≤D→S xs→I xs W→W.heap[D]?=some (.deferred (some []))→Q .normal {a with defers:={target:=.collected D,args:=#[]}::a.defers} W)
 (hstop:∀(D:Nat) (c:Code) (pre:List α) (W:World),w.heap.size≤D→Sp pre→Ix c pre W→W.heap[D]?=some (.deferred (some []))→c.wpIn F n P Q {a with defers:={target:=.collected D,args:=#[]}::a.defers} W):
 (Code.rangeFunc g ps assign body).wpIn F n P Q a w:=by
 refine wpIn_rangeFunc fun fn hfn=>?_
 rw[hro]
 obtain⟨rec,hrec⟩:∃rec:LoopState→Option Code→Loop,rec=fun st pe=>{state:=st,pending:=pe,fn,tmps:=a.tmps,params:=ps,assign,body,defers:=w.heap.size}:=⟨_,rfl⟩
 obtain⟨W1,hW1⟩:∃W1,(w.alloc (.deferred (some []))).alloc (.loop (rec .ready none))=W1:=⟨_,rfl⟩
 have hbelow:Below w.heap.size w W1:=by rw[←hW1];exact((Below.refl _ w).alloc (Nat.le_refl _) _).alloc (by simp) _
 have hL1:W1.heap[w.heap.size+1]?=some (.loop (rec .ready none)):=by
  have:=World.alloc_heap_new (w.alloc (.deferred (some []))) (.loop (rec .ready none))
  rw[World.size_alloc] at this
  rw[←hW1];exact this
 have hD1:W1.heap[w.heap.size]?=some (.deferred (some [])):=by
  rw[←hW1];exact(Below.heap_alloc _ _ _ (by simp)).trans (World.alloc_heap_new w _)
 have hI1:I [] W1:=by rw[←hW1];exact hI.alloc _ (hI.alloc _ h0)
 have hsize1:w.heap.size+2≤W1.heap.size:=by rw[←hW1];simp
 refine⟨w.heap.size+1,[{target:=.collected w.heap.size,args:=#[]}],W1,{target:=.fn (.func gf) lb,args:=#[.func (.yield (w.heap.size+1)) #[] #[]]},W1,gf,
  #[.func (.yield (w.heap.size+1)) #[] #[]]++lb,W1,?_,?_,?_,?_,fun _=>h1,?_⟩
 ·rw[←hW1,hrec];exact run_enterLoop_outer _ _ _ _ _
 ·simp only[resolve,hg];simp[go_sem]
 ·intro f' hf';simp[Target.leads] at hf';subst hf';exact hFg
 ·simp[invoke,go_sem,eg]
 have far:∀{A:World} {row:Option Nat},(∀r,row=some r→W1.heap.size≤r∧∃o:Obj,A.heap[r]?=some o∧o.isWalk=true)→∀r,row=some r→w.heap.size≤r∧∃o:Obj,A.heap[r]?=some o∧o.isCells=false:=
  fun hr r e=>by obtain⟨hB,o,ho,hw⟩:=hr r e;exact⟨by omega,o,ho,Obj.not_cells_of_walk hw⟩
 have kept:∀{A B:World} {row:Option Nat} {k:Nat} {o:Obj},A.grownBy B row→(∀r,row=some r→W1.heap.size≤r∧∃o:Obj,A.heap[r]?=some o∧o.isWalk=true)→A.heap[k]?=some o→o.isWalk=false→B.heap[k]?=some o:=
  fun hg' hr hk ho=>(grownBy_keeps hg' (fun r e=>(hr r e).2) hk ho).trans hk
 have put:∀(W:World) (l:Nat) (o':Obj),w.heap.size≤l→br lo hi W (W.putObj l o'):=fun W l o' hl=>br.putObj W l o' (by omega)
 refine(hseq (w.heap.size+1)
  (fun pre W=>I pre W∧W.heap[w.heap.size+1]?=some (.loop (rec .ready none))∧W.heap[w.heap.size]?=some (.deferred (some [])))
  (fun pre W=>∃c,Ix c pre W∧W.heap[w.heap.size+1]?=some (.loop (rec .done (some c)))∧W.heap[w.heap.size]?=some (.deferred (some [])))
  W1 (br.below hbelow hhi)
  (fun s A B row hs hg' hr=>⟨hI s A B row hs.1 hg' (far hr),kept hg' hr hs.2.1 rfl,kept hg' hr hs.2.2 rfl⟩)
  (fun s A B row hs hg' hr=>by obtain⟨c,hc,hl,hk⟩:=hs;exact⟨c,hIx c s A B row hc hg' (far hr),kept hg' hr hl rfl,kept hg' hr hk rfl⟩)
  (fun s W v hs=>⟨hIb s W v hs.1,(Below.heap_setCell W _ v _ (by show _≠b;omega)).trans hs.2.1,(Below.heap_setCell W _ v _ (by show _≠b;omega)).trans hs.2.2⟩)
  (fun s W v hs=>by obtain⟨c,hc,hl,hk⟩:=hs;exact⟨c,hIxb c s W v hc,(Below.heap_setCell W _ v _ (by show _≠b;omega)).trans hl,(Below.heap_setCell W _ v _ (by show _≠b;omega)).trans hk⟩)
  ?_ ⟨hI1,hL1,hD1⟩).mono ?_
 ·
  rintro pre x W ⟨hi',hl,hk⟩
  have aH:w.heap.size+1<W.heap.size:=(Array.getElem?_eq_some_iff.1 hl).1
  have hy:=run_yield (P:=P) (args:=encs x) hl (by rw[hrec];exact hps x)
  rw[hrec] at hy
  refine⟨fn,_,assign,body,hy,roundIn_of_wpIn hfn (hassign _ x W _ ⟨_,run_beginRound hl (by rw[hrec]),?_⟩)⟩
  have hl2:(W.putObj (w.heap.size+1) (.loop {rec .ready none with state:=.busy})).heap[w.heap.size+1]?=some (.loop {rec .ready none with state:=.busy}):=World.putObj_heap_same aH
  have hk2:(W.putObj (w.heap.size+1) (.loop {rec .ready none with state:=.busy})).heap[w.heap.size]?=some (.deferred (some [])):=(World.putObj_heap_other (by omega)).trans hk
  refine wpIn_mono (hbody _ pre x _ (hI.putObj _ hi' (by omega) hl rfl)) ?_
  have fin:∀(jump:Option Code) (W3:World),KeepsOthers (W.putObj (w.heap.size+1) (.loop {rec .ready none with state:=.busy})) W3→
   (Instr.endRound (w.heap.size+1) jump).run P W3=.ok (.bool jump.isNone) (W3.putObj (w.heap.size+1) (.loop (rec (if jump.isNone then .ready else .done) jump)))∧
   W3.heap[w.heap.size+1]?=some (.loop {rec .ready none with state:=.busy})∧
   (W3.putObj (w.heap.size+1) (.loop (rec (if jump.isNone then .ready else .done) jump))).heap[w.heap.size+1]?=some (.loop (rec (if jump.isNone then .ready else .done) jump))∧
   (W3.putObj (w.heap.size+1) (.loop (rec (if jump.isNone then .ready else .done) jump))).heap[w.heap.size]?=some (.deferred (some [])):=by
   intro jump W3 hk3
   have hl3:=hk3.same _ _ hl2 rfl
   have hend:=run_endRound (P:=P) jump hl3
   rw[hrec] at hend ⊢
   exact⟨hend,by rw[hrec] at hl3;exact hl3,World.putObj_heap_same (Array.getElem?_eq_some_iff.1 hl3).1,(World.putObj_heap_other (by omega)).trans (hk3.same _ _ hk2 rfl)⟩
  have leave:∀(c:Code) (W3:World),KeepsOthers (W.putObj (w.heap.size+1) (.loop {rec .ready none with state:=.busy})) W3→Ix c (pre++[x]) W3→
   (Instr.endRound (w.heap.size+1) (some c)).run P W3=.ok (.bool false) (W3.putObj (w.heap.size+1) (.loop (rec .done (some c))))∧
   (∃c',Ix c' (pre++[x]) (W3.putObj (w.heap.size+1) (.loop (rec .done (some c))))∧(W3.putObj (w.heap.size+1) (.loop (rec .done (some c)))).heap[w.heap.size+1]?=some (.loop (rec .done (some c')))∧
    (W3.putObj (w.heap.size+1) (.loop (rec .done (some c)))).heap[w.heap.size]?=some (.deferred (some []))):=by
   intro c W3 hk3 hx3
   obtain⟨hr,hl3,hl4,hk4⟩:=fin (some c) W3 hk3
   exact⟨hr,c,(hIx c).putObj _ hx3 (by omega) hl3 rfl,hl4,hk4⟩
  rintro e a3 W3 hp
  cases e with
  |normal=>
   obtain⟨hk3,hkp3,hi3⟩:=hp
   obtain⟨hr,hl3,hl4,hk4⟩:=fin none W3 hk3
   exact⟨_,_,hr,.inl ⟨rfl,⟨hI.putObj _ hi3 (by omega) hl3 rfl,hl4,hk4⟩,((put W _ _ (by omega)).trans hkp3).trans (put W3 _ _ (by omega))⟩⟩
  |ret=>obtain⟨hr,hx⟩:=leave .ret W3 hp.1 hp.2;exact⟨_,_,hr,.inr ⟨rfl,hx⟩⟩
  |exit id=>obtain⟨hr,hx⟩:=leave (.exit id) W3 hp.1 hp.2;exact⟨_,_,hr,.inr ⟨rfl,hx⟩⟩
  |goto t=>obtain⟨hr,hx⟩:=leave (.goto t) W3 hp.1 hp.2;exact⟨_,_,hr,.inr ⟨rfl,hx⟩⟩
  |panic ch=>exact hp.elim
  |outgrown=>exact hp.elim
 ·
  rintro e W2 ⟨⟨v,rfl⟩,(⟨xs,hS,hi',hl,hk⟩|⟨pre,hSp,c,hi',hl,hk⟩)⟩
  ·have hend:=run_endLoop (P:=P) hl (by rw[hrec];simp)
   rw[hrec] at hend
   exact⟨none,_,hend,hdone _ xs _ (Nat.le_refl _) hS (hI.putObj _ hi' (by omega) hl rfl) ((World.putObj_heap_other (by omega)).trans hk)⟩
  ·have hend:=run_endLoop (P:=P) hl (by rw[hrec];simp)
   rw[hrec] at hend
   exact⟨some c,_,hend,hstop _ c pre _ (Nat.le_refl _) hSp ((hIx c).putObj _ hi' (by omega) hl rfl) ((World.putObj_heap_other (by omega)).trans hk)⟩
end Go.Proofs.YtlbipokkdiiaiaaGreatDoor
namespace Go.Proofs.YtlbipokkdiiaiaaGreatDoor
open Go.RowKit
theorem idx4':∀c:Fin 128,decide (0≤Lib.indexByte [95,46,45,43] (UInt8.ofNat c.1))=(c.1==95||c.1==46||c.1==45||c.1==43):=by decide
theorem zfi (c:Nat) (h:c<128):decide (0≤Lib.indexByte [95,46,45,43] (UInt8.ofNat c))=(c==95||c==46||c==45||c==43):=idx4' ⟨c,h⟩
set_option maxHeartbeats 400000 in
set_option maxRecDepth 100000 in
theorem zbS (c:Nat) (hc:c≤1114111) (w:World):Calls Tryz.prog 145 #[.int .i32 c] w fun e w'=>e=.returned (.bool (dG c))∧w=w':=by
 go_enter Tryz.func145,Tryz.ntmps145
 go_wp2_with (go_at_call 187;refine(Tryz.strings_IndexByte _ _ _).mono ?_;rintro e w' ⟨rfl,rfl⟩)
 all_goals
  go_ret
  refine⟨congrArg (fun x=>Ending.returned (Value.bool x)) ?_,rfl⟩
  first
   |(have h4:=zfi c (by omega)
     rw[h4,Bool.eq_iff_iff]
     simp only[dG,Bool.or_eq_true,Bool.and_eq_true,decide_eq_true_eq,beq_iff_eq]
     omega)
   |(rw[Bool.eq_iff_iff]
     simp only[dG,Bool.or_eq_true,Bool.and_eq_true,decide_eq_true_eq,beq_iff_eq]
     omega)
   |(symm
     simp only[dG,Bool.or_eq_true,Bool.and_eq_true,decide_eq_true_eq,beq_iff_eq]
     omega)
   |go_goals
theorem zcq (c:Nat) (hc:c≤1114111) (b:Bool) (h:dG c=b) (w:World):Calls Tryz.prog 145 #[.int .i32 c] w fun e w'=>e=.returned (.bool b)∧w=w':=by
 subst h;exact zbS c hc w
set_option maxHeartbeats 400000 in
theorem ua (c:Nat) (hc:c≤1114111) (w:World):Calls Tryz.prog 144 #[.int .i32 c] w fun e w'=>e=.returned (.bool (!dG c))∧w=w':=by
 obtain⟨b,hb⟩:∃b,dG c=b:=⟨_,rfl⟩
 have Hb:=hid hb;clear hb
 rw[Hb.out]
 go_enter Tryz.func144,Tryz.ntmps144
 go_wp2_with (go_at_call 145;refine(zcq c hc b Hb.out _).mono ?_;rintro e w' ⟨rfl,rfl⟩)
 go_ret
 exact⟨rfl,rfl⟩
theorem rY (w:World):Go.Proofs.PredGrows Tryz.prog 144 #[] (fun x=>!dG x) w:=by
 intro W x hx _
 exact(ua x hx W).mono fun _ _ ⟨h,h2⟩=>⟨h,h2▸Below.refl _ _⟩
set_option maxHeartbeats 400000 in
theorem zV (l:List UInt8) (w:World):Calls Tryz.prog 95 #[.string (bs l)] w fun e w'=>e=.returned (.bool (nN l))∧Below w.heap.size w w':=by
 have eg:∀args w,(callFunc 144 args).run Tryz.prog w=.ok (.enter 144 args) w:=enters_of Tryz.func144 (by kernel_rfl) rfl
 have hcon:=Tryz.strings_ContainsFunc_grows 144 #[] eg (fun x=>!dG x) (bs l)
 rw[pY l] at hcon
 obtain⟨b,hb⟩:∃b,(l.all fun b=>dG b.toNat)=b:=⟨_,rfl⟩
 rw[hb] at hcon
 have Hb:=hid hb;clear hb
 have Hcon:=hid hcon;clear hcon
 have hE:(l.isEmpty)=decide (l=[]):=by cases l<;>simp
 have Hp:Hid (nN l=(!decide (l=[])&&decide (l.length≤64)&&!(l==[46])&&!(l==[46,46])&&b)):=by
  apply hid;rw[nN,hE,Hb.out]
 clear hE
 by_cases h0:l=[]
 ·subst h0
  go_enter Tryz.func95,Tryz.ntmps95
  go_wp2_with fail
  go_ret
  exact⟨rfl,Below.refl _ _⟩
 ·have h0':l.isEmpty=false:=by simpa using h0
  by_cases h64:l.length≤64
  ·have H0:=hid h0;clear h0
   rcases Bool.eq_false_or_eq_true (l==[46]) with h1|h1
   ·go_enter Tryz.func95,Tryz.ntmps95
    go_wp2_with fail
    go_ret
    exact⟨by rw[Hp.out,h1];simp,Below.refl _ _⟩
   ·rcases Bool.eq_false_or_eq_true (l==[46,46]) with h2|h2
    ·go_enter Tryz.func95,Tryz.ntmps95
     go_wp2_with fail
     go_ret
     exact⟨by rw[Hp.out,h1,h2];simp,Below.refl _ _⟩
    ·go_enter Tryz.func95,Tryz.ntmps95
     go_wp2_with fail
     refine(Hcon.out w (rY w)).mono ?_
     rintro e w1 ⟨rfl,hb1⟩
     go_wp2_with fail
     go_ret
     exact⟨by rw[Hp.out,h1,h2,decide_eq_false H0.out,decide_eq_true h64];simp,hb1⟩
  ·go_enter Tryz.func95,Tryz.ntmps95
   go_wp2_with fail
   go_ret
   exact⟨by rw[Hp.out,decide_eq_false h64];simp,Below.refl _ _⟩
theorem zcC (l:List UInt8) (b:Bool) (h:nN l=b) (w:World):Calls Tryz.prog 95 #[.string (bs l)] w fun e w'=>e=.returned (.bool b)∧Below w.heap.size w w':=by
 subst h;exact zV l w
open Go.Shelf
attribute [local go_sem] Oper.semAt_some
def zbu (w:World) (b:Nat):Nat:=match w.cell? ⟨b,0,none⟩ with|some (.string s)=>s.size|_=>0
theorem tF {w:World} {b:Nat} {s:List UInt8} (h:w.cell? ⟨b,0,none⟩=some (.string (bs s))):zbu w b=s.length:=by unfold zbu;rw[h];rfl
set_option maxHeartbeats 2000000 in
set_option maxRecDepth 100000 in
theorem zac (n:Nat) (hn:1≤n) (l c b d lo hi:Nat) (hlo:lo≤c∧lo≤d∧lo≤b) (hhi:c<hi∧d<hi∧b<hi) (hbc:b≠c∧b≠d) (s:List UInt8) (hs:s.length≤1000000000000000)
 (J Jx:List (List UInt8)→World→Prop) (W:World) (hJ:iZ b J)
 (hY:∀pre x W1,J pre W1→YieldAt Fence.wide (n-1) Tryz.prog l #[.string (bs x)] W1 fun e W'=>
  (e=.returned (.bool true)∧J (pre++[x]) W'∧br lo hi W1 W')∨(e=.returned (.bool false)∧Jx (pre++[x]) W'))
 (hc:W.cell? ⟨c,0,none⟩=some (.string (bs [47]))) (hd:W.cell? ⟨d,0,none⟩=some (.int .i64 0)) (hb:W.cell? ⟨b,0,none⟩=some (.string (bs s))) (hf:W.frozen? ⟨b,0,none⟩=false) (h0:J [] W):
 CallsIn Fence.wide n Tryz.prog 183 #[.func (.yield l) #[] #[],.pointer (some ⟨c,0,none⟩),.pointer (some ⟨b,0,none⟩),.pointer (some ⟨d,0,none⟩)] W fun e W'=>(∃v,e=.returned v)∧
  ((∃ys,ys=cU s∧J ys W')∨(∃pre,pre <+: cU s∧Jx pre W')):=by
 have Hs0:=hid hs;clear hs
 refine callsIn_of_wp Tryz.func183 rfl trivial ?_ rfl
 simp only[Tryz.ntmps183,List.size_toArray,List.length_cons,List.length_nil,Nat.reduceAdd,Nat.reduceSub,Array.replicate_succ,Array.replicate_zero,List.push_toArray,List.append_toArray,List.nil_append,List.cons_append]
 gi_wp2
 gi_loopw [7] (fun _ wr=>∃(pre:List (List UInt8)) (rest:List UInt8),cU s=pre++cU rest∧rest.length≤s.length∧wr.cell? ⟨b,0,none⟩=some (.string (bs rest))∧wr.frozen? ⟨b,0,none⟩=false∧wr.cell? ⟨c,0,none⟩=some (.string (bs [47]))∧wr.cell? ⟨d,0,none⟩=some (.int .i64 0)∧J pre wr) (fun _ wr=>zbu wr b)
 case atStart=>exact⟨[],s,rfl,Nat.le_refl _,hb,hf,hc,hd,h0⟩
 case round=>
  clear hb hf hc hd h0
  obtain⟨pre,rest,hsp,hle,hb,hf,hc,hd,hj⟩:=hrel
  have Hsp:=hid hsp;clear hsp
  have bI:rest.length≤1000000000000000:=Nat.le_trans hle Hs0.out
  by_cases hneg:Lib.indexByte rest 47<0
  ·obtain⟨fn,tmps,assign,body,hy,hR⟩:=hY pre rest wr hj
   have Hsn:=hid (zgz rest hneg)
   gi_wp2_with fail
   refine⟨trivial,(callsIn_wide.2 (Tryz.strings_Index_one (bs rest) 47 _)).mono ?_⟩
   rintro e w' ⟨rfl,rfl⟩
   rw[wL]
   gi_wp2_with fail
   refine hR.mono ?_
   rintro e W' (⟨rfl,hj',hk⟩|⟨rfl,hjx⟩)
   ·gi_wp2
    go_end0
    exact⟨⟨_,rfl⟩,.inl ⟨pre++[rest],by rw[Hsp.out,Hsn.out],hj'⟩⟩
   ·gi_wp2
    go_end0
    exact⟨⟨_,rfl⟩,.inr ⟨pre++[rest],by rw[Hsp.out,Hsn.out];exact List.prefix_refl _,hjx⟩⟩
  ·obtain⟨i,hi⟩:∃i:Nat,Lib.indexByte rest 47=i:=⟨(Lib.indexByte rest 47).toNat,by omega⟩
   have Hi:=hid hi;clear hneg
   have hss:=wy rest i hi
   clear hi
   have hil:=hss.2
   have Hss:=hid hss.1;clear hss
   obtain⟨fn,tmps,assign,body,hy,hR⟩:=hY pre (rest.take i) wr hj
   gi_wp2_with fail
   refine⟨trivial,(callsIn_wide.2 (Tryz.strings_Index_one (bs rest) 47 _)).mono ?_⟩
   rintro e w' ⟨rfl,rfl⟩
   rw[wL,Hi.out]
   gi_wp2_with fail
   refine hR.mono ?_
   rintro e W' (⟨rfl,hj',hk⟩|⟨rfl,hjx⟩)
   ·have hb':W'.cell? ⟨b,0,none⟩=some (.string (bs rest)):=(hk.cell (p:=⟨b,0,none⟩) hlo.2.2 hhi.2.2).trans hb
    have hc':W'.cell? ⟨c,0,none⟩=some (.string (bs [47])):=(hk.cell (p:=⟨c,0,none⟩) hlo.1 hhi.1).trans hc
    have hd':W'.cell? ⟨d,0,none⟩=some (.int .i64 0):=(hk.cell (p:=⟨d,0,none⟩) hlo.2.1 hhi.2.1).trans hd
    have hf':W'.frozen? ⟨b,0,none⟩=false:=(hk.frozen (p:=⟨b,0,none⟩) hlo.2.2 hhi.2.2).trans hf
    gi_wp2
    have he:List.take (rest.length-(i+1)) (List.drop (i+1) rest)=List.drop (i+1) rest:=List.take_of_length_le (by rw[List.length_drop];exact Nat.le_refl _)
    rw[he]
    have hcell:(W'.setCell ⟨b,0,none⟩ (.string (bs (rest.drop (i+1))))).cell? ⟨b,0,none⟩=some (.string (bs (rest.drop (i+1)))):=World.cell?_setCell_same' _ _ _ (by rw[hb'];rfl)
    refine⟨⟨pre++[rest.take i],rest.drop (i+1),?_,by rw[List.length_drop];omega,hcell,by rw[World.frozen?_setCell];exact hf',?_,?_,hJ _ _ _ hj'⟩,?_⟩
    ·rw[Hsp.out,Hss.out,List.append_assoc];rfl
    ·exact(World.cell?_of_block (w:=W') (Below.heap_setCell W' _ _ c (by show c≠b;omega))).trans hc'
    ·exact(World.cell?_of_block (w:=W') (Below.heap_setCell W' _ _ d (by show d≠b;omega))).trans hd'
    ·rw[tF hcell,tF hb,List.length_drop];omega
   ·gi_wp2
    refine bodyPost_ret (results_none rfl _ _ _) rfl ?_
    exact⟨⟨_,rfl⟩,.inr ⟨pre++[rest.take i],⟨cU (rest.drop (i+1)),by rw[Hsp.out,Hss.out,List.append_assoc];rfl⟩,hjx⟩⟩
theorem xZ (n:Nat) (hn:1≤n) (c b d lo hi:Nat) (hlo:lo≤c∧lo≤d∧lo≤b) (hhi:c<hi∧d<hi∧b<hi) (hbc:b≠c∧b≠d) (s:List UInt8) (hs:s.length≤1000000000000000) (w:World)
 (hc:w.cell? ⟨c,0,none⟩=some (.string (bs [47]))) (hd:w.cell? ⟨d,0,none⟩=some (.int .i64 0)) (hb:w.cell? ⟨b,0,none⟩=some (.string (bs s))) (hf:w.frozen? ⟨b,0,none⟩=false):
 zdK Fence.wide n Tryz.prog 183 #[.pointer (some ⟨c,0,none⟩),.pointer (some ⟨b,0,none⟩),.pointer (some ⟨d,0,none⟩)] (fun x:List UInt8=>#[.string (bs x)]) (br lo hi) b (fun xs=>xs=cU s) (fun pre=>pre <+: cU s) w:=by
 intro l J Jx W hk _ _ hJ _ hY h0
 refine(zac n hn l c b d lo hi hlo hhi hbc s hs J Jx W hJ hY ?_ ?_ ?_ ?_ h0).mono ?_
 ·exact(hk.cell (p:=⟨c,0,none⟩) hlo.1 hhi.1).trans hc
 ·exact(hk.cell (p:=⟨d,0,none⟩) hlo.2.1 hhi.2.1).trans hd
 ·exact(hk.cell (p:=⟨b,0,none⟩) hlo.2.2 hhi.2.2).trans hb
 ·exact(hk.frozen (p:=⟨b,0,none⟩) hlo.2.2 hhi.2.2).trans hf
 ·rintro e W' ⟨h1,h2⟩;exact⟨h1,h2⟩
set_option maxHeartbeats 400000 in
theorem rm (s c:List UInt8) (w:World):
 Calls Tryz.prog 94 #[.string (bs s),.string (bs c)] w fun e w'=>e=.returned (.func (.func 183) #[] #[.pointer (some ⟨w.heap.size+1,0,none⟩),.pointer (some ⟨w.heap.size,0,none⟩),.pointer (some ⟨w.heap.size+2,0,none⟩)])∧
  w'=((w.alloc (.cells #[.string (bs s)] 9)).alloc (.cells #[.string (bs c)] 9)).alloc (.cells #[.int .i64 0] 3):=by
 go_enter Tryz.func94,Tryz.ntmps94
 go_wp2
 go_ret
 exact⟨rfl,rfl⟩
def rU (pre:List (List UInt8)):Prop:=pre.length≤16∧∀x∈pre,nN x=true
theorem zcX {s:List UInt8} (h:rU (cU s)):dY s=true:=by
 unfold dY
 rw[decide_eq_true h.1,Bool.true_and,List.all_eq_true]
 exact h.2
theorem zdP {s:List UInt8} {pre:List (List UInt8)} (hp:pre <+: cU s) (h:¬rU pre):dY s=false:=by
 rw[←Bool.not_eq_true]
 intro hm
 unfold dY at hm
 simp only[Bool.and_eq_true,decide_eq_true_eq,List.all_eq_true] at hm
 exact h ⟨Nat.le_trans hp.length_le hm.1,fun x hx=>hm.2 x (hp.subset hx)⟩
theorem iX (w:World) (v:Value) (t:TypeId):(w.alloc (.cells #[v] t)).cell? ⟨w.heap.size,0,none⟩=some v∧(w.alloc (.cells #[v] t)).frozen? ⟨w.heap.size,0,none⟩=false:=by
 refine⟨by rw[World.cell?_alloc_mark];rfl,?_⟩
 rw[World.frozen?_alloc_mark];rfl
theorem dQ {w:World} {k:Nat} {v:Value} (o:Obj) (hk:k<w.heap.size) (h:w.cell? ⟨k,0,none⟩=some v∧w.frozen? ⟨k,0,none⟩=false):(w.alloc o).cell? ⟨k,0,none⟩=some v∧(w.alloc o).frozen? ⟨k,0,none⟩=false:=
 ⟨(World.cell?_of_block (w:=w) (Below.heap_alloc w o k hk)).trans h.1,(World.frozen?_of_block (w:=w) (Below.heap_alloc w o k hk)).trans h.2⟩
set_option maxRecDepth 100000 in
set_option maxHeartbeats 2000000 in
theorem jq (s:List UInt8) (hs:s.length≤1000000000000000) (w:World):
 Calls Tryz.prog 51 #[.string (bs s)] w fun e w'=>e=.returned (.bool (dY s))∧Below w.heap.size w w':=by
 refine(callsIn_wide (n:=5)).1 ?_
 refine callsIn_of_wp_marks Tryz.func51 rfl trivial ?_ rfl
 simp only[Tryz.ntmps51,List.size_toArray,List.length_cons,List.length_nil,Nat.reduceAdd,Nat.reduceSub,Array.replicate_succ,Array.replicate_zero,List.push_toArray,List.append_toArray,List.nil_append,List.cons_append]
 gi_wp2_with fail
 refine⟨trivial,(callsIn_wide.2 (rm s [47] _)).mono ?_⟩
 rintro e w5 ⟨rfl,hw5⟩
 simp only[World.size_alloc]
 have hsz:w5.heap.size=w.heap.size+5:=by rw[hw5];simp
 have hB:Below w.heap.size w w5:=by
  rw[hw5];exact(((((Below.refl _ w).alloc (Nat.le_refl _) _).alloc (by simp) _).alloc (by simp;omega) _).alloc (by simp;omega) _).alloc (by simp;omega) _
 have c0:w5.cell? ⟨w.heap.size,0,none⟩=some (.bool false)∧w5.frozen? ⟨w.heap.size,0,none⟩=false:=by
  rw[hw5];exact dQ _ (by simp;try omega) (dQ _ (by simp;try omega) (dQ _ (by simp;try omega) (dQ _ (by simp) (iX w _ _))))
 have c1:w5.cell? ⟨w.heap.size+1,0,none⟩=some (.int .i64 0)∧w5.frozen? ⟨w.heap.size+1,0,none⟩=false:=by
  have:=iX (w.alloc (.cells #[.bool false] 4)) (.int .i64 0) 3
  rw[World.size_alloc] at this
  rw[hw5];exact dQ _ (by simp;try omega) (dQ _ (by simp;try omega) (dQ _ (by simp) this))
 have c2:w5.cell? ⟨w.heap.size+2,0,none⟩=some (.string (bs s))∧w5.frozen? ⟨w.heap.size+2,0,none⟩=false:=by
  have:=iX ((w.alloc (.cells #[.bool false] 4)).alloc (.cells #[.int .i64 0] 3)) (.string (bs s)) 9
  simp only[World.size_alloc] at this
  rw[hw5];exact dQ _ (by simp) (dQ _ (by simp) this)
 have c3:w5.cell? ⟨w.heap.size+3,0,none⟩=some (.string (bs [47])):=by
  have:=iX (((w.alloc (.cells #[.bool false] 4)).alloc (.cells #[.int .i64 0] 3)).alloc (.cells #[.string (bs s)] 9)) (.string (bs [47])) 9
  simp only[World.size_alloc] at this
  rw[hw5];exact(dQ _ (by simp) this).1
 have c4:w5.cell? ⟨w.heap.size+4,0,none⟩=some (.int .i64 0):=by
  have:=iX ((((w.alloc (.cells #[.bool false] 4)).alloc (.cells #[.int .i64 0] 3)).alloc (.cells #[.string (bs s)] 9)).alloc (.cells #[.string (bs [47])] 9)) (.int .i64 0) 3
  simp only[World.size_alloc] at this
  rw[hw5];exact this.1
 clear hw5
 have Hsz:=hid hsz
 clear hsz
 gi_wp2_with fail
 have hsz:=Hsz.out
 refine kH (lo:=w.heap.size+2) (hi:=w.heap.size+5) (b:=w.heap.size+2) rfl (by omega) (gf:=183) (lb:=#[.pointer (some ⟨w.heap.size+3,0,none⟩),.pointer (some ⟨w.heap.size+2,0,none⟩),.pointer (some ⟨w.heap.size+4,0,none⟩)]) rfl trivial (enters_of Tryz.func183 (by kernel_rfl) rfl)
  (xZ _ (by omega) (w.heap.size+3) (w.heap.size+2) (w.heap.size+4) (w.heap.size+2) (w.heap.size+5) (by omega) (by omega) (by omega) s hs w5 c3 c4 c2.1 c2.2) (by omega) (by omega) (fun _=>rfl)
  (fun pre W=>(rU pre∧W.cell? ⟨w.heap.size+1,0,none⟩=some (.int .i64 pre.length)∧W.frozen? ⟨w.heap.size+1,0,none⟩=false∧W.cell? ⟨w.heap.size,0,none⟩=some (.bool false)∧W.frozen? ⟨w.heap.size,0,none⟩=false)∧Below w.heap.size w5 W)
  (fun c pre W=>(c=.ret∧¬rU pre∧W.cell? ⟨w.heap.size,0,none⟩=some (.bool false))∧Below w.heap.size w5 W)
  (OwnFrom.and (Own.from (fun s A B row hs hg hr=>⟨hs.1,cell_kept hs.2.1 hg hr,(frozen_kept hs.2.1 hg hr).trans hs.2.2.1,cell_kept hs.2.2.2.1 hg hr,(frozen_kept hs.2.2.2.1 hg hr).trans hs.2.2.2.2⟩) _) (ownFrom_below (by omega) (by omega)))
  (fun c=>OwnFrom.and (Own.from (fun s A B row hs hg hr=>⟨hs.1,hs.2.1,cell_kept hs.2.2 hg hr⟩) _) (ownFrom_below (by omega) (by omega)))
  (fun pre W v hs=>⟨⟨hs.1.1,(World.cell?_of_block (w:=W) (Below.heap_setCell W _ _ (w.heap.size+1) (by show _≠w.heap.size+2;omega))).trans hs.1.2.1,by rw[World.frozen?_setCell];exact hs.1.2.2.1,
   (World.cell?_of_block (w:=W) (Below.heap_setCell W _ _ w.heap.size (by show _≠w.heap.size+2;omega))).trans hs.1.2.2.2.1,by rw[World.frozen?_setCell];exact hs.1.2.2.2.2⟩,hs.2.setCell (p:=⟨w.heap.size+2,0,none⟩) (by simp) _⟩)
  (fun c pre W v hs=>⟨⟨hs.1.1,hs.1.2.1,(World.cell?_of_block (w:=W) (Below.heap_setCell W _ _ w.heap.size (by show _≠w.heap.size+2;omega))).trans hs.1.2.2⟩,hs.2.setCell (p:=⟨w.heap.size+2,0,none⟩) (by simp) _⟩)
  ⟨⟨⟨by simp,by simp⟩,c1.1,c1.2,c0.1,c0.2⟩,Below.refl _ _⟩
  (fun x=>{tmps:=#[.string (bs s),undef,.pointer (some ⟨w.heap.size,0,none⟩),.pointer (some ⟨w.heap.size+1,0,none⟩),.string (bs x),.string (bs s),.func (.func 183) #[] #[.pointer (some ⟨w.heap.size+3,0,none⟩),.pointer (some ⟨w.heap.size+2,0,none⟩),.pointer (some ⟨w.heap.size+4,0,none⟩)],.string (bs x),undef,undef,undef,undef,undef,undef,undef,undef,undef],defers:=[]}) ?assign ?body ?done ?stop
 case assign=>
  intro l x W K hK
  gi_wp2
  exact hK
 case body=>
  rintro l pre x W ⟨⟨hg,hn,hfn,hr,hfr⟩,hBW⟩
  have hgl:=hg.1
  have Hg:=hid hg
  clear hg c0 c1 c2 c3 c4 hB
  have hk1:KeepsOthers W (W.setCell ⟨w.heap.size+1,0,none⟩ (.int .i64 (pre.length+1))):=KeepsOthers.setCell _ _ _
  have hB1:Below w.heap.size w5 (W.setCell ⟨w.heap.size+1,0,none⟩ (.int .i64 (pre.length+1))):=hBW.setCell (p:=⟨w.heap.size+1,0,none⟩) (by simp) _
  have hc1:(W.setCell ⟨w.heap.size+1,0,none⟩ (.int .i64 (pre.length+1))).cell? ⟨w.heap.size+1,0,none⟩=some (.int .i64 (pre.length+1)):=World.cell?_setCell_same' _ _ _ (by rw[hn];rfl)
  have hc0:(W.setCell ⟨w.heap.size+1,0,none⟩ (.int .i64 (pre.length+1))).cell? ⟨w.heap.size,0,none⟩=some (.bool false):=(World.cell?_of_block (w:=W) (Below.heap_setCell W _ _ w.heap.size (by show _≠w.heap.size+1;omega))).trans hr
  have hf0:(W.setCell ⟨w.heap.size+1,0,none⟩ (.int .i64 (pre.length+1))).frozen? ⟨w.heap.size,0,none⟩=false:=by rw[World.frozen?_setCell];exact hfr
  have hf1:(W.setCell ⟨w.heap.size+1,0,none⟩ (.int .i64 (pre.length+1))).frozen? ⟨w.heap.size+1,0,none⟩=false:=by rw[World.frozen?_setCell];exact hfn
  have hkb:br (w.heap.size+2) (w.heap.size+5) W (W.setCell ⟨w.heap.size+1,0,none⟩ (.int .i64 (pre.length+1))):=br.setCell _ _ _ (.inl (by simp))
  have hz1:w.heap.size+5≤W.heap.size→w.heap.size+5≤(W.setCell ⟨w.heap.size+1,0,none⟩ (.int .i64 (pre.length+1))).heap.size:=by simp[World.setCell]
  by_cases h16:16≤pre.length
  ·gi_wp2
   refine⟨trivial,?_⟩
   gi_wp2
   refine⟨hk1.trans (KeepsOthers.setCell _ _ _),⟨rfl,fun h=>?_,World.cell?_setCell_same' _ _ _ (by rw[hc0];rfl)⟩,hB1.setCell (p:=⟨w.heap.size,0,none⟩) (by simp) _⟩
   have:=h.1
   simp at this
   omega
  ·obtain⟨b,hb⟩:∃b,nN x=b:=⟨_,rfl⟩
   have Hb:=hid hb;clear hb
   gi_wp2_with fail
   refine⟨trivial,(CallsIn.inRound l (callsIn_wide.2 (zcC x b Hb.out _))).mono ?_⟩
   rintro e w2 ⟨rfl,hb2⟩
   have hko:=hk1.trans (dz hb2)
   have hlt0:w.heap.size+5≤W.heap.size:=by have:=hBW.size;omega
   have hlt1:w.heap.size+5≤(W.setCell ⟨w.heap.size+1,0,none⟩ (.int .i64 (pre.length+1))).heap.size:=hz1 hlt0
   have hkb2:=hkb.trans (br.below hb2 (by omega))
   have hB2:=hB1.trans (hb2.mono (by omega))
   have d1:=(hb2.cell (p:=⟨w.heap.size+1,0,none⟩) (by simp;omega)).trans hc1
   have d0:=(hb2.cell (p:=⟨w.heap.size,0,none⟩) (by simp;omega)).trans hc0
   have g0:=(hb2.frozen (p:=⟨w.heap.size,0,none⟩) (by simp;omega)).trans hf0
   have g1:=(hb2.frozen (p:=⟨w.heap.size+1,0,none⟩) (by simp;omega)).trans hf1
   clear hb2 hc1 hc0 hf0 hf1 hz1 hn hfn hr hfr
   cases b with
   |true=>
    gi_wp2
    refine⟨hko,hkb2,⟨⟨?_,?_⟩,?_,g1,d0,g0⟩,hB2⟩
    ·simp;omega
    ·intro y hy
     rcases List.mem_append.1 hy with h|h
     ·exact Hg.out.2 y h
     ·rw[List.mem_singleton.1 h];exact Hb.out
    ·rw[d1,List.length_append];simp
   |false=>
    gi_wp2
    refine⟨hko.trans (KeepsOthers.setCell _ _ _),⟨rfl,fun h=>?_,World.cell?_setCell_same' _ _ _ (by rw[d0];rfl)⟩,hB2.setCell (p:=⟨w.heap.size,0,none⟩) (by simp) _⟩
    have:=h.2 x (by simp)
    rw[Hb.out] at this;cases this
 case done=>
  rintro D xs W hD rfl ⟨⟨hg,_,_,hr,hfr⟩,hBW⟩ hK
  gi_wp2
  have hK':=(KeepsOthers.setCell W ⟨w.heap.size,0,none⟩ (.bool true)).same D _ hK rfl
  refine⟨by simp,.inl ⟨_,_,rfl,run_takeDeferred hK',?_⟩⟩
  have hc5:=cell_kept (World.cell?_setCell_same' W ⟨w.heap.size,0,none⟩ (.bool true) (by rw[hr];rfl)) (grownBy_putObj' _ D (.deferred none)) (fun r e=>by cases e;exact⟨_,hK',rfl⟩)
  refine⟨.bool true,?_,by rw[zcX hg],hB.trans ((hBW.setCell (p:=⟨w.heap.size,0,none⟩) (by simp) _).trans (belowK_b (w:=w) (Nat.le_refl _) _ D _ _ (by omega) hK' rfl rfl))⟩
  simp[results,Tryz.f51,go_sem,hc5]
 case stop=>
  rintro D c pre W hD hpre ⟨⟨rfl,hbad,hr⟩,hBW⟩ hK
  gi_wp2
  refine⟨by simp,.inl ⟨_,_,rfl,run_takeDeferred hK,?_⟩⟩
  have hc5:=cell_kept hr (grownBy_putObj' _ D (.deferred none)) (fun r e=>by cases e;exact⟨_,hK,rfl⟩)
  refine⟨.bool false,?_,by rw[zdP hpre hbad],hB.trans (hBW.trans (belowK_b (w:=w) (Nat.le_refl _) W D _ _ (by omega) hK rfl rfl))⟩
  simp[results,Tryz.f51,go_sem,hc5]
end Go.Proofs.YtlbipokkdiiaiaaGreatDoor
namespace Go.Proofs.YtlbipokkdiiaiaaGreatDoor
open Go.RowKit
theorem i6 (s:List UInt8) (hs:s.length≤1000000000000000) (b:Bool) (h:dY s=b) (w:World):
 Calls Tryz.prog 51 #[.string (bs s)] w fun e w'=>e=.returned (.bool b)∧Below w.heap.size w w':=by
 subst h;exact jq s hs w
set_option maxHeartbeats 400000 in
theorem qA (s d:List UInt8) (hs:s.length≤1000000000000000) (hd:d.length≤1000000000000000) (w:World):
 Calls Tryz.prog 89 #[.string (bs s),.string (bs d)] w fun e w'=>e=.returned (.bool (gq s d))∧Below w.heap.size w w':=by
 obtain⟨bm,hbm⟩:∃bm,dY s=bm:=⟨_,rfl⟩
 obtain⟨bd,hbd⟩:∃bd,dY d=bd:=⟨_,rfl⟩
 have Hm:=hid (i6 s hs bm hbm)
 have Hd:=hid (i6 d hd bd hbd)
 obtain⟨bp,hbp⟩:∃bp,Lib.hasPrefix s (d++[47])=bp:=⟨_,rfl⟩
 have Hu:Hid (gq s d=(bm&&(d.isEmpty||(bd&&bp)))):=by apply hid;rw[gq,hbm,hbd,hbp]
 have Hp:Hid (∀w,Calls Tryz.prog 131 #[.string (bs s),.string (bs (d++[47]))] w fun e w'=>e=.returned (.bool bp)∧w'=w):=by
  apply hid;intro w;rw[←hbp];exact Tryz.strings_HasPrefix (bs s) (bs (d++[47])) w
 clear hbm hbd hbp
 cases bm with
 |false=>
  go_enter Tryz.func89,Tryz.ntmps89
  go_wp2_with fail
  refine(Hm.out _).mono ?_
  rintro e w1 ⟨rfl,hb1⟩
  go_wp2_with fail
  go_ret
  exact⟨by rw[Hu.out];rfl,hb1⟩
 |true=>
  by_cases h0:d=[]
  ·subst h0
   go_enter Tryz.func89,Tryz.ntmps89
   go_wp2_with fail
   refine(Hm.out _).mono ?_
   rintro e w1 ⟨rfl,hb1⟩
   go_wp2_with fail
   go_ret
   exact⟨by rw[Hu.out];rfl,hb1⟩
  ·have h0':d.isEmpty=false:=by simpa using h0
   clear h0
   cases bd with
   |false=>
    go_enter Tryz.func89,Tryz.ntmps89
    go_wp2_with fail
    refine(Hm.out _).mono ?_
    rintro e w1 ⟨rfl,hb1⟩
    go_wp2_with fail
    refine(Hd.out _).mono ?_
    rintro e w2 ⟨rfl,hb2⟩
    go_wp2_with fail
    go_ret
    exact⟨by rw[Hu.out,h0'];rfl,Below.chain hb1 hb2⟩
   |true=>
    go_enter Tryz.func89,Tryz.ntmps89
    go_wp2_with fail
    refine(Hm.out _).mono ?_
    rintro e w1 ⟨rfl,hb1⟩
    go_wp2_with fail
    refine(Hd.out _).mono ?_
    rintro e w2 ⟨rfl,hb2⟩
    go_wp2_with fail
    refine(Hp.out _).mono ?_
    rintro e w3 ⟨rfl,rfl⟩
    go_wp2_with fail
    go_ret
    exact⟨by rw[Hu.out,h0'];simp,Below.chain hb1 hb2⟩
theorem zax (s d:List UInt8) (hs:s.length≤1000000000000000) (hd:d.length≤1000000000000000) (b:Bool) (h:gq s d=b) (w:World):
 Calls Tryz.prog 89 #[.string (bs s),.string (bs d)] w fun e w'=>e=.returned (.bool b)∧Below w.heap.size w w':=by
 subst h;exact qA s d hs hd w
theorem lN (l:List UInt8):Op.bytesLess l l=false:=by
 induction l with
 |nil=>rfl
 |cons c l ih=>simp[Op.bytesLess,ih]
abbrev less (a b:List UInt8):Bool:=Op.bytesLess a b
open Exec
set_option maxRecDepth 100000
def dig (n:Nat):List UInt8:=if n<10 then[UInt8.ofNat (48+n)] else dig (n/10)++[UInt8.ofNat (48+n%10)]
theorem jR {n:Nat} (h:n<10):dig n=[UInt8.ofNat (48+n)]:=by rw[dig,if_pos h]
theorem rX {n:Nat} (h:¬n<10):dig n=dig (n/10)++[UInt8.ofNat (48+n%10)]:=by rw[dig,if_neg h]
theorem oL (k:Nat):∀n,n<10^(k+1)→(dig n).length≤k+1:=by
 induction k with
 |zero=>intro n h;rw[jR (by simpa using h)];simp
 |succ k ih=>
  intro n h
  by_cases hn:n<10
  ·rw[jR hn];simp
  ·rw[rX hn,List.length_append]
   have:=ih (n/10) (by rw[Nat.pow_succ] at h;omega)
   simp;omega
theorem yJ {n:Nat} (h:n≤9223372036854775807):(dig n).length≤19:=oL 18 n (by omega)
theorem zd6 (k:Nat):∀n,n≤k→dig n=Lib.decDigits n:=by
 induction k with
 |zero=>intro n h;obtain rfl:n=0:=by omega
        rw[jR (by omega),Lib.decDigits,dif_pos (by omega)]
 |succ k ih=>
  intro n h
  by_cases hn:n<10
  ·rw[jR hn,Lib.decDigits,dif_pos hn]
  ·rw[rX hn,Lib.decDigits,dif_neg hn,ih (n/10) (by omega)]
theorem o7 (n:Nat):Lib.itoa n=dig n:=by
 rw[Lib.itoa,if_neg (by omega),zd6 n n (Nat.le_refl _)];rfl
def bK (ss:List (List UInt8)):List UInt8:=ss.flatMap fun s=>dig s.length++58::s
theorem jc (a b:List (List UInt8)):bK (a++b)=bK a++bK b:=by simp[bK]
theorem oM (ss:List (List UInt8)) (k:Nat) (h:k<ss.length):bK (ss.take (k+1))=bK (ss.take k)++(dig ss[k].length++58::ss[k]):=by
 rw[nF _ _ h,jc];simp[bK]
theorem rP (ss:List (List UInt8)) (k:Nat):(bK (ss.take k)).length≤(bK ss).length:=by
 have h:bK ss=bK (ss.take k)++bK (ss.drop k):=by rw[←jc,List.take_append_drop]
 rw[h,List.length_append];omega
def bh (i n:Nat):List UInt8→Nat×List UInt8×Nat
 |[]=>(0,[],4)
 |c::r=>
  if c.toNat=58∧0<i then(n,r,0)
  else if c.toNat<48∨57<c.toNat∨i=9∨(0<i∧n=0) then(0,[],3)
  else bh (i+1) (10*n+(c.toNat-48)) r
theorem pI {k m:Nat} {c:UInt8} {r:List UInt8} (h:c.toNat=58) (hk:0<k):bh k m (c::r)=(m,r,0):=by
 rw[bh,if_pos ⟨h,hk⟩]
theorem gj {k m:Nat} {c:UInt8} {r:List UInt8} (h:¬(c.toNat=58∧0<k)) (hk:¬(c.toNat<48∨57<c.toNat∨k=9∨(0<k∧m=0))):bh k m (c::r)=bh (k+1) (10*m+(c.toNat-48)) r:=by
 rw[bh,if_neg h,if_neg hk]
theorem rZ (l:List UInt8):∀k m,(bh k m l).2.2=0→(bh k m l).2.1.length<l.length:=by
 induction l with
 |nil=>intro k m h;simp[bh] at h
 |cons c r ih=>
  intro k m
  unfold bh
  split
  ·intro _;simp
  ·split
   ·intro h;simp at h
   ·intro h;have:=ih _ _ h;simp;omega
def fin (out:List (List UInt8)) (p:List (List UInt8)×Nat):List (List UInt8)×Nat:=if p.2=0 then(out++p.1,0) else([],p.2)
def jX (l:List UInt8):List (List UInt8)×Nat:=
 if l=[] then([],0)
 else if _h:(bh 0 0 l).2.2=0 then
  if(bh 0 0 l).2.1.length<(bh 0 0 l).1 then([],4)
  else fin [(bh 0 0 l).2.1.take (bh 0 0 l).1] (jX ((bh 0 0 l).2.1.drop (bh 0 0 l).1))
 else([],(bh 0 0 l).2.2)
termination_by l.length
decreasing_by
 have:=rZ l 0 0 _h
 rw[List.length_drop];omega
theorem vR:jX []=([],0):=by rw[jX];simp
theorem tI {l t:List UInt8} {n:Nat} (h:bh 0 0 l=(n,t,0)) (hl:l≠[]) (hc:¬t.length<n):jX l=fin [t.take n] (jX (t.drop n)):=by
 rw[jX,if_neg hl,h];simp[hc]
theorem ct {n:Nat} (h:n<256):(UInt8.ofNat n).toNat=n:=by simp[UInt8.toNat_ofNat'];omega
theorem xe (n:Nat):0<(dig n).length:=by
 by_cases h:n<10
 ·rw[jR h];simp
 ·rw[rX h];simp
theorem za1 (k:Nat):∀n,n≤k→n<1000000000→∀r,bh 0 0 (dig n++r)=bh (dig n).length n r:=by
 induction k with
 |zero=>
  intro n h _ r
  obtain rfl:n=0:=by omega
  rw[jR (by omega)]
  show bh 0 0 (UInt8.ofNat (48+0)::r)=_
  rw[gj (by rw[ct (by omega)];omega) (by rw[ct (by omega)];omega),ct (by omega)];rfl
 |succ k ih=>
  intro n h hn r
  by_cases h10:n<10
  ·rw[jR h10]
   show bh 0 0 (UInt8.ofNat (48+n)::r)=_
   rw[gj (by rw[ct (by omega)];omega) (by rw[ct (by omega)];omega),ct (by omega)]
   show bh 1 _ r=bh 1 n r
   rw[show 10*0+(48+n-48)=n by omega]
  ·have hl:(dig (n/10)).length≤8:=oL 7 (n/10) (by omega)
   have hp:=xe (n/10)
   rw[rX h10,List.append_assoc,ih (n/10) (by omega) (by omega),List.singleton_append]
   rw[gj (by rw[ct (by omega)];omega) (by rw[ct (by omega)];omega),ct (by omega),List.length_append]
   rw[show 10*(n/10)+(48+n%10-48)=n by omega];rfl
theorem zcj {n:Nat} (hn:n<1000000000) (r:List UInt8):bh 0 0 (dig n++58::r)=(n,r,0):=by
 rw[za1 n n (Nat.le_refl _) hn,pI rfl (xe n)]
theorem qW (ss:List (List UInt8)) (h:∀s∈ss,s.length<1000000000):jX (bK ss)=(ss,0):=by
 induction ss with
 |nil=>exact vR
 |cons s ss ih=>
  have e:bK (s::ss)=dig s.length++58::(s++bK ss):=by simp[bK]
  rw[e,tI (zcj (h s (by simp)) _) (by simp) (by simp),List.take_left' rfl,List.drop_left' rfl,ih (fun x hx=>h x (by simp[hx]))]
  rfl
theorem kh {a b:List (List UInt8)} (ha:∀s∈a,s.length<1000000000) (hb:∀s∈b,s.length<1000000000) (h:bK a=bK b):a=b:=by
 have h1:=qW a ha
 rw[h,qW b hb] at h1
 simpa using h1.symm
end Go.Proofs.YtlbipokkdiiaiaaGreatDoor
