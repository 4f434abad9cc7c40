/- Lemmas for TopTwice: Range, Shelf, PathWalks. -/
import Derived.Test.YtlbipokkdiiaiaaGreatDoorU10
import Derived.RangeFuncNested
import Derived.RangeFuncBound
import Derived.RangeFuncCalls
import Derived.RangeFuncLeaves
import Derived.RangeFuncFrom
import Derived.Shelf.Abstract
import Derived.Shelf.RegionOpen
import Derived.OwnWalkIn
import Derived.TacticsInMore
import Derived.LoopNIn
import Derived.LoopIn
import Derived.Shelf.Strings.Builder1
import Derived.Shelf.Small.Utf8
import Derived.Shelf.Small.Bits
import Derived.Shelf.Small.Strs
import Derived.Shelf.Strings.BuilderF
import Derived.Shelf.Strings.BuilderK
import Derived.Shelf.Strconv.Itoa0
import Derived.Shelf.Strconv.Itoa1
import Derived.Shelf.LaysM
import Derived.Shelf.Strconv.Itoa2
import Derived.Shelf.Strconv.Itoa3
import Derived.Shelf.Strconv.Itoa4
import Derived.Shelf.Strconv.ParseIntEmpty
import Derived.Shelf.Strconv.Clone
import Derived.Shelf.Strconv.SyntaxError
import Derived.Shelf.LaysC
import Derived.Shelf.Strconv.ToError
import Derived.Shelf.Strconv.Lower
import Derived.Shelf.Strconv.ParseUint10
import Derived.Shelf.Strconv.ParseUint10Empty
import Derived.Shelf.Strconv.ParseUint10Any
import Derived.Shelf.Strconv.ParseInt10
import Derived.Shelf.Strconv.RangeError
import Derived.Shelf.Strconv.ToErrorRange
import Derived.Shelf.Strconv.ParseUintEmpty
import Derived.Shelf.Strconv.ParseUint10b64
import Derived.Shelf.Strconv.ParseUint10b32
import Derived.Shelf.Strconv.ParseUint10b16
import Derived.Shelf.Strconv.ParseUint10b8
import Derived.Shelf.Strconv.ParseUint10At
import Derived.Shelf.Strconv.ParseInt10At64
import Derived.Shelf.Strconv.ParseInt10At32
import Derived.Shelf.Strconv.ParseInt10At16
import Derived.Shelf.Strconv.ParseInt10At8
import Derived.Shelf.Strconv.ParseInt10All
import Derived.Shelf.Strconv.ParseIntPublic10
import Derived.Shelf.Strconv.ErrVarParseInt
import Derived.Shelf.Strings.Search1
import Derived.Shelf.Strings.Search2
import Derived.Shelf.Strings.Search3
import Derived.Shelf.Strings.Count
import Derived.Shelf.Strings.Shaped
import Derived.Shelf.GgClosure.StringsIndexFunc
import Derived.Ground.GgwProg
import Derived.Shelf.GgClosure.StringsIndexFuncTop
import Derived.Shelf.GgClosure.StringsRunes
import Derived.Shelf.Strings.Prefix
import Derived.Shelf.Strings.Runes
import Derived.Shelf.Strings.AsciiSet
import Derived.Shelf.Unicode.DecodeSlow
import Derived.Shelf.Unicode.DecodeAny
import Derived.Shelf.Unicode.DecodeLast
import Derived.Shelf.Strings.FuncGrows
import Derived.Shelf.Strings.BuilderCap
import Derived.Test.YtlbipokkdiiaiaaGreatDoorProg
import Derived.Test.YtlbipokkdiiaiaaGreatDoorU12
import Derived.Test.YtlbipokkdiiaiaaGreatDoorChecked
namespace Go.Proofs.YtlbipokkdiiaiaaGreatDoor
open Go.RowKit
variable {F : Fence} {n : Nat} {P : Program}
structure KeepsBlk (lo hi : Nat) (W W' : World) : Prop where
 size : W.heap.size ≤ W'.heap.size
 block : ∀ k, lo ≤ k → k < hi → W'.heap[k]? = W.heap[k]?
theorem KeepsBlk.refl (lo hi : Nat) (W : World) : KeepsBlk lo hi W W := ⟨Nat.le_refl _, fun _ _ _ => rfl⟩
theorem KeepsBlk.trans {lo hi : Nat} {A B C : World} (h : KeepsBlk lo hi A B) (k : KeepsBlk lo hi B C) : KeepsBlk lo hi A C :=
 ⟨Nat.le_trans h.size k.size, fun i a b => (k.block i a b).trans (h.block i a b)⟩
theorem KeepsBlk.below {lo hi B : Nat} {W W' : World} (h : Below B W W') (hB : hi ≤ B) : KeepsBlk lo hi W W' := ⟨h.size, fun k _ hk => h.block k (by omega)⟩
theorem KeepsBlk.setCell {lo hi : Nat} (W : World) (a : Addr) (v : Value) (h : a.block < lo ∨ hi ≤ a.block) : KeepsBlk lo hi W (W.setCell a v) :=
 ⟨by simp [World.setCell], fun k h1 h2 => Below.heap_setCell W a v k (by omega)⟩
theorem KeepsBlk.putObj {lo hi : Nat} (W : World) (l : Nat) (o : Obj) (h : hi ≤ l) : KeepsBlk lo hi W (W.putObj l o) :=
 ⟨by simp, fun _ _ h2 => World.putObj_heap_other (by omega)⟩
theorem KeepsBlk.cell {lo hi : Nat} {W W' : World} (h : KeepsBlk lo hi W W') {p : Addr} (h1 : lo ≤ p.block) (h2 : p.block < hi) : W'.cell? p = W.cell? p := World.cell?_of_block (w := W) (h.block _ h1 h2)
theorem KeepsBlk.frozen {lo hi : Nat} {W W' : World} (h : KeepsBlk lo hi W W') {p : Addr} (h1 : lo ≤ p.block) (h2 : p.block < hi) : W'.frozen? p = W.frozen? p := World.frozen?_of_block (w := W) (h.block _ h1 h2)
theorem keepsOthers_of_below {W W' : World} (h : Below W.heap.size W W') : KeepsOthers W W' :=
 ⟨h.size, fun k _ hk _ => (h.block k (Array.getElem?_eq_some_iff.1 hk).1).trans hk⟩
def AbidesAt {β : Type} (b : Nat) (J : β → World → Prop) : Prop := ∀ s W v, J s W → J s (W.setCell ⟨b, 0, none⟩ v)
def SeqSt {α : Type} (F : Fence) (n : Nat) (P : Program) (g : Nat) (lb : Array Value) (encs : α → Array Value) (Kp : World → World → Prop) (b : Nat) (S Sp : List α → Prop) (w : World) : Prop :=
 ∀ (l : Nat) (J Jx : List α → World → Prop) (W : World), Kp w W → AbidesFrom W.heap.size J → AbidesFrom W.heap.size Jx → AbidesAt b J → AbidesAt b Jx →
   (∀ pre x W1, J pre W1 → YieldAt F (n - 1) P l (encs x) W1 fun e W' =>
    (e = .returned (.bool true) ∧ J (pre ++ [x]) W' ∧ Kp W1 W') ∨ (e = .returned (.bool false) ∧ Jx (pre ++ [x]) W')) →
   J [] W →
   CallsIn F n P g (#[.func (.yield l) #[] #[]] ++ lb) W fun e W' => (∃ v, e = .returned v) ∧ ((∃ xs, S xs ∧ J xs W') ∨ (∃ pre, Sp pre ∧ Jx pre W'))
theorem wpIn_rangeFunc_st {α : Type} {g : Operand} {ps : Array Tmp} {assign body : Code} {Q : Exit → Act → World → Prop} {a : Act} {w : World}
  (hro : F.round = none) (h1 : 1 ≤ n) {gf : Nat} {lb : Array Value} (hg : a.eval g = .func (.func gf) #[] lb) (hFg : F.fn gf) (eg : ∀ args w, (callFunc gf args).run P w = .ok (.enter gf args) w)
  {encs : α → Array Value} {lo hi b : Nat} {S Sp : List α → Prop} (hseq : SeqSt F (n - 1) P gf lb encs (KeepsBlk lo hi) b S Sp w)
  (hhi : hi ≤ w.heap.size) (hb : b < w.heap.size) (hps : ∀ x, (encs x).size = ps.size)
  (I : List α → World → Prop) (Ix : Code → List α → World → Prop) (hI : OwnFrom w.heap.size I) (hIx : ∀ c, OwnFrom w.heap.size (Ix c)) (hIb : AbidesAt b I) (hIxb : ∀ c, AbidesAt b (Ix c)) (h0 : I [] w) (a₁ : α → Act)
  (hassign : ∀ (l : Nat) (x : α) (W : World) (K : Act → World → Prop), K (a₁ x) W →
   assign.wpIn (F.inRound l) (n - 1 - 1) P (Exit.then K (fun _ _ _ => False)) { tmps := (ps.zip (encs x)).foldl (fun t (p, v) => t.setIfInBounds p v) a.tmps, defers := [] } W)
  (hbody : ∀ (l : Nat) (pre : List α) (x : α) (W : World), I pre W → body.wpIn (F.inRound l) (n - 1 - 1) P (ownPostK (KeepsBlk lo hi) I Ix (pre ++ [x]) W) (a₁ x) W)
  (hdone : ∀ (D : Nat) (xs : List α) (W : World), w.heap.size ≤ D → S xs → I xs W → W.heap[D]? = some (.deferred (some [])) → Q .normal { a with defers := { target := .collected D, args := #[] } :: a.defers } W)
  (hstop : ∀ (D : Nat) (c : Code) (pre : List α) (W : World), w.heap.size ≤ D → Sp pre → Ix c pre W → W.heap[D]? = some (.deferred (some [])) → c.wpIn F n P Q { a with defers := { target := .collected D, args := #[] } :: a.defers } W) :
  (Code.rangeFunc g ps assign body).wpIn F n P Q a w := by
 refine wpIn_rangeFunc fun fn hfn => ?_
 rw [hro]
 -- the loop's record, in its states; the world behind the statement's own two blocks
 obtain ⟨rec, hrec⟩ : ∃ rec : LoopState → Option Code → Loop, rec = fun st pe => { state := st, pending := pe, fn, tmps := a.tmps, params := ps, assign, body, defers := w.heap.size } := ⟨_, rfl⟩
 obtain ⟨W1, hW1⟩ : ∃ W1, (w.alloc (.deferred (some []))).alloc (.loop (rec .ready none)) = W1 := ⟨_, rfl⟩
 have hbelow : Below w.heap.size w W1 := by rw [← hW1]; exact ((Below.refl _ w).alloc (Nat.le_refl _) _).alloc (by simp) _
 have hL1 : W1.heap[w.heap.size + 1]? = some (.loop (rec .ready none)) := by
  have := World.alloc_heap_new (w.alloc (.deferred (some []))) (.loop (rec .ready none))
  rw [World.size_alloc] at this
  rw [← hW1]; exact this
 have hD1 : W1.heap[w.heap.size]? = some (.deferred (some [])) := by
  rw [← hW1]; exact (Below.heap_alloc _ _ _ (by simp)).trans (World.alloc_heap_new w _)
 have hI1 : I [] W1 := by rw [← hW1]; exact hI.alloc _ (hI.alloc _ h0)
 have hsize1 : w.heap.size + 2 ≤ W1.heap.size := by rw [← hW1]; simp
 refine ⟨w.heap.size + 1, [{ target := .collected w.heap.size, args := #[] }], W1, { target := .fn (.func gf) lb, args := #[.func (.yield (w.heap.size + 1)) #[] #[]] }, W1, gf,
  #[.func (.yield (w.heap.size + 1)) #[] #[]] ++ lb, W1, ?_, ?_, ?_, ?_, fun _ => h1, ?_⟩
 ·rw [← hW1, hrec]; exact run_enterLoop_outer _ _ _ _ _
 ·simp only [resolve, hg]; simp [go_sem]
 ·intro f' hf'; simp [Target.leads] at hf'; subst hf'; exact hFg
 ·simp [invoke, go_sem, eg]
 have far : ∀ {A : World} {row : Option Nat}, (∀ r, row = some r → W1.heap.size ≤ r ∧ ∃ o : Obj, A.heap[r]? = some o ∧ o.isWalk = true) → ∀ r, row = some r → w.heap.size ≤ r ∧ ∃ o : Obj, A.heap[r]? = some o ∧ o.isCells = false :=
  fun hr r e => by obtain ⟨hB, o, ho, hw⟩ := hr r e; exact ⟨by omega, o, ho, Obj.not_cells_of_walk hw⟩
 have kept : ∀ {A B : World} {row : Option Nat} {k : Nat} {o : Obj}, A.grownBy B row → (∀ r, row = some r → W1.heap.size ≤ r ∧ ∃ o : Obj, A.heap[r]? = some o ∧ o.isWalk = true) → A.heap[k]? = some o → o.isWalk = false → B.heap[k]? = some o :=
  fun hg' hr hk ho => (grownBy_keeps hg' (fun r e => (hr r e).2) hk ho).trans hk
 have put : ∀ (W : World) (l : Nat) (o' : Obj), w.heap.size ≤ l → KeepsBlk lo hi W (W.putObj l o') := fun W l o' hl => KeepsBlk.putObj W l o' (by omega)
 refine (hseq (w.heap.size + 1)
  (fun pre W => I pre W ∧ W.heap[w.heap.size + 1]? = some (.loop (rec .ready none)) ∧ W.heap[w.heap.size]? = some (.deferred (some [])))
  (fun pre W => ∃ c, Ix c pre W ∧ W.heap[w.heap.size + 1]? = some (.loop (rec .done (some c))) ∧ W.heap[w.heap.size]? = some (.deferred (some [])))
  W1 (KeepsBlk.below hbelow hhi)
  (fun s A B row hs hg' hr => ⟨hI s A B row hs.1 hg' (far hr), kept hg' hr hs.2.1 rfl, kept hg' hr hs.2.2 rfl⟩)
  (fun s A B row hs hg' hr => by obtain ⟨c, hc, hl, hk⟩ := hs; exact ⟨c, hIx c s A B row hc hg' (far hr), kept hg' hr hl rfl, kept hg' hr hk rfl⟩)
  (fun s W v hs => ⟨hIb s W v hs.1, (Below.heap_setCell W _ v _ (by show _ ≠ b; omega)).trans hs.2.1, (Below.heap_setCell W _ v _ (by show _ ≠ b; omega)).trans hs.2.2⟩)
  (fun s W v hs => by obtain ⟨c, hc, hl, hk⟩ := hs; exact ⟨c, hIxb c s W v hc, (Below.heap_setCell W _ v _ (by show _ ≠ b; omega)).trans hl, (Below.heap_setCell W _ v _ (by show _ ≠ b; omega)).trans hk⟩)
  ?_ ⟨hI1, hL1, hD1⟩).mono ?_
 ·-- one round
  rintro pre x W ⟨hi', hl, hk⟩
  have hlt : w.heap.size + 1 < W.heap.size := (Array.getElem?_eq_some_iff.1 hl).1
  have hy := run_yield (P := P) (args := encs x) hl (by rw [hrec]; exact hps x)
  rw [hrec] at hy
  refine ⟨fn, _, assign, body, hy, roundIn_of_wpIn hfn (hassign _ x W _ ⟨_, run_beginRound hl (by rw [hrec]), ?_⟩)⟩
  have hl2 : (W.putObj (w.heap.size + 1) (.loop { rec .ready none with state := .busy })).heap[w.heap.size + 1]? = some (.loop { rec .ready none with state := .busy }) := World.putObj_heap_same hlt
  have hk2 : (W.putObj (w.heap.size + 1) (.loop { rec .ready none with state := .busy })).heap[w.heap.size]? = some (.deferred (some [])) := (World.putObj_heap_other (by omega)).trans hk
  refine wpIn_mono (hbody _ pre x _ (hI.putObj _ hi' (by omega) hl rfl)) ?_
  -- how a round's end is booked
  have fin : ∀ (jump : Option Code) (W3 : World), KeepsOthers (W.putObj (w.heap.size + 1) (.loop { rec .ready none with state := .busy })) W3 →
    (Instr.endRound (w.heap.size + 1) jump).run P W3 = .ok (.bool jump.isNone) (W3.putObj (w.heap.size + 1) (.loop (rec (if jump.isNone then .ready else .done) jump))) ∧
    W3.heap[w.heap.size + 1]? = some (.loop { rec .ready none with state := .busy }) ∧
    (W3.putObj (w.heap.size + 1) (.loop (rec (if jump.isNone then .ready else .done) jump))).heap[w.heap.size + 1]? = some (.loop (rec (if jump.isNone then .ready else .done) jump)) ∧
    (W3.putObj (w.heap.size + 1) (.loop (rec (if jump.isNone then .ready else .done) jump))).heap[w.heap.size]? = some (.deferred (some [])) := by
   intro jump W3 hk3
   have hl3 := hk3.same _ _ hl2 rfl
   have hend := run_endRound (P := P) jump hl3
   rw [hrec] at hend ⊢
   exact ⟨hend, by rw [hrec] at hl3; exact hl3, World.putObj_heap_same (Array.getElem?_eq_some_iff.1 hl3).1, (World.putObj_heap_other (by omega)).trans (hk3.same _ _ hk2 rfl)⟩
  have leave : ∀ (c : Code) (W3 : World), KeepsOthers (W.putObj (w.heap.size + 1) (.loop { rec .ready none with state := .busy })) W3 → Ix c (pre ++ [x]) W3 →
    (Instr.endRound (w.heap.size + 1) (some c)).run P W3 = .ok (.bool false) (W3.putObj (w.heap.size + 1) (.loop (rec .done (some c)))) ∧
    (∃ c', Ix c' (pre ++ [x]) (W3.putObj (w.heap.size + 1) (.loop (rec .done (some c)))) ∧ (W3.putObj (w.heap.size + 1) (.loop (rec .done (some c)))).heap[w.heap.size + 1]? = some (.loop (rec .done (some c'))) ∧
     (W3.putObj (w.heap.size + 1) (.loop (rec .done (some c)))).heap[w.heap.size]? = some (.deferred (some []))) := by
   intro c W3 hk3 hx3
   obtain ⟨hr, hl3, hl4, hk4⟩ := fin (some c) W3 hk3
   exact ⟨hr, c, (hIx c).putObj _ hx3 (by omega) hl3 rfl, hl4, hk4⟩
  rintro e a3 W3 hp
  cases e with
  | normal =>
    obtain ⟨hk3, hkp3, hi3⟩ := hp
    obtain ⟨hr, hl3, hl4, hk4⟩ := fin none W3 hk3
    exact ⟨_, _, hr, .inl ⟨rfl, ⟨hI.putObj _ hi3 (by omega) hl3 rfl, hl4, hk4⟩, ((put W _ _ (by omega)).trans hkp3).trans (put W3 _ _ (by omega))⟩⟩
  | ret => obtain ⟨hr, hx⟩ := leave .ret W3 hp.1 hp.2; exact ⟨_, _, hr, .inr ⟨rfl, hx⟩⟩
  | exit id => obtain ⟨hr, hx⟩ := leave (.exit id) W3 hp.1 hp.2; exact ⟨_, _, hr, .inr ⟨rfl, hx⟩⟩
  | goto t => obtain ⟨hr, hx⟩ := leave (.goto t) W3 hp.1 hp.2; exact ⟨_, _, hr, .inr ⟨rfl, hx⟩⟩
  | panic ch => exact hp.elim
  | outgrown => exact hp.elim
 ·-- behind the iterator
  rintro e W2 ⟨⟨v, rfl⟩, (⟨xs, hS, hi', hl, hk⟩ | ⟨pre, hSp, c, hi', hl, hk⟩)⟩
  ·have hend := run_endLoop (P := P) hl (by rw [hrec]; simp)
   rw [hrec] at hend
   exact ⟨none, _, hend, hdone _ xs _ (Nat.le_refl _) hS (hI.putObj _ hi' (by omega) hl rfl) ((World.putObj_heap_other (by omega)).trans hk)⟩
  ·have hend := run_endLoop (P := P) hl (by rw [hrec]; simp)
   rw [hrec] at hend
   exact ⟨some c, _, hend, hstop _ c pre _ (Nat.le_refl _) hSp ((hIx c).putObj _ hi' (by omega) hl rfl) ((World.putObj_heap_other (by omega)).trans hk)⟩
end Go.Proofs.YtlbipokkdiiaiaaGreatDoor
namespace Go.Proofs
open Go.Shelf
def Tryz.lays169_ren : Go.Shelf.Ren := ⟨fun | 169 => 104 | n => n, fun | 70 => 213 | 9 => 9 | 0 => 0 | 72 => 215 | 37 => 49 | 127 => 274 | 3 => 3 | 5 => 5 | n => n, fun | n => n⟩
theorem Tryz.lays169 : Go.Proofs.Lays.n169 Tryz.prog Tryz.lays169_ren := {
 mixed := by kernel_rfl
 f169 := Tryz.func104.trans (congrArg some (by kernel_rfl))
 t0 := Tryz.underlying0
 a0 := Tryz.isAgg0
 z0 := Tryz.sizeOf0
 v0 := Tryz.zeroValue0
 t3 := Tryz.underlying3
 a3 := Tryz.isAgg3
 z3 := Tryz.sizeOf3
 v3 := Tryz.zeroValue3
 t9 := Tryz.underlying9
 a9 := Tryz.isAgg9
 z9 := Tryz.sizeOf9
 v9 := Tryz.zeroValue9
 t37 := Tryz.underlying49
 a37 := Tryz.isAgg49
 z37 := Tryz.sizeOf49
 v37 := Tryz.zeroValue49
 t70 := Tryz.underlying213
 a70 := Tryz.isAgg213
 z70 := Tryz.sizeOf213
 v70 := Tryz.zeroValue213
 t72 := Tryz.underlying215
 a72 := Tryz.isAgg215
 z72 := Tryz.sizeOf215
 v72 := Tryz.zeroValue215
 t127 := Tryz.underlying274
 a127 := Tryz.isAgg274
 z127 := Tryz.sizeOf274
 v127 := Tryz.zeroValue274 }
theorem Tryz.Builder_Extra_169 : Builder.Extra Tryz.prog Tryz.lays169_ren := {
 sizeBuilder := by kernel_rfl
 liesBuilder := by kernel_rfl
 t5 := Tryz.underlying5
 a5 := Tryz.isAgg5
 z5 := Tryz.sizeOf5
 v5 := Tryz.zeroValue5
 infoByte := by kernel_rfl
 cellsByte := by kernel_rfl
 sizeByte := by kernel_rfl
 neB5 := by decide }
def Tryz.lays137_ren : Go.Shelf.Ren := ⟨fun | 137 => 187 | 217 => 226 | 266 => 287 | n => n, fun | 9 => 9 | 5 => 5 | 3 => 3 | n => n, fun | n => n⟩
theorem Tryz.lays137 : Go.Proofs.Lays.n137 Tryz.prog Tryz.lays137_ren := {
 mixed := by kernel_rfl
 f137 := Tryz.func187.trans (congrArg some (by kernel_rfl))
 f217 := Tryz.func226.trans (congrArg some (by kernel_rfl))
 f266 := Tryz.func287.trans (congrArg some (by kernel_rfl))
 t3 := Tryz.underlying3
 a3 := Tryz.isAgg3
 z3 := Tryz.sizeOf3
 v3 := Tryz.zeroValue3
 t5 := Tryz.underlying5
 a5 := Tryz.isAgg5
 z5 := Tryz.sizeOf5
 v5 := Tryz.zeroValue5
 t9 := Tryz.underlying9
 a9 := Tryz.isAgg9
 z9 := Tryz.sizeOf9
 v9 := Tryz.zeroValue9 }
open Go.RowKit in
theorem Tryz.strings_IndexByte (s : ByteArray) (c : Int) (w : World) :
  Calls Tryz.prog 187 #[.string s, .int .u8 c] w fun e w' => e = .returned (.int .i64 (Lib.indexByte s.data.toList c.toNat.toUInt8)) ∧ w' = w := Any.strings_IndexByte Tryz.lays137 s c w
open Go.RowKit in
theorem Tryz.Builder_String_any_k (B b : Nat) (l : List UInt8) (w : World) (h : Lib.IsBuilderF 215 5 B b (Lib.byteCells l) w) (hBw : B ≤ w.heap.size) :
  Calls Tryz.prog 104 #[.pointer (some ⟨b, 0, none⟩)] w fun e w' => e = .returned (.string ⟨l.toArray⟩) ∧ (Lib.IsBuilderF 215 5 B b (Lib.byteCells l) w' ∧ Below B w w' ∧ Lib.OthersKept 5 (some b) w w') := Any.Builder_String_any_k Tryz.lays169 Tryz.Builder_Extra_169 B b l w h hBw
def Tryz.laysM171_ren : Go.Shelf.Ren := ⟨fun | 171 => 102 | 243 => 152 | 246 => 172 | 283 => 212 | 284 => 213 | 285 => 214 | 286 => 215 | 129 => 237 | 317 => 269 | 318 => 270 | 319 => 271 | 320 => 272 | 337 => 307 | 338 => 308 | n => n, fun | 3 => 3 | 9 => 9 | 2 => 2 | 4 => 4 | 171 => 342 | 0 => 0 | 53 => 29 | 37 => 49 | 5 => 5 | 173 => 345 | 212 => 390 | 51 => 250 | 20 => 20 | 213 => 391 | 46 => 184 | 232 => 30 | 233 => 440 | n => n, fun | 17 => 1 | 18 => 6 | 19 => 7 | n => n⟩
theorem Tryz.laysM171 : Go.Proofs.LaysM.n171 Tryz.prog Tryz.laysM171_ren := {
 mixed := by kernel_rfl
 f129 := Tryz.func237.trans (congrArg some (by kernel_rfl))
 f171 := Tryz.func102.trans (congrArg some (by kernel_rfl))
 f243 := Tryz.func152.trans (congrArg some (by kernel_rfl))
 f246 := Tryz.func172.trans (congrArg some (by kernel_rfl))
 f283 := Tryz.func212.trans (congrArg some (by kernel_rfl))
 f284 := Tryz.func213.trans (congrArg some (by kernel_rfl))
 f285 := Tryz.func214.trans (congrArg some (by kernel_rfl))
 f286 := Tryz.func215.trans (congrArg some (by kernel_rfl))
 f317 := Tryz.func269.trans (congrArg some (by kernel_rfl))
 f318 := Tryz.func270.trans (congrArg some (by kernel_rfl))
 f319 := Tryz.func271.trans (congrArg some (by kernel_rfl))
 f320 := Tryz.func272.trans (congrArg some (by kernel_rfl))
 f337 := Tryz.func307.trans (congrArg some (by kernel_rfl))
 f338 := Tryz.func308.trans (congrArg some (by kernel_rfl))
 t0 := Tryz.underlying0
 a0 := Tryz.isAgg0
 z0 := Tryz.sizeOf0
 v0 := Tryz.zeroValue0
 t2 := Tryz.underlying2
 a2 := Tryz.isAgg2
 z2 := Tryz.sizeOf2
 v2 := Tryz.zeroValue2
 t3 := Tryz.underlying3
 a3 := Tryz.isAgg3
 z3 := Tryz.sizeOf3
 v3 := Tryz.zeroValue3
 t4 := Tryz.underlying4
 a4 := Tryz.isAgg4
 z4 := Tryz.sizeOf4
 v4 := Tryz.zeroValue4
 t5 := Tryz.underlying5
 a5 := Tryz.isAgg5
 z5 := Tryz.sizeOf5
 v5 := Tryz.zeroValue5
 t9 := Tryz.underlying9
 a9 := Tryz.isAgg9
 z9 := Tryz.sizeOf9
 v9 := Tryz.zeroValue9
 t20 := Tryz.underlying20
 a20 := Tryz.isAgg20
 z20 := Tryz.sizeOf20
 v20 := Tryz.zeroValue20
 t37 := Tryz.underlying49
 a37 := Tryz.isAgg49
 z37 := Tryz.sizeOf49
 v37 := Tryz.zeroValue49
 t46 := Tryz.underlying184
 a46 := Tryz.isAgg184
 z46 := Tryz.sizeOf184
 v46 := Tryz.zeroValue184
 t51 := Tryz.underlying250
 a51 := Tryz.isAgg250
 z51 := Tryz.sizeOf250
 v51 := Tryz.zeroValue250
 t53 := Tryz.underlying29
 a53 := Tryz.isAgg29
 z53 := Tryz.sizeOf29
 v53 := Tryz.zeroValue29
 t171 := Tryz.underlying342
 a171 := Tryz.isAgg342
 z171 := Tryz.sizeOf342
 v171 := Tryz.zeroValue342
 t173 := Tryz.underlying345
 a173 := Tryz.isAgg345
 z173 := Tryz.sizeOf345
 v173 := Tryz.zeroValue345
 t212 := Tryz.underlying390
 a212 := Tryz.isAgg390
 z212 := Tryz.sizeOf390
 v212 := Tryz.zeroValue390
 t213 := Tryz.underlying391
 a213 := Tryz.isAgg391
 z213 := Tryz.sizeOf391
 t232 := Tryz.underlying30
 a232 := Tryz.isAgg30
 z232 := Tryz.sizeOf30
 v232 := Tryz.zeroValue30
 t233 := Tryz.underlying440
 a233 := Tryz.isAgg440
 z233 := Tryz.sizeOf440
 v233 := Tryz.zeroValue440
 g17 := by kernel_rfl
 g18 := by kernel_rfl
 g19 := by kernel_rfl
 i0 := by kernel_rfl
 i2 := by kernel_rfl
 i3 := by kernel_rfl
 i4 := by kernel_rfl
 i5 := by kernel_rfl
 i9 := by kernel_rfl
 i20 := by kernel_rfl
 i37 := by kernel_rfl
 i46 := by kernel_rfl
 i51 := by kernel_rfl
 i53 := by kernel_rfl
 i171 := by kernel_rfl
 i173 := by kernel_rfl
 i212 := by kernel_rfl
 i232 := by kernel_rfl
 i233 := by kernel_rfl
 m17 := by kernel_rfl
 m18 := by kernel_rfl
 m19 := by kernel_rfl }
open Go.RowKit Go.Sort Go.Lib in
theorem Tryz.strconv_Itoa (n : Int) (h0 : -9223372036854775808 ≤ n) (h1 : n ≤ 9223372036854775807) (w : World) (htab : Lib.TabIs Tryz.prog w "internal/strconv.uint64pow10" .u64 Lib.pow10Tab) :
  Calls Tryz.prog 102 #[.int .i64 n] w fun e w' => e = .returned (.string ⟨(Lib.itoa n).toArray⟩) ∧ ∃ k os, w' = grow (w.drewN k) os := Any.strconv_Itoa Tryz.laysM171 n h0 h1 w htab
def Tryz.laysM173_ren : Go.Shelf.Ren := ⟨fun | 173 => 121 | 246 => 172 | 283 => 212 | 284 => 213 | 285 => 214 | 286 => 215 | 129 => 237 | 317 => 269 | 318 => 270 | 319 => 271 | 320 => 272 | 337 => 307 | 338 => 308 | n => n, fun | 2 => 2 | 3 => 3 | 9 => 9 | 4 => 4 | 171 => 342 | 0 => 0 | 53 => 29 | 37 => 49 | 5 => 5 | 173 => 345 | 212 => 390 | 51 => 250 | 20 => 20 | 213 => 391 | 46 => 184 | 232 => 30 | 233 => 440 | n => n, fun | 17 => 1 | 18 => 6 | 19 => 7 | n => n⟩
theorem Tryz.laysM173 : Go.Proofs.LaysM.n173 Tryz.prog Tryz.laysM173_ren := {
 mixed := by kernel_rfl
 f129 := Tryz.func237.trans (congrArg some (by kernel_rfl))
 f173 := Tryz.func121.trans (congrArg some (by kernel_rfl))
 f246 := Tryz.func172.trans (congrArg some (by kernel_rfl))
 f283 := Tryz.func212.trans (congrArg some (by kernel_rfl))
 f284 := Tryz.func213.trans (congrArg some (by kernel_rfl))
 f285 := Tryz.func214.trans (congrArg some (by kernel_rfl))
 f286 := Tryz.func215.trans (congrArg some (by kernel_rfl))
 f317 := Tryz.func269.trans (congrArg some (by kernel_rfl))
 f318 := Tryz.func270.trans (congrArg some (by kernel_rfl))
 f319 := Tryz.func271.trans (congrArg some (by kernel_rfl))
 f320 := Tryz.func272.trans (congrArg some (by kernel_rfl))
 f337 := Tryz.func307.trans (congrArg some (by kernel_rfl))
 f338 := Tryz.func308.trans (congrArg some (by kernel_rfl))
 t0 := Tryz.underlying0
 a0 := Tryz.isAgg0
 z0 := Tryz.sizeOf0
 v0 := Tryz.zeroValue0
 t2 := Tryz.underlying2
 a2 := Tryz.isAgg2
 z2 := Tryz.sizeOf2
 v2 := Tryz.zeroValue2
 t3 := Tryz.underlying3
 a3 := Tryz.isAgg3
 z3 := Tryz.sizeOf3
 v3 := Tryz.zeroValue3
 t4 := Tryz.underlying4
 a4 := Tryz.isAgg4
 z4 := Tryz.sizeOf4
 v4 := Tryz.zeroValue4
 t5 := Tryz.underlying5
 a5 := Tryz.isAgg5
 z5 := Tryz.sizeOf5
 v5 := Tryz.zeroValue5
 t9 := Tryz.underlying9
 a9 := Tryz.isAgg9
 z9 := Tryz.sizeOf9
 v9 := Tryz.zeroValue9
 t20 := Tryz.underlying20
 a20 := Tryz.isAgg20
 z20 := Tryz.sizeOf20
 v20 := Tryz.zeroValue20
 t37 := Tryz.underlying49
 a37 := Tryz.isAgg49
 z37 := Tryz.sizeOf49
 v37 := Tryz.zeroValue49
 t46 := Tryz.underlying184
 a46 := Tryz.isAgg184
 z46 := Tryz.sizeOf184
 v46 := Tryz.zeroValue184
 t51 := Tryz.underlying250
 a51 := Tryz.isAgg250
 z51 := Tryz.sizeOf250
 v51 := Tryz.zeroValue250
 t53 := Tryz.underlying29
 a53 := Tryz.isAgg29
 z53 := Tryz.sizeOf29
 v53 := Tryz.zeroValue29
 t171 := Tryz.underlying342
 a171 := Tryz.isAgg342
 z171 := Tryz.sizeOf342
 v171 := Tryz.zeroValue342
 t173 := Tryz.underlying345
 a173 := Tryz.isAgg345
 z173 := Tryz.sizeOf345
 v173 := Tryz.zeroValue345
 t212 := Tryz.underlying390
 a212 := Tryz.isAgg390
 z212 := Tryz.sizeOf390
 v212 := Tryz.zeroValue390
 t213 := Tryz.underlying391
 a213 := Tryz.isAgg391
 z213 := Tryz.sizeOf391
 t232 := Tryz.underlying30
 a232 := Tryz.isAgg30
 z232 := Tryz.sizeOf30
 v232 := Tryz.zeroValue30
 t233 := Tryz.underlying440
 a233 := Tryz.isAgg440
 z233 := Tryz.sizeOf440
 v233 := Tryz.zeroValue440
 g17 := by kernel_rfl
 g18 := by kernel_rfl
 g19 := by kernel_rfl
 i0 := by kernel_rfl
 i2 := by kernel_rfl
 i3 := by kernel_rfl
 i4 := by kernel_rfl
 i5 := by kernel_rfl
 i9 := by kernel_rfl
 i20 := by kernel_rfl
 i37 := by kernel_rfl
 i46 := by kernel_rfl
 i51 := by kernel_rfl
 i53 := by kernel_rfl
 i171 := by kernel_rfl
 i173 := by kernel_rfl
 i212 := by kernel_rfl
 i232 := by kernel_rfl
 i233 := by kernel_rfl
 m17 := by kernel_rfl
 m18 := by kernel_rfl
 m19 := by kernel_rfl }
open Go.RowKit Go.Sort Go.Lib in
theorem Tryz.strconv_FormatInt_10 (n : Int) (h0 : -9223372036854775808 ≤ n) (h1 : n ≤ 9223372036854775807) (w : World) (htab : Lib.TabIs Tryz.prog w "internal/strconv.uint64pow10" .u64 Lib.pow10Tab) :
  Calls Tryz.prog 121 #[.int .i64 n, .int .i64 10] w fun e w' => e = .returned (.string ⟨(Lib.itoa n).toArray⟩) ∧ ∃ k os, w' = grow (w.drewN k) os := Any.strconv_FormatInt_10 Tryz.laysM173 n h0 h1 w htab
def Tryz.laysC174_ren : Go.Shelf.Ren := ⟨fun | 174 => 176 | 247 => 217 | 245 => 218 | 287 => 273 | 279 => 274 | 280 => 275 | 281 => 276 | 282 => 277 | 321 => 309 | 322 => 310 | 316 => 311 | 171 => 102 | 205 => 312 | 243 => 152 | 246 => 172 | 283 => 212 | 284 => 213 | 285 => 214 | 286 => 215 | 129 => 237 | 317 => 269 | 318 => 270 | 319 => 271 | 320 => 272 | 337 => 307 | 338 => 308 | n => n, fun | 9 => 9 | 3 => 3 | 2 => 2 | 75 => 217 | 85 => 302 | 4 => 4 | 167 => 393 | 5 => 5 | 53 => 29 | 175 => 394 | 46 => 184 | 168 => 396 | 37 => 49 | 0 => 0 | 210 => 422 | 21 => 21 | 127 => 274 | 145 => 443 | 143 => 441 | 171 => 342 | 173 => 345 | 212 => 390 | 51 => 250 | 20 => 20 | 213 => 391 | 232 => 30 | 233 => 440 | 80 => 192 | n => n, fun | 15 => 4 | 16 => 5 | 17 => 1 | 18 => 6 | 19 => 7 | n => n⟩
theorem Tryz.laysC174 : Go.Proofs.LaysC.n174 Tryz.prog Tryz.laysC174_ren := {
 mixed := by kernel_rfl
 f129 := Tryz.func237.trans (congrArg some (by kernel_rfl))
 f171 := Tryz.func102.trans (congrArg some (by kernel_rfl))
 f174 := Tryz.func176.trans (congrArg some (by kernel_rfl))
 f205 := Tryz.func312.trans (congrArg some (by kernel_rfl))
 f243 := Tryz.func152.trans (congrArg some (by kernel_rfl))
 f245 := Tryz.func218.trans (congrArg some (by kernel_rfl))
 f246 := Tryz.func172.trans (congrArg some (by kernel_rfl))
 f247 := Tryz.func217.trans (congrArg some (by kernel_rfl))
 f279 := Tryz.func274.trans (congrArg some (by kernel_rfl))
 f280 := Tryz.func275.trans (congrArg some (by kernel_rfl))
 f281 := Tryz.func276.trans (congrArg some (by kernel_rfl))
 f282 := Tryz.func277.trans (congrArg some (by kernel_rfl))
 f283 := Tryz.func212.trans (congrArg some (by kernel_rfl))
 f284 := Tryz.func213.trans (congrArg some (by kernel_rfl))
 f285 := Tryz.func214.trans (congrArg some (by kernel_rfl))
 f286 := Tryz.func215.trans (congrArg some (by kernel_rfl))
 f287 := Tryz.func273.trans (congrArg some (by kernel_rfl))
 f316 := Tryz.func311.trans (congrArg some (by kernel_rfl))
 f317 := Tryz.func269.trans (congrArg some (by kernel_rfl))
 f318 := Tryz.func270.trans (congrArg some (by kernel_rfl))
 f319 := Tryz.func271.trans (congrArg some (by kernel_rfl))
 f320 := Tryz.func272.trans (congrArg some (by kernel_rfl))
 f321 := Tryz.func309.trans (congrArg some (by kernel_rfl))
 f322 := Tryz.func310.trans (congrArg some (by kernel_rfl))
 f337 := Tryz.func307.trans (congrArg some (by kernel_rfl))
 f338 := Tryz.func308.trans (congrArg some (by kernel_rfl))
 t0 := Tryz.underlying0
 a0 := Tryz.isAgg0
 z0 := Tryz.sizeOf0
 v0 := Tryz.zeroValue0
 t2 := Tryz.underlying2
 a2 := Tryz.isAgg2
 z2 := Tryz.sizeOf2
 v2 := Tryz.zeroValue2
 t3 := Tryz.underlying3
 a3 := Tryz.isAgg3
 z3 := Tryz.sizeOf3
 v3 := Tryz.zeroValue3
 t4 := Tryz.underlying4
 a4 := Tryz.isAgg4
 z4 := Tryz.sizeOf4
 v4 := Tryz.zeroValue4
 t5 := Tryz.underlying5
 a5 := Tryz.isAgg5
 z5 := Tryz.sizeOf5
 v5 := Tryz.zeroValue5
 t9 := Tryz.underlying9
 a9 := Tryz.isAgg9
 z9 := Tryz.sizeOf9
 v9 := Tryz.zeroValue9
 t20 := Tryz.underlying20
 a20 := Tryz.isAgg20
 z20 := Tryz.sizeOf20
 v20 := Tryz.zeroValue20
 t21 := Tryz.underlying21
 a21 := Tryz.isAgg21
 z21 := Tryz.sizeOf21
 v21 := Tryz.zeroValue21
 t37 := Tryz.underlying49
 a37 := Tryz.isAgg49
 z37 := Tryz.sizeOf49
 v37 := Tryz.zeroValue49
 t46 := Tryz.underlying184
 a46 := Tryz.isAgg184
 z46 := Tryz.sizeOf184
 v46 := Tryz.zeroValue184
 t51 := Tryz.underlying250
 a51 := Tryz.isAgg250
 z51 := Tryz.sizeOf250
 v51 := Tryz.zeroValue250
 t53 := Tryz.underlying29
 a53 := Tryz.isAgg29
 z53 := Tryz.sizeOf29
 v53 := Tryz.zeroValue29
 t75 := Tryz.underlying217
 a75 := Tryz.isAgg217
 z75 := Tryz.sizeOf217
 v75 := Tryz.zeroValue217
 t85 := Tryz.underlying302
 a85 := Tryz.isAgg302
 z85 := Tryz.sizeOf302
 v85 := Tryz.zeroValue302
 t127 := Tryz.underlying274
 a127 := Tryz.isAgg274
 z127 := Tryz.sizeOf274
 v127 := Tryz.zeroValue274
 t143 := Tryz.underlying441
 a143 := Tryz.isAgg441
 z143 := Tryz.sizeOf441
 v143 := Tryz.zeroValue441
 t145 := Tryz.underlying443
 a145 := Tryz.isAgg443
 z145 := Tryz.sizeOf443
 v145 := Tryz.zeroValue443
 t167 := Tryz.underlying393
 a167 := Tryz.isAgg393
 z167 := Tryz.sizeOf393
 v167 := Tryz.zeroValue393
 t168 := Tryz.underlying396
 a168 := Tryz.isAgg396
 z168 := Tryz.sizeOf396
 v168 := Tryz.zeroValue396
 t171 := Tryz.underlying342
 a171 := Tryz.isAgg342
 z171 := Tryz.sizeOf342
 v171 := Tryz.zeroValue342
 t173 := Tryz.underlying345
 a173 := Tryz.isAgg345
 z173 := Tryz.sizeOf345
 v173 := Tryz.zeroValue345
 t175 := Tryz.underlying394
 a175 := Tryz.isAgg394
 z175 := Tryz.sizeOf394
 v175 := Tryz.zeroValue394
 t210 := Tryz.underlying422
 a210 := Tryz.isAgg422
 z210 := Tryz.sizeOf422
 v210 := Tryz.zeroValue422
 t212 := Tryz.underlying390
 a212 := Tryz.isAgg390
 z212 := Tryz.sizeOf390
 v212 := Tryz.zeroValue390
 t213 := Tryz.underlying391
 a213 := Tryz.isAgg391
 z213 := Tryz.sizeOf391
 t232 := Tryz.underlying30
 a232 := Tryz.isAgg30
 z232 := Tryz.sizeOf30
 v232 := Tryz.zeroValue30
 t233 := Tryz.underlying440
 a233 := Tryz.isAgg440
 z233 := Tryz.sizeOf440
 v233 := Tryz.zeroValue440
 g15 := by kernel_rfl
 g16 := by kernel_rfl
 g17 := by kernel_rfl
 g18 := by kernel_rfl
 g19 := by kernel_rfl
 t80 := Tryz.underlying192
 a80 := Tryz.isAgg192
 z80 := Tryz.sizeOf192
 v80 := Tryz.zeroValue192
 i0 := by kernel_rfl
 i2 := by kernel_rfl
 i3 := by kernel_rfl
 i4 := by kernel_rfl
 i5 := by kernel_rfl
 i9 := by kernel_rfl
 i20 := by kernel_rfl
 i21 := by kernel_rfl
 i37 := by kernel_rfl
 i46 := by kernel_rfl
 i51 := by kernel_rfl
 i53 := by kernel_rfl
 i75 := by kernel_rfl
 i80 := by kernel_rfl
 i85 := by kernel_rfl
 i127 := by kernel_rfl
 i143 := by kernel_rfl
 i145 := by kernel_rfl
 i167 := by kernel_rfl
 i168 := by kernel_rfl
 i171 := by kernel_rfl
 i173 := by kernel_rfl
 i175 := by kernel_rfl
 i210 := by kernel_rfl
 i212 := by kernel_rfl
 i232 := by kernel_rfl
 i233 := by kernel_rfl
 m15 := by kernel_rfl
 m16 := by kernel_rfl
 m17 := by kernel_rfl
 m18 := by kernel_rfl
 m19 := by kernel_rfl
 c0 := by kernel_rfl
 c2 := by kernel_rfl
 c3 := by kernel_rfl
 c4 := by kernel_rfl
 c5 := by kernel_rfl
 c9 := by kernel_rfl
 c20 := by kernel_rfl
 c21 := by kernel_rfl
 c37 := by kernel_rfl
 c46 := by kernel_rfl
 c51 := by kernel_rfl
 c53 := by kernel_rfl
 c75 := by kernel_rfl
 c80 := by kernel_rfl
 c85 := by kernel_rfl
 c127 := by kernel_rfl
 c143 := by kernel_rfl
 c145 := by kernel_rfl
 c167 := by kernel_rfl
 c168 := by kernel_rfl
 c171 := by kernel_rfl
 c173 := by kernel_rfl
 c175 := by kernel_rfl
 c210 := by kernel_rfl
 c212 := by kernel_rfl
 c213 := by kernel_rfl
 c232 := by kernel_rfl
 c233 := by kernel_rfl }
open Go.RowKit in
theorem Tryz.strconv_ParseInt_10_at64_ok (s : ByteArray) (hmax : s.size ≤ 9223372036854775806) (v : Int) (h : Lib.parseIntB 64 s.data.toList = .ok v) (w : World) :
  Calls Tryz.prog 176 #[.string s, .int .i64 10, .int .i64 64] w fun e w' => e = .returned (.tuple #[.int .i64 v, .nilIface]) ∧ (w' = w ∨ ∃ t, w' = Lib.bytesWorld w 5 t) := Any.strconv_ParseInt_10_at64_ok Tryz.laysC174 s hmax v h w
def Tryz.lays143_ren : Go.Shelf.Ren := ⟨fun | 143 => 185 | 219 => 224 | 217 => 226 | 225 => 284 | 224 => 285 | 267 => 286 | 266 => 287 | 314 => 318 | n => n, fun | 9 => 9 | 3 => 3 | 4 => 4 | 5 => 5 | 46 => 184 | 146 => 426 | 51 => 250 | n => n, fun | 1 => 0 | n => n⟩
theorem Tryz.lays143 : Go.Proofs.Lays.n143 Tryz.prog Tryz.lays143_ren := {
 mixed := by kernel_rfl
 f143 := Tryz.func185.trans (congrArg some (by kernel_rfl))
 f217 := Tryz.func226.trans (congrArg some (by kernel_rfl))
 f219 := Tryz.func224.trans (congrArg some (by kernel_rfl))
 f224 := Tryz.func285.trans (congrArg some (by kernel_rfl))
 f225 := Tryz.func284.trans (congrArg some (by kernel_rfl))
 f266 := Tryz.func287.trans (congrArg some (by kernel_rfl))
 f267 := Tryz.func286.trans (congrArg some (by kernel_rfl))
 f314 := Tryz.func318.trans (congrArg some (by kernel_rfl))
 t3 := Tryz.underlying3
 a3 := Tryz.isAgg3
 z3 := Tryz.sizeOf3
 v3 := Tryz.zeroValue3
 t4 := Tryz.underlying4
 a4 := Tryz.isAgg4
 z4 := Tryz.sizeOf4
 v4 := Tryz.zeroValue4
 t5 := Tryz.underlying5
 a5 := Tryz.isAgg5
 z5 := Tryz.sizeOf5
 v5 := Tryz.zeroValue5
 t9 := Tryz.underlying9
 a9 := Tryz.isAgg9
 z9 := Tryz.sizeOf9
 v9 := Tryz.zeroValue9
 t46 := Tryz.underlying184
 a46 := Tryz.isAgg184
 z46 := Tryz.sizeOf184
 v46 := Tryz.zeroValue184
 t51 := Tryz.underlying250
 a51 := Tryz.isAgg250
 z51 := Tryz.sizeOf250
 v51 := Tryz.zeroValue250
 t146 := Tryz.underlying426
 a146 := Tryz.isAgg426
 z146 := Tryz.sizeOf426
 v146 := Tryz.zeroValue426
 g1 := by kernel_rfl }
open Go.RowKit Go.Lib in
theorem Tryz.strings_Index_one (s : ByteArray) (c : UInt8) (w : World) :
  Calls Tryz.prog 185 #[.string s, .string ⟨#[c]⟩] w fun e w' => e = .returned (.int .i64 (Lib.indexByte s.data.toList c)) ∧ w' = w := Any.strings_Index_one Tryz.lays143 s c w
def Tryz.laysGw17_ren : Go.Shelf.Ren := ⟨fun | 17 => 143 | 15 => 186 | 20 => 225 | n => n, fun | 9 => 9 | 23 => 271 | 4 => 4 | 3 => 3 | 0 => 0 | 21 => 21 | n => n, fun | n => n⟩
theorem Tryz.laysGw17 : Go.Proofs.LaysGw.n17 Tryz.prog Tryz.laysGw17_ren := {
 mixed := by kernel_rfl
 f15 := Tryz.func186.trans (congrArg some (by kernel_rfl))
 f17 := Tryz.func143.trans (congrArg some (by kernel_rfl))
 f20 := Tryz.func225.trans (congrArg some (by kernel_rfl))
 t0 := Tryz.underlying0
 a0 := Tryz.isAgg0
 z0 := Tryz.sizeOf0
 v0 := Tryz.zeroValue0
 i0 := by kernel_rfl
 t3 := Tryz.underlying3
 a3 := Tryz.isAgg3
 z3 := Tryz.sizeOf3
 v3 := Tryz.zeroValue3
 i3 := by kernel_rfl
 t4 := Tryz.underlying4
 a4 := Tryz.isAgg4
 z4 := Tryz.sizeOf4
 v4 := Tryz.zeroValue4
 i4 := by kernel_rfl
 t9 := Tryz.underlying9
 a9 := Tryz.isAgg9
 z9 := Tryz.sizeOf9
 v9 := Tryz.zeroValue9
 i9 := by kernel_rfl
 t21 := Tryz.underlying21
 a21 := Tryz.isAgg21
 z21 := Tryz.sizeOf21
 v21 := Tryz.zeroValue21
 i21 := by kernel_rfl
 t23 := Tryz.underlying271
 a23 := Tryz.isAgg271
 z23 := Tryz.sizeOf271
 v23 := Tryz.zeroValue271
 i23 := by kernel_rfl }
def Tryz.lays99_ren : Go.Shelf.Ren := ⟨fun | 99 => 131 | 206 => 177 | n => n, fun | 9 => 9 | 4 => 4 | 3 => 3 | n => n, fun | n => n⟩
theorem Tryz.lays99 : Go.Proofs.Lays.n99 Tryz.prog Tryz.lays99_ren := {
 mixed := by kernel_rfl
 f99 := Tryz.func131.trans (congrArg some (by kernel_rfl))
 f206 := Tryz.func177.trans (congrArg some (by kernel_rfl))
 t3 := Tryz.underlying3
 a3 := Tryz.isAgg3
 z3 := Tryz.sizeOf3
 v3 := Tryz.zeroValue3
 t4 := Tryz.underlying4
 a4 := Tryz.isAgg4
 z4 := Tryz.sizeOf4
 v4 := Tryz.zeroValue4
 t9 := Tryz.underlying9
 a9 := Tryz.isAgg9
 z9 := Tryz.sizeOf9
 v9 := Tryz.zeroValue9 }
open Go.RowKit Go.Lib in
theorem Tryz.strings_HasPrefix (s p : ByteArray) (w : World) :
  Calls Tryz.prog 131 #[.string s, .string p] w fun e w' => e = .returned (.bool (Lib.hasPrefix s.data.toList p.data.toList)) ∧ w' = w := Any.strings_HasPrefix Tryz.lays99 s p w
open Go.RowKit Go.Lib in
theorem Tryz.strings_ContainsFunc_grows (g : Nat) (lb : Array Value) (eg : ∀ args w, (callFunc g args).run Tryz.prog w = .ok (.enter g args) w) (p : Nat → Bool) (s : ByteArray) (w : World) (hp : PredGrows Tryz.prog g lb p w) :
  Calls Tryz.prog 143 #[.string s, .func (.func g) #[] lb] w fun e w' => e = .returned (.bool (decide (0 ≤ Lib.idxFunc p true s))) ∧ Below w.heap.size w w' := Any.strings_ContainsFunc_grows Tryz.laysGw17 g lb eg p s w hp
end Go.Proofs
namespace Go.Proofs.YtlbipokkdiiaiaaGreatDoor
open Go.RowKit
theorem idx4' : ∀ c : Fin 128, decide (0 ≤ Lib.indexByte [95, 46, 45, 43] (UInt8.ofNat c.1)) = (c.1 == 95 || c.1 == 46 || c.1 == 45 || c.1 == 43) := by decide
theorem idx4 (c : Nat) (h : c < 128) : decide (0 ≤ Lib.indexByte [95, 46, 45, 43] (UInt8.ofNat c)) = (c == 95 || c == 46 || c == 45 || c == 43) := idx4' ⟨c, h⟩
set_option maxHeartbeats 400000 in
set_option maxRecDepth 100000 in
theorem sign_any (c : Nat) (hc : c ≤ 1114111) (w : World) : Calls Tryz.prog 145 #[.int .i32 c] w fun e w' => e = .returned (.bool (signN c)) ∧ w = w' := by
 go_enter Tryz.func145, Tryz.ntmps145
 go_wp2_with (go_at_call 187; refine (Tryz.strings_IndexByte _ _ _).mono ?_; rintro e w' ⟨rfl, rfl⟩)
 all_goals
  go_ret
  refine ⟨congrArg (fun x => Ending.returned (Value.bool x)) ?_, rfl⟩
  first
   | (have h4 := idx4 c (by omega)
      rw [h4, Bool.eq_iff_iff]
      simp only [signN, Bool.or_eq_true, Bool.and_eq_true, decide_eq_true_eq, beq_iff_eq]
      omega)
   | (rw [Bool.eq_iff_iff]
      simp only [signN, Bool.or_eq_true, Bool.and_eq_true, decide_eq_true_eq, beq_iff_eq]
      omega)
   | (symm
      simp only [signN, Bool.or_eq_true, Bool.and_eq_true, decide_eq_true_eq, beq_iff_eq]
      omega)
   | go_goals
theorem sign_is (c : Nat) (hc : c ≤ 1114111) (b : Bool) (h : signN c = b) (w : World) : Calls Tryz.prog 145 #[.int .i32 c] w fun e w' => e = .returned (.bool b) ∧ w = w' := by
 subst h; exact sign_any c hc w
set_option maxHeartbeats 400000 in
theorem notSign_any (c : Nat) (hc : c ≤ 1114111) (w : World) : Calls Tryz.prog 144 #[.int .i32 c] w fun e w' => e = .returned (.bool (!signN c)) ∧ w = w' := by
 obtain ⟨b, hb⟩ : ∃ b, signN c = b := ⟨_, rfl⟩
 have Hb := hid hb; clear hb
 rw [Hb.out]
 go_enter Tryz.func144, Tryz.ntmps144
 go_wp2_with (go_at_call 145; refine (sign_is c hc b Hb.out _).mono ?_; rintro e w' ⟨rfl, rfl⟩)
 go_ret
 exact ⟨rfl, rfl⟩
theorem notSign_pred (w : World) : Go.Proofs.PredGrows Tryz.prog 144 #[] (fun x => !signN x) w := by
 intro W x hx _
 exact (notSign_any x hx W).mono fun _ _ ⟨h, h2⟩ => ⟨h, h2 ▸ Below.refl _ _⟩
set_option maxHeartbeats 400000 in
theorem part_any (l : List UInt8) (w : World) : Calls Tryz.prog 95 #[.string (bs l)] w fun e w' => e = .returned (.bool (partB l)) ∧ Below w.heap.size w w' := by
 have eg : ∀ args w, (callFunc 144 args).run Tryz.prog w = .ok (.enter 144 args) w := enters_of Tryz.func144 (by kernel_rfl) rfl
 have hcon := Tryz.strings_ContainsFunc_grows 144 #[] eg (fun x => !signN x) (bs l)
 rw [contains_sign l] at hcon
 obtain ⟨b, hb⟩ : ∃ b, (l.all fun b => signN b.toNat) = b := ⟨_, rfl⟩
 rw [hb] at hcon
 have Hb := hid hb; clear hb
 have Hcon := hid hcon; clear hcon
 have hE : (l.isEmpty) = decide (l = []) := by cases l <;> simp
 have Hp : Hid (partB l = (!decide (l = []) && decide (l.length ≤ 64) && !(l == [46]) && !(l == [46, 46]) && b)) := by
  apply hid; rw [partB, hE, Hb.out]
 clear hE
 by_cases h0 : l = []
 ·subst h0
  go_enter Tryz.func95, Tryz.ntmps95
  go_wp2_with fail
  go_ret
  exact ⟨rfl, Below.refl _ _⟩
 ·have h0' : l.isEmpty = false := by simpa using h0
  by_cases h64 : l.length ≤ 64
  ·have H0 := hid h0; clear h0
   rcases Bool.eq_false_or_eq_true (l == [46]) with h1 | h1
   ·go_enter Tryz.func95, Tryz.ntmps95
    go_wp2_with fail
    go_ret
    exact ⟨by rw [Hp.out, h1]; simp, Below.refl _ _⟩
   ·rcases Bool.eq_false_or_eq_true (l == [46, 46]) with h2 | h2
    ·go_enter Tryz.func95, Tryz.ntmps95
     go_wp2_with fail
     go_ret
     exact ⟨by rw [Hp.out, h1, h2]; simp, Below.refl _ _⟩
    ·go_enter Tryz.func95, Tryz.ntmps95
     go_wp2_with fail
     refine (Hcon.out w (notSign_pred w)).mono ?_
     rintro e w1 ⟨rfl, hb1⟩
     go_wp2_with fail
     go_ret
     exact ⟨by rw [Hp.out, h1, h2, decide_eq_false H0.out, decide_eq_true h64]; simp, hb1⟩
  ·go_enter Tryz.func95, Tryz.ntmps95
   go_wp2_with fail
   go_ret
   exact ⟨by rw [Hp.out, decide_eq_false h64]; simp, Below.refl _ _⟩
theorem part_is (l : List UInt8) (b : Bool) (h : partB l = b) (w : World) : Calls Tryz.prog 95 #[.string (bs l)] w fun e w' => e = .returned (.bool b) ∧ Below w.heap.size w w' := by
 subst h; exact part_any l w
end Go.Proofs.YtlbipokkdiiaiaaGreatDoor
