/- A range over a function whose iterator keeps its state in a captured cell (strings.SplitSeq): the law for the statement. Turned from the worked laws on iterators that read memory (RangeFuncFrom): here the loop's own invariant abides a store into the one block that is the iterator's state. -/
import Derived.Test.YtilkneajohpgiaaDoorBase
import Derived.RangeFuncNested
import Derived.RangeFuncBound
import Derived.RangeFuncCalls
import Derived.RangeFuncLeaves
import Derived.RangeFuncFrom
import Derived.Shelf.Abstract
import Derived.Shelf.RegionOpen
import Derived.OwnWalkIn
import Derived.TacticsInMore
import Derived.LoopNIn
import Derived.LoopIn
namespace Go.Proofs.YtilkneajohpgiaaDoor
open Go.RowKit

variable {F : Fence} {n : Nat} {P : Program}

/-- The blocks from lo up to hi stand as they stood. -/
structure KeepsBlk (lo hi : Nat) (W W' : World) : Prop where
  size : W.heap.size ≤ W'.heap.size
  block : ∀ k, lo ≤ k → k < hi → W'.heap[k]? = W.heap[k]?
theorem KeepsBlk.refl (lo hi : Nat) (W : World) : KeepsBlk lo hi W W := ⟨Nat.le_refl _, fun _ _ _ => rfl⟩
theorem KeepsBlk.trans {lo hi : Nat} {A B C : World} (h : KeepsBlk lo hi A B) (k : KeepsBlk lo hi B C) : KeepsBlk lo hi A C :=
  ⟨Nat.le_trans h.size k.size, fun i a b => (k.block i a b).trans (h.block i a b)⟩
theorem KeepsBlk.below {lo hi B : Nat} {W W' : World} (h : Below B W W') (hB : hi ≤ B) : KeepsBlk lo hi W W' := ⟨h.size, fun k _ hk => h.block k (by omega)⟩
theorem KeepsBlk.setCell {lo hi : Nat} (W : World) (a : Addr) (v : Value) (h : a.block < lo ∨ hi ≤ a.block) : KeepsBlk lo hi W (W.setCell a v) :=
  ⟨by simp [World.setCell], fun k h1 h2 => Below.heap_setCell W a v k (by omega)⟩
theorem KeepsBlk.putObj {lo hi : Nat} (W : World) (l : Nat) (o : Obj) (h : hi ≤ l) : KeepsBlk lo hi W (W.putObj l o) :=
  ⟨by simp, fun _ _ h2 => World.putObj_heap_other (by omega)⟩
theorem KeepsBlk.cell {lo hi : Nat} {W W' : World} (h : KeepsBlk lo hi W W') {p : Addr} (h1 : lo ≤ p.block) (h2 : p.block < hi) : W'.cell? p = W.cell? p := World.cell?_of_block (w := W) (h.block _ h1 h2)
theorem KeepsBlk.frozen {lo hi : Nat} {W W' : World} (h : KeepsBlk lo hi W W') {p : Addr} (h1 : lo ≤ p.block) (h2 : p.block < hi) : W'.frozen? p = W.frozen? p := World.frozen?_of_block (w := W) (h.block _ h1 h2)
theorem keepsOthers_of_below {W W' : World} (h : Below W.heap.size W W') : KeepsOthers W W' :=
  ⟨h.size, fun k _ hk _ => (h.block k (Array.getElem?_eq_some_iff.1 hk).1).trans hk⟩

/-- what is said abides a store into block b. -/
def AbidesAt {β : Type} (b : Nat) (J : β → World → Prop) : Prop := ∀ s W v, J s W → J s (W.setCell ⟨b, 0, none⟩ v)

/-- THE ITERATOR's WORD: its state lies in block b. -/
def SeqSt {α : Type} (F : Fence) (n : Nat) (P : Program) (g : Nat) (lb : Array Value) (encs : α → Array Value) (Kp : World → World → Prop) (b : Nat) (S Sp : List α → Prop) (w : World) : Prop :=
  ∀ (l : Nat) (J Jx : List α → World → Prop) (W : World), Kp w W → AbidesFrom W.heap.size J → AbidesFrom W.heap.size Jx → AbidesAt b J → AbidesAt b Jx →
    (∀ pre x W1, J pre W1 → YieldAt F (n - 1) P l (encs x) W1 fun e W' =>
      (e = .returned (.bool true) ∧ J (pre ++ [x]) W' ∧ Kp W1 W') ∨ (e = .returned (.bool false) ∧ Jx (pre ++ [x]) W')) →
    J [] W →
    CallsIn F n P g (#[.func (.yield l) #[] #[]] ++ lb) W fun e W' => (∃ v, e = .returned v) ∧ ((∃ xs, S xs ∧ J xs W') ∨ (∃ pre, Sp pre ∧ Jx pre W'))

theorem wpIn_rangeFunc_st {α : Type} {g : Operand} {ps : Array Tmp} {assign body : Code} {Q : Exit → Act → World → Prop} {a : Act} {w : World}
    (hro : F.round = none) (h1 : 1 ≤ n) {gf : Nat} {lb : Array Value} (hg : a.eval g = .func (.func gf) #[] lb) (hFg : F.fn gf) (eg : ∀ args w, (callFunc gf args).run P w = .ok (.enter gf args) w)
    {encs : α → Array Value} {lo hi b : Nat} {S Sp : List α → Prop} (hseq : SeqSt F (n - 1) P gf lb encs (KeepsBlk lo hi) b S Sp w)
    (hhi : hi ≤ w.heap.size) (hb : b < w.heap.size) (hps : ∀ x, (encs x).size = ps.size)
    (I : List α → World → Prop) (Ix : Code → List α → World → Prop) (hI : OwnFrom w.heap.size I) (hIx : ∀ c, OwnFrom w.heap.size (Ix c)) (hIb : AbidesAt b I) (hIxb : ∀ c, AbidesAt b (Ix c)) (h0 : I [] w) (a₁ : α → Act)
    (hassign : ∀ (l : Nat) (x : α) (W : World) (K : Act → World → Prop), K (a₁ x) W →
      assign.wpIn (F.inRound l) (n - 1 - 1) P (Exit.then K (fun _ _ _ => False)) { tmps := (ps.zip (encs x)).foldl (fun t (p, v) => t.setIfInBounds p v) a.tmps, defers := [] } W)
    (hbody : ∀ (l : Nat) (pre : List α) (x : α) (W : World), I pre W → body.wpIn (F.inRound l) (n - 1 - 1) P (ownPostK (KeepsBlk lo hi) I Ix (pre ++ [x]) W) (a₁ x) W)
    (hdone : ∀ (D : Nat) (xs : List α) (W : World), w.heap.size ≤ D → S xs → I xs W → W.heap[D]? = some (.deferred (some [])) → Q .normal { a with defers := { target := .collected D, args := #[] } :: a.defers } W)
    (hstop : ∀ (D : Nat) (c : Code) (pre : List α) (W : World), w.heap.size ≤ D → Sp pre → Ix c pre W → W.heap[D]? = some (.deferred (some [])) → c.wpIn F n P Q { a with defers := { target := .collected D, args := #[] } :: a.defers } W) :
    (Code.rangeFunc g ps assign body).wpIn F n P Q a w := by
  refine wpIn_rangeFunc fun fn hfn => ?_
  rw [hro]
  -- the loop's record, in its states; the world behind the statement's own two blocks
  obtain ⟨rec, hrec⟩ : ∃ rec : LoopState → Option Code → Loop, rec = fun st pe => { state := st, pending := pe, fn, tmps := a.tmps, params := ps, assign, body, defers := w.heap.size } := ⟨_, rfl⟩
  obtain ⟨W1, hW1⟩ : ∃ W1, (w.alloc (.deferred (some []))).alloc (.loop (rec .ready none)) = W1 := ⟨_, rfl⟩
  have hbelow : Below w.heap.size w W1 := by rw [← hW1]; exact ((Below.refl _ w).alloc (Nat.le_refl _) _).alloc (by simp) _
  have hL1 : W1.heap[w.heap.size + 1]? = some (.loop (rec .ready none)) := by
    have := World.alloc_heap_new (w.alloc (.deferred (some []))) (.loop (rec .ready none))
    rw [World.size_alloc] at this
    rw [← hW1]; exact this
  have hD1 : W1.heap[w.heap.size]? = some (.deferred (some [])) := by
    rw [← hW1]; exact (Below.heap_alloc _ _ _ (by simp)).trans (World.alloc_heap_new w _)
  have hI1 : I [] W1 := by rw [← hW1]; exact hI.alloc _ (hI.alloc _ h0)
  have hsize1 : w.heap.size + 2 ≤ W1.heap.size := by rw [← hW1]; simp
  refine ⟨w.heap.size + 1, [{ target := .collected w.heap.size, args := #[] }], W1, { target := .fn (.func gf) lb, args := #[.func (.yield (w.heap.size + 1)) #[] #[]] }, W1, gf,
    #[.func (.yield (w.heap.size + 1)) #[] #[]] ++ lb, W1, ?_, ?_, ?_, ?_, fun _ => h1, ?_⟩
  · rw [← hW1, hrec]; exact run_enterLoop_outer _ _ _ _ _
  · simp only [resolve, hg]; simp [go_sem]
  · intro f' hf'; simp [Target.leads] at hf'; subst hf'; exact hFg
  · simp [invoke, go_sem, eg]
  have far : ∀ {A : World} {row : Option Nat}, (∀ r, row = some r → W1.heap.size ≤ r ∧ ∃ o : Obj, A.heap[r]? = some o ∧ o.isWalk = true) → ∀ r, row = some r → w.heap.size ≤ r ∧ ∃ o : Obj, A.heap[r]? = some o ∧ o.isCells = false :=
    fun hr r e => by obtain ⟨hB, o, ho, hw⟩ := hr r e; exact ⟨by omega, o, ho, Obj.not_cells_of_walk hw⟩
  have kept : ∀ {A B : World} {row : Option Nat} {k : Nat} {o : Obj}, A.grownBy B row → (∀ r, row = some r → W1.heap.size ≤ r ∧ ∃ o : Obj, A.heap[r]? = some o ∧ o.isWalk = true) → A.heap[k]? = some o → o.isWalk = false → B.heap[k]? = some o :=
    fun hg' hr hk ho => (grownBy_keeps hg' (fun r e => (hr r e).2) hk ho).trans hk
  have put : ∀ (W : World) (l : Nat) (o' : Obj), w.heap.size ≤ l → KeepsBlk lo hi W (W.putObj l o') := fun W l o' hl => KeepsBlk.putObj W l o' (by omega)
  refine (hseq (w.heap.size + 1)
    (fun pre W => I pre W ∧ W.heap[w.heap.size + 1]? = some (.loop (rec .ready none)) ∧ W.heap[w.heap.size]? = some (.deferred (some [])))
    (fun pre W => ∃ c, Ix c pre W ∧ W.heap[w.heap.size + 1]? = some (.loop (rec .done (some c))) ∧ W.heap[w.heap.size]? = some (.deferred (some [])))
    W1 (KeepsBlk.below hbelow hhi)
    (fun s A B row hs hg' hr => ⟨hI s A B row hs.1 hg' (far hr), kept hg' hr hs.2.1 rfl, kept hg' hr hs.2.2 rfl⟩)
    (fun s A B row hs hg' hr => by obtain ⟨c, hc, hl, hk⟩ := hs; exact ⟨c, hIx c s A B row hc hg' (far hr), kept hg' hr hl rfl, kept hg' hr hk rfl⟩)
    (fun s W v hs => ⟨hIb s W v hs.1, (Below.heap_setCell W _ v _ (by show _ ≠ b; omega)).trans hs.2.1, (Below.heap_setCell W _ v _ (by show _ ≠ b; omega)).trans hs.2.2⟩)
    (fun s W v hs => by obtain ⟨c, hc, hl, hk⟩ := hs; exact ⟨c, hIxb c s W v hc, (Below.heap_setCell W _ v _ (by show _ ≠ b; omega)).trans hl, (Below.heap_setCell W _ v _ (by show _ ≠ b; omega)).trans hk⟩)
    ?_ ⟨hI1, hL1, hD1⟩).mono ?_
  · -- one round
    rintro pre x W ⟨hi', hl, hk⟩
    have hlt : w.heap.size + 1 < W.heap.size := (Array.getElem?_eq_some_iff.1 hl).1
    have hy := run_yield (P := P) (args := encs x) hl (by rw [hrec]; exact hps x)
    rw [hrec] at hy
    refine ⟨fn, _, assign, body, hy, roundIn_of_wpIn hfn (hassign _ x W _ ⟨_, run_beginRound hl (by rw [hrec]), ?_⟩)⟩
    have hl2 : (W.putObj (w.heap.size + 1) (.loop { rec .ready none with state := .busy })).heap[w.heap.size + 1]? = some (.loop { rec .ready none with state := .busy }) := World.putObj_heap_same hlt
    have hk2 : (W.putObj (w.heap.size + 1) (.loop { rec .ready none with state := .busy })).heap[w.heap.size]? = some (.deferred (some [])) := (World.putObj_heap_other (by omega)).trans hk
    refine wpIn_mono (hbody _ pre x _ (hI.putObj _ hi' (by omega) hl rfl)) ?_
    -- how a round's end is booked
    have fin : ∀ (jump : Option Code) (W3 : World), KeepsOthers (W.putObj (w.heap.size + 1) (.loop { rec .ready none with state := .busy })) W3 →
        (Instr.endRound (w.heap.size + 1) jump).run P W3 = .ok (.bool jump.isNone) (W3.putObj (w.heap.size + 1) (.loop (rec (if jump.isNone then .ready else .done) jump))) ∧
        W3.heap[w.heap.size + 1]? = some (.loop { rec .ready none with state := .busy }) ∧
        (W3.putObj (w.heap.size + 1) (.loop (rec (if jump.isNone then .ready else .done) jump))).heap[w.heap.size + 1]? = some (.loop (rec (if jump.isNone then .ready else .done) jump)) ∧
        (W3.putObj (w.heap.size + 1) (.loop (rec (if jump.isNone then .ready else .done) jump))).heap[w.heap.size]? = some (.deferred (some [])) := by
      intro jump W3 hk3
      have hl3 := hk3.same _ _ hl2 rfl
      have hend := run_endRound (P := P) jump hl3
      rw [hrec] at hend ⊢
      exact ⟨hend, by rw [hrec] at hl3; exact hl3, World.putObj_heap_same (Array.getElem?_eq_some_iff.1 hl3).1, (World.putObj_heap_other (by omega)).trans (hk3.same _ _ hk2 rfl)⟩
    have leave : ∀ (c : Code) (W3 : World), KeepsOthers (W.putObj (w.heap.size + 1) (.loop { rec .ready none with state := .busy })) W3 → Ix c (pre ++ [x]) W3 →
        (Instr.endRound (w.heap.size + 1) (some c)).run P W3 = .ok (.bool false) (W3.putObj (w.heap.size + 1) (.loop (rec .done (some c)))) ∧
        (∃ c', Ix c' (pre ++ [x]) (W3.putObj (w.heap.size + 1) (.loop (rec .done (some c)))) ∧ (W3.putObj (w.heap.size + 1) (.loop (rec .done (some c)))).heap[w.heap.size + 1]? = some (.loop (rec .done (some c'))) ∧
          (W3.putObj (w.heap.size + 1) (.loop (rec .done (some c)))).heap[w.heap.size]? = some (.deferred (some []))) := by
      intro c W3 hk3 hx3
      obtain ⟨hr, hl3, hl4, hk4⟩ := fin (some c) W3 hk3
      exact ⟨hr, c, (hIx c).putObj _ hx3 (by omega) hl3 rfl, hl4, hk4⟩
    rintro e a3 W3 hp
    cases e with
    | normal =>
      obtain ⟨hk3, hkp3, hi3⟩ := hp
      obtain ⟨hr, hl3, hl4, hk4⟩ := fin none W3 hk3
      exact ⟨_, _, hr, .inl ⟨rfl, ⟨hI.putObj _ hi3 (by omega) hl3 rfl, hl4, hk4⟩, ((put W _ _ (by omega)).trans hkp3).trans (put W3 _ _ (by omega))⟩⟩
    | ret => obtain ⟨hr, hx⟩ := leave .ret W3 hp.1 hp.2; exact ⟨_, _, hr, .inr ⟨rfl, hx⟩⟩
    | exit id => obtain ⟨hr, hx⟩ := leave (.exit id) W3 hp.1 hp.2; exact ⟨_, _, hr, .inr ⟨rfl, hx⟩⟩
    | goto t => obtain ⟨hr, hx⟩ := leave (.goto t) W3 hp.1 hp.2; exact ⟨_, _, hr, .inr ⟨rfl, hx⟩⟩
    | panic ch => exact hp.elim
    | outgrown => exact hp.elim
  · -- behind the iterator
    rintro e W2 ⟨⟨v, rfl⟩, (⟨xs, hS, hi', hl, hk⟩ | ⟨pre, hSp, c, hi', hl, hk⟩)⟩
    · have hend := run_endLoop (P := P) hl (by rw [hrec]; simp)
      rw [hrec] at hend
      exact ⟨none, _, hend, hdone _ xs _ (Nat.le_refl _) hS (hI.putObj _ hi' (by omega) hl rfl) ((World.putObj_heap_other (by omega)).trans hk)⟩
    · have hend := run_endLoop (P := P) hl (by rw [hrec]; simp)
      rw [hrec] at hend
      exact ⟨some c, _, hend, hstop _ c pre _ (Nat.le_refl _) hSp ((hIx c).putObj _ hi' (by omega) hl rfl) ((World.putObj_heap_other (by omega)).trans hk)⟩
end Go.Proofs.YtilkneajohpgiaaDoor
