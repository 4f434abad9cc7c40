/- What a value in memory depends on; the cells of a result. -/
import Derived.Test.YtnfjlimecoikpaaGreatDoorValOfPlain
import Derived.Test.YtnfjlimecoikpaaGreatDoorValCheck
import Derived.Maps.AppendAt
namespace Go.Proofs.YtnfjlimecoikpaaGreatDoor
set_option maxRecDepth 100000
open Go.RowKit

/-- What holds of a world, and of each that has the same blocks from lo on, but for those of X. -/
def Dep (lo : Nat) (X : Nat → Prop) (w : World) (P : World → Prop) : Prop := ∀ W, w.heap.size ≤ W.heap.size → (∀ i, lo ≤ i → i < w.heap.size → ¬ X i → W.heap[i]? = w.heap[i]?) → P W
section
variable {lo lo' b : Nat} {X X' : Nat → Prop} {w w' : World} {P Q : World → Prop}
theorem Dep.now (h : Dep lo X w P) : P w := h w (Nat.le_refl _) (fun _ _ _ _ => rfl)
theorem Dep.step (h : Dep lo X w P) (hs : w.heap.size ≤ w'.heap.size) (he : ∀ i, lo ≤ i → i < w.heap.size → ¬ X i → w'.heap[i]? = w.heap[i]?) (hx : ∀ i, lo ≤ i → i < w.heap.size → X' i → X i) : Dep lo X' w' P :=
  fun W h1 h2 => h W (Nat.le_trans hs h1) (fun i hi hl hn => (h2 i hi (Nat.lt_of_lt_of_le hl hs) (fun k => hn (hx i hi hl k))).trans (he i hi hl hn))
theorem Dep.weak (h : Dep lo X w P) (hl : lo' ≤ lo) (hx : ∀ i, lo ≤ i → i < w.heap.size → X' i → X i) : Dep lo' X' w P :=
  fun W h1 h2 => h W h1 (fun i hi hlt hn => h2 i (Nat.le_trans hl hi) hlt (fun k => hn (hx i hi hlt k)))
theorem Dep.mono (h : Dep lo X w P) (f : ∀ W, P W → Q W) : Dep lo X w Q := fun W h1 h2 => f W (h W h1 h2)
theorem Dep.both (h : Dep lo X w P) (k : Dep lo X w Q) : Dep lo X w (fun W => P W ∧ Q W) := fun W h1 h2 => ⟨h W h1 h2, k W h1 h2⟩
theorem Dep.below (h : Dep lo X w P) (hb : Below w.heap.size w w') : Dep lo X w' P := h.step hb.size (fun i _ hl _ => hb.block i hl) (fun _ _ _ k => k)
theorem Dep.put (h : Dep lo X w P) (hX : X b) (j : Nat) (v : Value) : Dep lo X (w.setCell ⟨b, j, none⟩ v) P :=
  h.step (by simp [World.setCell]) (fun i _ _ hn => Go.heap_setCell_other w ⟨b, j, none⟩ i v (fun e => hn (by rw [e]; exact hX))) (fun _ _ _ k => k)
theorem own_dep {base e size n : Nat} {v : Value} {xs : List Value} (h : w.ownsRow base e size v n xs) (hl : lo ≤ base) (hn : n ≤ maxLen) (hX : ∀ g, v.ownBlock = some g → ¬ X g) : Dep lo X w (fun W => SliceAt W size v n xs) := fun W _ h2 => by
  refine SliceAt.of_owns (base := base) (e := e) ?_ hn
  obtain ⟨hlx, h⟩ := h
  refine ⟨hlx, ?_⟩
  rcases h with h | ⟨g, cap, cur, hv, hg, hh, r⟩
  · exact .inl h
  · exact .inr ⟨g, cap, cur, hv, hg, (h2 g (by omega) (Array.getElem?_eq_some_iff.1 hh).1 (hX g (by rw [hv]; rfl))).trans hh, r⟩
end
theorem heldL_app {w : World} : ∀ {a b : List VM}, HeldL w a → HeldL w b → HeldL w (a ++ b)
  | [], _, _, h => h
  | v :: r, b, h1, h2 => by
    unfold HeldL at h1
    show HeldL w (v :: (r ++ b))
    unfold HeldL
    exact ⟨h1.1, heldL_app h1.2 h2⟩
theorem heldL_one {w : World} {v : VM} (h : Held w v) : HeldL w [v] := by unfold HeldL; exact ⟨h, by unfold HeldL; trivial⟩
theorem heldL_nil {w : World} : HeldL w [] := by unfold HeldL; trivial
theorem box_set0 {W : World} {B : Nat} {k n : Int} {s : List UInt8} {lv kv : Value} (h : Box W B k n s lv kv) (y : Int) : Box (W.setCell ⟨B, 0, none⟩ (.int .i64 y)) B y n s lv kv := by
  refine ⟨?_, ?_, ?_, ?_, ?_⟩
  · exact World.cell?_setCell_same' _ _ _ (by rw [h.c0]; rfl)
  · rw [World.cell?_setCell_other _ _ _ _ (by simp)]; exact h.c1
  · rw [World.cell?_setCell_other _ _ _ _ (by simp)]; exact h.c2
  · rw [World.cell?_setCell_other _ _ _ _ (by simp)]; exact h.c3
  · rw [World.cell?_setCell_other _ _ _ _ (by simp)]; exact h.c4
/-- The cells of a value that is under way, in a block that may be written. -/
structure RC (w : World) (b : Nat) (k n : Int) (s : List UInt8) (lv kv : Value) : Prop where
  x : Box w b k n s lv kv
  f : Free w b
section
variable {w w' : World} {b : Nat} {k n : Int} {s : List UInt8} {lv kv : Value}
theorem RC.lt (h : RC w b k n s lv kv) : b < w.heap.size := World.block_lt_of_cell? w _ h.x.c0
theorem RC.keep (h : RC w b k n s lv kv) (hb : Below w.heap.size w w') : RC w' b k n s lv kv := ⟨h.x.keeps hb, free_below h.f h.lt hb⟩
theorem RC.block (h : RC w b k n s lv kv) (hb : w'.heap[b]? = w.heap[b]?) : RC w' b k n s lv kv :=
  ⟨⟨(World.cell?_of_block (w := w) (a := ⟨b, 0, none⟩) hb).trans h.x.c0, (World.cell?_of_block (w := w) (a := ⟨b, 1, none⟩) hb).trans h.x.c1, (World.cell?_of_block (w := w) (a := ⟨b, 2, none⟩) hb).trans h.x.c2, (World.cell?_of_block (w := w) (a := ⟨b, 3, none⟩) hb).trans h.x.c3, (World.cell?_of_block (w := w) (a := ⟨b, 4, none⟩) hb).trans h.x.c4⟩,
    fun j => (World.frozen?_of_block (w := w) (a := ⟨b, j, none⟩) hb).trans (h.f j)⟩
theorem free_set (h : Free w b) (j : Nat) (v : Value) : Free (w.setCell ⟨b, j, none⟩ v) b := fun i => by rw [World.frozen?_setCell]; exact h i
theorem RC.put0 (h : RC w b k n s lv kv) (y : Int) : RC (w.setCell ⟨b, 0, none⟩ (.int .i64 y)) b y n s lv kv := ⟨box_set0 h.x y, free_set h.f _ _⟩
theorem RC.put1 (h : RC w b k n s lv kv) (y : Int) : RC (w.setCell ⟨b, 1, none⟩ (.int .i64 y)) b k y s lv kv := ⟨box_set1 h.x y, free_set h.f _ _⟩
theorem RC.put2 (h : RC w b k n s lv kv) (y : List UInt8) : RC (w.setCell ⟨b, 2, none⟩ (.string (bs y))) b k n y lv kv := ⟨box_set2 h.x y, free_set h.f _ _⟩
theorem RC.put3 (h : RC w b k n s lv kv) (y : Value) : RC (w.setCell ⟨b, 3, none⟩ y) b k n s y kv := ⟨box_set3 h.x y, free_set h.f _ _⟩
theorem RC.put4 (h : RC w b k n s lv kv) (y : Value) : RC (w.setCell ⟨b, 4, none⟩ y) b k n s lv y := ⟨box_set4 h.x y, free_set h.f _ _⟩
theorem RC.all (h : RC w b k n s lv kv) (k' n' : Int) (s' : List UInt8) (lv' kv' : Value) : RC ((((((w).setCell ⟨b, 0, none⟩ (.int .i64 k')).setCell ⟨b, 1, none⟩ (.int .i64 n')).setCell ⟨b, 2, none⟩ (.string (bs s'))).setCell ⟨b, 3, none⟩ lv').setCell ⟨b, 4, none⟩ kv') b k' n' s' lv' kv' :=
  ((((h.put0 k').put1 n').put2 s').put3 lv').put4 kv'
theorem rc_new (w : World) (k n : Int) (s : List UInt8) (lv kv : Value) : RC (w.alloc (.cells #[.int .i64 k, .int .i64 n, .string (bs s), lv, kv] 25)) w.heap.size k n s lv kv := ⟨box_new w k n s lv kv _ (0, 0), free_new w _ _⟩
theorem below_ch {B : Nat} {a : World} (h : Below B a w) (hb : B ≤ b) (x0 x1 x2 x3 x4 : Value) : Below B a ((((((w).setCell ⟨b, 0, none⟩ x0).setCell ⟨b, 1, none⟩ x1).setCell ⟨b, 2, none⟩ x2).setCell ⟨b, 3, none⟩ x3).setCell ⟨b, 4, none⟩ x4) :=
  ((((h.setCell (p := ⟨b, 0, none⟩) hb _).setCell (p := ⟨b, 1, none⟩) hb _).setCell (p := ⟨b, 2, none⟩) hb _).setCell (p := ⟨b, 3, none⟩) hb _).setCell (p := ⟨b, 4, none⟩) hb _
theorem Dep.ch {lo : Nat} {X : Nat → Prop} {P : World → Prop} (h : Dep lo X w P) (hX : X b) (x0 x1 x2 x3 x4 : Value) : Dep lo X ((((((w).setCell ⟨b, 0, none⟩ x0).setCell ⟨b, 1, none⟩ x1).setCell ⟨b, 2, none⟩ x2).setCell ⟨b, 3, none⟩ x3).setCell ⟨b, 4, none⟩ x4) P :=
  ((((h.put hX 0 x0).put hX 1 x1).put hX 2 x2).put hX 3 x3).put hX 4 x4
end
/-- What 'of' answers: the value of bytes, of memory of its own; false. -/
def OfRet (r : Option VM) (w : World) (e : Ending) (w' : World) : Prop :=
  ∃ (k n : Int) (s : List UInt8) (a1 : Option Addr) (n1 c1 : Nat) (a2 : Option Addr) (n2 c2 : Nat), e = .returned (.tuple #[valA k n s (.slice a1 n1 c1) (.slice a2 n2 c2), .bool r.isSome]) ∧ Below w.heap.size w w' ∧
    ∀ v, r = some v → ∃ l ks, Dep w.heap.size (fun _ => False) w' (fun W => Held W (.mk k n s (.slice a1 n1 c1) (.slice a2 n2 c2) l ks)) ∧ sameB (.mk k n s (.slice a1 n1 c1) (.slice a2 n2 c2) l ks) v = true
section
variable {w W : World} {b : Nat} {k n : Int} {s : List UInt8} {a1 a2 : Option Addr} {n1 c1 n2 c2 : Nat}
theorem of_end_none (hb : Below w.heap.size w W) (hB : w.heap.size ≤ b) (x0 x1 x2 x3 x4 : Value) : OfRet none w (.returned (.tuple #[valA k n s (.slice a1 n1 c1) (.slice a2 n2 c2), .bool false])) ((((((W).setCell ⟨b, 0, none⟩ x0).setCell ⟨b, 1, none⟩ x1).setCell ⟨b, 2, none⟩ x2).setCell ⟨b, 3, none⟩ x3).setCell ⟨b, 4, none⟩ x4) :=
  ⟨k, n, s, a1, n1, c1, a2, n2, c2, rfl, below_ch hb hB _ _ _ _ _, fun _ h => by cases h⟩
theorem of_end_some {l : List VM} {ks : List (List UInt8)} {v : VM} (hb : Below w.heap.size w W) (hB : w.heap.size ≤ b) (hD : Dep w.heap.size (fun i => i = b) W (fun W => Held W (.mk k n s (.slice a1 n1 c1) (.slice a2 n2 c2) l ks)))
    (hs : sameB (.mk k n s (.slice a1 n1 c1) (.slice a2 n2 c2) l ks) v = true) (x0 x1 x2 x3 x4 : Value) : OfRet (some v) w (.returned (.tuple #[valA k n s (.slice a1 n1 c1) (.slice a2 n2 c2), .bool true])) ((((((W).setCell ⟨b, 0, none⟩ x0).setCell ⟨b, 1, none⟩ x1).setCell ⟨b, 2, none⟩ x2).setCell ⟨b, 3, none⟩ x3).setCell ⟨b, 4, none⟩ x4) :=
  ⟨k, n, s, a1, n1, c1, a2, n2, c2, rfl, below_ch hb hB _ _ _ _ _, fun _ h => by
    obtain rfl := Option.some.inj h
    exact ⟨l, ks, (hD.ch rfl _ _ _ _ _).weak (Nat.le_refl _) (fun _ _ _ h => h.elim), hs⟩⟩
/-- A value without others in it. -/
theorem dep_bare (lo : Nat) (X : Nat → Prop) (W : World) (k n : Int) (s : List UInt8) : Dep lo X W (fun W => Held W (.mk k n s (.slice none 0 0) (.slice none 0 0) [] [])) :=
  fun W _ _ => mk_held (SliceAt.nil W 5) (SliceAt.nil W 1) heldL_nil
end
theorem of_res {w : World} {tmps : Array Value} {b : Nat} {k n : Int} {s : List UInt8} {lv kv : Value} {c : Bool} (h4 : tmps[4]?.getD undef = .pointer (some ⟨b, 0, none⟩)) (h5 : tmps[5]?.getD undef = .bool c) (h : Box w b k n s lv kv) :
    (results Tryz.f35 tmps).run Tryz.prog w = .ok (.tuple #[valA k n s lv kv, .bool c]) w := by
  simp [results, Tryz.f35, go_sem, h4, h5, h.c0, h.c1, h.c2, h.c3, h.c4]
theorem rof_res {w : World} {tmps : Array Value} {b : Nat} {k n : Int} {s : List UInt8} {lv kv : Value} {c : Bool} (h4 : tmps[4]?.getD undef = .pointer (some ⟨b, 0, none⟩)) (h5 : tmps[5]?.getD undef = .bool c) (h : Box w b k n s lv kv) :
    (results Tryz.f36 tmps).run Tryz.prog w = .ok (.tuple #[valA k n s lv kv, .bool c]) w := by
  simp [results, Tryz.f36, go_sem, h4, h5, h.c0, h.c1, h.c2, h.c3, h.c4]
theorem pval_info : (Tryz.prog.info? 25).map (fun i => (i.zero, i.size, i.bytes)) = some (some (.agg #[.int .i64 0, .int .i64 0, .string ⟨#[]⟩, .slice none 0 0, .slice none 0 0]), 5, 80) := by kernel_rfl
end Go.Proofs.YtnfjlimecoikpaaGreatDoor
