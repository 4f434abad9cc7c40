/- Cells of a block of a call's own; a row of its own behind a store into another block. -/
import Derived.Test.YtnfjlimecoikpaaGreatDoorBase
namespace Go.Proofs.YtnfjlimecoikpaaGreatDoor
set_option maxRecDepth 100000
open Go.RowKit

def tokV (k : Nat) (t : List UInt8) (l c : Nat) : Value := .agg #[.int .i64 k, .string (bs t), .int .i64 l, .int .i64 c]
def tokC (k : Nat) (t : List UInt8) (l c : Nat) : Array Value := #[.int .i64 k, .string (bs t), .int .i64 l, .int .i64 c]
/-- Four cells, from a block's beginning. -/
def Four (w : World) (b : Nat) (x0 x1 x2 x3 : Value) : Prop :=
  w.cell? ⟨b, 0, none⟩ = some x0 ∧ w.cell? ⟨b, 1, none⟩ = some x1 ∧ w.cell? ⟨b, 2, none⟩ = some x2 ∧ w.cell? ⟨b, 3, none⟩ = some x3
def Free (w : World) (b : Nat) : Prop := ∀ j, w.frozen? ⟨b, j, none⟩ = false
theorem four_new (w : World) (x0 x1 x2 x3 : Value) (e : TypeId) (fr : Nat × Nat) : Four (w.alloc (.cells #[x0, x1, x2, x3] e fr)) w.heap.size x0 x1 x2 x3 :=
  ⟨by rw [World.cell?_alloc_mark]; rfl, by rw [World.cell?_alloc_mark]; rfl, by rw [World.cell?_alloc_mark]; rfl, by rw [World.cell?_alloc_mark]; rfl⟩
theorem four_below {w w' : World} {b : Nat} {x0 x1 x2 x3 : Value} (h : Four w b x0 x1 x2 x3) (hb : Below w.heap.size w w') : Four w' b x0 x1 x2 x3 := by
  have hlt := World.block_lt_of_cell? w _ h.1
  exact ⟨(hb.cell (p := ⟨b, 0, none⟩) hlt).trans h.1, (hb.cell (p := ⟨b, 1, none⟩) hlt).trans h.2.1, (hb.cell (p := ⟨b, 2, none⟩) hlt).trans h.2.2.1, (hb.cell (p := ⟨b, 3, none⟩) hlt).trans h.2.2.2⟩
theorem free_new (w : World) (C : Array Value) (e : TypeId) : Free (w.alloc (.cells C e)) w.heap.size := fun j => by
  have h : (w.alloc (.cells C e)).heap[w.heap.size]? = some (.cells C e) := Array.getElem?_push_size
  unfold World.frozen?
  simp only [h]
  simp
theorem free_below {w w' : World} {b : Nat} (h : Free w b) (hlt : b < w.heap.size) (hb : Below w.heap.size w w') : Free w' b := fun j => (hb.frozen (p := ⟨b, j, none⟩) hlt).trans (h j)
theorem four_set {w : World} {b : Nat} {x0 x1 x2 x3 : Value} (h : Four w b x0 x1 x2 x3) (y0 y1 y2 y3 : Value) :
    Four ((((w.setCell ⟨b, 0, none⟩ y0).setCell ⟨b, 1, none⟩ y1).setCell ⟨b, 2, none⟩ y2).setCell ⟨b, 3, none⟩ y3) b y0 y1 y2 y3 := by
  obtain ⟨h0, h1, h2, h3⟩ := h
  refine ⟨?_, ?_, ?_, ?_⟩
  · rw [World.cell?_setCell_other _ _ _ _ (by simp), World.cell?_setCell_other _ _ _ _ (by simp), World.cell?_setCell_other _ _ _ _ (by simp)]
    exact World.cell?_setCell_same' _ _ _ (by rw [h0]; rfl)
  · rw [World.cell?_setCell_other _ _ _ _ (by simp), World.cell?_setCell_other _ _ _ _ (by simp)]
    exact World.cell?_setCell_same' _ _ _ (by rw [World.cell?_setCell_other _ _ _ _ (by simp), h1]; rfl)
  · rw [World.cell?_setCell_other _ _ _ _ (by simp)]
    exact World.cell?_setCell_same' _ _ _ (by rw [World.cell?_setCell_other _ _ _ _ (by simp), World.cell?_setCell_other _ _ _ _ (by simp), h2]; rfl)
  · exact World.cell?_setCell_same' _ _ _ (by rw [World.cell?_setCell_other _ _ _ _ (by simp), World.cell?_setCell_other _ _ _ _ (by simp), World.cell?_setCell_other _ _ _ _ (by simp), h3]; rfl)
theorem below_four {B : Nat} {a w : World} {b : Nat} (h : Below B a w) (hb : B ≤ b) (y0 y1 y2 y3 : Value) :
    Below B a ((((w.setCell ⟨b, 0, none⟩ y0).setCell ⟨b, 1, none⟩ y1).setCell ⟨b, 2, none⟩ y2).setCell ⟨b, 3, none⟩ y3) :=
  (((h.setCell (p := ⟨b, 0, none⟩) hb _).setCell (p := ⟨b, 1, none⟩) hb _).setCell (p := ⟨b, 2, none⟩) hb _).setCell (p := ⟨b, 3, none⟩) hb _
/-- Two cells of a block that may be written. -/
structure Two (w : World) (b : Nat) (x y : Value) : Prop where
  c0 : w.cell? ⟨b, 0, none⟩ = some x
  c1 : w.cell? ⟨b, 1, none⟩ = some y
  f0 : w.frozen? ⟨b, 0, none⟩ = false
  f1 : w.frozen? ⟨b, 1, none⟩ = false
theorem Two.below {w w' : World} {b : Nat} {x y : Value} (h : Two w b x y) (hb : Below w.heap.size w w') : Two w' b x y := by
  have hlt := World.block_lt_of_cell? w _ h.c0
  exact ⟨(hb.cell (p := ⟨b, 0, none⟩) hlt).trans h.c0, (hb.cell (p := ⟨b, 1, none⟩) hlt).trans h.c1, (hb.frozen (p := ⟨b, 0, none⟩) hlt).trans h.f0, (hb.frozen (p := ⟨b, 1, none⟩) hlt).trans h.f1⟩
theorem Two.past {B : Nat} {w w' : World} {b : Nat} {x y : Value} (h : Two w b x y) (hb : Below B w w') (hlt : b < B) : Two w' b x y :=
  ⟨(hb.cell (p := ⟨b, 0, none⟩) hlt).trans h.c0, (hb.cell (p := ⟨b, 1, none⟩) hlt).trans h.c1, (hb.frozen (p := ⟨b, 0, none⟩) hlt).trans h.f0, (hb.frozen (p := ⟨b, 1, none⟩) hlt).trans h.f1⟩
theorem Two.drew {w : World} {b : Nat} {x y : Value} (h : Two w b x y) : Two w.drew b x y := ⟨h.c0, h.c1, h.f0, h.f1⟩
theorem Two.set {w : World} {b : Nat} {x y : Value} (h : Two w b x y) (u v : Value) : Two ((w.setCell ⟨b, 0, none⟩ u).setCell ⟨b, 1, none⟩ v) b u v := by
  have e1 : (w.setCell ⟨b, 0, none⟩ u).cell? ⟨b, 1, none⟩ = some y := by rw [World.cell?_setCell_other _ _ _ _ (by simp)]; exact h.c1
  refine ⟨?_, ?_, ?_, ?_⟩
  · rw [World.cell?_setCell_other _ _ _ _ (by simp)]
    exact World.cell?_setCell_same' _ _ _ (by rw [h.c0]; rfl)
  · exact World.cell?_setCell_same' _ _ _ (by rw [e1]; rfl)
  · rw [World.frozen?_setCell, World.frozen?_setCell]; exact h.f0
  · rw [World.frozen?_setCell, World.frozen?_setCell]; exact h.f1
theorem Two.other {w : World} {b c : Nat} {x y : Value} (h : Two w b x y) (hne : c ≠ b) (u v : Value) : Two ((w.setCell ⟨c, 0, none⟩ u).setCell ⟨c, 1, none⟩ v) b x y := by
  have hn : ∀ i j : Nat, (⟨c, i, none⟩ : Addr) ≠ ⟨b, j, none⟩ := fun i j e => hne (congrArg Addr.block e)
  refine ⟨?_, ?_, ?_, ?_⟩
  · rw [World.cell?_setCell_other _ _ _ _ (hn _ _), World.cell?_setCell_other _ _ _ _ (hn _ _)]; exact h.c0
  · rw [World.cell?_setCell_other _ _ _ _ (hn _ _), World.cell?_setCell_other _ _ _ _ (hn _ _)]; exact h.c1
  · rw [World.frozen?_setCell, World.frozen?_setCell]; exact h.f0
  · rw [World.frozen?_setCell, World.frozen?_setCell]; exact h.f1
theorem Two.lt {w : World} {b : Nat} {x y : Value} (h : Two w b x y) : b < w.heap.size := World.block_lt_of_cell? w _ h.c0
theorem two_new (w : World) (x y : Value) (e : TypeId) : Two (w.alloc (.cells #[x, y] e)) w.heap.size x y :=
  ⟨by rw [World.cell?_alloc_mark]; rfl, by rw [World.cell?_alloc_mark]; rfl, free_new w _ _ 0, free_new w _ _ 1⟩

/-- A row of the call's own behind a store into another block. -/
theorem own_keep {w : World} {base e size n : Nat} {v : Value} {xs : List Value} (h : w.ownsRow base e size v n xs) {b : Nat} (hb : b < base) (x y : Value) : ((w.setCell ⟨b, 0, none⟩ x).setCell ⟨b, 1, none⟩ y).ownsRow base e size v n xs := by
  obtain ⟨hl, h⟩ := h
  refine ⟨hl, ?_⟩
  rcases h with h | ⟨g, cap, cur, hv, hg, hh, r⟩
  · exact .inl h
  · refine .inr ⟨g, cap, cur, hv, hg, ?_, r⟩
    have hne : g ≠ b := by omega
    rw [Below.heap_setCell _ _ _ _ hne, Below.heap_setCell _ _ _ _ hne]; exact hh
theorem Four.past {B : Nat} {w w' : World} {b : Nat} {x0 x1 x2 x3 : Value} (h : Four w b x0 x1 x2 x3) (hb : Below B w w') (hlt : b < B) : Four w' b x0 x1 x2 x3 :=
  ⟨(hb.cell (p := ⟨b, 0, none⟩) hlt).trans h.1, (hb.cell (p := ⟨b, 1, none⟩) hlt).trans h.2.1, (hb.cell (p := ⟨b, 2, none⟩) hlt).trans h.2.2.1, (hb.cell (p := ⟨b, 3, none⟩) hlt).trans h.2.2.2⟩
theorem Free.past {B : Nat} {w w' : World} {b : Nat} (h : Free w b) (hb : Below B w w') (hlt : b < B) : Free w' b := fun j => (hb.frozen (p := ⟨b, j, none⟩) hlt).trans (h j)
end Go.Proofs.YtnfjlimecoikpaaGreatDoor
