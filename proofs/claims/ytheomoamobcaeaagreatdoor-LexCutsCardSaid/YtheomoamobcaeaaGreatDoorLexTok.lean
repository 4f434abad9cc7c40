/- A token in a cell of a function's own. -/
import Derived.Test.YtheomoamobcaeaaGreatDoorLexQuoted
import Derived.Shelf.Pu.ErrVarParseUint
namespace Go.Proofs.YtheomoamobcaeaaGreatDoor
set_option maxRecDepth 100000
open Go.RowKit

def tokV (k : Nat) (t : List UInt8) (l c : Nat) : Value := .agg #[.int .i64 k, .string (bs t), .int .i64 l, .int .i64 c]
def tokC (k : Nat) (t : List UInt8) (l c : Nat) : Array Value := #[.int .i64 k, .string (bs t), .int .i64 l, .int .i64 c]
/-- Four cells, from a block's beginning. -/
def Four (w : World) (b : Nat) (x0 x1 x2 x3 : Value) : Prop :=
  w.cell? ⟨b, 0, none⟩ = some x0 ∧ w.cell? ⟨b, 1, none⟩ = some x1 ∧ w.cell? ⟨b, 2, none⟩ = some x2 ∧ w.cell? ⟨b, 3, none⟩ = some x3
def Free (w : World) (b : Nat) : Prop := ∀ j, w.frozen? ⟨b, j, none⟩ = false
theorem four_new (w : World) (x0 x1 x2 x3 : Value) (e : TypeId) (fr : Nat × Nat) : Four (w.alloc (.cells #[x0, x1, x2, x3] e fr)) w.heap.size x0 x1 x2 x3 :=
  ⟨by rw [World.cell?_alloc_mark]; rfl, by rw [World.cell?_alloc_mark]; rfl, by rw [World.cell?_alloc_mark]; rfl, by rw [World.cell?_alloc_mark]; rfl⟩
theorem four_below {w w' : World} {b : Nat} {x0 x1 x2 x3 : Value} (h : Four w b x0 x1 x2 x3) (hb : Below w.heap.size w w') : Four w' b x0 x1 x2 x3 := by
  have hlt := World.block_lt_of_cell? w _ h.1
  exact ⟨(hb.cell (p := ⟨b, 0, none⟩) hlt).trans h.1, (hb.cell (p := ⟨b, 1, none⟩) hlt).trans h.2.1, (hb.cell (p := ⟨b, 2, none⟩) hlt).trans h.2.2.1, (hb.cell (p := ⟨b, 3, none⟩) hlt).trans h.2.2.2⟩
theorem free_new (w : World) (C : Array Value) (e : TypeId) : Free (w.alloc (.cells C e)) w.heap.size := fun j => by
  have h : (w.alloc (.cells C e)).heap[w.heap.size]? = some (.cells C e) := Array.getElem?_push_size
  unfold World.frozen?
  simp only [h]
  simp
theorem free_below {w w' : World} {b : Nat} (h : Free w b) (hlt : b < w.heap.size) (hb : Below w.heap.size w w') : Free w' b := fun j => (hb.frozen (p := ⟨b, j, none⟩) hlt).trans (h j)
theorem four_set {w : World} {b : Nat} {x0 x1 x2 x3 : Value} (h : Four w b x0 x1 x2 x3) (y0 y1 y2 y3 : Value) :
    Four ((((w.setCell ⟨b, 0, none⟩ y0).setCell ⟨b, 1, none⟩ y1).setCell ⟨b, 2, none⟩ y2).setCell ⟨b, 3, none⟩ y3) b y0 y1 y2 y3 := by
  obtain ⟨h0, h1, h2, h3⟩ := h
  refine ⟨?_, ?_, ?_, ?_⟩
  · rw [World.cell?_setCell_other _ _ _ _ (by simp), World.cell?_setCell_other _ _ _ _ (by simp), World.cell?_setCell_other _ _ _ _ (by simp)]
    exact World.cell?_setCell_same' _ _ _ (by rw [h0]; rfl)
  · rw [World.cell?_setCell_other _ _ _ _ (by simp), World.cell?_setCell_other _ _ _ _ (by simp)]
    exact World.cell?_setCell_same' _ _ _ (by rw [World.cell?_setCell_other _ _ _ _ (by simp), h1]; rfl)
  · rw [World.cell?_setCell_other _ _ _ _ (by simp)]
    exact World.cell?_setCell_same' _ _ _ (by rw [World.cell?_setCell_other _ _ _ _ (by simp), World.cell?_setCell_other _ _ _ _ (by simp), h2]; rfl)
  · exact World.cell?_setCell_same' _ _ _ (by rw [World.cell?_setCell_other _ _ _ _ (by simp), World.cell?_setCell_other _ _ _ _ (by simp), World.cell?_setCell_other _ _ _ _ (by simp), h3]; rfl)
theorem below_four {B : Nat} {a w : World} {b : Nat} (h : Below B a w) (hb : B ≤ b) (y0 y1 y2 y3 : Value) :
    Below B a ((((w.setCell ⟨b, 0, none⟩ y0).setCell ⟨b, 1, none⟩ y1).setCell ⟨b, 2, none⟩ y2).setCell ⟨b, 3, none⟩ y3) :=
  (((h.setCell (p := ⟨b, 0, none⟩) hb _).setCell (p := ⟨b, 1, none⟩) hb _).setCell (p := ⟨b, 2, none⟩) hb _).setCell (p := ⟨b, 3, none⟩) hb _
theorem number_res {w : World} {tmps : Array Value} {b : Nat} {k l c : Nat} {t : List UInt8} {n e : Int} (h2 : tmps[2]?.getD undef = .pointer (some ⟨b, 0, none⟩)) (h3 : tmps[3]?.getD undef = .int .i64 n) (h4 : tmps[4]?.getD undef = .int .i64 e)
    (h : Four w b (.int .i64 k) (.string (bs t)) (.int .i64 l) (.int .i64 c)) :
    (results Tryz.f27 tmps).run Tryz.prog w = .ok (.tuple #[tokV k t l c, .int .i64 n, .int .i64 e]) w := by
  obtain ⟨c0, c1, c2, c3⟩ := h
  simp [results, Tryz.f27, go_sem, h2, h3, h4, c0, c1, c2, c3, tokV]
theorem next_res {w : World} {tmps : Array Value} {b : Nat} {k l c : Nat} {t : List UInt8} {n e : Int} (h2 : tmps[2]?.getD undef = .pointer (some ⟨b, 0, none⟩)) (h3 : tmps[3]?.getD undef = .int .i64 n) (h4 : tmps[4]?.getD undef = .int .i64 e)
    (h : Four w b (.int .i64 k) (.string (bs t)) (.int .i64 l) (.int .i64 c)) :
    (results Tryz.f16 tmps).run Tryz.prog w = .ok (.tuple #[tokV k t l c, .int .i64 n, .int .i64 e]) w := by
  obtain ⟨c0, c1, c2, c3⟩ := h
  simp [results, Tryz.f16, go_sem, h2, h3, h4, c0, c1, c2, c3, tokV]

/-! strconv's numbers. -/
theorem parse_over (M : Nat) : ∀ (l : List UInt8) (a : Nat), allDig l = true → a ≤ M → M < valD a l → Lib.parseUintM M a l = .range
  | [], a, _, h, hv => by have : valD a [] = a := rfl; omega
  | c :: r, a, h, ha, hv => by
    have hc : isDig c = true := by unfold allDig at h; simp only [List.all_cons, Bool.and_eq_true] at h; exact h.1
    have hr : allDig r = true := by unfold allDig at *; simp only [List.all_cons, Bool.and_eq_true] at h; exact h.2
    have hcd : 48 ≤ c.toNat ∧ c.toNat ≤ 57 := by simpa [isDig] using hc
    have hv' : M < valD (10 * a + (c.toNat - 48)) r := hv
    rw [Lib.parseUintM, if_pos hcd]
    by_cases h1 : 1844674407370955162 ≤ a
    · rw [if_pos h1]
    · rw [if_neg h1]
      by_cases h2 : M < a * 10 + (c.toNat - 48)
      · rw [if_pos h2]
      · rw [if_neg h2, Nat.mul_comm a 10]
        exact parse_over M r _ hr (by omega) hv'
def RangeAt (w : World) : Prop := ∃ t p, w.var? Tryz.prog "strconv.ErrRange" = some #[.iface t p]
theorem var?_old {P : Program} {w w' : World} {n : String} {cs : Array Value} (hv : w.var? P n = some cs) (hb : Below w.heap.size w w') : w'.var? P n = some cs := by
  unfold World.var? at hv ⊢
  cases hg : P.globalNamed n with
  | none => simp [hg] at hv
  | some g =>
    simp only [hg, Option.bind_some] at hv ⊢
    have hlt : g < w.heap.size := by
      rcases Nat.lt_or_ge g w.heap.size with h | h
      · exact h
      · simp [Array.getElem?_eq_none h] at hv
    rw [hb.block g hlt]; exact hv
theorem RangeAt.below {w w' : World} (h : RangeAt w) (hb : Below w.heap.size w w') : RangeAt w' := by
  obtain ⟨t, p, h1⟩ := h
  exact ⟨t, p, var?_old h1 hb⟩
theorem parse_fit (l : List UInt8) (hl : l.length ≤ 1000000000000) (hd : allDig l = true) (hne : l ≠ []) (hv : valD 0 l ≤ 18446744073709551615) (W : World) :
    Calls Tryz.prog 40 #[.string (bs l), .int .i64 10, .int .i64 64] W fun e w' => e = .returned (.tuple #[.int .u64 (valD 0 l), .nilIface]) ∧ Below W.heap.size W w' := by
  have hp : Lib.parseUintB 64 l = .ok (valD 0 l) := by
    rw [Lib.parseUintB, if_neg hne]; exact parse_dig _ (by decide) l 0 hd (by simpa using hv)
  refine (Tryz.strconv_ParseUint_10_at64_ok (bs l) (by rw [bs_size]; omega) _ hp W).mono ?_
  rintro e w' ⟨rfl, rfl | rfl⟩
  · exact ⟨rfl, Below.refl _ _⟩
  · exact ⟨rfl, Lib.bytesWorld_below _ _ _⟩
def Wide (w : World) (e : Ending) (w' : World) : Prop := ∃ n t p, e = .returned (.tuple #[.int .u64 n, .iface t p]) ∧ Below w.heap.size w w'
theorem parse_wide (l : List UInt8) (hl : l.length ≤ 1000000000000) (hd : allDig l = true) (hne : l ≠ []) (hv : 18446744073709551615 < valD 0 l) (W : World) (hr : RangeAt W) :
    Calls Tryz.prog 40 #[.string (bs l), .int .i64 10, .int .i64 64] W (Wide W) := by
  obtain ⟨t, p, h1⟩ := hr
  have hp : Lib.parseUintB 64 l = .range := by
    rw [Lib.parseUintB, if_neg hne]; exact parse_over _ l 0 hd (by omega) (by simpa using hv)
  refine (Any.strconv_ParseUint_10_at64_range_var Tryz.laysPu14 (bs l) (by rw [bs_size]; omega) hp t p W h1).mono ?_
  rintro e w' ⟨N, rfl, -, -, hb⟩
  exact ⟨_, _, _, rfl, hb⟩
end Go.Proofs.YtheomoamobcaeaaGreatDoor
