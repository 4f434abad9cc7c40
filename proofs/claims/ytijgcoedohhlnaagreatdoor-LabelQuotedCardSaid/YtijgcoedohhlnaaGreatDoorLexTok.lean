/- A token in a cell of a function's own. -/
import Derived.Test.YtijgcoedohhlnaaGreatDoorLexQuoted
import Derived.Test.YtijgcoedohhlnaaGreatDoorCells
import Derived.Shelf.Pu.ErrVarParseUint
namespace Go.Proofs.YtijgcoedohhlnaaGreatDoor
set_option maxRecDepth 100000
open Go.RowKit

theorem number_res {w : World} {tmps : Array Value} {b : Nat} {k l c : Nat} {t : List UInt8} {n e : Int} (h2 : tmps[2]?.getD undef = .pointer (some ⟨b, 0, none⟩)) (h3 : tmps[3]?.getD undef = .int .i64 n) (h4 : tmps[4]?.getD undef = .int .i64 e)
    (h : Four w b (.int .i64 k) (.string (bs t)) (.int .i64 l) (.int .i64 c)) :
    (results Tryz.f33 tmps).run Tryz.prog w = .ok (.tuple #[tokV k t l c, .int .i64 n, .int .i64 e]) w := by
  obtain ⟨c0, c1, c2, c3⟩ := h
  simp [results, Tryz.f33, go_sem, h2, h3, h4, c0, c1, c2, c3, tokV]
theorem next_res {w : World} {tmps : Array Value} {b : Nat} {k l c : Nat} {t : List UInt8} {n e : Int} (h2 : tmps[2]?.getD undef = .pointer (some ⟨b, 0, none⟩)) (h3 : tmps[3]?.getD undef = .int .i64 n) (h4 : tmps[4]?.getD undef = .int .i64 e)
    (h : Four w b (.int .i64 k) (.string (bs t)) (.int .i64 l) (.int .i64 c)) :
    (results Tryz.f13 tmps).run Tryz.prog w = .ok (.tuple #[tokV k t l c, .int .i64 n, .int .i64 e]) w := by
  obtain ⟨c0, c1, c2, c3⟩ := h
  simp [results, Tryz.f13, go_sem, h2, h3, h4, c0, c1, c2, c3, tokV]

/-! strconv's numbers. -/
theorem parse_over (M : Nat) : ∀ (l : List UInt8) (a : Nat), allDig l = true → a ≤ M → M < valD a l → Lib.parseUintM M a l = .range
  | [], a, _, h, hv => by have : valD a [] = a := rfl; omega
  | c :: r, a, h, ha, hv => by
    have hc : isDig c = true := by unfold allDig at h; simp only [List.all_cons, Bool.and_eq_true] at h; exact h.1
    have hr : allDig r = true := by unfold allDig at *; simp only [List.all_cons, Bool.and_eq_true] at h; exact h.2
    have hcd : 48 ≤ c.toNat ∧ c.toNat ≤ 57 := by simpa [isDig] using hc
    have hv' : M < valD (10 * a + (c.toNat - 48)) r := hv
    rw [Lib.parseUintM, if_pos hcd]
    by_cases h1 : 1844674407370955162 ≤ a
    · rw [if_pos h1]
    · rw [if_neg h1]
      by_cases h2 : M < a * 10 + (c.toNat - 48)
      · rw [if_pos h2]
      · rw [if_neg h2, Nat.mul_comm a 10]
        exact parse_over M r _ hr (by omega) hv'
def RangeAt (w : World) : Prop := ∃ t p, w.var? Tryz.prog "strconv.ErrRange" = some #[.iface t p]
theorem var?_old {P : Program} {w w' : World} {n : String} {cs : Array Value} (hv : w.var? P n = some cs) (hb : Below w.heap.size w w') : w'.var? P n = some cs := by
  unfold World.var? at hv ⊢
  cases hg : P.globalNamed n with
  | none => simp [hg] at hv
  | some g =>
    simp only [hg, Option.bind_some] at hv ⊢
    have hlt : g < w.heap.size := by
      rcases Nat.lt_or_ge g w.heap.size with h | h
      · exact h
      · simp [Array.getElem?_eq_none h] at hv
    rw [hb.block g hlt]; exact hv
theorem RangeAt.below {w w' : World} (h : RangeAt w) (hb : Below w.heap.size w w') : RangeAt w' := by
  obtain ⟨t, p, h1⟩ := h
  exact ⟨t, p, var?_old h1 hb⟩
theorem parse_fit (l : List UInt8) (hl : l.length ≤ 1000000000000) (hd : allDig l = true) (hne : l ≠ []) (hv : valD 0 l ≤ 18446744073709551615) (W : World) :
    Calls Tryz.prog 53 #[.string (bs l), .int .i64 10, .int .i64 64] W fun e w' => e = .returned (.tuple #[.int .u64 (valD 0 l), .nilIface]) ∧ Below W.heap.size W w' := by
  have hp : Lib.parseUintB 64 l = .ok (valD 0 l) := by
    rw [Lib.parseUintB, if_neg hne]; exact parse_dig _ (by decide) l 0 hd (by simpa using hv)
  refine (Tryz.strconv_ParseUint_10_at64_ok (bs l) (by rw [bs_size]; omega) _ hp W).mono ?_
  rintro e w' ⟨rfl, rfl | rfl⟩
  · exact ⟨rfl, Below.refl _ _⟩
  · exact ⟨rfl, Lib.bytesWorld_below _ _ _⟩
def Wide (w : World) (e : Ending) (w' : World) : Prop := ∃ n t p, e = .returned (.tuple #[.int .u64 n, .iface t p]) ∧ Below w.heap.size w w'
theorem parse_wide (l : List UInt8) (hl : l.length ≤ 1000000000000) (hd : allDig l = true) (hne : l ≠ []) (hv : 18446744073709551615 < valD 0 l) (W : World) (hr : RangeAt W) :
    Calls Tryz.prog 53 #[.string (bs l), .int .i64 10, .int .i64 64] W (Wide W) := by
  obtain ⟨t, p, h1⟩ := hr
  have hp : Lib.parseUintB 64 l = .range := by
    rw [Lib.parseUintB, if_neg hne]; exact parse_over _ l 0 hd (by omega) (by simpa using hv)
  refine (Any.strconv_ParseUint_10_at64_range_var Tryz.laysPu14 (bs l) (by rw [bs_size]; omega) hp t p W h1).mono ?_
  rintro e w' ⟨N, rfl, -, -, hb⟩
  exact ⟨_, _, _, rfl, hb⟩
end Go.Proofs.YtijgcoedohhlnaaGreatDoor
