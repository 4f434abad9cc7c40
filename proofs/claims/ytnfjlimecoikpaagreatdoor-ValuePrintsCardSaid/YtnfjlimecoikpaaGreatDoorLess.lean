/- Which of two texts stands ahead. -/
import Derived.Test.YtnfjlimecoikpaaGreatDoorBase
namespace Go.Proofs.YtnfjlimecoikpaaGreatDoor
open Go.RowKit

theorem bytesLess_irrefl (l : List UInt8) : Op.bytesLess l l = false := by
  induction l with
  | nil => rfl
  | cons c l ih => simp [Op.bytesLess, ih]
abbrev less (a b : List UInt8) : Bool := Op.bytesLess a b
theorem less_cons (a b : UInt8) (x y : List UInt8) : less (a :: x) (b :: y) = (decide (a < b) || (a == b && less x y)) := rfl
theorem less_trans : ∀ {x y z : List UInt8}, less x y = true → less y z = true → less x z = true
  | _, _, [], _, h => by rename_i y _; cases y <;> simp [less, Op.bytesLess] at h
  | [], _, c :: z, _, _ => rfl
  | a :: x, [], c :: z, h, _ => by simp [less, Op.bytesLess] at h
  | a :: x, b :: y, c :: z, h1, h2 => by
    rw [less_cons] at h1 h2 ⊢
    simp only [Bool.or_eq_true, decide_eq_true_eq, Bool.and_eq_true, beq_iff_eq] at h1 h2 ⊢
    rcases h1 with h1 | ⟨rfl, h1⟩
    · rcases h2 with h2 | ⟨rfl, h2⟩
      · exact .inl (UInt8.lt_trans h1 h2)
      · exact .inl h1
    · rcases h2 with h2 | ⟨rfl, h2⟩
      · exact .inl h2
      · exact .inr ⟨rfl, less_trans h1 h2⟩
theorem less_irrefl (x : List UInt8) : less x x = false := bytesLess_irrefl x
theorem less_asymm {x y : List UInt8} (h : less x y = true) : less y x = false := by
  rw [← Bool.not_eq_true]; intro h2
  have := less_trans h h2
  rw [less_irrefl] at this; cases this
theorem less_total : ∀ {x y : List UInt8}, less x y = false → less y x = false → x = y
  | [], [], _, _ => rfl
  | [], _ :: _, h, _ => by simp [less, Op.bytesLess] at h
  | _ :: _, [], _, h => by simp [less, Op.bytesLess] at h
  | a :: x, b :: y, h1, h2 => by
    rw [less_cons] at h1 h2
    simp only [Bool.or_eq_false_iff, decide_eq_false_iff_not, Bool.and_eq_false_iff, beq_eq_false_iff_ne] at h1 h2
    have hab : a = b := by
      have h3 := h1.1; have h4 := h2.1
      exact UInt8.le_antisymm (UInt8.not_lt.1 h4) (UInt8.not_lt.1 h3)
    subst hab
    have h5 : less x y = false := by rcases h1.2 with h | h; exact absurd rfl h; exact h
    have h6 : less y x = false := by rcases h2.2 with h | h; exact absurd rfl h; exact h
    rw [less_total h5 h6]
theorem less_ne {x y : List UInt8} (h : less x y = true) : x ≠ y := by rintro rfl; rw [less_irrefl] at h; cases h

end Go.Proofs.YtnfjlimecoikpaaGreatDoor
