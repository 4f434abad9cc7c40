/- Plain: keys that rise, one more at the end. -/
import Derived.Test.YtnfjlimecoikpaaGreatDoorValPlain
namespace Go.Proofs.YtnfjlimecoikpaaGreatDoor
open Go.RowKit

theorem rise_snoc (a : List UInt8) : ∀ xs : List (List UInt8), riseB (xs ++ [a]) = (riseB xs && (decide (a.length ≤ 65536) && (match xs.getLast? with | none => true | some b => less b a)))
  | [] => by simp [riseB]
  | [b] => by simp [riseB]; cases less b a <;> simp
  | b :: c :: r => by
    have ih := rise_snoc a (c :: r)
    have e1 : riseB (b :: c :: (r ++ [a])) = (decide (b.length ≤ 65536) && less b c && riseB (c :: (r ++ [a]))) := rfl
    have e2 : riseB (b :: c :: r) = (decide (b.length ≤ 65536) && less b c && riseB (c :: r)) := rfl
    have e3 : (b :: c :: r).getLast? = (c :: r).getLast? := by simp [List.getLast?_cons_cons]
    show riseB (b :: c :: (r ++ [a])) = _
    rw [e1, e2, e3]
    have ih' : riseB (c :: (r ++ [a])) = _ := ih
    rw [ih']
    simp only [Bool.and_assoc]
/-- The next key's place among the ones ahead. -/
def nextB (ks : List (List UInt8)) (j : Nat) (h : j < ks.length) : Bool := decide (ks[j].length ≤ 65536) && (decide (j = 0) || less ks[j - 1] ks[j])
theorem rise_take (ks : List (List UInt8)) (j : Nat) (h : j < ks.length) : riseB (ks.take (j + 1)) = (riseB (ks.take j) && nextB ks j h) := by
  rw [take_at ks j h, rise_snoc]
  unfold nextB
  cases j with
  | zero => simp
  | succ j =>
    have e : (ks.take (j + 1)).getLast? = some ks[j] := by
      rw [take_at ks j (by omega), List.getLast?_append]; rfl
    rw [e]; simp
theorem rise_front : ∀ (xs ys : List (List UInt8)), riseB (xs ++ ys) = true → riseB xs = true
  | [], _, _ => rfl
  | [a], [], h => h
  | [a], b :: ys, h => by
    have h' : (decide (a.length ≤ 65536) && less a b && riseB (b :: ys)) = true := h
    simp only [Bool.and_eq_true] at h'
    simp [riseB]; simpa using h'.1.1
  | a :: b :: r, ys, h => by
    have h' : (decide (a.length ≤ 65536) && less a b && riseB (b :: (r ++ ys))) = true := h
    simp only [Bool.and_eq_true] at h'
    have ih := rise_front (b :: r) ys h'.2
    show (decide (a.length ≤ 65536) && less a b && riseB (b :: r)) = true
    rw [h'.1.1, h'.1.2, ih]; rfl
theorem rise_bad {ks : List (List UInt8)} {j : Nat} (h : j < ks.length) (hb : nextB ks j h = false) : riseB ks = false := by
  rw [← Bool.not_eq_true]
  intro h2
  have : riseB (ks.take (j + 1)) = true := rise_front _ (ks.drop (j + 1)) (by rw [List.take_append_drop]; exact h2)
  rw [rise_take ks j h, hb] at this
  simp at this
end Go.Proofs.YtnfjlimecoikpaaGreatDoor
