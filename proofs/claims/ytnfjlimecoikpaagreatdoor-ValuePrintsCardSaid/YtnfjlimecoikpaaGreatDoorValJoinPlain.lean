/- Plain: texts joined, one more at the end. -/
import Derived.Test.YtnfjlimecoikpaaGreatDoorValTextPlain
namespace Go.Proofs.YtnfjlimecoikpaaGreatDoor
set_option maxRecDepth 100000
open Go.RowKit

/-- How long texts are together, each with a comma and a blank. -/
def sl (ts : List (List UInt8)) : Nat := (ts.map fun t => t.length + 2).sum
theorem sl_cons (a : List UInt8) (r : List (List UInt8)) : sl (a :: r) = a.length + 2 + sl r := by simp [sl]
theorem joinC_sl : ∀ ts : List (List UInt8), (joinC ts).length ≤ sl ts
  | [] => by simp [joinC]
  | [a] => by simp [joinC, sl]
  | a :: b :: r => by
    have ih := joinC_sl (b :: r)
    have e : joinC (a :: b :: r) = a ++ 44 :: 32 :: joinC (b :: r) := rfl
    rw [e, sl_cons]
    simp only [List.length_append, List.length_cons]; omega
theorem sl_app (a b : List (List UInt8)) : sl (a ++ b) = sl a + sl b := by unfold sl; simp
theorem sl_take (ts : List (List UInt8)) (j : Nat) : sl (ts.take j) ≤ sl ts := by
  have : sl ts = sl (ts.take j) + sl (ts.drop j) := by rw [← sl_app, List.take_append_drop]
  omega
theorem sl_tot : ∀ ts : List (List UInt8), sl ts ≤ tot ts
  | [] => by simp [sl]
  | a :: r => by have := sl_tot r; rw [sl_cons, tot_cons]; omega
theorem sl_entries : ∀ (ks ts : List (List UInt8)), (∀ k ∈ ks, k.length ≤ 65536) → sl (entries ks ts) ≤ tot ts
  | [], ts, _ => by cases ts <;> simp [entries, sl]
  | _ :: _, [], _ => by simp [entries, sl]
  | a :: r, b :: t, h => by
    have ih := sl_entries r t (fun k hk => h k (List.mem_cons_of_mem _ hk))
    have := quoteL_le a
    have := h a (by simp)
    have e : entries (a :: r) (b :: t) = (quoteL a ++ 58 :: 32 :: b) :: entries r t := rfl
    rw [e, sl_cons, tot_cons]
    simp only [List.length_append, List.length_cons]; omega
theorem joinC_snoc (a : List UInt8) : ∀ xs : List (List UInt8), xs ≠ [] → joinC (xs ++ [a]) = joinC xs ++ 44 :: 32 :: a
  | [], h => absurd rfl h
  | [b], _ => rfl
  | b :: c :: r, _ => by
    have ih := joinC_snoc a (c :: r) (by simp)
    have e1 : joinC (b :: c :: (r ++ [a])) = b ++ 44 :: 32 :: joinC (c :: (r ++ [a])) := rfl
    have e2 : joinC (b :: c :: r) = b ++ 44 :: 32 :: joinC (c :: r) := rfl
    have ih' : joinC (c :: (r ++ [a])) = _ := ih
    show joinC (b :: c :: (r ++ [a])) = _
    rw [e1, e2, ih']; simp
theorem join_first (e : List (List UInt8)) (h : 0 < e.length) : joinC (e.take (0 + 1)) = e[0] := by
  cases e with
  | nil => simp at h
  | cons a r => rfl
theorem join_more (e : List (List UInt8)) (j : Nat) (h0 : j ≠ 0) (h : j < e.length) : joinC (e.take (j + 1)) = joinC (e.take j) ++ 44 :: 32 :: e[j] := by
  rw [take_at e j h, joinC_snoc]
  intro e2
  have := congrArg List.length e2
  rw [List.length_take, List.length_nil] at this; omega
end Go.Proofs.YtnfjlimecoikpaaGreatDoor
