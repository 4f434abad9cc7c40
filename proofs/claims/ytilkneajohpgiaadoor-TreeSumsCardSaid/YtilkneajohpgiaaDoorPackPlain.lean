/- Plain words of rows: digits, a row's bytes, a text's row. -/
import Derived.Test.YtilkneajohpgiaaDoorBase
import Derived.Lib.ItoaNum
namespace Go.Proofs.YtilkneajohpgiaaDoor
open Go.RowKit

/-- A number's digits. -/
def dig (n : Nat) : List UInt8 := if n < 10 then [UInt8.ofNat (48 + n)] else dig (n / 10) ++ [UInt8.ofNat (48 + n % 10)]
theorem dig_lt {n : Nat} (h : n < 10) : dig n = [UInt8.ofNat (48 + n)] := by rw [dig, if_pos h]
theorem dig_ge {n : Nat} (h : ¬ n < 10) : dig n = dig (n / 10) ++ [UInt8.ofNat (48 + n % 10)] := by rw [dig, if_neg h]
theorem dig_ge' {n : Nat} (h : ¬ n < 10) : dig n = dig (n / 10) ++ dig (n % 10) := by rw [dig_ge h, dig_lt (n := n % 10) (by omega)]

theorem dig_len_le (k : Nat) : ∀ n, n < 10 ^ (k + 1) → (dig n).length ≤ k + 1 := by
  induction k with
  | zero => intro n h; rw [dig_lt (by simpa using h)]; simp
  | succ k ih =>
    intro n h
    by_cases hn : n < 10
    · rw [dig_lt hn]; simp
    · rw [dig_ge hn, List.length_append]
      have := ih (n / 10) (by rw [Nat.pow_succ] at h; omega)
      simp; omega
theorem dig_len (n : Nat) : (dig n).length ≤ n + 1 := by
  refine dig_len_le n n ?_
  have : n < 10 ^ n := Nat.lt_pow_self (by omega)
  rw [Nat.pow_succ]; omega
theorem dig_len20 {n : Nat} (h : n ≤ 9223372036854775807) : (dig n).length ≤ 19 := dig_len_le 18 n (by omega)

theorem dig_eq (k : Nat) : ∀ n, n ≤ k → dig n = Lib.decDigits n := by
  induction k with
  | zero => intro n h; obtain rfl : n = 0 := by omega
            rw [dig_lt (by omega), Lib.decDigits, dif_pos (by omega)]
  | succ k ih =>
    intro n h
    by_cases hn : n < 10
    · rw [dig_lt hn, Lib.decDigits, dif_pos hn]
    · rw [dig_ge hn, Lib.decDigits, dif_neg hn, ih (n / 10) (by omega)]
theorem itoa_nat (n : Nat) : Lib.itoa n = dig n := by
  rw [Lib.itoa, if_neg (by omega), dig_eq n n (Nat.le_refl _)]; rfl

/-- A row's bytes. -/
def rowL (ss : List (List UInt8)) : List UInt8 := ss.flatMap fun s => dig s.length ++ 58 :: s
theorem rowL_append (a b : List (List UInt8)) : rowL (a ++ b) = rowL a ++ rowL b := by simp [rowL]
theorem rowL_take_succ (ss : List (List UInt8)) (k : Nat) (h : k < ss.length) : rowL (ss.take (k + 1)) = rowL (ss.take k) ++ (dig ss[k].length ++ 58 :: ss[k]) := by
  rw [take_at _ _ h, rowL_append]; simp [rowL]
theorem rowL_take_le (ss : List (List UInt8)) (k : Nat) : (rowL (ss.take k)).length ≤ (rowL ss).length := by
  have h : rowL ss = rowL (ss.take k) ++ rowL (ss.drop k) := by rw [← rowL_append, List.take_append_drop]
  rw [h, List.length_append]; omega

def headFrom (i n : Nat) : List UInt8 → Nat × List UInt8 × Nat
  | [] => (0, [], 4)
  | c :: r =>
    if c.toNat = 58 ∧ 0 < i then (n, r, 0)
    else if c.toNat < 48 ∨ 57 < c.toNat ∨ i = 9 ∨ (0 < i ∧ n = 0) then (0, [], 3)
    else headFrom (i + 1) (10 * n + (c.toNat - 48)) r
theorem headFrom_done {k m : Nat} {c : UInt8} {r : List UInt8} (h : c.toNat = 58) (hk : 0 < k) : headFrom k m (c :: r) = (m, r, 0) := by
  rw [headFrom, if_pos ⟨h, hk⟩]
theorem headFrom_bad {k m : Nat} {c : UInt8} {r : List UInt8} (h : ¬ (c.toNat = 58 ∧ 0 < k)) (hk : c.toNat < 48 ∨ 57 < c.toNat ∨ k = 9 ∨ (0 < k ∧ m = 0)) : headFrom k m (c :: r) = (0, [], 3) := by
  rw [headFrom, if_neg h, if_pos hk]
theorem headFrom_more {k m : Nat} {c : UInt8} {r : List UInt8} (h : ¬ (c.toNat = 58 ∧ 0 < k)) (hk : ¬ (c.toNat < 48 ∨ 57 < c.toNat ∨ k = 9 ∨ (0 < k ∧ m = 0))) : headFrom k m (c :: r) = headFrom (k + 1) (10 * m + (c.toNat - 48)) r := by
  rw [headFrom, if_neg h, if_neg hk]
theorem headFrom_len (l : List UInt8) : ∀ k m, (headFrom k m l).2.2 = 0 → (headFrom k m l).2.1.length < l.length := by
  induction l with
  | nil => intro k m h; simp [headFrom] at h
  | cons c r ih =>
    intro k m
    unfold headFrom
    split
    · intro _; simp
    · split
      · intro h; simp at h
      · intro h; have := ih _ _ h; simp; omega

/-- What is behind a row that has been read. -/
def fin (out : List (List UInt8)) (p : List (List UInt8) × Nat) : List (List UInt8) × Nat := if p.2 = 0 then (out ++ p.1, 0) else ([], p.2)
theorem fin_fin (a b : List (List UInt8)) (p : List (List UInt8) × Nat) : fin a (fin b p) = fin (a ++ b) p := by
  unfold fin; by_cases h : p.2 = 0 <;> simp [h]
/-- The row of a text. -/
def textsL (l : List UInt8) : List (List UInt8) × Nat :=
  if l = [] then ([], 0)
  else if _h : (headFrom 0 0 l).2.2 = 0 then
    if (headFrom 0 0 l).2.1.length < (headFrom 0 0 l).1 then ([], 4)
    else fin [(headFrom 0 0 l).2.1.take (headFrom 0 0 l).1] (textsL ((headFrom 0 0 l).2.1.drop (headFrom 0 0 l).1))
  else ([], (headFrom 0 0 l).2.2)
termination_by l.length
decreasing_by
  have := headFrom_len l 0 0 _h
  rw [List.length_drop]; omega
theorem textsL_nil : textsL [] = ([], 0) := by rw [textsL]; simp
theorem textsL_err {l t : List UInt8} {n c : Nat} (h : headFrom 0 0 l = (n, t, c)) (hl : l ≠ []) (hc : c ≠ 0) : textsL l = ([], c) := by
  rw [textsL, if_neg hl, h]; simp [hc]
theorem textsL_short {l t : List UInt8} {n : Nat} (h : headFrom 0 0 l = (n, t, 0)) (hl : l ≠ []) (hc : t.length < n) : textsL l = ([], 4) := by
  rw [textsL, if_neg hl, h]; simp [hc]
theorem textsL_more {l t : List UInt8} {n : Nat} (h : headFrom 0 0 l = (n, t, 0)) (hl : l ≠ []) (hc : ¬ t.length < n) : textsL l = fin [t.take n] (textsL (t.drop n)) := by
  rw [textsL, if_neg hl, h]; simp [hc]
theorem fin_nil (l : List UInt8) : fin [] (textsL l) = textsL l := by
  rw [textsL]
  split
  · rfl
  · split
    · split
      · rfl
      · rw [fin_fin]; rfl
    · rename_i h; simp [fin, h]
/-- Is a byte a digit? -/
def isDig (c : UInt8) : Bool := 48 ≤ c.toNat && c.toNat ≤ 57
end Go.Proofs.YtilkneajohpgiaaDoor
