/- Several texts of one claim, laid as one. -/
import Derived.Test.YtnfjlimecoikpaaGreatDoorBase
import Derived.Lib.ItoaNum
import Derived.Lib.ParseIntBCases
import Derived.Lib.Join
import Derived.Lib.ItoaLen
/- Which of two texts stands ahead. -/
namespace Go.Proofs.YtnfjlimecoikpaaGreatDoor
open Go.RowKit

theorem bytesLess_irrefl (l : List UInt8) : Op.bytesLess l l = false := by
  induction l with
  | nil => rfl
  | cons c l ih => simp [Op.bytesLess, ih]
abbrev less (a b : List UInt8) : Bool := Op.bytesLess a b
theorem less_cons (a b : UInt8) (x y : List UInt8) : less (a :: x) (b :: y) = (decide (a < b) || (a == b && less x y)) := rfl
theorem less_trans : ∀ {x y z : List UInt8}, less x y = true → less y z = true → less x z = true
  | _, _, [], _, h => by rename_i y _; cases y <;> simp [less, Op.bytesLess] at h
  | [], _, c :: z, _, _ => rfl
  | a :: x, [], c :: z, h, _ => by simp [less, Op.bytesLess] at h
  | a :: x, b :: y, c :: z, h1, h2 => by
    rw [less_cons] at h1 h2 ⊢
    simp only [Bool.or_eq_true, decide_eq_true_eq, Bool.and_eq_true, beq_iff_eq] at h1 h2 ⊢
    rcases h1 with h1 | ⟨rfl, h1⟩
    · rcases h2 with h2 | ⟨rfl, h2⟩
      · exact .inl (UInt8.lt_trans h1 h2)
      · exact .inl h1
    · rcases h2 with h2 | ⟨rfl, h2⟩
      · exact .inl h2
      · exact .inr ⟨rfl, less_trans h1 h2⟩
theorem less_irrefl (x : List UInt8) : less x x = false := bytesLess_irrefl x
theorem less_asymm {x y : List UInt8} (h : less x y = true) : less y x = false := by
  rw [← Bool.not_eq_true]; intro h2
  have := less_trans h h2
  rw [less_irrefl] at this; cases this
theorem less_total : ∀ {x y : List UInt8}, less x y = false → less y x = false → x = y
  | [], [], _, _ => rfl
  | [], _ :: _, h, _ => by simp [less, Op.bytesLess] at h
  | _ :: _, [], _, h => by simp [less, Op.bytesLess] at h
  | a :: x, b :: y, h1, h2 => by
    rw [less_cons] at h1 h2
    simp only [Bool.or_eq_false_iff, decide_eq_false_iff_not, Bool.and_eq_false_iff, beq_eq_false_iff_ne] at h1 h2
    have hab : a = b := by
      have h3 := h1.1; have h4 := h2.1
      exact UInt8.le_antisymm (UInt8.not_lt.1 h4) (UInt8.not_lt.1 h3)
    subst hab
    have h5 : less x y = false := by rcases h1.2 with h | h; exact absurd rfl h; exact h
    have h6 : less y x = false := by rcases h2.2 with h | h; exact absurd rfl h; exact h
    rw [less_total h5 h6]
theorem less_ne {x y : List UInt8} (h : less x y = true) : x ≠ y := by rintro rfl; rw [less_irrefl] at h; cases h

end Go.Proofs.YtnfjlimecoikpaaGreatDoor
/- Plain words of rows: digits, a row's bytes, a text's row. -/
namespace Go.Proofs.YtnfjlimecoikpaaGreatDoor
open Go.RowKit

/-- A number's digits. -/
def dig (n : Nat) : List UInt8 := if n < 10 then [UInt8.ofNat (48 + n)] else dig (n / 10) ++ [UInt8.ofNat (48 + n % 10)]
theorem dig_lt {n : Nat} (h : n < 10) : dig n = [UInt8.ofNat (48 + n)] := by rw [dig, if_pos h]
theorem dig_ge {n : Nat} (h : ¬ n < 10) : dig n = dig (n / 10) ++ [UInt8.ofNat (48 + n % 10)] := by rw [dig, if_neg h]
theorem dig_ge' {n : Nat} (h : ¬ n < 10) : dig n = dig (n / 10) ++ dig (n % 10) := by rw [dig_ge h, dig_lt (n := n % 10) (by omega)]

theorem dig_len_le (k : Nat) : ∀ n, n < 10 ^ (k + 1) → (dig n).length ≤ k + 1 := by
  induction k with
  | zero => intro n h; rw [dig_lt (by simpa using h)]; simp
  | succ k ih =>
    intro n h
    by_cases hn : n < 10
    · rw [dig_lt hn]; simp
    · rw [dig_ge hn, List.length_append]
      have := ih (n / 10) (by rw [Nat.pow_succ] at h; omega)
      simp; omega
theorem dig_len (n : Nat) : (dig n).length ≤ n + 1 := by
  refine dig_len_le n n ?_
  have : n < 10 ^ n := Nat.lt_pow_self (by omega)
  rw [Nat.pow_succ]; omega
theorem dig_len20 {n : Nat} (h : n ≤ 9223372036854775807) : (dig n).length ≤ 19 := dig_len_le 18 n (by omega)

theorem dig_eq (k : Nat) : ∀ n, n ≤ k → dig n = Lib.decDigits n := by
  induction k with
  | zero => intro n h; obtain rfl : n = 0 := by omega
            rw [dig_lt (by omega), Lib.decDigits, dif_pos (by omega)]
  | succ k ih =>
    intro n h
    by_cases hn : n < 10
    · rw [dig_lt hn, Lib.decDigits, dif_pos hn]
    · rw [dig_ge hn, Lib.decDigits, dif_neg hn, ih (n / 10) (by omega)]
theorem itoa_nat (n : Nat) : Lib.itoa n = dig n := by
  rw [Lib.itoa, if_neg (by omega), dig_eq n n (Nat.le_refl _)]; rfl

/-- A row's bytes. -/
def rowL (ss : List (List UInt8)) : List UInt8 := ss.flatMap fun s => dig s.length ++ 58 :: s
theorem rowL_append (a b : List (List UInt8)) : rowL (a ++ b) = rowL a ++ rowL b := by simp [rowL]
theorem rowL_take_succ (ss : List (List UInt8)) (k : Nat) (h : k < ss.length) : rowL (ss.take (k + 1)) = rowL (ss.take k) ++ (dig ss[k].length ++ 58 :: ss[k]) := by
  rw [take_at _ _ h, rowL_append]; simp [rowL]
theorem rowL_take_le (ss : List (List UInt8)) (k : Nat) : (rowL (ss.take k)).length ≤ (rowL ss).length := by
  have h : rowL ss = rowL (ss.take k) ++ rowL (ss.drop k) := by rw [← rowL_append, List.take_append_drop]
  rw [h, List.length_append]; omega

def headFrom (i n : Nat) : List UInt8 → Nat × List UInt8 × Nat
  | [] => (0, [], 4)
  | c :: r =>
    if c.toNat = 58 ∧ 0 < i then (n, r, 0)
    else if c.toNat < 48 ∨ 57 < c.toNat ∨ i = 9 ∨ (0 < i ∧ n = 0) then (0, [], 3)
    else headFrom (i + 1) (10 * n + (c.toNat - 48)) r
theorem headFrom_done {k m : Nat} {c : UInt8} {r : List UInt8} (h : c.toNat = 58) (hk : 0 < k) : headFrom k m (c :: r) = (m, r, 0) := by
  rw [headFrom, if_pos ⟨h, hk⟩]
theorem headFrom_bad {k m : Nat} {c : UInt8} {r : List UInt8} (h : ¬ (c.toNat = 58 ∧ 0 < k)) (hk : c.toNat < 48 ∨ 57 < c.toNat ∨ k = 9 ∨ (0 < k ∧ m = 0)) : headFrom k m (c :: r) = (0, [], 3) := by
  rw [headFrom, if_neg h, if_pos hk]
theorem headFrom_more {k m : Nat} {c : UInt8} {r : List UInt8} (h : ¬ (c.toNat = 58 ∧ 0 < k)) (hk : ¬ (c.toNat < 48 ∨ 57 < c.toNat ∨ k = 9 ∨ (0 < k ∧ m = 0))) : headFrom k m (c :: r) = headFrom (k + 1) (10 * m + (c.toNat - 48)) r := by
  rw [headFrom, if_neg h, if_neg hk]
theorem headFrom_len (l : List UInt8) : ∀ k m, (headFrom k m l).2.2 = 0 → (headFrom k m l).2.1.length < l.length := by
  induction l with
  | nil => intro k m h; simp [headFrom] at h
  | cons c r ih =>
    intro k m
    unfold headFrom
    split
    · intro _; simp
    · split
      · intro h; simp at h
      · intro h; have := ih _ _ h; simp; omega

/-- What is behind a row that has been read. -/
def fin (out : List (List UInt8)) (p : List (List UInt8) × Nat) : List (List UInt8) × Nat := if p.2 = 0 then (out ++ p.1, 0) else ([], p.2)
theorem fin_fin (a b : List (List UInt8)) (p : List (List UInt8) × Nat) : fin a (fin b p) = fin (a ++ b) p := by
  unfold fin; by_cases h : p.2 = 0 <;> simp [h]
/-- The row of a text. -/
def textsL (l : List UInt8) : List (List UInt8) × Nat :=
  if l = [] then ([], 0)
  else if _h : (headFrom 0 0 l).2.2 = 0 then
    if (headFrom 0 0 l).2.1.length < (headFrom 0 0 l).1 then ([], 4)
    else fin [(headFrom 0 0 l).2.1.take (headFrom 0 0 l).1] (textsL ((headFrom 0 0 l).2.1.drop (headFrom 0 0 l).1))
  else ([], (headFrom 0 0 l).2.2)
termination_by l.length
decreasing_by
  have := headFrom_len l 0 0 _h
  rw [List.length_drop]; omega
theorem textsL_nil : textsL [] = ([], 0) := by rw [textsL]; simp
theorem textsL_err {l t : List UInt8} {n c : Nat} (h : headFrom 0 0 l = (n, t, c)) (hl : l ≠ []) (hc : c ≠ 0) : textsL l = ([], c) := by
  rw [textsL, if_neg hl, h]; simp [hc]
theorem textsL_short {l t : List UInt8} {n : Nat} (h : headFrom 0 0 l = (n, t, 0)) (hl : l ≠ []) (hc : t.length < n) : textsL l = ([], 4) := by
  rw [textsL, if_neg hl, h]; simp [hc]
theorem textsL_more {l t : List UInt8} {n : Nat} (h : headFrom 0 0 l = (n, t, 0)) (hl : l ≠ []) (hc : ¬ t.length < n) : textsL l = fin [t.take n] (textsL (t.drop n)) := by
  rw [textsL, if_neg hl, h]; simp [hc]
theorem fin_nil (l : List UInt8) : fin [] (textsL l) = textsL l := by
  rw [textsL]
  split
  · rfl
  · split
    · split
      · rfl
      · rw [fin_fin]; rfl
    · rename_i h; simp [fin, h]
/-- Is a byte a digit? -/
def isDig (c : UInt8) : Bool := 48 ≤ c.toNat && c.toNat ≤ 57
end Go.Proofs.YtnfjlimecoikpaaGreatDoor
/- Plain words of numbers: a number's text, and the number of a text. -/
namespace Go.Proofs.YtnfjlimecoikpaaGreatDoor
open Go.RowKit

/-- The value of digits, on top of what stands ahead. -/
def valD (a : Nat) : List UInt8 → Nat
  | [] => a
  | c :: r => valD (10 * a + (c.toNat - 48)) r
theorem valD_append (x y : List UInt8) : ∀ a, valD a (x ++ y) = valD (valD a x) y := by
  induction x with
  | nil => intro a; rfl
  | cons c x ih => intro a; exact ih _
theorem valD_le (x : List UInt8) : ∀ a, a ≤ valD a x := by
  induction x with
  | nil => intro a; exact Nat.le_refl _
  | cons c x ih => intro a; have := ih (10 * a + (c.toNat - 48)); show a ≤ valD _ x; omega
def allDig (l : List UInt8) : Bool := l.all isDig
theorem ofNat48 {n : Nat} (h : n < 10) : (UInt8.ofNat (48 + n)).toNat = 48 + n := by
  rw [UInt8.toNat_ofNat']; omega
theorem isDig_of {n : Nat} (h : n < 10) : isDig (UInt8.ofNat (48 + n)) = true := by
  unfold isDig
  rw [ofNat48 h]
  simp only [Bool.and_eq_true, decide_eq_true_eq]; omega
theorem ofNat_val {n : Nat} (h : n < 10) : (UInt8.ofNat (48 + n)).toNat - 48 = n := by
  rw [ofNat48 h]; omega
theorem dig_all (k : Nat) : ∀ n, n ≤ k → allDig (dig n) = true := by
  induction k with
  | zero => intro n h; rw [dig_lt (by omega)]; simp only [allDig, List.all_cons, List.all_nil, isDig_of (show n < 10 by omega), Bool.and_true]
  | succ k ih =>
    intro n h
    by_cases hn : n < 10
    · rw [dig_lt hn]; simp only [allDig, List.all_cons, List.all_nil, isDig_of hn, Bool.and_true]
    · have := ih (n / 10) (by omega)
      rw [dig_ge hn]
      unfold allDig at *
      rw [List.all_append, this]; simp only [List.all_cons, List.all_nil, isDig_of (show n % 10 < 10 by omega), Bool.and_true]
theorem dig_val (k : Nat) : ∀ n, n ≤ k → valD 0 (dig n) = n := by
  induction k with
  | zero => intro n h; obtain rfl : n = 0 := by omega
            rw [dig_lt (by omega)]; rfl
  | succ k ih =>
    intro n h
    by_cases hn : n < 10
    · rw [dig_lt hn]; show 10 * 0 + _ = n; rw [ofNat_val hn]; omega
    · rw [dig_ge hn, valD_append, ih (n / 10) (by omega)]
      show 10 * (n / 10) + _ = n
      rw [ofNat_val (show n % 10 < 10 by omega)]; omega
theorem dig_ne (n : Nat) : dig n ≠ [] := by
  by_cases hn : n < 10
  · rw [dig_lt hn]; simp
  · rw [dig_ge hn]; simp
theorem itoa_neg' (u : Nat) (h : 1 ≤ u) : Lib.itoa (-(u : Int)) = 45 :: dig u := by
  unfold Lib.itoa; rw [if_pos (by omega), dig_eq u u (Nat.le_refl _)]; simp
theorem itoa_cases (v : Int) : (∃ u : Nat, v = u ∧ Lib.itoa v = dig u) ∨ (∃ u : Nat, 1 ≤ u ∧ v = -(u : Int) ∧ Lib.itoa v = 45 :: dig u) := by
  rcases Int.lt_or_le v 0 with h | h
  · refine .inr ⟨v.natAbs, by omega, by omega, ?_⟩
    have e : v = -(v.natAbs : Int) := by omega
    rw [e, itoa_neg' _ (by omega)]; simp
  · refine .inl ⟨v.toNat, by omega, ?_⟩
    have e : v = (v.toNat : Int) := by omega
    rw [e, itoa_nat]; rfl
theorem itoa_inj {a b : Int} (h : Lib.itoa a = Lib.itoa b) : a = b := by
  have d45 : ∀ (u : Nat) (l : List UInt8), dig u ≠ 45 :: l := fun u l e => by
    have := dig_all u u (Nat.le_refl _)
    rw [e] at this
    simp [allDig, isDig] at this
  rcases itoa_cases a with ⟨u, rfl, e⟩ | ⟨u, hu, rfl, e⟩ <;> rcases itoa_cases b with ⟨x, rfl, f⟩ | ⟨x, hx, rfl, f⟩ <;> rw [e, f] at h
  · have h1 := dig_val u u (Nat.le_refl _)
    have h2 := dig_val x x (Nat.le_refl _)
    rw [h] at h1; omega
  · exact absurd h (d45 _ _)
  · exact absurd h.symm (d45 _ _)
  · have h1 := dig_val u u (Nat.le_refl _)
    have h2 := dig_val x x (Nat.le_refl _)
    rw [(List.cons.inj h).2] at h1; omega

/-- What strconv says of digits. -/
theorem parse_dig (M : Nat) (hM : M < 18446744073709551616) : ∀ (l : List UInt8) (a : Nat), allDig l = true → valD a l ≤ M → Lib.parseUintM M a l = .ok (valD a l)
  | [], a, _, _ => rfl
  | c :: r, a, h, hv => by
    have hc : isDig c = true := by unfold allDig at h; simp only [List.all_cons, Bool.and_eq_true] at h; exact h.1
    have hr : allDig r = true := by unfold allDig at *; simp only [List.all_cons, Bool.and_eq_true] at h; exact h.2
    have hcd : 48 ≤ c.toNat ∧ c.toNat ≤ 57 := by simp [isDig] at hc; omega
    have hv' : valD (10 * a + (c.toNat - 48)) r ≤ M := hv
    have hle := valD_le r (10 * a + (c.toNat - 48))
    rw [Lib.parseUintM, if_pos hcd, if_neg (by omega), if_neg (by omega), Nat.mul_comm a 10]
    exact parse_dig M hM r _ hr hv'
theorem parse_itoa {v : Int} (h1 : -9223372036854775808 ≤ v) (h2 : v ≤ 9223372036854775807) : Lib.parseIntB 64 (Lib.itoa v) = .ok v := by
  have pd : ∀ u : Nat, u ≤ 9223372036854775808 → Lib.parseUintB 64 (dig u) = .ok u := fun u hu => by
    have := parse_dig (2 ^ 64 - 1) (by decide) (dig u) 0 (dig_all u u (Nat.le_refl _)) (by rw [dig_val u u (Nat.le_refl _)]; omega)
    rw [dig_val u u (Nat.le_refl _)] at this
    rw [Lib.parseUintB, if_neg (dig_ne u), this]
  rcases itoa_cases v with ⟨u, rfl, e⟩ | ⟨u, hu, rfl, e⟩
  · rw [e]
    have hp := pd u (by omega)
    cases hd : dig u with
    | nil => exact absurd hd (dig_ne u)
    | cons c r =>
      have hall := dig_all u u (Nat.le_refl _)
      rw [hd] at hall
      have hc : isDig c = true := by unfold allDig at hall; simp only [List.all_cons, Bool.and_eq_true] at hall; exact hall.1
      have hcd : 48 ≤ c.toNat ∧ c.toNat ≤ 57 := by simp [isDig] at hc; omega
      rw [hd] at hp
      rw [Lib.parseIntB_plain 64 c r (by omega) (by omega), hp]
      unfold Lib.signlessC
      simp only
      rw [if_neg (by omega)]
  · rw [e, Lib.parseIntB_minus, pd u (by omega)]
    unfold Lib.signedC
    simp only
    rw [if_neg (by omega)]
/-- The number of a text; false. -/
def intL (s : List UInt8) : Int × Bool := match Lib.parseIntB 64 s with
  | .ok v => if Lib.itoa v = s then (v, true) else (0, false)
  | _ => (0, false)
theorem parse_bounds {s : List UInt8} {v : Int} (h : Lib.parseIntB 64 s = .ok v) : -9223372036854775808 ≤ v ∧ v ≤ 9223372036854775807 := by
  cases s with
  | nil => simp [Lib.parseIntB] at h
  | cons c r =>
    unfold Lib.parseIntB at h
    simp only at h
    split at h
    · cases h
    · cases h
    · rename_i u hu
      split at h
      · cases h
      · split at h
        · cases h
        · rename_i k1 k2
          by_cases hc : c.toNat = 45
          · simp [hc] at h k1 k2; omega
          · simp [hc] at h k1 k2; omega
theorem intL_itoa {v : Int} (h1 : -9223372036854775808 ≤ v) (h2 : v ≤ 9223372036854775807) : intL (Lib.itoa v) = (v, true) := by
  unfold intL; rw [parse_itoa h1 h2]; simp
theorem intL_none {s : List UInt8} (h : ∀ v, -9223372036854775808 ≤ v → v ≤ 9223372036854775807 → Lib.itoa v ≠ s) : intL s = (0, false) := by
  unfold intL
  cases e : Lib.parseIntB 64 s with
  | ok v => have hb := parse_bounds e; simp only; rw [if_neg (h v hb.1 hb.2)]
  | _ => rfl
theorem intL_true {s : List UInt8} (h : (intL s).2 = true) : Lib.itoa (intL s).1 = s ∧ -9223372036854775808 ≤ (intL s).1 ∧ (intL s).1 ≤ 9223372036854775807 := by
  unfold intL at *
  cases e : Lib.parseIntB 64 s with
  | ok v =>
    rw [e] at h; simp only at h ⊢
    by_cases hv : Lib.itoa v = s
    · rw [if_pos hv]; exact ⟨hv, parse_bounds e⟩
    · rw [if_neg hv] at h; cases h
  | _ => rw [e] at h; cases h
end Go.Proofs.YtnfjlimecoikpaaGreatDoor
/- Plain words of tokens: what a text begins with, a text's tokens, places. -/
namespace Go.Proofs.YtnfjlimecoikpaaGreatDoor
open Go.RowKit

def isLet (c : UInt8) : Bool := (97 ≤ c.toNat && c.toNat ≤ 122) || (65 ≤ c.toNat && c.toNat ≤ 90) || c.toNat == 95
def isGap (c : UInt8) : Bool := c.toNat == 32 || c.toNat == 9 || c.toNat == 10 || c.toNat == 13
def isWord (c : UInt8) : Bool := isLet c || isDig c
def notLine (c : UInt8) : Bool := c.toNat != 10
/-- How many bytes a text begins with that are such. -/
def runL (p : UInt8 → Bool) : List UInt8 → Nat
  | [] => 0
  | c :: r => if p c = true then runL p r + 1 else 0
theorem run_le (p : UInt8 → Bool) : ∀ s, runL p s ≤ s.length
  | [] => Nat.le_refl _
  | c :: r => by unfold runL; have := run_le p r; split <;> simp; omega
theorem run_cons {p : UInt8 → Bool} {c : UInt8} {r : List UInt8} (h : p c = true) : runL p (c :: r) = runL p r + 1 := by rw [runL, if_pos h]
theorem run_stop {p : UInt8 → Bool} {c : UInt8} {r : List UInt8} (h : p c = false) : runL p (c :: r) = 0 := by rw [runL, if_neg (by rw [h]; simp)]
theorem run_all (p : UInt8 → Bool) : ∀ s : List UInt8, (s.take (runL p s)).all p = true
  | [] => rfl
  | c :: r => by
    by_cases h : p c = true
    · rw [run_cons h, List.take_succ_cons, List.all_cons, h, run_all p r]; rfl
    · rw [run_stop (by simpa using h)]; rfl
theorem run_append {p : UInt8 → Bool} : ∀ (s t : List UInt8), s.all p = true → runL p (s ++ t) = s.length + runL p t
  | [], t, _ => by simp
  | c :: r, t, h => by
    simp only [List.all_cons, Bool.and_eq_true] at h
    show runL p (c :: (r ++ t)) = _
    rw [run_cons h.1, run_append r t h.2, List.length_cons]; omega
theorem run_full {p : UInt8 → Bool} {s : List UInt8} (h : s.all p = true) : runL p s = s.length := by
  have := run_append s [] h; simpa [runL] using this
/-- A run that ends within a text isn't changed by what follows. -/
theorem run_end {p : UInt8 → Bool} : ∀ (s : List UInt8) (x : UInt8) (t : List UInt8), p x = false → runL p (s ++ x :: t) = runL p s
  | [], x, t, h => run_stop h
  | c :: r, x, t, h => by
    show runL p (c :: (r ++ x :: t)) = _
    by_cases hc : p c = true
    · rw [run_cons hc, run_cons hc, run_end r x t h]
    · rw [run_stop (by simpa using hc), run_stop (by simpa using hc)]

/-- What a quoted text says, behind its first quote, and how many bytes it has. -/
def qGo : List UInt8 → Option (List UInt8 × Nat)
  | [] => none
  | c :: r =>
    if c.toNat = 34 then some ([], 1)
    else if c.toNat < 32 ∨ c.toNat = 127 then none
    else if c.toNat = 92 then
      match r with
      | [] => none
      | d :: r =>
        if d.toNat = 34 ∨ d.toNat = 92 then (qGo r).map fun x => (d :: x.1, x.2 + 2)
        else if d.toNat = 110 then (qGo r).map fun x => (10 :: x.1, x.2 + 2)
        else none
    else (qGo r).map fun x => (c :: x.1, x.2 + 1)
theorem qGo_cons (c : UInt8) (r : List UInt8) : qGo (c :: r) =
    if c.toNat = 34 then some ([], 1)
    else if c.toNat < 32 ∨ c.toNat = 127 then none
    else if c.toNat = 92 then
      match r with
      | [] => none
      | d :: r =>
        if d.toNat = 34 ∨ d.toNat = 92 then (qGo r).map fun x => (d :: x.1, x.2 + 2)
        else if d.toNat = 110 then (qGo r).map fun x => (10 :: x.1, x.2 + 2)
        else none
    else (qGo r).map fun x => (c :: x.1, x.2 + 1) := by
  cases r with
  | nil => rw [qGo.eq_def]
  | cons d r => rw [qGo.eq_def]
def signs : List UInt8 := [61, 43, 40, 41, 91, 93, 123, 125, 44, 58, 59]
def numP (s : List UInt8) : Nat × List UInt8 × Nat × Nat :=
  if 1 < runL isDig s ∧ s.head? = some 48 then (0, [], 0, 3)
  else if 9223372036854775807 < valD 0 (s.take (runL isDig s)) then (0, [], 0, 2)
  else (2, s.take (runL isDig s), runL isDig s, 0)
/-- What a text begins with: the kind, the text, how many bytes; the error. -/
def pieceL : List UInt8 → Nat × List UInt8 × Nat × Nat
  | [] => (0, [], 0, 3)
  | c :: r =>
    if isGap c = true then (0, [], 1, 0)
    else if c.toNat = 35 then (0, [], runL notLine (c :: r), 0)
    else if isLet c = true then (1, (c :: r).take (runL isWord (c :: r)), runL isWord (c :: r), 0)
    else if isDig c = true then numP (c :: r)
    else if c.toNat = 34 then (match qGo r with | none => (0, [], 0, 3) | some x => (3, x.1, x.2 + 1, 0))
    else if (c.toNat = 61 ∨ c.toNat = 33) ∧ r.head? = some 61 then (4, [c, 61], 2, 0)
    else if c ∈ signs then (4, [c], 1, 0)
    else (0, [], 0, 3)

theorem piece_cons (c : UInt8) (r : List UInt8) : pieceL (c :: r) =
    if isGap c = true then (0, [], 1, 0)
    else if c.toNat = 35 then (0, [], runL notLine (c :: r), 0)
    else if isLet c = true then (1, (c :: r).take (runL isWord (c :: r)), runL isWord (c :: r), 0)
    else if isDig c = true then numP (c :: r)
    else if c.toNat = 34 then (match qGo r with | none => (0, [], 0, 3) | some x => (3, x.1, x.2 + 1, 0))
    else if (c.toNat = 61 ∨ c.toNat = 33) ∧ r.head? = some 61 then (4, [c, 61], 2, 0)
    else if c ∈ signs then (4, [c], 1, 0)
    else (0, [], 0, 3) := rfl

abbrev Pl := Nat × Nat
abbrev Tok := Nat × List UInt8 × Pl
def adv (p : Pl) (c : UInt8) : Pl := if c.toNat = 10 then (p.1 + 1, 1) else (p.1, p.2 + 1)
def advs (p : Pl) (s : List UInt8) : Pl := s.foldl adv p
theorem advs_append (p : Pl) (s t : List UInt8) : advs p (s ++ t) = advs (advs p s) t := List.foldl_append ..
theorem advs_cons (p : Pl) (c : UInt8) (t : List UInt8) : advs p (c :: t) = advs (adv p c) t := rfl

theorem qGo_len : ∀ (k : Nat) (s t : List UInt8) (n : Nat), s.length ≤ k → qGo s = some (t, n) → 1 ≤ n ∧ n ≤ s.length ∧ t.length + 1 ≤ n
  | _, [], t, n, _, h => by simp [qGo] at h
  | 0, c :: r, t, n, hk, _ => by simp at hk
  | k + 1, c :: r, t, n, hk, h => by
    have hr : r.length ≤ k := by simpa using hk
    rw [qGo_cons] at h
    by_cases h1 : c.toNat = 34
    · rw [if_pos h1] at h; simp only [Option.some.injEq, Prod.mk.injEq] at h
      obtain ⟨rfl, rfl⟩ := h; simp
    · rw [if_neg h1] at h
      by_cases h2 : c.toNat < 32 ∨ c.toNat = 127
      · rw [if_pos h2] at h; cases h
      · rw [if_neg h2] at h
        by_cases h3 : c.toNat = 92
        · rw [if_pos h3] at h
          cases r with
          | nil => cases h
          | cons d r =>
            simp only at h
            have hr' : r.length ≤ k := by simp at hr; omega
            by_cases h4 : d.toNat = 34 ∨ d.toNat = 92
            · rw [if_pos h4] at h
              cases e : qGo r with
              | none => rw [e] at h; cases h
              | some x =>
                obtain ⟨t', n'⟩ := x
                rw [e] at h
                simp only [Option.map_some, Option.some.injEq, Prod.mk.injEq] at h
                obtain ⟨rfl, rfl⟩ := h
                have := qGo_len k r t' n' hr' e
                simp; omega
            · rw [if_neg h4] at h
              by_cases h5 : d.toNat = 110
              · rw [if_pos h5] at h
                cases e : qGo r with
                | none => rw [e] at h; cases h
                | some x =>
                  obtain ⟨t', n'⟩ := x
                  rw [e] at h
                  simp only [Option.map_some, Option.some.injEq, Prod.mk.injEq] at h
                  obtain ⟨rfl, rfl⟩ := h
                  have := qGo_len k r t' n' hr' e
                  simp; omega
              · rw [if_neg h5] at h; cases h
        · rw [if_neg h3] at h
          cases e : qGo r with
          | none => rw [e] at h; cases h
          | some x =>
            obtain ⟨t', n'⟩ := x
            rw [e] at h
            simp only [Option.map_some, Option.some.injEq, Prod.mk.injEq] at h
            obtain ⟨rfl, rfl⟩ := h
            have := qGo_len k r t' n' hr e
            simp; omega
/-- A piece that is right has a byte, and lies in the text. -/
theorem piece_size {c : UInt8} {r t : List UInt8} {k n : Nat} (h : pieceL (c :: r) = (k, t, n, 0)) : 1 ≤ n ∧ n ≤ (c :: r).length ∧ t.length ≤ n := by
  rw [piece_cons] at h
  by_cases h1 : isGap c = true
  · rw [if_pos h1] at h; simp only [Prod.mk.injEq] at h; obtain ⟨rfl, rfl, rfl, -⟩ := h; simp
  rw [if_neg h1] at h
  by_cases h2 : c.toNat = 35
  · rw [if_pos h2] at h; simp only [Prod.mk.injEq] at h; obtain ⟨rfl, rfl, rfl, -⟩ := h
    have := run_le notLine (c :: r)
    rw [run_cons (by simp [notLine, h2])] at *
    simp at *; omega
  rw [if_neg h2] at h
  by_cases h3 : isLet c = true
  · rw [if_pos h3] at h; simp only [Prod.mk.injEq] at h; obtain ⟨rfl, rfl, rfl, -⟩ := h
    have := run_le isWord (c :: r)
    refine ⟨?_, this, List.length_take_le _ _⟩
    rw [run_cons (by simp [isWord, h3])]; omega
  rw [if_neg h3] at h
  by_cases h4 : isDig c = true
  · rw [if_pos h4] at h
    unfold numP at h
    have := run_le isDig (c :: r)
    have h1 : 1 ≤ runL isDig (c :: r) := by rw [run_cons h4]; omega
    split at h
    · simp at h
    · split at h
      · simp at h
      · simp only [Prod.mk.injEq] at h; obtain ⟨rfl, rfl, rfl, -⟩ := h
        exact ⟨h1, this, List.length_take_le _ _⟩
  rw [if_neg h4] at h
  by_cases h5 : c.toNat = 34
  · rw [if_pos h5] at h
    cases e : qGo r with
    | none => rw [e] at h; simp at h
    | some x =>
      rw [e] at h
      simp only [Prod.mk.injEq] at h; obtain ⟨rfl, rfl, rfl, -⟩ := h
      have := qGo_len r.length r x.1 x.2 (Nat.le_refl _) e
      simp; omega
  rw [if_neg h5] at h
  by_cases h6 : (c.toNat = 61 ∨ c.toNat = 33) ∧ r.head? = some 61
  · rw [if_pos h6] at h; simp only [Prod.mk.injEq] at h; obtain ⟨rfl, rfl, rfl, -⟩ := h
    cases r with
    | nil => simp at h6
    | cons d r => simp
  rw [if_neg h6] at h
  by_cases h7 : c ∈ signs
  · rw [if_pos h7] at h; simp only [Prod.mk.injEq] at h; obtain ⟨rfl, rfl, rfl, -⟩ := h; simp
  · rw [if_neg h7] at h; simp at h

/-- Tokens; the error; its place. -/
abbrev Lexed := List Tok × Nat × Pl
def finT (a : List Tok) (x : Lexed) : Lexed := if x.2.1 = 0 then (a ++ x.1, 0, (0, 0)) else ([], x.2.1, x.2.2)
def lexGo : Nat → Pl → List UInt8 → Lexed
  | _, _, [] => ([], 0, (0, 0))
  | 0, _, _ :: _ => ([], 0, (0, 0))
  | f + 1, p, c :: r =>
    if (pieceL (c :: r)).2.2.2 = 0 then
      finT (if (pieceL (c :: r)).1 = 0 then [] else [((pieceL (c :: r)).1, (pieceL (c :: r)).2.1, p)]) (lexGo f (advs p ((c :: r).take (pieceL (c :: r)).2.2.1)) ((c :: r).drop (pieceL (c :: r)).2.2.1))
    else ([], (pieceL (c :: r)).2.2.2, p)
def lexL (p : Pl) (s : List UInt8) : Lexed := lexGo s.length p s
theorem lexGo_fuel : ∀ (f g : Nat) (p : Pl) (s : List UInt8), s.length ≤ f → s.length ≤ g → lexGo f p s = lexGo g p s
  | f, g, p, [], _, _ => by cases f <;> cases g <;> rfl
  | 0, _, _, _ :: _, h, _ => by simp at h
  | _, 0, _, _ :: _, _, h => by simp at h
  | f + 1, g + 1, p, c :: r, hf, hg => by
    unfold lexGo
    by_cases h : (pieceL (c :: r)).2.2.2 = 0
    · rw [if_pos h, if_pos h]
      have hs := piece_size (c := c) (r := r) (k := (pieceL (c :: r)).1) (t := (pieceL (c :: r)).2.1) (n := (pieceL (c :: r)).2.2.1) (by rw [← h])
      rw [lexGo_fuel f g _ _ (by simp at hf ⊢; omega) (by simp at hg ⊢; omega)]
    · rw [if_neg h, if_neg h]
theorem lex_nil (p : Pl) : lexL p [] = ([], 0, (0, 0)) := rfl
theorem lex_bad {p : Pl} {c : UInt8} {r t : List UInt8} {k n e : Nat} (h : pieceL (c :: r) = (k, t, n, e)) (he : e ≠ 0) : lexL p (c :: r) = ([], e, p) := by
  show lexGo (r.length + 1) p (c :: r) = _
  rw [lexGo, h]; simp [he]
theorem lex_piece {p : Pl} {c : UInt8} {r t : List UInt8} {k n : Nat} (h : pieceL (c :: r) = (k, t, n, 0)) :
    lexL p (c :: r) = finT (if k = 0 then [] else [(k, t, p)]) (lexL (advs p ((c :: r).take n)) ((c :: r).drop n)) := by
  have hs := piece_size h
  show lexGo (r.length + 1) p (c :: r) = _
  rw [lexGo, h]
  simp only [if_true]
  rw [lexGo_fuel r.length ((c :: r).drop n).length _ _ (by simp; omega) (Nat.le_refl _)]
  rfl
theorem finT_nil (p : Pl) (s : List UInt8) : finT [] (lexL p s) = lexL p s := by
  have : ∀ (f : Nat) (p : Pl) (s : List UInt8), finT [] (lexGo f p s) = lexGo f p s := by
    intro f p s
    have hz : ∀ (a : List Tok) (x : Lexed), finT [] (finT a x) = finT a x := by
      intro a x; unfold finT; by_cases h : x.2.1 = 0 <;> simp [h]
    cases f with
    | zero => cases s <;> simp [lexGo, finT]
    | succ f =>
      cases s with
      | nil => simp [lexGo, finT]
      | cons c r =>
        unfold lexGo
        split
        · exact hz _ _
        · rename_i h; unfold finT; simp [h]
  exact this _ _ _
theorem finT_finT (a b : List Tok) (x : Lexed) : finT a (finT b x) = finT (a ++ b) x := by
  unfold finT; by_cases h : x.2.1 = 0 <;> simp [h]
/-- A gap's byte. -/
theorem lex_gap {p : Pl} {c : UInt8} {r : List UInt8} (h : isGap c = true) : lexL p (c :: r) = lexL (adv p c) r := by
  have hp : pieceL (c :: r) = (0, [], 1, 0) := by rw [piece_cons, if_pos h]
  rw [lex_piece hp, if_pos rfl, finT_nil]; rfl
theorem lex_gaps {s : List UInt8} : ∀ (p : Pl), lexL p s = lexL (advs p (s.take (runL isGap s))) (s.drop (runL isGap s)) := by
  induction s with
  | nil => intro p; rfl
  | cons c r ih =>
    intro p
    by_cases h : isGap c = true
    · rw [lex_gap h, run_cons h, ih]; rfl
    · rw [run_stop (by simpa using h)]; rfl
/-- All tokens of a text. -/
def allT (s : List UInt8) : Lexed := if 65536 < s.length then ([], 6, (1, 1)) else lexL (1, 1) s
/-- A text as a token. -/
def escB (c : UInt8) : List UInt8 := if c.toNat = 10 then [92, 110] else if c.toNat = 34 ∨ c.toNat = 92 then [92, c] else [c]
def badQ (c : UInt8) : Bool := (decide (c.toNat < 32) && c.toNat != 10) || c.toNat == 127
def quoteL (s : List UInt8) : List UInt8 := if s.any badQ = true then [] else 34 :: (s.flatMap escB ++ [34])
end Go.Proofs.YtnfjlimecoikpaaGreatDoor
/- Plain words of values: how many there are, how deep, what may be, texts, bytes. -/
namespace Go.Proofs.YtnfjlimecoikpaaGreatDoor
open Go.RowKit

/-- A value in memory: its kind, number, text, its two slices' heads, what they hold. -/
inductive VM where
  | mk (k n : Int) (s : List UInt8) (lv kv : Value) (l : List VM) (ks : List (List UInt8))
def VM.cells : VM → List Value
  | .mk k n s lv kv _ _ => [.int .i64 k, .int .i64 n, .string (bs s), lv, kv]
theorem VM.cells_len (v : VM) : v.cells.length = 5 := by cases v; rfl
def vmCells (l : List VM) : List Value := l.flatMap VM.cells
theorem vmCells_len (l : List VM) : (vmCells l).length = l.length * 5 := by
  induction l with
  | nil => rfl
  | cons v l ih =>
    show (v.cells ++ vmCells l).length = _
    rw [List.length_append, v.cells_len, ih, List.length_cons]; omega
mutual
/-- How many values. -/
def cnt : VM → Nat
  | .mk _ _ _ _ _ l _ => 1 + cntL l
def cntL : List VM → Nat
  | [] => 0
  | v :: r => cnt v + cntL r
end
mutual
/-- How deep. -/
def dep : VM → Nat
  | .mk _ _ _ _ _ l _ => 1 + depL l
def depL : List VM → Nat
  | [] => 0
  | v :: r => max (dep v) (depL r)
end
/-- Keys that rise, none too long. -/
def riseB : List (List UInt8) → Bool
  | [] => true
  | [a] => decide (a.length ≤ 65536)
  | a :: b :: r => decide (a.length ≤ 65536) && less a b && riseB (b :: r)
/-- May a value be, but for what is in it? -/
def nodeB (k n : Int) (s : List UInt8) (m : Nat) (ks : List (List UInt8)) : Bool :=
  if k = 0 then decide (n = 0) && s.isEmpty && m == 0 && ks.isEmpty
  else if k = 1 then (decide (n = 0) || decide (n = 1)) && s.isEmpty && m == 0 && ks.isEmpty
  else if k = 2 then s.isEmpty && m == 0 && ks.isEmpty
  else if k = 3 then decide (n = 0) && decide (s.length ≤ 65536) && m == 0 && ks.isEmpty
  else if k = 4 then decide (n = 0) && s.isEmpty && decide (m ≤ 1000) && ks.isEmpty
  else if k = 5 then decide (n = 0) && s.isEmpty && decide (m ≤ 1000) && (m == ks.length && riseB ks)
  else false
mutual
def nodesB : VM → Bool
  | .mk k n s _ _ l ks => nodesL l && nodeB k n s l.length ks
def nodesL : List VM → Bool
  | [] => true
  | v :: r => nodesB v && nodesL r
end
/-- May a value be? -/
def okB (v : VM) : Bool := decide (cnt v ≤ 20000) && decide (dep v ≤ 60) && nodesB v
theorem cnt_pos (v : VM) : 1 ≤ cnt v := by cases v; simp [cnt]
theorem dep_pos (v : VM) : 1 ≤ dep v := by cases v; simp [dep]
mutual
/-- The program's way: so deep, so many left; how many are left behind it. -/
def mayR : VM → Nat → Nat → Option Nat
  | .mk k n s _ _ l ks, d, m => if 60 < d ∨ m = 0 then none else if nodeB k n s l.length ks = false then none else mayL l (d + 1) (m - 1)
def mayL : List VM → Nat → Nat → Option Nat
  | [], _, m => some m
  | v :: r, d, m => match mayR v d m with
    | none => none
    | some m' => mayL r d m'
end
mutual
theorem mayR_is : ∀ (v : VM) (d m : Nat), mayR v d m = if dep v + d ≤ 61 ∧ cnt v ≤ m ∧ nodesB v = true then some (m - cnt v) else none
  | .mk k n s lv kv l ks, d, m => by
    unfold mayR
    by_cases h0 : 60 < d ∨ m = 0
    · rw [if_pos h0, if_neg]
      have h1 := dep_pos (.mk k n s lv kv l ks)
      have h2 := cnt_pos (.mk k n s lv kv l ks)
      omega
    · rw [if_neg h0]
      cases hb : nodeB k n s l.length ks with
      | false =>
        rw [if_pos rfl, if_neg]
        intro h
        have := h.2.2
        unfold nodesB at this
        rw [hb] at this; simp at this
      | true =>
        rw [if_neg (by simp), mayL_is l (d + 1) (m - 1)]
        have hn : nodesB (.mk k n s lv kv l ks) = nodesL l := by unfold nodesB; rw [hb, Bool.and_true]
        have hd : dep (.mk k n s lv kv l ks) = 1 + depL l := by simp [dep]
        have hc : cnt (.mk k n s lv kv l ks) = 1 + cntL l := by simp [cnt]
        rw [hn, hd, hc]
        by_cases h : (l = [] ∨ depL l + (d + 1) ≤ 61) ∧ cntL l ≤ m - 1 ∧ nodesL l = true
        · rw [if_pos h]
          have h3 : 1 + depL l + d ≤ 61 := by
            rcases h.1 with rfl | h1
            · simp [depL]; omega
            · omega
          rw [if_pos ⟨h3, by omega, h.2.2⟩]
          congr 1; omega
        · rw [if_neg h, if_neg]
          rintro ⟨h1, h2, h3⟩
          exact h ⟨.inr (by omega), by omega, h3⟩
theorem mayL_is : ∀ (l : List VM) (d m : Nat), mayL l d m = if (l = [] ∨ depL l + d ≤ 61) ∧ cntL l ≤ m ∧ nodesL l = true then some (m - cntL l) else none
  | [], d, m => by simp [mayL, cntL, nodesL]
  | v :: r, d, m => by
    unfold mayL
    rw [mayR_is v d m]
    have hdv := dep_pos v
    by_cases h : dep v + d ≤ 61 ∧ cnt v ≤ m ∧ nodesB v = true
    · rw [if_pos h]
      simp only
      rw [mayL_is r d (m - cnt v)]
      have hn : nodesL (v :: r) = nodesL r := by simp [nodesL, h.2.2]
      have hc : cntL (v :: r) = cnt v + cntL r := by simp [cntL]
      have hd : depL (v :: r) = max (dep v) (depL r) := by simp [depL]
      rw [hn, hc, hd]
      by_cases h2 : (r = [] ∨ depL r + d ≤ 61) ∧ cntL r ≤ m - cnt v ∧ nodesL r = true
      · rw [if_pos h2]
        have h4 : depL r + d ≤ 61 := by
          rcases h2.1 with rfl | h1
          · simp [depL]; omega
          · exact h1
        rw [if_pos ⟨.inr (by omega), by omega, h2.2.2⟩]
        congr 1; omega
      · rw [if_neg h2, if_neg]
        rintro ⟨h1, h3, h4⟩
        refine h2 ⟨.inr ?_, by omega, h4⟩
        rcases h1 with h1 | h1
        · cases h1
        · omega
    · rw [if_neg h, if_neg]
      rintro ⟨h1, h2, h3⟩
      have hn : nodesL (v :: r) = (nodesB v && nodesL r) := by simp [nodesL]
      have hc : cntL (v :: r) = cnt v + cntL r := by simp [cntL]
      have hd : depL (v :: r) = max (dep v) (depL r) := by simp [depL]
      rw [hn, Bool.and_eq_true] at h3
      rw [hc] at h2
      rw [hd] at h1
      refine h ⟨?_, by omega, h3.1⟩
      rcases h1 with h1 | h1
      · cases h1
      · omega
end
theorem may_ok (v : VM) : (mayR v 1 20000).isSome = okB v := by
  rw [mayR_is]
  unfold okB
  by_cases h : dep v + 1 ≤ 61 ∧ cnt v ≤ 20000 ∧ nodesB v = true
  · rw [if_pos h]
    simp only [Option.isSome_some, h.2.2, Bool.and_true]
    rw [decide_eq_true h.2.1, decide_eq_true (by omega : dep v ≤ 60)]; rfl
  · rw [if_neg h]
    simp only [Option.isSome_none]
    symm
    rw [← Bool.not_eq_true]
    intro h2
    simp only [Bool.and_eq_true, decide_eq_true_eq] at h2
    exact h ⟨by omega, h2.1.1, h2.2⟩

/-! The same values. -/
mutual
def sameB : VM → VM → Bool
  | .mk k n s _ _ l ks, .mk k' n' s' _ _ l' ks' => decide (k = k') && decide (n = n') && decide (s = s') && decide (ks = ks') && sameL l l'
def sameL : List VM → List VM → Bool
  | [], [] => true
  | v :: r, v' :: r' => sameB v v' && sameL r r'
  | [], _ :: _ => false
  | _ :: _, [] => false
end

/-! Texts. -/
def joinC : List (List UInt8) → List UInt8
  | [] => []
  | [a] => a
  | a :: b :: r => a ++ 44 :: 32 :: joinC (b :: r)
def entries : List (List UInt8) → List (List UInt8) → List (List UInt8)
  | a :: r, b :: t => (quoteL a ++ 58 :: 32 :: b) :: entries r t
  | _, _ => []
mutual
def textV : VM → List UInt8
  | .mk k n s _ _ l ks =>
    if k = 1 then (if n = 1 then [116, 114, 117, 101] else [102, 97, 108, 115, 101])
    else if k = 2 then Lib.itoa n
    else if k = 3 then quoteL s
    else if k = 4 then 91 :: (joinC (textL' l) ++ [93])
    else if k = 5 then 123 :: (joinC (entries ks (textL' l)) ++ [125])
    else [110, 111, 110, 101]
def textL' : List VM → List (List UInt8)
  | [] => []
  | v :: r => textV v :: textL' r
end
def printV (v : VM) : List UInt8 := if okB v = true then textV v else []
end Go.Proofs.YtnfjlimecoikpaaGreatDoor
/- Plain: a text quoted, byte by byte. -/
namespace Go.Proofs.YtnfjlimecoikpaaGreatDoor
open Go.RowKit

theorem esc_ten {c : UInt8} (h : c.toNat = 10) : escB c = [92, 110] := by unfold escB; rw [if_pos h]
theorem esc_two {c : UInt8} (h1 : c.toNat ≠ 10) (h : c.toNat = 34 ∨ c.toNat = 92) : escB c = [92, c] := by unfold escB; rw [if_neg h1, if_pos h]
theorem esc_one {c : UInt8} (h1 : c.toNat ≠ 10) (h : ¬ (c.toNat = 34 ∨ c.toNat = 92)) : escB c = [c] := by unfold escB; rw [if_neg h1, if_neg h]
theorem bad_ten {c : UInt8} (h : c.toNat = 10) : badQ c = false := by simp [badQ, h]
theorem bad_yes {c : UInt8} (h : c.toNat ≠ 10) (h2 : c.toNat < 32 ∨ c.toNat = 127) : badQ c = true := by
  rcases h2 with h2 | h2 <;> simp [badQ, h, h2]
theorem bad_not {c : UInt8} (h2 : ¬ (c.toNat < 32 ∨ c.toNat = 127)) : badQ c = false := by
  have h3 : ¬ c.toNat < 32 := fun h => h2 (.inl h)
  have h4 : c.toNat ≠ 127 := fun h => h2 (.inr h)
  simp [badQ, h3, h4]
def QAt (s : List UInt8) (k : Nat) (out : List UInt8) : Prop := out = 34 :: (s.take k).flatMap escB ∧ (s.take k).any badQ = false
theorem QAt.step {s : List UInt8} {k : Nat} (h : k < s.length) {out t : List UInt8} (ho : QAt s k out) (hb : badQ s[k] = false) (he : escB s[k] = t) : QAt s (k + 1) (out ++ t) := by
  obtain ⟨rfl, hq⟩ := ho
  subst he
  refine ⟨by rw [take_at s k h]; simp only [List.flatMap_append, List.flatMap_cons, List.flatMap_nil, List.append_nil, List.cons_append], ?_⟩
  rw [take_at s k h, List.any_append, hq]
  simp [hb]
theorem quote_bad {s : List UInt8} {k : Nat} (h : k < s.length) (hb : badQ s[k] = true) : quoteL s = [] := by
  unfold quoteL
  rw [if_pos (List.any_eq_true.2 ⟨s[k], List.getElem_mem h, hb⟩)]
theorem QAt.end {s out : List UInt8} (h : QAt s s.length out) : quoteL s = out ++ [34] := by
  obtain ⟨rfl, hq⟩ := h
  rw [List.take_length] at hq ⊢
  unfold quoteL
  rw [hq]; simp

end Go.Proofs.YtnfjlimecoikpaaGreatDoor
/- Plain: keys that rise, one more at the end. -/
namespace Go.Proofs.YtnfjlimecoikpaaGreatDoor
open Go.RowKit

theorem rise_snoc (a : List UInt8) : ∀ xs : List (List UInt8), riseB (xs ++ [a]) = (riseB xs && (decide (a.length ≤ 65536) && (match xs.getLast? with | none => true | some b => less b a)))
  | [] => by simp [riseB]
  | [b] => by simp [riseB]; cases less b a <;> simp
  | b :: c :: r => by
    have ih := rise_snoc a (c :: r)
    have e1 : riseB (b :: c :: (r ++ [a])) = (decide (b.length ≤ 65536) && less b c && riseB (c :: (r ++ [a]))) := rfl
    have e2 : riseB (b :: c :: r) = (decide (b.length ≤ 65536) && less b c && riseB (c :: r)) := rfl
    have e3 : (b :: c :: r).getLast? = (c :: r).getLast? := by simp [List.getLast?_cons_cons]
    show riseB (b :: c :: (r ++ [a])) = _
    rw [e1, e2, e3]
    have ih' : riseB (c :: (r ++ [a])) = _ := ih
    rw [ih']
    simp only [Bool.and_assoc]
/-- The next key's place among the ones ahead. -/
def nextB (ks : List (List UInt8)) (j : Nat) (h : j < ks.length) : Bool := decide (ks[j].length ≤ 65536) && (decide (j = 0) || less ks[j - 1] ks[j])
theorem rise_take (ks : List (List UInt8)) (j : Nat) (h : j < ks.length) : riseB (ks.take (j + 1)) = (riseB (ks.take j) && nextB ks j h) := by
  rw [take_at ks j h, rise_snoc]
  unfold nextB
  cases j with
  | zero => simp
  | succ j =>
    have e : (ks.take (j + 1)).getLast? = some ks[j] := by
      rw [take_at ks j (by omega), List.getLast?_append]; rfl
    rw [e]; simp
theorem rise_front : ∀ (xs ys : List (List UInt8)), riseB (xs ++ ys) = true → riseB xs = true
  | [], _, _ => rfl
  | [a], [], h => h
  | [a], b :: ys, h => by
    have h' : (decide (a.length ≤ 65536) && less a b && riseB (b :: ys)) = true := h
    simp only [Bool.and_eq_true] at h'
    simp [riseB]; simpa using h'.1.1
  | a :: b :: r, ys, h => by
    have h' : (decide (a.length ≤ 65536) && less a b && riseB (b :: (r ++ ys))) = true := h
    simp only [Bool.and_eq_true] at h'
    have ih := rise_front (b :: r) ys h'.2
    show (decide (a.length ≤ 65536) && less a b && riseB (b :: r)) = true
    rw [h'.1.1, h'.1.2, ih]; rfl
theorem rise_bad {ks : List (List UInt8)} {j : Nat} (h : j < ks.length) (hb : nextB ks j h = false) : riseB ks = false := by
  rw [← Bool.not_eq_true]
  intro h2
  have : riseB (ks.take (j + 1)) = true := rise_front _ (ks.drop (j + 1)) (by rw [List.take_append_drop]; exact h2)
  rw [rise_take ks j h, hb] at this
  simp at this
end Go.Proofs.YtnfjlimecoikpaaGreatDoor
/- Plain: how long values' texts are; joins. -/
namespace Go.Proofs.YtnfjlimecoikpaaGreatDoor
set_option maxRecDepth 100000
open Go.RowKit

theorem join_is (ss : List (List UInt8)) : Lib.join ss [44, 32] = joinC ss := by
  cases ss with
  | nil => rfl
  | cons a r =>
    rw [Lib.join_cons]
    induction r generalizing a with
    | nil => simp [Lib.joinTail, joinC]
    | cons b r ih =>
      have e : joinC (a :: b :: r) = a ++ 44 :: 32 :: joinC (b :: r) := rfl
      rw [e, ← ih b]
      simp [Lib.joinTail]
/-- How long texts are together, each with what may stand around it. -/
def tot (ts : List (List UInt8)) : Nat := (ts.map fun t => t.length + 131078).sum
theorem tot_cons (a : List UInt8) (r : List (List UInt8)) : tot (a :: r) = a.length + 131078 + tot r := by simp [tot]
theorem joinC_le : ∀ ts : List (List UInt8), (joinC ts).length ≤ tot ts
  | [] => by simp [joinC]
  | [a] => by simp [joinC, tot]
  | a :: b :: r => by
    have ih := joinC_le (b :: r)
    have e : joinC (a :: b :: r) = a ++ 44 :: 32 :: joinC (b :: r) := rfl
    rw [e, tot_cons]
    simp only [List.length_append, List.length_cons]; omega
theorem esc_lenV (c : UInt8) : (escB c).length ≤ 2 := by unfold escB; split <;> (try split) <;> simp
theorem flat_lenV : ∀ s : List UInt8, (s.flatMap escB).length ≤ 2 * s.length
  | [] => by simp
  | c :: r => by
    have := flat_lenV r
    have := esc_lenV c
    simp only [List.flatMap_cons, List.length_append, List.length_cons]; omega
theorem quoteL_le (s : List UInt8) : (quoteL s).length ≤ 2 * s.length + 2 := by
  unfold quoteL
  split
  · simp
  · have := flat_lenV s
    simp only [List.length_cons, List.length_append, List.length_nil]; omega
theorem rise_each : ∀ (ks : List (List UInt8)), riseB ks = true → ∀ k ∈ ks, k.length ≤ 65536
  | [], _, k, h => by cases h
  | [a], h, k, hk => by
    obtain rfl := List.mem_singleton.1 hk
    simpa [riseB] using h
  | a :: b :: r, h, k, hk => by
    have h' : (decide (a.length ≤ 65536) && less a b && riseB (b :: r)) = true := h
    simp only [Bool.and_eq_true, decide_eq_true_eq] at h'
    rcases List.mem_cons.1 hk with rfl | hk
    · exact h'.1.1
    · exact rise_each (b :: r) h'.2 k hk
/-- The entries' lengths, quotes and all, within what tot allows. -/
theorem entries_le : ∀ (ks ts : List (List UInt8)), (∀ k ∈ ks, k.length ≤ 65536) → (joinC (entries ks ts)).length ≤ tot ts
  | [], _, _ => by simp [entries, joinC]
  | _ :: _, [], _ => by simp [entries, joinC]
  | [a], b :: t, h => by
    have e : entries [a] (b :: t) = [quoteL a ++ 58 :: 32 :: b] := by cases t <;> rfl
    have := quoteL_le a
    have := h a (by simp)
    rw [e, tot_cons]
    simp only [joinC, List.length_append, List.length_cons]; omega
  | a :: a' :: r, [b], h => by
    have e : entries (a :: a' :: r) [b] = [quoteL a ++ 58 :: 32 :: b] := rfl
    have := quoteL_le a
    have := h a (by simp)
    rw [e, tot_cons]
    simp only [joinC, List.length_append, List.length_cons]; omega
  | a :: a' :: r, b :: b' :: t, h => by
    have ih := entries_le (a' :: r) (b' :: t) (fun k hk => h k (List.mem_cons_of_mem _ hk))
    have := quoteL_le a
    have := h a (by simp)
    have e : entries (a :: a' :: r) (b :: b' :: t) = (quoteL a ++ 58 :: 32 :: b) :: entries (a' :: r) (b' :: t) := rfl
    have e2 : entries (a' :: r) (b' :: t) = (quoteL a' ++ 58 :: 32 :: b') :: entries r t := rfl
    have e3 : joinC (entries (a :: a' :: r) (b :: b' :: t)) = (quoteL a ++ 58 :: 32 :: b) ++ 44 :: 32 :: joinC (entries (a' :: r) (b' :: t)) := by rw [e, e2]; rfl
    rw [e3, tot_cons]
    simp only [List.length_append, List.length_cons]; omega
theorem node_text {k n : Int} {s : List UInt8} {m : Nat} {ks : List (List UInt8)} (h : nodeB k n s m ks = true) : s.length ≤ 65536 ∧ ∀ x ∈ ks, x.length ≤ 65536 := by
  unfold nodeB at h
  by_cases h0 : k = 0
  · rw [if_pos h0] at h; simp at h; rw [h.2]; exact ⟨by rw [h.1.1.2]; simp, by simp⟩
  rw [if_neg h0] at h
  by_cases h1 : k = 1
  · rw [if_pos h1] at h; simp at h; rw [h.2]; exact ⟨by rw [h.1.1.2]; simp, by simp⟩
  rw [if_neg h1] at h
  by_cases h2 : k = 2
  · rw [if_pos h2] at h; simp at h; rw [h.2]; exact ⟨by rw [h.1.1]; simp, by simp⟩
  rw [if_neg h2] at h
  by_cases h3 : k = 3
  · rw [if_pos h3] at h; simp at h; rw [h.2]; exact ⟨h.1.1.2, by simp⟩
  rw [if_neg h3] at h
  by_cases h4 : k = 4
  · rw [if_pos h4] at h; simp at h; rw [h.2]; exact ⟨by rw [h.1.1.2]; simp, by simp⟩
  rw [if_neg h4] at h
  by_cases h5 : k = 5
  · rw [if_pos h5] at h; simp at h; exact ⟨by rw [h.1.1.2]; simp, rise_each ks h.2.2⟩
  rw [if_neg h5] at h; cases h
theorem itoa_short (n : Int) : (Lib.itoa n).length ≤ 100 ∨ n < -9223372036854775808 ∨ 9223372036854775807 < n := by
  by_cases h0 : n < -9223372036854775808
  · exact .inr (.inl h0)
  · by_cases h1 : 9223372036854775807 < n
    · exact .inr (.inr h1)
    · exact .inl (by have := Lib.itoa_length_le n (by omega) (by omega); omega)
mutual
/-- Every number fits its kind. -/
def fitB : VM → Bool
  | .mk k n _ _ _ l _ => decide (-9223372036854775808 ≤ k ∧ k ≤ 9223372036854775807 ∧ -9223372036854775808 ≤ n ∧ n ≤ 9223372036854775807) && fitL l
def fitL : List VM → Bool
  | [] => true
  | v :: r => fitB v && fitL r
end
mutual
theorem textV_le : ∀ v : VM, nodesB v = true → fitB v = true → (textV v).length + 131100 ≤ 400000 * cnt v
  | .mk k n s lv kv l ks, h, hf => by
    have hn : nodesL l = true ∧ nodeB k n s l.length ks = true := by simpa [nodesB] using h
    have hfl : (-9223372036854775808 ≤ k ∧ k ≤ 9223372036854775807 ∧ -9223372036854775808 ≤ n ∧ n ≤ 9223372036854775807) ∧ fitL l = true := by simpa [fitB] using hf
    have ih := textL_le l hn.1 hfl.2
    have hc : cnt (.mk k n s lv kv l ks) = 1 + cntL l := by simp [cnt]
    obtain ⟨hs, hk⟩ := node_text hn.2
    rw [hc]
    unfold textV
    split
    · split <;> simp <;> omega
    · split
      · rcases itoa_short n with h | h | h <;> omega
      · split
        · have := quoteL_le s; omega
        · split
          · have := joinC_le (textL' l)
            simp only [List.length_cons, List.length_append, List.length_nil]; omega
          · split
            · have := entries_le ks (textL' l) hk
              simp only [List.length_cons, List.length_append, List.length_nil]; omega
            · simp; omega
theorem textL_le : ∀ l : List VM, nodesL l = true → fitL l = true → tot (textL' l) ≤ 400000 * cntL l
  | [], _, _ => by simp [textL', tot]
  | v :: r, h, hf => by
    have hn : nodesB v = true ∧ nodesL r = true := by simpa [nodesL] using h
    have hfl : fitB v = true ∧ fitL r = true := by simpa [fitL] using hf
    have h1 := textV_le v hn.1 hfl.1
    have h2 := textL_le r hn.2 hfl.2
    have hc : cntL (v :: r) = cnt v + cntL r := by simp [cntL]
    have e : textL' (v :: r) = textV v :: textL' r := by simp [textL']
    rw [hc, e, tot_cons]; omega
end
theorem textL_map : ∀ l : List VM, textL' l = l.map textV
  | [] => by simp [textL']
  | v :: r => by simp [textL', textL_map r]
end Go.Proofs.YtnfjlimecoikpaaGreatDoor
/- Plain: texts joined, one more at the end. -/
namespace Go.Proofs.YtnfjlimecoikpaaGreatDoor
set_option maxRecDepth 100000
open Go.RowKit

/-- How long texts are together, each with a comma and a blank. -/
def sl (ts : List (List UInt8)) : Nat := (ts.map fun t => t.length + 2).sum
theorem sl_cons (a : List UInt8) (r : List (List UInt8)) : sl (a :: r) = a.length + 2 + sl r := by simp [sl]
theorem joinC_sl : ∀ ts : List (List UInt8), (joinC ts).length ≤ sl ts
  | [] => by simp [joinC]
  | [a] => by simp [joinC, sl]
  | a :: b :: r => by
    have ih := joinC_sl (b :: r)
    have e : joinC (a :: b :: r) = a ++ 44 :: 32 :: joinC (b :: r) := rfl
    rw [e, sl_cons]
    simp only [List.length_append, List.length_cons]; omega
theorem sl_app (a b : List (List UInt8)) : sl (a ++ b) = sl a + sl b := by unfold sl; simp
theorem sl_take (ts : List (List UInt8)) (j : Nat) : sl (ts.take j) ≤ sl ts := by
  have : sl ts = sl (ts.take j) + sl (ts.drop j) := by rw [← sl_app, List.take_append_drop]
  omega
theorem sl_tot : ∀ ts : List (List UInt8), sl ts ≤ tot ts
  | [] => by simp [sl]
  | a :: r => by have := sl_tot r; rw [sl_cons, tot_cons]; omega
theorem sl_entries : ∀ (ks ts : List (List UInt8)), (∀ k ∈ ks, k.length ≤ 65536) → sl (entries ks ts) ≤ tot ts
  | [], ts, _ => by cases ts <;> simp [entries, sl]
  | _ :: _, [], _ => by simp [entries, sl]
  | a :: r, b :: t, h => by
    have ih := sl_entries r t (fun k hk => h k (List.mem_cons_of_mem _ hk))
    have := quoteL_le a
    have := h a (by simp)
    have e : entries (a :: r) (b :: t) = (quoteL a ++ 58 :: 32 :: b) :: entries r t := rfl
    rw [e, sl_cons, tot_cons]
    simp only [List.length_append, List.length_cons]; omega
theorem joinC_snoc (a : List UInt8) : ∀ xs : List (List UInt8), xs ≠ [] → joinC (xs ++ [a]) = joinC xs ++ 44 :: 32 :: a
  | [], h => absurd rfl h
  | [b], _ => rfl
  | b :: c :: r, _ => by
    have ih := joinC_snoc a (c :: r) (by simp)
    have e1 : joinC (b :: c :: (r ++ [a])) = b ++ 44 :: 32 :: joinC (c :: (r ++ [a])) := rfl
    have e2 : joinC (b :: c :: r) = b ++ 44 :: 32 :: joinC (c :: r) := rfl
    have ih' : joinC (c :: (r ++ [a])) = _ := ih
    show joinC (b :: c :: (r ++ [a])) = _
    rw [e1, e2, ih']; simp
theorem join_first (e : List (List UInt8)) (h : 0 < e.length) : joinC (e.take (0 + 1)) = e[0] := by
  cases e with
  | nil => simp at h
  | cons a r => rfl
theorem join_more (e : List (List UInt8)) (j : Nat) (h0 : j ≠ 0) (h : j < e.length) : joinC (e.take (j + 1)) = joinC (e.take j) ++ 44 :: 32 :: e[j] := by
  rw [take_at e j h, joinC_snoc]
  intro e2
  have := congrArg List.length e2
  rw [List.length_take, List.length_nil] at this; omega
end Go.Proofs.YtnfjlimecoikpaaGreatDoor
