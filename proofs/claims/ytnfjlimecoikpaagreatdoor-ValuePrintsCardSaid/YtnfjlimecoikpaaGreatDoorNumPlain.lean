/- Plain words of numbers: a number's text, and the number of a text. -/
import Derived.Test.YtnfjlimecoikpaaGreatDoorPackPlain
import Derived.Lib.ParseIntBCases
namespace Go.Proofs.YtnfjlimecoikpaaGreatDoor
open Go.RowKit

/-- The value of digits, on top of what stands ahead. -/
def valD (a : Nat) : List UInt8 → Nat
  | [] => a
  | c :: r => valD (10 * a + (c.toNat - 48)) r
theorem valD_append (x y : List UInt8) : ∀ a, valD a (x ++ y) = valD (valD a x) y := by
  induction x with
  | nil => intro a; rfl
  | cons c x ih => intro a; exact ih _
theorem valD_le (x : List UInt8) : ∀ a, a ≤ valD a x := by
  induction x with
  | nil => intro a; exact Nat.le_refl _
  | cons c x ih => intro a; have := ih (10 * a + (c.toNat - 48)); show a ≤ valD _ x; omega
def allDig (l : List UInt8) : Bool := l.all isDig
theorem ofNat48 {n : Nat} (h : n < 10) : (UInt8.ofNat (48 + n)).toNat = 48 + n := by
  rw [UInt8.toNat_ofNat']; omega
theorem isDig_of {n : Nat} (h : n < 10) : isDig (UInt8.ofNat (48 + n)) = true := by
  unfold isDig
  rw [ofNat48 h]
  simp only [Bool.and_eq_true, decide_eq_true_eq]; omega
theorem ofNat_val {n : Nat} (h : n < 10) : (UInt8.ofNat (48 + n)).toNat - 48 = n := by
  rw [ofNat48 h]; omega
theorem dig_all (k : Nat) : ∀ n, n ≤ k → allDig (dig n) = true := by
  induction k with
  | zero => intro n h; rw [dig_lt (by omega)]; simp only [allDig, List.all_cons, List.all_nil, isDig_of (show n < 10 by omega), Bool.and_true]
  | succ k ih =>
    intro n h
    by_cases hn : n < 10
    · rw [dig_lt hn]; simp only [allDig, List.all_cons, List.all_nil, isDig_of hn, Bool.and_true]
    · have := ih (n / 10) (by omega)
      rw [dig_ge hn]
      unfold allDig at *
      rw [List.all_append, this]; simp only [List.all_cons, List.all_nil, isDig_of (show n % 10 < 10 by omega), Bool.and_true]
theorem dig_val (k : Nat) : ∀ n, n ≤ k → valD 0 (dig n) = n := by
  induction k with
  | zero => intro n h; obtain rfl : n = 0 := by omega
            rw [dig_lt (by omega)]; rfl
  | succ k ih =>
    intro n h
    by_cases hn : n < 10
    · rw [dig_lt hn]; show 10 * 0 + _ = n; rw [ofNat_val hn]; omega
    · rw [dig_ge hn, valD_append, ih (n / 10) (by omega)]
      show 10 * (n / 10) + _ = n
      rw [ofNat_val (show n % 10 < 10 by omega)]; omega
theorem dig_ne (n : Nat) : dig n ≠ [] := by
  by_cases hn : n < 10
  · rw [dig_lt hn]; simp
  · rw [dig_ge hn]; simp
theorem itoa_neg' (u : Nat) (h : 1 ≤ u) : Lib.itoa (-(u : Int)) = 45 :: dig u := by
  unfold Lib.itoa; rw [if_pos (by omega), dig_eq u u (Nat.le_refl _)]; simp
theorem itoa_cases (v : Int) : (∃ u : Nat, v = u ∧ Lib.itoa v = dig u) ∨ (∃ u : Nat, 1 ≤ u ∧ v = -(u : Int) ∧ Lib.itoa v = 45 :: dig u) := by
  rcases Int.lt_or_le v 0 with h | h
  · refine .inr ⟨v.natAbs, by omega, by omega, ?_⟩
    have e : v = -(v.natAbs : Int) := by omega
    rw [e, itoa_neg' _ (by omega)]; simp
  · refine .inl ⟨v.toNat, by omega, ?_⟩
    have e : v = (v.toNat : Int) := by omega
    rw [e, itoa_nat]; rfl
theorem itoa_inj {a b : Int} (h : Lib.itoa a = Lib.itoa b) : a = b := by
  have d45 : ∀ (u : Nat) (l : List UInt8), dig u ≠ 45 :: l := fun u l e => by
    have := dig_all u u (Nat.le_refl _)
    rw [e] at this
    simp [allDig, isDig] at this
  rcases itoa_cases a with ⟨u, rfl, e⟩ | ⟨u, hu, rfl, e⟩ <;> rcases itoa_cases b with ⟨x, rfl, f⟩ | ⟨x, hx, rfl, f⟩ <;> rw [e, f] at h
  · have h1 := dig_val u u (Nat.le_refl _)
    have h2 := dig_val x x (Nat.le_refl _)
    rw [h] at h1; omega
  · exact absurd h (d45 _ _)
  · exact absurd h.symm (d45 _ _)
  · have h1 := dig_val u u (Nat.le_refl _)
    have h2 := dig_val x x (Nat.le_refl _)
    rw [(List.cons.inj h).2] at h1; omega

/-- What strconv says of digits. -/
theorem parse_dig (M : Nat) (hM : M < 18446744073709551616) : ∀ (l : List UInt8) (a : Nat), allDig l = true → valD a l ≤ M → Lib.parseUintM M a l = .ok (valD a l)
  | [], a, _, _ => rfl
  | c :: r, a, h, hv => by
    have hc : isDig c = true := by unfold allDig at h; simp only [List.all_cons, Bool.and_eq_true] at h; exact h.1
    have hr : allDig r = true := by unfold allDig at *; simp only [List.all_cons, Bool.and_eq_true] at h; exact h.2
    have hcd : 48 ≤ c.toNat ∧ c.toNat ≤ 57 := by simp [isDig] at hc; omega
    have hv' : valD (10 * a + (c.toNat - 48)) r ≤ M := hv
    have hle := valD_le r (10 * a + (c.toNat - 48))
    rw [Lib.parseUintM, if_pos hcd, if_neg (by omega), if_neg (by omega), Nat.mul_comm a 10]
    exact parse_dig M hM r _ hr hv'
theorem parse_itoa {v : Int} (h1 : -9223372036854775808 ≤ v) (h2 : v ≤ 9223372036854775807) : Lib.parseIntB 64 (Lib.itoa v) = .ok v := by
  have pd : ∀ u : Nat, u ≤ 9223372036854775808 → Lib.parseUintB 64 (dig u) = .ok u := fun u hu => by
    have := parse_dig (2 ^ 64 - 1) (by decide) (dig u) 0 (dig_all u u (Nat.le_refl _)) (by rw [dig_val u u (Nat.le_refl _)]; omega)
    rw [dig_val u u (Nat.le_refl _)] at this
    rw [Lib.parseUintB, if_neg (dig_ne u), this]
  rcases itoa_cases v with ⟨u, rfl, e⟩ | ⟨u, hu, rfl, e⟩
  · rw [e]
    have hp := pd u (by omega)
    cases hd : dig u with
    | nil => exact absurd hd (dig_ne u)
    | cons c r =>
      have hall := dig_all u u (Nat.le_refl _)
      rw [hd] at hall
      have hc : isDig c = true := by unfold allDig at hall; simp only [List.all_cons, Bool.and_eq_true] at hall; exact hall.1
      have hcd : 48 ≤ c.toNat ∧ c.toNat ≤ 57 := by simp [isDig] at hc; omega
      rw [hd] at hp
      rw [Lib.parseIntB_plain 64 c r (by omega) (by omega), hp]
      unfold Lib.signlessC
      simp only
      rw [if_neg (by omega)]
  · rw [e, Lib.parseIntB_minus, pd u (by omega)]
    unfold Lib.signedC
    simp only
    rw [if_neg (by omega)]
/-- The number of a text; false. -/
def intL (s : List UInt8) : Int × Bool := match Lib.parseIntB 64 s with
  | .ok v => if Lib.itoa v = s then (v, true) else (0, false)
  | _ => (0, false)
theorem parse_bounds {s : List UInt8} {v : Int} (h : Lib.parseIntB 64 s = .ok v) : -9223372036854775808 ≤ v ∧ v ≤ 9223372036854775807 := by
  cases s with
  | nil => simp [Lib.parseIntB] at h
  | cons c r =>
    unfold Lib.parseIntB at h
    simp only at h
    split at h
    · cases h
    · cases h
    · rename_i u hu
      split at h
      · cases h
      · split at h
        · cases h
        · rename_i k1 k2
          by_cases hc : c.toNat = 45
          · simp [hc] at h k1 k2; omega
          · simp [hc] at h k1 k2; omega
theorem intL_itoa {v : Int} (h1 : -9223372036854775808 ≤ v) (h2 : v ≤ 9223372036854775807) : intL (Lib.itoa v) = (v, true) := by
  unfold intL; rw [parse_itoa h1 h2]; simp
theorem intL_none {s : List UInt8} (h : ∀ v, -9223372036854775808 ≤ v → v ≤ 9223372036854775807 → Lib.itoa v ≠ s) : intL s = (0, false) := by
  unfold intL
  cases e : Lib.parseIntB 64 s with
  | ok v => have hb := parse_bounds e; simp only; rw [if_neg (h v hb.1 hb.2)]
  | _ => rfl
theorem intL_true {s : List UInt8} (h : (intL s).2 = true) : Lib.itoa (intL s).1 = s ∧ -9223372036854775808 ≤ (intL s).1 ∧ (intL s).1 ≤ 9223372036854775807 := by
  unfold intL at *
  cases e : Lib.parseIntB 64 s with
  | ok v =>
    rw [e] at h; simp only at h ⊢
    by_cases hv : Lib.itoa v = s
    · rw [if_pos hv]; exact ⟨hv, parse_bounds e⟩
    · rw [if_neg hv] at h; cases h
  | _ => rw [e] at h; cases h
end Go.Proofs.YtnfjlimecoikpaaGreatDoor
