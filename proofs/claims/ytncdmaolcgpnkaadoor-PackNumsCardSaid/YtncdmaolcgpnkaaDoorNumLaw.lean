/- The law PackNums. -/
import Derived.Test.YtncdmaolcgpnkaaDoorNumRef
namespace Go.Proofs.YtncdmaolcgpnkaaDoor
set_option maxRecDepth 100000
open Go.RowKit

def sgn (m : Bool) (a : Nat) : Int := if m = true then -(a : Int) else a
def topN (m : Bool) : Nat := if m = true then 9223372036854775808 else 9223372036854775807
theorem step_sgn (m : Bool) (a : Nat) (c : UInt8) (hc : isDig c = true) (h : 10 * a + (c.toNat - 48) ≤ topN m) : stepR m (sgn m a) c = sgn m (10 * a + (c.toNat - 48)) := by
  have hcd := isDig_is hc
  unfold stepR sgn
  unfold topN at h
  cases m with
  | true =>
    simp only [if_true] at h ⊢
    unfold wrap64; omega
  | false =>
    simp only [Bool.false_eq_true, if_false] at h ⊢
    unfold wrap64; omega
theorem loop_dig (m : Bool) : ∀ (l : List UInt8) (a : Nat), allDig l = true → valD a l ≤ topN m → loopR m (sgn m a) l = some (sgn m (valD a l))
  | [], a, _, _ => rfl
  | c :: r, a, h, hv => by
    have hc : isDig c = true := by unfold allDig at h; simp only [List.all_cons, Bool.and_eq_true] at h; exact h.1
    have hr : allDig r = true := by unfold allDig at *; simp only [List.all_cons, Bool.and_eq_true] at h; exact h.2
    have hv' : valD (10 * a + (c.toNat - 48)) r ≤ topN m := hv
    have hle := valD_le r (10 * a + (c.toNat - 48))
    rw [loopR, if_pos hc, step_sgn m a c hc (by omega)]
    exact loop_dig m r _ hr hv'
theorem loop_in (m : Bool) : ∀ (l : List UInt8) (a n : Int), -9223372036854775808 ≤ a → a ≤ 9223372036854775807 → loopR m a l = some n → -9223372036854775808 ≤ n ∧ n ≤ 9223372036854775807
  | [], a, n, h0, h1, h => by simp only [loopR, Option.some.injEq] at h; omega
  | c :: r, a, n, h0, h1, h => by
    unfold loopR at h
    split at h
    · have hb := stepR_in m a c
      exact loop_in m r _ n hb.1 hb.2 h
    · cases h
theorem refIntR_none {m : Bool} {rest s : List UInt8} (h : ∀ v, -9223372036854775808 ≤ v → v ≤ 9223372036854775807 → Lib.itoa v ≠ s) : refIntR m rest s = (0, false) := by
  unfold refIntR
  split
  · rfl
  · cases e : loopR m 0 rest with
    | none => rfl
    | some n =>
      have hb := loop_in m rest 0 n (by omega) (by omega) e
      simp only
      rw [if_neg (h n hb.1 hb.2)]
theorem refIntR_num (m : Bool) (u : Nat) (hu : u ≤ topN m) (s : List UInt8) (hs : Lib.itoa (sgn m u) = s) : refIntR m (dig u) s = (sgn m u, true) := by
  have hl : (dig u).length ≤ 19 := dig_len_le 18 u (by unfold topN at hu; split at hu <;> omega)
  have hlp := loop_dig m (dig u) 0 (dig_all u u (Nat.le_refl _)) (by rw [dig_val u u (Nat.le_refl _)]; exact hu)
  rw [dig_val u u (Nat.le_refl _)] at hlp
  have h0 : sgn m 0 = 0 := by unfold sgn; split <;> rfl
  rw [h0] at hlp
  unfold refIntR
  rw [if_neg (by intro h; rcases h with h | h; exact dig_ne u h; omega), hlp]
  simp only
  rw [if_pos hs]
theorem refInt_minus_eq (r : List UInt8) : refIntR true r (45 :: r) = intL (45 :: r) := by
  by_cases hex : ∃ v, -9223372036854775808 ≤ v ∧ v ≤ 9223372036854775807 ∧ Lib.itoa v = 45 :: r
  · obtain ⟨v, h0, h1, hv⟩ := hex
    rcases itoa_cases v with ⟨u, rfl, e⟩ | ⟨u, hu, rfl, e⟩
    · rw [e] at hv
      have := dig_all u u (Nat.le_refl _)
      rw [hv] at this; simp [allDig, isDig] at this
    · rw [e] at hv
      have hr : r = dig u := (List.cons.inj hv).2.symm
      subst hr
      rw [← e, intL_itoa h0 h1]
      exact refIntR_num true u (by unfold topN; simp; omega) _ rfl
  · have hn : ∀ v, -9223372036854775808 ≤ v → v ≤ 9223372036854775807 → Lib.itoa v ≠ 45 :: r := fun v h0 h1 h => hex ⟨v, h0, h1, h⟩
    rw [intL_none hn, refIntR_none hn]
theorem refInt_plain_eq (l : List UInt8) (hp : 0 < l.length) (hc : l[0].toNat ≠ 45) : refIntR false l l = intL l := by
  by_cases hex : ∃ v, -9223372036854775808 ≤ v ∧ v ≤ 9223372036854775807 ∧ Lib.itoa v = l
  · obtain ⟨v, h0, h1, hv⟩ := hex
    rcases itoa_cases v with ⟨u, rfl, e⟩ | ⟨u, hu, rfl, e⟩
    · rw [e] at hv
      subst hv
      have := intL_itoa h0 h1
      rw [e] at this
      rw [this]
      exact refIntR_num false u (by unfold topN; simp; omega) _ e
    · rw [e] at hv
      subst hv
      exact absurd rfl hc
  · have hn : ∀ v, -9223372036854775808 ≤ v → v ≤ 9223372036854775807 → Lib.itoa v ≠ l := fun v h0 h1 h => hex ⟨v, h0, h1, h⟩
    rw [intL_none hn, refIntR_none hn]

theorem refInt_any (l : List UInt8) (hl : l.length ≤ 281474976710656) (v : Int) (b : Bool) (h : intL l = (v, b)) (w : World) :
    Calls Tryd.prog 16 #[.string (bs l)] w fun e w' => e = .returned (.tuple #[.int .i64 v, .bool b]) ∧ Below w.heap.size w w' := by
  cases l with
  | nil =>
    obtain ⟨rfl, rfl⟩ := Prod.mk.inj h
    clear h
    go_enter Tryd.func16, Tryd.ntmps16
    go_wp2_with fail
    go_ret2
    exact ⟨rfl, Below.refl _ _⟩
  | cons c r =>
    by_cases hc : c.toNat = 45
    · obtain rfl : c = 45 := UInt8.toNat_inj.1 hc
      exact refInt_minus r w v b (by rw [refInt_minus_eq, h])
    · exact refInt_plain (c :: r) (by simp) hc w v b (by rw [refInt_plain_eq (c :: r) (by simp) hc, h])

set_option maxHeartbeats 1000000 in
theorem law_nums (n : Int) (h0 : -9223372036854775808 ≤ n) (h1 : n ≤ 9223372036854775807) (l : List UInt8) (hbig : l.length ≤ 140737488351232) (w : World) (ht : PowTab w) (he : ErrsAt w) :
    Calls Tryd.prog 7 #[.int .i64 n, .string (bs l)] w fun e w' => e = .returned (.bool true) ∧ Below w.heap.size w w' := by
  by_cases hl : 2000 < l.length
  · go_enter Tryd.func7, Tryd.ntmps7
    go_wp2_with fail
    refine (alive_any _ ht).mono ?_
    rintro e w1 ⟨rfl, hb1⟩
    go_wp2_with fail
    go_ret
    exact ⟨rfl, hb1⟩
  · obtain ⟨v, b, hv⟩ : ∃ v b, intL l = (v, b) := ⟨_, _, rfl⟩
    have HI := hid (fun W (hW : Below w.heap.size w W) => int_any l (by omega) v b hv W (ht.below hW) (he.below hW))
    have HR := hid (fun W => refInt_any l (by omega) v b hv W)
    have hlen : (Lib.itoa n).length ≤ 100 := by have := Lib.itoa_length_le n h0 h1; omega
    have HB := hid (fun W (hW : Below w.heap.size w W) => int_any (Lib.itoa n) (by omega) n true (intL_itoa h0 h1) W (ht.below hW) (he.below hW))
    have HN := hid (fun W (hW : Below w.heap.size w W) => num_any n h0 h1 W (ht.below hW))
    have HRN := hid (fun W => refNum_any n.natAbs n W (Nat.le_refl _) h0 h1)
    have Hal := hid (alive_any w ht)
    cases b with
    | false =>
      clear hv
      go_enter Tryd.func7, Tryd.ntmps7
      go_wp2_with fail
      refine Hal.out.mono ?_
      rintro e w1 ⟨rfl, hb1⟩
      go_wp2_with fail
      refine (HI.out _ hb1).mono ?_
      rintro e w2 ⟨rfl, hb2'⟩
      have hb2 := Below.chain hb1 hb2'
      go_wp2_with fail
      refine (HR.out _).mono ?_
      rintro e w3 ⟨rfl, hb3'⟩
      have hb3 := Below.chain hb2 hb3'
      go_wp2_with fail
      refine (HN.out _ hb3).mono ?_
      rintro e w4 ⟨rfl, hb4'⟩
      have hb4 := Below.chain hb3 hb4'
      go_wp2_with fail
      refine (HB.out _ hb4).mono ?_
      rintro e w5 ⟨rfl, hb5'⟩
      have hb5 := Below.chain hb4 hb5'
      go_wp2_with fail
      refine (HN.out _ hb5).mono ?_
      rintro e w6 ⟨rfl, hb6'⟩
      have hb6 := Below.chain hb5 hb6'
      go_wp2_with fail
      refine (HRN.out _).mono ?_
      rintro e w7 ⟨rfl, hb7'⟩
      have hb7 := Below.chain hb6 hb7'
      go_wp2_with fail
      go_ret
      exact ⟨rfl, hb7⟩
    | true =>
      have hi := intL_true (s := l) (by rw [hv])
      rw [hv] at hi
      simp only at hi
      obtain ⟨hi1, hi2, hi3⟩ := hi
      have HM := hid (fun W (hW : Below w.heap.size w W) => num_any v hi2 hi3 W (ht.below hW))
      rw [hi1] at HM
      clear hv hi1
      go_enter Tryd.func7, Tryd.ntmps7
      go_wp2_with fail
      refine Hal.out.mono ?_
      rintro e w1 ⟨rfl, hb1⟩
      go_wp2_with fail
      refine (HI.out _ hb1).mono ?_
      rintro e w2 ⟨rfl, hb2'⟩
      have hb2 := Below.chain hb1 hb2'
      go_wp2_with fail
      refine (HR.out _).mono ?_
      rintro e w3 ⟨rfl, hb3'⟩
      have hb3 := Below.chain hb2 hb3'
      go_wp2_with fail
      refine (HN.out _ hb3).mono ?_
      rintro e w4 ⟨rfl, hb4'⟩
      have hb4 := Below.chain hb3 hb4'
      go_wp2_with fail
      refine (HB.out _ hb4).mono ?_
      rintro e w5 ⟨rfl, hb5'⟩
      have hb5 := Below.chain hb4 hb5'
      go_wp2_with fail
      refine (HN.out _ hb5).mono ?_
      rintro e w6 ⟨rfl, hb6'⟩
      have hb6 := Below.chain hb5 hb6'
      go_wp2_with fail
      refine (HRN.out _).mono ?_
      rintro e w7 ⟨rfl, hb7'⟩
      have hb7 := Below.chain hb6 hb7'
      go_wp2_with fail
      refine (HM.out _ hb7).mono ?_
      rintro e w8 ⟨rfl, hb8'⟩
      have hb8 := Below.chain hb7 hb8'
      go_wp2_with fail
      go_ret
      exact ⟨rfl, hb8⟩
end Go.Proofs.YtncdmaolcgpnkaaDoor
