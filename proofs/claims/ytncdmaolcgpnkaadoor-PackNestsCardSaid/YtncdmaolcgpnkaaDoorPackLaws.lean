/- Plain laws of rows: a row is read back from its bytes, and bytes that are read are the row's. -/
import Derived.Test.YtncdmaolcgpnkaaDoorPackPlain
namespace Go.Proofs.YtncdmaolcgpnkaaDoor
open Go.RowKit

theorem toNat_ofNat {n : Nat} (h : n < 256) : (UInt8.ofNat n).toNat = n := by simp [UInt8.toNat_ofNat']; omega
theorem dig_pos (n : Nat) : 0 < (dig n).length := by
  by_cases h : n < 10
  · rw [dig_lt h]; simp
  · rw [dig_ge h]; simp
theorem head_dig (k : Nat) : ∀ n, n ≤ k → n < 1000000000 → ∀ r, headFrom 0 0 (dig n ++ r) = headFrom (dig n).length n r := by
  induction k with
  | zero =>
    intro n h _ r
    obtain rfl : n = 0 := by omega
    rw [dig_lt (by omega)]
    show headFrom 0 0 (UInt8.ofNat (48 + 0) :: r) = _
    rw [headFrom_more (by rw [toNat_ofNat (by omega)]; omega) (by rw [toNat_ofNat (by omega)]; omega), toNat_ofNat (by omega)]; rfl
  | succ k ih =>
    intro n h hn r
    by_cases h10 : n < 10
    · rw [dig_lt h10]
      show headFrom 0 0 (UInt8.ofNat (48 + n) :: r) = _
      rw [headFrom_more (by rw [toNat_ofNat (by omega)]; omega) (by rw [toNat_ofNat (by omega)]; omega), toNat_ofNat (by omega)]
      show headFrom 1 _ r = headFrom 1 n r
      rw [show 10 * 0 + (48 + n - 48) = n by omega]
    · have hl : (dig (n / 10)).length ≤ 8 := dig_len_le 7 (n / 10) (by omega)
      have hp := dig_pos (n / 10)
      rw [dig_ge h10, List.append_assoc, ih (n / 10) (by omega) (by omega), List.singleton_append]
      rw [headFrom_more (by rw [toNat_ofNat (by omega)]; omega) (by rw [toNat_ofNat (by omega)]; omega), toNat_ofNat (by omega), List.length_append]
      rw [show 10 * (n / 10) + (48 + n % 10 - 48) = n by omega]; rfl
theorem head_of {n : Nat} (hn : n < 1000000000) (r : List UInt8) : headFrom 0 0 (dig n ++ 58 :: r) = (n, r, 0) := by
  rw [head_dig n n (Nat.le_refl _) hn, headFrom_done rfl (dig_pos n)]
theorem of_head (l : List UInt8) : ∀ (i m : Nat) (P : List UInt8) (n : Nat) (t : List UInt8), (P = [] ∧ i = 0 ∧ m = 0 ∨ P = dig m ∧ 0 < i) → headFrom i m l = (n, t, 0) → P ++ l = dig n ++ 58 :: t := by
  induction l with
  | nil => intro i m P n t _ h; simp [headFrom] at h
  | cons c r ih =>
    intro i m P n t hP h
    by_cases h1 : c.toNat = 58 ∧ 0 < i
    · rw [headFrom_done h1.1 h1.2] at h
      simp only [Prod.mk.injEq] at h
      obtain ⟨rfl, rfl, -⟩ := h
      have hc : c = 58 := by apply UInt8.toNat_inj.1; exact h1.1
      rcases hP with ⟨_, h0, _⟩ | ⟨rfl, _⟩
      · omega
      · rw [hc]
    · by_cases h2 : c.toNat < 48 ∨ 57 < c.toNat ∨ i = 9 ∨ (0 < i ∧ m = 0)
      · rw [headFrom_bad h1 h2] at h; simp at h
      · rw [headFrom_more h1 h2] at h
        have hc : c = UInt8.ofNat (48 + (c.toNat - 48)) := by
          apply UInt8.toNat_inj.1; rw [toNat_ofNat (by omega)]; omega
        have := ih (i + 1) (10 * m + (c.toNat - 48)) (P ++ [c]) n t (.inr ⟨?_, by omega⟩) h
        · rw [List.append_assoc, List.singleton_append] at this
          exact this
        · rcases hP with ⟨rfl, rfl, rfl⟩ | ⟨rfl, hi⟩
          · rw [dig_lt (by omega)]
            show [c] = _
            rw [show 48 + (10 * 0 + (c.toNat - 48)) = 48 + (c.toNat - 48) by omega, ← hc]
          · rw [dig_ge (n := 10 * m + (c.toNat - 48)) (by omega), show (10 * m + (c.toNat - 48)) / 10 = m by omega, show (10 * m + (c.toNat - 48)) % 10 = c.toNat - 48 by omega, ← hc]
theorem of_head0 {l t : List UInt8} {n : Nat} (h : headFrom 0 0 l = (n, t, 0)) : l = dig n ++ 58 :: t := by
  exact of_head l 0 0 [] n t (.inl ⟨rfl, rfl, rfl⟩) h

theorem texts_row (ss : List (List UInt8)) (h : ∀ s ∈ ss, s.length < 1000000000) : textsL (rowL ss) = (ss, 0) := by
  induction ss with
  | nil => exact textsL_nil
  | cons s ss ih =>
    have e : rowL (s :: ss) = dig s.length ++ 58 :: (s ++ rowL ss) := by simp [rowL]
    rw [e, textsL_more (head_of (h s (by simp)) _) (by simp) (by simp), List.take_left' rfl, List.drop_left' rfl, ih (fun x hx => h x (by simp [hx]))]
    rfl
theorem row_texts (k : Nat) : ∀ l : List UInt8, l.length ≤ k → (textsL l).2 = 0 → rowL (textsL l).1 = l := by
  induction k with
  | zero => intro l hl _; rw [List.eq_nil_of_length_eq_zero (by omega : l.length = 0), textsL_nil]; rfl
  | succ k ih =>
    intro l hl h
    by_cases h0 : l = []
    · subst h0; rw [textsL_nil]; rfl
    · obtain ⟨n, t, c, hh⟩ : ∃ n t c, headFrom 0 0 l = (n, t, c) := ⟨_, _, _, rfl⟩
      by_cases hc : c = 0
      · subst hc
        by_cases hlt : t.length < n
        · rw [textsL_short hh h0 hlt] at h; simp at h
        · have ht := headFrom_len l 0 0 (by rw [hh])
          rw [hh] at ht
          rw [textsL_more hh h0 hlt] at h ⊢
          unfold fin at h ⊢
          by_cases h2 : (textsL (t.drop n)).2 = 0
          · rw [if_pos h2]
            have := ih (t.drop n) (by rw [List.length_drop]; simp at ht; omega) h2
            have hn : (t.take n).length = n := List.length_take_of_le (by omega)
            simp only [List.singleton_append]
            rw [show rowL (t.take n :: (textsL (t.drop n)).1) = dig (t.take n).length ++ 58 :: (t.take n ++ rowL (textsL (t.drop n)).1) by simp [rowL], this, hn, List.take_append_drop]
            exact (of_head0 hh).symm
          · rw [if_neg h2] at h; exact absurd h h2
      · rw [textsL_err hh h0 hc] at h; exact absurd h hc
theorem row_texts' {l : List UInt8} (h : (textsL l).2 = 0) : rowL (textsL l).1 = l := row_texts _ l (Nat.le_refl _) h

theorem row_inj {a b : List (List UInt8)} (ha : ∀ s ∈ a, s.length < 1000000000) (hb : ∀ s ∈ b, s.length < 1000000000) (h : rowL a = rowL b) : a = b := by
  have h1 := texts_row a ha
  rw [h, texts_row b hb] at h1
  simpa using h1.symm
theorem row_nil {a : List (List UInt8)} (h : (rowL a).length = 0) : a = [] := by
  cases a with
  | nil => rfl
  | cons s a => simp [rowL] at h
theorem dig_take (k : Nat) : ∀ n, n ≤ k → ∀ j, 0 < j → j ≤ (dig n).length → ∃ m, m ≤ n ∧ (dig n).take j = dig m := by
  induction k with
  | zero =>
    intro n h j h0 hj
    obtain rfl : n = 0 := by omega
    rw [dig_lt (by omega)] at hj ⊢
    obtain rfl : j = 1 := by simp at hj; omega
    exact ⟨0, by omega, by rw [dig_lt (by omega)]; rfl⟩
  | succ k ih =>
    intro n h j h0 hj
    by_cases hl : j = (dig n).length
    · exact ⟨n, by omega, by rw [hl, List.take_length]⟩
    · by_cases h10 : n < 10
      · rw [dig_lt h10] at hj hl; simp at hj hl; omega
      · have e := dig_ge h10
        rw [e, List.length_append] at hj hl
        simp at hj hl
        obtain ⟨m, hm, he⟩ := ih (n / 10) (by omega) j h0 (by omega)
        exact ⟨m, by omega, by rw [e, List.take_append_of_le_length (by omega), he]⟩
theorem cut_row (ss : List (List UInt8)) (h : ∀ s ∈ ss, s.length < 1000000000) : ∀ k, k < (rowL ss).length → textsL ((rowL ss).take k) = ([], 4) ∨ ∃ j, j < ss.length ∧ textsL ((rowL ss).take k) = (ss.take j, 0) := by
  induction ss with
  | nil => intro k hk; simp [rowL] at hk
  | cons s ss ih =>
    intro k hk
    have e : rowL (s :: ss) = dig s.length ++ 58 :: (s ++ rowL ss) := by simp [rowL]
    have hs := h s (by simp)
    rw [e] at hk ⊢
    by_cases hk0 : k = 0
    · subst hk0
      exact .inr ⟨0, by simp, by rw [List.take_zero, textsL_nil]; rfl⟩
    · by_cases hk1 : k ≤ (dig s.length).length
      · obtain ⟨m, hm, he⟩ := dig_take _ s.length (Nat.le_refl _) k (by omega) hk1
        rw [List.take_append_of_le_length hk1, he]
        left
        refine textsL_err (n := 0) (t := []) (c := 4) ?_ ?_ (by omega)
        · have := head_dig m m (Nat.le_refl _) (by omega) []
          rw [List.append_nil] at this
          rw [this]; rfl
        · intro e0; have := dig_pos m; rw [e0] at this; simp at this
      · obtain ⟨k1, rfl⟩ : ∃ k1, k = (dig s.length).length + (1 + k1) := ⟨k - (dig s.length).length - 1, by omega⟩
        have e2 : (dig s.length ++ 58 :: (s ++ rowL ss)).take ((dig s.length).length + (1 + k1)) = dig s.length ++ 58 :: (s ++ rowL ss).take k1 := by
          rw [List.take_length_add_append, Nat.add_comm 1 k1, List.take_succ_cons]
        rw [e2]
        by_cases hk2 : k1 < s.length
        · left
          exact textsL_short (head_of hs _) (by simp) (by rw [List.length_take]; omega)
        · obtain ⟨k2, rfl⟩ : ∃ k2, k1 = s.length + k2 := ⟨k1 - s.length, by omega⟩
          have hk3 : k2 < (rowL ss).length := by simp at hk; omega
          rw [List.take_length_add_append, textsL_more (head_of hs _) (by simp) (by simp), List.take_left' rfl, List.drop_left' rfl]
          rcases ih (fun x hx => h x (by simp [hx])) k2 hk3 with h4 | ⟨j, hj, h4⟩
          · left; rw [h4]; rfl
          · right; exact ⟨j + 1, by simp; omega, by rw [h4]; rfl⟩
end Go.Proofs.YtncdmaolcgpnkaaDoor
