/- Several texts of one claim, laid as one. -/
import Derived.Test.YtnfjlimecoikpaaGreatDoorMPlain
/- Plain laws of rows: a row is read back from its bytes, and bytes that are read are the row's. -/
namespace Go.Proofs.YtnfjlimecoikpaaGreatDoor
open Go.RowKit

theorem toNat_ofNat {n : Nat} (h : n < 256) : (UInt8.ofNat n).toNat = n := by simp [UInt8.toNat_ofNat']; omega
theorem dig_pos (n : Nat) : 0 < (dig n).length := by
  by_cases h : n < 10
  · rw [dig_lt h]; simp
  · rw [dig_ge h]; simp
theorem head_dig (k : Nat) : ∀ n, n ≤ k → n < 1000000000 → ∀ r, headFrom 0 0 (dig n ++ r) = headFrom (dig n).length n r := by
  induction k with
  | zero =>
    intro n h _ r
    obtain rfl : n = 0 := by omega
    rw [dig_lt (by omega)]
    show headFrom 0 0 (UInt8.ofNat (48 + 0) :: r) = _
    rw [headFrom_more (by rw [toNat_ofNat (by omega)]; omega) (by rw [toNat_ofNat (by omega)]; omega), toNat_ofNat (by omega)]; rfl
  | succ k ih =>
    intro n h hn r
    by_cases h10 : n < 10
    · rw [dig_lt h10]
      show headFrom 0 0 (UInt8.ofNat (48 + n) :: r) = _
      rw [headFrom_more (by rw [toNat_ofNat (by omega)]; omega) (by rw [toNat_ofNat (by omega)]; omega), toNat_ofNat (by omega)]
      show headFrom 1 _ r = headFrom 1 n r
      rw [show 10 * 0 + (48 + n - 48) = n by omega]
    · have hl : (dig (n / 10)).length ≤ 8 := dig_len_le 7 (n / 10) (by omega)
      have hp := dig_pos (n / 10)
      rw [dig_ge h10, List.append_assoc, ih (n / 10) (by omega) (by omega), List.singleton_append]
      rw [headFrom_more (by rw [toNat_ofNat (by omega)]; omega) (by rw [toNat_ofNat (by omega)]; omega), toNat_ofNat (by omega), List.length_append]
      rw [show 10 * (n / 10) + (48 + n % 10 - 48) = n by omega]; rfl
theorem head_of {n : Nat} (hn : n < 1000000000) (r : List UInt8) : headFrom 0 0 (dig n ++ 58 :: r) = (n, r, 0) := by
  rw [head_dig n n (Nat.le_refl _) hn, headFrom_done rfl (dig_pos n)]
theorem of_head (l : List UInt8) : ∀ (i m : Nat) (P : List UInt8) (n : Nat) (t : List UInt8), (P = [] ∧ i = 0 ∧ m = 0 ∨ P = dig m ∧ 0 < i) → headFrom i m l = (n, t, 0) → P ++ l = dig n ++ 58 :: t := by
  induction l with
  | nil => intro i m P n t _ h; simp [headFrom] at h
  | cons c r ih =>
    intro i m P n t hP h
    by_cases h1 : c.toNat = 58 ∧ 0 < i
    · rw [headFrom_done h1.1 h1.2] at h
      simp only [Prod.mk.injEq] at h
      obtain ⟨rfl, rfl, -⟩ := h
      have hc : c = 58 := by apply UInt8.toNat_inj.1; exact h1.1
      rcases hP with ⟨_, h0, _⟩ | ⟨rfl, _⟩
      · omega
      · rw [hc]
    · by_cases h2 : c.toNat < 48 ∨ 57 < c.toNat ∨ i = 9 ∨ (0 < i ∧ m = 0)
      · rw [headFrom_bad h1 h2] at h; simp at h
      · rw [headFrom_more h1 h2] at h
        have hc : c = UInt8.ofNat (48 + (c.toNat - 48)) := by
          apply UInt8.toNat_inj.1; rw [toNat_ofNat (by omega)]; omega
        have := ih (i + 1) (10 * m + (c.toNat - 48)) (P ++ [c]) n t (.inr ⟨?_, by omega⟩) h
        · rw [List.append_assoc, List.singleton_append] at this
          exact this
        · rcases hP with ⟨rfl, rfl, rfl⟩ | ⟨rfl, hi⟩
          · rw [dig_lt (by omega)]
            show [c] = _
            rw [show 48 + (10 * 0 + (c.toNat - 48)) = 48 + (c.toNat - 48) by omega, ← hc]
          · rw [dig_ge (n := 10 * m + (c.toNat - 48)) (by omega), show (10 * m + (c.toNat - 48)) / 10 = m by omega, show (10 * m + (c.toNat - 48)) % 10 = c.toNat - 48 by omega, ← hc]
theorem of_head0 {l t : List UInt8} {n : Nat} (h : headFrom 0 0 l = (n, t, 0)) : l = dig n ++ 58 :: t := by
  exact of_head l 0 0 [] n t (.inl ⟨rfl, rfl, rfl⟩) h

theorem texts_row (ss : List (List UInt8)) (h : ∀ s ∈ ss, s.length < 1000000000) : textsL (rowL ss) = (ss, 0) := by
  induction ss with
  | nil => exact textsL_nil
  | cons s ss ih =>
    have e : rowL (s :: ss) = dig s.length ++ 58 :: (s ++ rowL ss) := by simp [rowL]
    rw [e, textsL_more (head_of (h s (by simp)) _) (by simp) (by simp), List.take_left' rfl, List.drop_left' rfl, ih (fun x hx => h x (by simp [hx]))]
    rfl
theorem row_texts (k : Nat) : ∀ l : List UInt8, l.length ≤ k → (textsL l).2 = 0 → rowL (textsL l).1 = l := by
  induction k with
  | zero => intro l hl _; rw [List.eq_nil_of_length_eq_zero (by omega : l.length = 0), textsL_nil]; rfl
  | succ k ih =>
    intro l hl h
    by_cases h0 : l = []
    · subst h0; rw [textsL_nil]; rfl
    · obtain ⟨n, t, c, hh⟩ : ∃ n t c, headFrom 0 0 l = (n, t, c) := ⟨_, _, _, rfl⟩
      by_cases hc : c = 0
      · subst hc
        by_cases hlt : t.length < n
        · rw [textsL_short hh h0 hlt] at h; simp at h
        · have ht := headFrom_len l 0 0 (by rw [hh])
          rw [hh] at ht
          rw [textsL_more hh h0 hlt] at h ⊢
          unfold fin at h ⊢
          by_cases h2 : (textsL (t.drop n)).2 = 0
          · rw [if_pos h2]
            have := ih (t.drop n) (by rw [List.length_drop]; simp at ht; omega) h2
            have hn : (t.take n).length = n := List.length_take_of_le (by omega)
            simp only [List.singleton_append]
            rw [show rowL (t.take n :: (textsL (t.drop n)).1) = dig (t.take n).length ++ 58 :: (t.take n ++ rowL (textsL (t.drop n)).1) by simp [rowL], this, hn, List.take_append_drop]
            exact (of_head0 hh).symm
          · rw [if_neg h2] at h; exact absurd h h2
      · rw [textsL_err hh h0 hc] at h; exact absurd h hc
theorem row_texts' {l : List UInt8} (h : (textsL l).2 = 0) : rowL (textsL l).1 = l := row_texts _ l (Nat.le_refl _) h

theorem row_inj {a b : List (List UInt8)} (ha : ∀ s ∈ a, s.length < 1000000000) (hb : ∀ s ∈ b, s.length < 1000000000) (h : rowL a = rowL b) : a = b := by
  have h1 := texts_row a ha
  rw [h, texts_row b hb] at h1
  simpa using h1.symm
theorem row_nil {a : List (List UInt8)} (h : (rowL a).length = 0) : a = [] := by
  cases a with
  | nil => rfl
  | cons s a => simp [rowL] at h
theorem dig_take (k : Nat) : ∀ n, n ≤ k → ∀ j, 0 < j → j ≤ (dig n).length → ∃ m, m ≤ n ∧ (dig n).take j = dig m := by
  induction k with
  | zero =>
    intro n h j h0 hj
    obtain rfl : n = 0 := by omega
    rw [dig_lt (by omega)] at hj ⊢
    obtain rfl : j = 1 := by simp at hj; omega
    exact ⟨0, by omega, by rw [dig_lt (by omega)]; rfl⟩
  | succ k ih =>
    intro n h j h0 hj
    by_cases hl : j = (dig n).length
    · exact ⟨n, by omega, by rw [hl, List.take_length]⟩
    · by_cases h10 : n < 10
      · rw [dig_lt h10] at hj hl; simp at hj hl; omega
      · have e := dig_ge h10
        rw [e, List.length_append] at hj hl
        simp at hj hl
        obtain ⟨m, hm, he⟩ := ih (n / 10) (by omega) j h0 (by omega)
        exact ⟨m, by omega, by rw [e, List.take_append_of_le_length (by omega), he]⟩
theorem cut_row (ss : List (List UInt8)) (h : ∀ s ∈ ss, s.length < 1000000000) : ∀ k, k < (rowL ss).length → textsL ((rowL ss).take k) = ([], 4) ∨ ∃ j, j < ss.length ∧ textsL ((rowL ss).take k) = (ss.take j, 0) := by
  induction ss with
  | nil => intro k hk; simp [rowL] at hk
  | cons s ss ih =>
    intro k hk
    have e : rowL (s :: ss) = dig s.length ++ 58 :: (s ++ rowL ss) := by simp [rowL]
    have hs := h s (by simp)
    rw [e] at hk ⊢
    by_cases hk0 : k = 0
    · subst hk0
      exact .inr ⟨0, by simp, by rw [List.take_zero, textsL_nil]; rfl⟩
    · by_cases hk1 : k ≤ (dig s.length).length
      · obtain ⟨m, hm, he⟩ := dig_take _ s.length (Nat.le_refl _) k (by omega) hk1
        rw [List.take_append_of_le_length hk1, he]
        left
        refine textsL_err (n := 0) (t := []) (c := 4) ?_ ?_ (by omega)
        · have := head_dig m m (Nat.le_refl _) (by omega) []
          rw [List.append_nil] at this
          rw [this]; rfl
        · intro e0; have := dig_pos m; rw [e0] at this; simp at this
      · obtain ⟨k1, rfl⟩ : ∃ k1, k = (dig s.length).length + (1 + k1) := ⟨k - (dig s.length).length - 1, by omega⟩
        have e2 : (dig s.length ++ 58 :: (s ++ rowL ss)).take ((dig s.length).length + (1 + k1)) = dig s.length ++ 58 :: (s ++ rowL ss).take k1 := by
          rw [List.take_length_add_append, Nat.add_comm 1 k1, List.take_succ_cons]
        rw [e2]
        by_cases hk2 : k1 < s.length
        · left
          exact textsL_short (head_of hs _) (by simp) (by rw [List.length_take]; omega)
        · obtain ⟨k2, rfl⟩ : ∃ k2, k1 = s.length + k2 := ⟨k1 - s.length, by omega⟩
          have hk3 : k2 < (rowL ss).length := by simp at hk; omega
          rw [List.take_length_add_append, textsL_more (head_of hs _) (by simp) (by simp), List.take_left' rfl, List.drop_left' rfl]
          rcases ih (fun x hx => h x (by simp [hx])) k2 hk3 with h4 | ⟨j, hj, h4⟩
          · left; rw [h4]; rfl
          · right; exact ⟨j + 1, by simp; omega, by rw [h4]; rfl⟩
end Go.Proofs.YtnfjlimecoikpaaGreatDoor
/- Plain: the same values; a value's bytes. -/
namespace Go.Proofs.YtnfjlimecoikpaaGreatDoor
open Go.RowKit

mutual
theorem same_refl : ∀ v : VM, sameB v v = true
  | .mk k n s lv kv l ks => by simp [sameB, same_reflL l]
theorem same_reflL : ∀ l : List VM, sameL l l = true
  | [] => by simp [sameL]
  | v :: r => by simp [sameL, same_refl v, same_reflL r]
end
mutual
theorem same_comm : ∀ a b : VM, sameB a b = sameB b a
  | .mk k n s lv kv l ks, .mk k' n' s' lv' kv' l' ks' => by
    simp only [sameB, same_commL l l']
    congr 1
    simp only [eq_comm]
theorem same_commL : ∀ a b : List VM, sameL a b = sameL b a
  | [], [] => by simp [sameL]
  | v :: r, v' :: r' => by simp only [sameL, same_comm v v', same_commL r r']
  | [], _ :: _ => by simp [sameL]
  | _ :: _, [] => by simp [sameL]
end
theorem sameL_bad : ∀ {l l' : List VM} (j : Nat) (h : j < l.length) (h' : j < l'.length), sameB l[j] l'[j] = false → sameL l l' = false
  | [], _, j, h, _, _ => by simp at h
  | _ :: _, [], j, _, h', _ => by simp at h'
  | v :: r, v' :: r', 0, _, _, hs => by
    have hs' : sameB v v' = false := hs
    simp [sameL, hs']
  | v :: r, v' :: r', j + 1, h, h', hs => by
    have := sameL_bad (l := r) (l' := r') j (by simpa using h) (by simpa using h') (by simpa using hs)
    simp [sameL, this]
theorem sameL_take : ∀ {l l' : List VM} (j : Nat) (h : j < l.length) (h' : j < l'.length), sameL (l.take j) (l'.take j) = true → sameB l[j] l'[j] = true → sameL (l.take (j + 1)) (l'.take (j + 1)) = true
  | [], _, j, h, _, _, _ => by simp at h
  | _ :: _, [], j, _, h', _, _ => by simp at h'
  | v :: r, v' :: r', 0, _, _, _, hs => by
    have hs' : sameB v v' = true := hs
    simp [sameL, hs']
  | v :: r, v' :: r', j + 1, h, h', ht, hs => by
    have ht' : sameB v v' = true ∧ sameL (r.take j) (r'.take j) = true := by simpa [sameL] using ht
    have := sameL_take (l := r) (l' := r') j (by simpa using h) (by simpa using h') ht'.2 (by simpa using hs)
    rw [List.take_succ_cons, List.take_succ_cons]
    unfold sameL
    rw [ht'.1, this]; rfl
theorem sameL_len : ∀ {l l' : List VM}, l.length ≠ l'.length → sameL l l' = false
  | [], [], h => by simp at h
  | [], _ :: _, _ => by simp [sameL]
  | _ :: _, [], _ => by simp [sameL]
  | v :: r, v' :: r', h => by
    have := sameL_len (l := r) (l' := r') (by simpa using h)
    simp [sameL, this]
theorem same_mk (k n : Int) (s : List UInt8) (lv kv : Value) (l : List VM) (ks : List (List UInt8)) (k' n' : Int) (s' : List UInt8) (lv' kv' : Value) (l' : List VM) (ks' : List (List UInt8)) :
    sameB (.mk k n s lv kv l ks) (.mk k' n' s' lv' kv' l' ks') = (decide (k = k') && decide (n = n') && decide (s = s') && decide (ks = ks') && sameL l l') := by simp [sameB]
theorem keys_take {ks ks' : List (List UInt8)} (j : Nat) (h : j < ks.length) (h' : j < ks'.length) (ht : ks.take j = ks'.take j) (he : ks[j] = ks'[j]) : ks.take (j + 1) = ks'.take (j + 1) := by
  rw [take_at ks j h, take_at ks' j h', ht, he]
/-- Keys and rows, one behind the other. -/
def weave : List (List UInt8) → List (List UInt8) → List (List UInt8)
  | a :: r, b :: t => a :: b :: weave r t
  | _, _ => []
mutual
/-- A value's bytes. -/
def rowV : VM → List UInt8
  | .mk k n s _ _ l ks =>
    if k = 1 then rowL [[98, 111, 111, 108], Lib.itoa n]
    else if k = 2 then rowL [[105, 110, 116], Lib.itoa n]
    else if k = 3 then rowL [[116, 101, 120, 116], s]
    else if k = 4 then rowL ([108, 105, 115, 116] :: rowsV l)
    else if k = 5 then rowL ([100, 105, 99, 116] :: weave ks (rowsV l))
    else rowL [[110, 111, 110, 101]]
def rowsV : List VM → List (List UInt8)
  | [] => []
  | v :: r => rowV v :: rowsV r
end
end Go.Proofs.YtnfjlimecoikpaaGreatDoor
/- Plain: how long a value's bytes are; unlike values have unlike bytes. -/
namespace Go.Proofs.YtnfjlimecoikpaaGreatDoor
set_option maxRecDepth 100000
open Go.RowKit

theorem node_cases {k n : Int} {s : List UInt8} {m : Nat} {ks : List (List UInt8)} (h : nodeB k n s m ks = true) :
    (k = 0 ∧ n = 0 ∧ s = [] ∧ m = 0 ∧ ks = []) ∨ (k = 1 ∧ s = [] ∧ m = 0 ∧ ks = []) ∨ (k = 2 ∧ s = [] ∧ m = 0 ∧ ks = []) ∨ (k = 3 ∧ n = 0 ∧ s.length ≤ 65536 ∧ m = 0 ∧ ks = [])
    ∨ (k = 4 ∧ n = 0 ∧ s = [] ∧ m ≤ 1000 ∧ ks = []) ∨ (k = 5 ∧ n = 0 ∧ s = [] ∧ m ≤ 1000 ∧ m = ks.length ∧ riseB ks = true) := by
  unfold nodeB at h
  by_cases h0 : k = 0
  · rw [if_pos h0] at h; simp at h; exact .inl ⟨h0, h.1.1.1, h.1.1.2, h.1.2, h.2⟩
  rw [if_neg h0] at h
  by_cases h1 : k = 1
  · rw [if_pos h1] at h; simp at h; exact .inr (.inl ⟨h1, h.1.1.2, h.1.2, h.2⟩)
  rw [if_neg h1] at h
  by_cases h2 : k = 2
  · rw [if_pos h2] at h; simp at h; exact .inr (.inr (.inl ⟨h2, h.1.1, h.1.2, h.2⟩))
  rw [if_neg h2] at h
  by_cases h3 : k = 3
  · rw [if_pos h3] at h; simp at h; exact .inr (.inr (.inr (.inl ⟨h3, h.1.1.1, h.1.1.2, h.1.2, h.2⟩)))
  rw [if_neg h3] at h
  by_cases h4 : k = 4
  · rw [if_pos h4] at h; simp at h; exact .inr (.inr (.inr (.inr (.inl ⟨h4, h.1.1.1, h.1.1.2, h.1.2, h.2⟩))))
  rw [if_neg h4] at h
  by_cases h5 : k = 5
  · rw [if_pos h5] at h; simp at h; exact .inr (.inr (.inr (.inr (.inr ⟨h5, h.1.1.1, h.1.1.2, h.1.2, h.2.1, h.2.2⟩))))
  rw [if_neg h5] at h; cases h
theorem rowL_cons (a : List UInt8) (r : List (List UInt8)) : rowL (a :: r) = dig a.length ++ 58 :: a ++ rowL r := by simp [rowL]
theorem rowL_nil : rowL [] = [] := rfl
theorem none_len : (rowL [[110, 111, 110, 101]]).length ≤ 40 := by
  have d4 := dig_len20 (n := 4) (by omega)
  simp only [rowL_cons, List.length_append, List.length_cons, List.length_nil, rowL_nil, Nat.zero_add, Nat.reduceAdd]; omega
theorem rowL_tot : ∀ ts : List (List UInt8), tot ts ≤ 1000000000000 → (rowL ts).length ≤ tot ts
  | [], _ => by simp [rowL]
  | a :: r, h => by
    rw [tot_cons] at h
    have ih := rowL_tot r (by omega)
    have := dig_len20 (n := a.length) (by omega)
    rw [rowL_cons, tot_cons]
    simp only [List.length_append, List.length_cons]; omega
theorem weave_tot : ∀ (ks ts : List (List UInt8)), (∀ k ∈ ks, k.length ≤ 65536) → tot ts ≤ 1000000000000 → (rowL (weave ks ts)).length ≤ tot ts
  | [], _, _, _ => by simp [weave, rowL]
  | _ :: _, [], _, _ => by simp [weave, rowL]
  | a :: r, b :: t, h, ht => by
    rw [tot_cons] at ht
    have ih := weave_tot r t (fun k hk => h k (List.mem_cons_of_mem _ hk)) (by omega)
    have h1 := dig_len20 (n := a.length) (by have := h a (by simp); omega)
    have h2 := dig_len20 (n := b.length) (by omega)
    have h3 := h a (by simp)
    have e : weave (a :: r) (b :: t) = a :: b :: weave r t := rfl
    rw [e, rowL_cons, rowL_cons, tot_cons]
    simp only [List.length_append, List.length_cons]; omega
theorem weave_sum : ∀ (ks ts : List (List UInt8)) (B : Nat), (∀ k ∈ ks, k.length ≤ B) → (∀ t ∈ ts, t.length ≤ B) → ∀ x ∈ weave ks ts, x.length ≤ B
  | [], _, _, _, _, x, hx => by cases hx
  | _ :: _, [], _, _, _, x, hx => by cases hx
  | a :: r, b :: t, B, h1, h2, x, hx => by
    have e : weave (a :: r) (b :: t) = a :: b :: weave r t := rfl
    rw [e] at hx
    rcases List.mem_cons.1 hx with rfl | hx
    · exact h1 _ (by simp)
    rcases List.mem_cons.1 hx with rfl | hx
    · exact h2 _ (by simp)
    exact weave_sum r t B (fun k hk => h1 k (List.mem_cons_of_mem _ hk)) (fun k hk => h2 k (List.mem_cons_of_mem _ hk)) x hx
theorem tot_mem : ∀ (ts : List (List UInt8)), ∀ t ∈ ts, t.length ≤ tot ts
  | [], t, h => by cases h
  | a :: r, t, h => by
    rw [tot_cons]
    rcases List.mem_cons.1 h with rfl | h
    · omega
    · have := tot_mem r t h; omega
/-- The texts of a value's row. -/
def partsOf (k n : Int) (s : List UInt8) (ts ks : List (List UInt8)) : List (List UInt8) :=
  if k = 1 then [[98, 111, 111, 108], Lib.itoa n]
  else if k = 2 then [[105, 110, 116], Lib.itoa n]
  else if k = 3 then [[116, 101, 120, 116], s]
  else if k = 4 then [108, 105, 115, 116] :: ts
  else if k = 5 then [100, 105, 99, 116] :: weave ks ts
  else [[110, 111, 110, 101]]
theorem rowV_parts (k n : Int) (s : List UInt8) (lv kv : Value) (l : List VM) (ks : List (List UInt8)) : rowV (.mk k n s lv kv l ks) = rowL (partsOf k n s (rowsV l) ks) := by
  unfold rowV partsOf
  split
  · rfl
  split
  · rfl
  split
  · rfl
  split
  · rfl
  split
  · rfl
  · rfl
theorem rowsV_map : ∀ l : List VM, rowsV l = l.map rowV
  | [] => by simp [rowsV]
  | v :: r => by simp [rowsV, rowsV_map r]
mutual
theorem rowV_le : ∀ v : VM, nodesB v = true → fitB v = true → cnt v ≤ 20000 → (rowV v).length + 131200 ≤ 400000 * cnt v
  | .mk k n s lv kv l ks, h, hf, hc0 => by
    have hn : nodesL l = true ∧ nodeB k n s l.length ks = true := by simpa [nodesB] using h
    have hfl : (-9223372036854775808 ≤ k ∧ k ≤ 9223372036854775807 ∧ -9223372036854775808 ≤ n ∧ n ≤ 9223372036854775807) ∧ fitL l = true := by simpa [fitB] using hf
    have hc : cnt (.mk k n s lv kv l ks) = 1 + cntL l := by simp [cnt]
    have ih := rowsV_le l hn.1 hfl.2 (by omega)
    have key : (rowL [[110, 111, 110, 101]]).length + 131200 ≤ 400000 * (1 + cntL l) := Nat.le_trans (Nat.add_le_add_right none_len 131200) (by omega)
    have hN : (Lib.itoa n).length ≤ 100 := by rcases itoa_short n with h | h | h <;> omega
    have hdn := dig_len20 (n := (Lib.itoa n).length) (by omega)
    have d3 := dig_len20 (n := 3) (by omega)
    have d4 := dig_len20 (n := 4) (by omega)
    obtain ⟨hs, hk⟩ := node_text hn.2
    have hds := dig_len20 (n := s.length) (by omega)
    rw [hc, rowV_parts]
    unfold partsOf
    split
    · simp only [rowL_cons, List.length_append, List.length_cons, List.length_nil, rowL_nil, Nat.zero_add, Nat.reduceAdd] at *; omega
    split
    · simp only [rowL_cons, List.length_append, List.length_cons, List.length_nil, rowL_nil, Nat.zero_add, Nat.reduceAdd] at *; omega
    split
    · simp only [rowL_cons, List.length_append, List.length_cons, List.length_nil, rowL_nil, Nat.zero_add, Nat.reduceAdd] at *; omega
    split
    · have := rowL_tot (rowsV l) (by omega)
      rw [rowL_cons]
      simp only [List.length_append, List.length_cons, List.length_nil, Nat.zero_add, Nat.reduceAdd] at *; omega
    split
    · have := weave_tot ks (rowsV l) hk (by omega)
      rw [rowL_cons]
      simp only [List.length_append, List.length_cons, List.length_nil, Nat.zero_add, Nat.reduceAdd] at *; omega
    · exact key
theorem rowsV_le : ∀ l : List VM, nodesL l = true → fitL l = true → cntL l ≤ 20000 → tot (rowsV l) ≤ 400000 * cntL l
  | [], _, _, _ => by simp [rowsV, tot]
  | v :: r, h, hf, hc0 => by
    have hn : nodesB v = true ∧ nodesL r = true := by simpa [nodesL] using h
    have hfl : fitB v = true ∧ fitL r = true := by simpa [fitL] using hf
    have hc : cntL (v :: r) = cnt v + cntL r := by simp [cntL]
    have h1 := rowV_le v hn.1 hfl.1 (by omega)
    have h2 := rowsV_le r hn.2 hfl.2 (by omega)
    have e : rowsV (v :: r) = rowV v :: rowsV r := by simp [rowsV]
    rw [hc, e, tot_cons]; omega
end
theorem weave_inj : ∀ (ks ks' ts ts' : List (List UInt8)), ks.length = ts.length → ks'.length = ts'.length → weave ks ts = weave ks' ts' → ks = ks' ∧ ts = ts'
  | [], [], [], [], _, _, _ => ⟨rfl, rfl⟩
  | [], [], [], _ :: _, _, h, _ => by simp at h
  | [], [], _ :: _, _, h, _, _ => by simp at h
  | [], _ :: _, [], [], _, h, _ => by simp at h
  | [], _ :: _, [], _ :: _, _, _, h => by simp [weave] at h
  | [], _ :: _, _ :: _, _, h, _, _ => by simp at h
  | _ :: _, _, [], _, h, _, _ => by simp at h
  | _ :: _, [], _ :: _, [], _, _, h => by simp [weave] at h
  | _ :: _, [], _ :: _, _ :: _, _, h, _ => by simp at h
  | _ :: _, _ :: _, _ :: _, [], _, h, _ => by simp at h
  | a :: r, a' :: r', b :: t, b' :: t', h, h', e => by
    have e' : a = a' ∧ b = b' ∧ weave r t = weave r' t' := by simpa [weave] using e
    obtain ⟨rfl, rfl, e2⟩ := e'
    obtain ⟨rfl, rfl⟩ := weave_inj r r' t t' (by simpa using h) (by simpa using h') e2
    exact ⟨rfl, rfl⟩
theorem rowsV_len : ∀ l : List VM, (rowsV l).length = l.length := fun l => by rw [rowsV_map, List.length_map]
theorem parts_lt {k n : Int} {s : List UInt8} {l : List VM} {ks : List (List UInt8)} (h : nodesL l = true) (h2 : nodeB k n s l.length ks = true) (hf : fitL l = true) (hn : -9223372036854775808 ≤ n ∧ n ≤ 9223372036854775807) (hc : cntL l ≤ 2000) :
    ∀ x ∈ partsOf k n s (rowsV l) ks, x.length < 1000000000 := by
  have ht := rowsV_le l h hf (by omega)
  have hN : (Lib.itoa n).length ≤ 100 := by rcases itoa_short n with h | h | h <;> omega
  obtain ⟨hs, hk⟩ := node_text h2
  have hm : ∀ t ∈ rowsV l, t.length ≤ 800000000 := fun t hx => by have := tot_mem (rowsV l) t hx; omega
  intro x hx
  unfold partsOf at hx
  split at hx
  · simp at hx; rcases hx with rfl | rfl
    · simp
    · omega
  split at hx
  · simp at hx; rcases hx with rfl | rfl
    · simp
    · omega
  split at hx
  · simp at hx; rcases hx with rfl | rfl
    · simp
    · omega
  split at hx
  · rcases List.mem_cons.1 hx with rfl | hx
    · simp
    · have := hm x hx; omega
  split at hx
  · rcases List.mem_cons.1 hx with rfl | hx
    · simp
    · have := weave_sum ks (rowsV l) 800000000 (fun k hk' => by have := hk k hk'; omega) hm x hx; omega
  · simp at hx; subst hx; simp
mutual
theorem same_row : ∀ a b : VM, sameB a b = true → rowV a = rowV b
  | .mk k n s lv kv l ks, .mk k' n' s' lv' kv' l' ks', h => by
    rw [same_mk] at h
    simp only [Bool.and_eq_true, decide_eq_true_eq] at h
    obtain ⟨⟨⟨⟨rfl, rfl⟩, rfl⟩, rfl⟩, hl⟩ := h
    rw [rowV_parts, rowV_parts, same_rowL l l' hl]
theorem same_rowL : ∀ a b : List VM, sameL a b = true → rowsV a = rowsV b
  | [], [], _ => rfl
  | v :: r, v' :: r', h => by
    have h' : sameB v v' = true ∧ sameL r r' = true := by simpa [sameL] using h
    have e : ∀ (x : VM) y, rowsV (x :: y) = rowV x :: rowsV y := fun x y => by simp [rowsV]
    rw [e, e, same_row v v' h'.1, same_rowL r r' h'.2]
  | [], _ :: _, h => by simp [sameL] at h
  | _ :: _, [], h => by simp [sameL] at h
end
theorem empty_of {l : List VM} (h : l.length = 0) : l = [] := List.length_eq_zero_iff.1 h
mutual
theorem row_same : ∀ a b : VM, nodesB a = true → nodesB b = true → fitB a = true → fitB b = true → cnt a ≤ 2000 → cnt b ≤ 2000 → rowV a = rowV b → sameB a b = true
  | .mk k n s lv kv l ks, .mk k' n' s' lv' kv' l' ks', ha, hb, fa, fb, ca, cb, h => by
    have hn : nodesL l = true ∧ nodeB k n s l.length ks = true := by simpa [nodesB] using ha
    have hn' : nodesL l' = true ∧ nodeB k' n' s' l'.length ks' = true := by simpa [nodesB] using hb
    have hfl : (-9223372036854775808 ≤ k ∧ k ≤ 9223372036854775807 ∧ -9223372036854775808 ≤ n ∧ n ≤ 9223372036854775807) ∧ fitL l = true := by simpa [fitB] using fa
    have hfl' : (-9223372036854775808 ≤ k' ∧ k' ≤ 9223372036854775807 ∧ -9223372036854775808 ≤ n' ∧ n' ≤ 9223372036854775807) ∧ fitL l' = true := by simpa [fitB] using fb
    have hc : cnt (.mk k n s lv kv l ks) = 1 + cntL l := by simp [cnt]
    have hc' : cnt (.mk k' n' s' lv' kv' l' ks') = 1 + cntL l' := by simp [cnt]
    have ih := fun h => row_sameL l l' hn.1 hn'.1 hfl.2 hfl'.2 (by omega) (by omega) h
    rw [rowV_parts, rowV_parts] at h
    have hp := row_inj (parts_lt hn.1 hn.2 hfl.2 hfl.1.2.2 (by omega)) (parts_lt hn'.1 hn'.2 hfl'.2 hfl'.1.2.2 (by omega)) h
    rw [same_mk]
    simp only [Bool.and_eq_true, decide_eq_true_eq]
    clear h hc hc' ca cb fa fb ha hb
    rcases node_cases hn.2 with ⟨rfl, c1, c2, c3, c4⟩ | ⟨rfl, c2, c3, c4⟩ | ⟨rfl, c2, c3, c4⟩ | ⟨rfl, c1, -, c3, c4⟩ | ⟨rfl, c1, c2, -, c4⟩ | ⟨rfl, c1, c2, -, c3, -⟩ <;>
    rcases node_cases hn'.2 with ⟨rfl, d1, d2, d3, d4⟩ | ⟨rfl, d2, d3, d4⟩ | ⟨rfl, d2, d3, d4⟩ | ⟨rfl, d1, -, d3, d4⟩ | ⟨rfl, d1, d2, -, d4⟩ | ⟨rfl, d1, d2, -, d3, -⟩ <;>
    simp [partsOf] at hp
    · rw [empty_of c3, empty_of d3]; exact ⟨⟨⟨⟨rfl, by rw [c1, d1]⟩, by rw [c2, d2]⟩, by rw [c4, d4]⟩, by simp [sameL]⟩
    · rw [empty_of c3, empty_of d3]; exact ⟨⟨⟨⟨rfl, itoa_inj hp⟩, by rw [c2, d2]⟩, by rw [c4, d4]⟩, by simp [sameL]⟩
    · rw [empty_of c3, empty_of d3]; exact ⟨⟨⟨⟨rfl, itoa_inj hp⟩, by rw [c2, d2]⟩, by rw [c4, d4]⟩, by simp [sameL]⟩
    · rw [empty_of c3, empty_of d3]; exact ⟨⟨⟨⟨rfl, by rw [c1, d1]⟩, hp⟩, by rw [c4, d4]⟩, by simp [sameL]⟩
    · exact ⟨⟨⟨⟨rfl, by rw [c1, d1]⟩, by rw [c2, d2]⟩, by rw [c4, d4]⟩, ih hp⟩
    · obtain ⟨e1, e2⟩ := weave_inj ks ks' _ _ (by rw [rowsV_len]; exact c3.symm) (by rw [rowsV_len]; exact d3.symm) hp
      exact ⟨⟨⟨⟨rfl, by rw [c1, d1]⟩, by rw [c2, d2]⟩, e1⟩, ih e2⟩
theorem row_sameL : ∀ a b : List VM, nodesL a = true → nodesL b = true → fitL a = true → fitL b = true → cntL a ≤ 2000 → cntL b ≤ 2000 → rowsV a = rowsV b → sameL a b = true
  | [], [], _, _, _, _, _, _, _ => by simp [sameL]
  | v :: r, v' :: r', ha, hb, fa, fb, ca, cb, h => by
    have hn : nodesB v = true ∧ nodesL r = true := by simpa [nodesL] using ha
    have hn' : nodesB v' = true ∧ nodesL r' = true := by simpa [nodesL] using hb
    have hfl : fitB v = true ∧ fitL r = true := by simpa [fitL] using fa
    have hfl' : fitB v' = true ∧ fitL r' = true := by simpa [fitL] using fb
    have hc : cntL (v :: r) = cnt v + cntL r := by simp [cntL]
    have hc' : cntL (v' :: r') = cnt v' + cntL r' := by simp [cntL]
    have e : ∀ (x : VM) y, rowsV (x :: y) = rowV x :: rowsV y := fun x y => by simp [rowsV]
    rw [e, e] at h
    obtain ⟨h1, h2⟩ := List.cons.inj h
    have q1 := row_same v v' hn.1 hn'.1 hfl.1 hfl'.1 (by omega) (by omega) h1
    have q2 := row_sameL r r' hn.2 hn'.2 hfl.2 hfl'.2 (by omega) (by omega) h2
    unfold sameL
    rw [q1, q2]; rfl
  | [], _ :: _, _, _, _, _, _, _, h => by simp [rowsV] at h
  | _ :: _, [], _, _, _, _, _, _, h => by simp [rowsV] at h
end
/-- Two that may be, not many: the same bytes just if they are the same. -/
theorem row_iff {a b : VM} (ha : okB a = true) (hb : okB b = true) (fa : fitB a = true) (fb : fitB b = true) (ca : cnt a ≤ 2000) (cb : cnt b ≤ 2000) : decide (rowV a = rowV b) = sameB a b := by
  have ha' : nodesB a = true := by unfold okB at ha; simp at ha; exact ha.2
  have hb' : nodesB b = true := by unfold okB at hb; simp at hb; exact hb.2
  cases h : sameB a b with
  | true => exact decide_eq_true (same_row a b h)
  | false => exact decide_eq_false (fun e => by rw [row_same a b ha' hb' fa fb ca cb e] at h; cases h)
end Go.Proofs.YtnfjlimecoikpaaGreatDoor
