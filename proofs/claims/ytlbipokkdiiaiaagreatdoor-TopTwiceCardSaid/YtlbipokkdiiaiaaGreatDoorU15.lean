/- Lemmas for TopTwice: PackPlain, PackLaws, NumPlain, W8, W12. -/
import Derived.Test.YtlbipokkdiiaiaaGreatDoorU10
import Derived.Lib.ItoaNum
import Derived.Lib.ParseIntBCases
import Derived.Test.YtlbipokkdiiaiaaGreatDoorU12
import Derived.Laws.BitsAllLaws
import Derived.Deep.OwnRows
import Derived.OrdersHeld
namespace Go.Proofs.YtlbipokkdiiaiaaGreatDoor
open Go.RowKit
def dig (n : Nat) : List UInt8 := if n < 10 then [UInt8.ofNat (48 + n)] else dig (n / 10) ++ [UInt8.ofNat (48 + n % 10)]
theorem dig_lt {n : Nat} (h : n < 10) : dig n = [UInt8.ofNat (48 + n)] := by rw [dig, if_pos h]
theorem dig_ge {n : Nat} (h : ¬ n < 10) : dig n = dig (n / 10) ++ [UInt8.ofNat (48 + n % 10)] := by rw [dig, if_neg h]
theorem dig_len_le (k : Nat) : ∀ n, n < 10 ^ (k + 1) → (dig n).length ≤ k + 1 := by
 induction k with
 | zero => intro n h; rw [dig_lt (by simpa using h)]; simp
 | succ k ih =>
   intro n h
   by_cases hn : n < 10
   ·rw [dig_lt hn]; simp
   ·rw [dig_ge hn, List.length_append]
    have := ih (n / 10) (by rw [Nat.pow_succ] at h; omega)
    simp; omega
theorem dig_len20 {n : Nat} (h : n ≤ 9223372036854775807) : (dig n).length ≤ 19 := dig_len_le 18 n (by omega)
theorem dig_eq (k : Nat) : ∀ n, n ≤ k → dig n = Lib.decDigits n := by
 induction k with
 | zero => intro n h; obtain rfl : n = 0 := by omega
           rw [dig_lt (by omega), Lib.decDigits, dif_pos (by omega)]
 | succ k ih =>
   intro n h
   by_cases hn : n < 10
   ·rw [dig_lt hn, Lib.decDigits, dif_pos hn]
   ·rw [dig_ge hn, Lib.decDigits, dif_neg hn, ih (n / 10) (by omega)]
theorem itoa_nat (n : Nat) : Lib.itoa n = dig n := by
 rw [Lib.itoa, if_neg (by omega), dig_eq n n (Nat.le_refl _)]; rfl
def rowL (ss : List (List UInt8)) : List UInt8 := ss.flatMap fun s => dig s.length ++ 58 :: s
theorem rowL_append (a b : List (List UInt8)) : rowL (a ++ b) = rowL a ++ rowL b := by simp [rowL]
theorem rowL_take_succ (ss : List (List UInt8)) (k : Nat) (h : k < ss.length) : rowL (ss.take (k + 1)) = rowL (ss.take k) ++ (dig ss[k].length ++ 58 :: ss[k]) := by
 rw [take_at _ _ h, rowL_append]; simp [rowL]
theorem rowL_take_le (ss : List (List UInt8)) (k : Nat) : (rowL (ss.take k)).length ≤ (rowL ss).length := by
 have h : rowL ss = rowL (ss.take k) ++ rowL (ss.drop k) := by rw [← rowL_append, List.take_append_drop]
 rw [h, List.length_append]; omega
def headFrom (i n : Nat) : List UInt8 → Nat × List UInt8 × Nat
 | [] => (0, [], 4)
 | c :: r =>
   if c.toNat = 58 ∧ 0 < i then (n, r, 0)
   else if c.toNat < 48 ∨ 57 < c.toNat ∨ i = 9 ∨ (0 < i ∧ n = 0) then (0, [], 3)
   else headFrom (i + 1) (10 * n + (c.toNat - 48)) r
theorem headFrom_done {k m : Nat} {c : UInt8} {r : List UInt8} (h : c.toNat = 58) (hk : 0 < k) : headFrom k m (c :: r) = (m, r, 0) := by
 rw [headFrom, if_pos ⟨h, hk⟩]
theorem headFrom_bad {k m : Nat} {c : UInt8} {r : List UInt8} (h : ¬ (c.toNat = 58 ∧ 0 < k)) (hk : c.toNat < 48 ∨ 57 < c.toNat ∨ k = 9 ∨ (0 < k ∧ m = 0)) : headFrom k m (c :: r) = (0, [], 3) := by
 rw [headFrom, if_neg h, if_pos hk]
theorem headFrom_more {k m : Nat} {c : UInt8} {r : List UInt8} (h : ¬ (c.toNat = 58 ∧ 0 < k)) (hk : ¬ (c.toNat < 48 ∨ 57 < c.toNat ∨ k = 9 ∨ (0 < k ∧ m = 0))) : headFrom k m (c :: r) = headFrom (k + 1) (10 * m + (c.toNat - 48)) r := by
 rw [headFrom, if_neg h, if_neg hk]
theorem headFrom_len (l : List UInt8) : ∀ k m, (headFrom k m l).2.2 = 0 → (headFrom k m l).2.1.length < l.length := by
 induction l with
 | nil => intro k m h; simp [headFrom] at h
 | cons c r ih =>
   intro k m
   unfold headFrom
   split
   ·intro _; simp
   ·split
    ·intro h; simp at h
    ·intro h; have := ih _ _ h; simp; omega
def fin (out : List (List UInt8)) (p : List (List UInt8) × Nat) : List (List UInt8) × Nat := if p.2 = 0 then (out ++ p.1, 0) else ([], p.2)
theorem fin_fin (a b : List (List UInt8)) (p : List (List UInt8) × Nat) : fin a (fin b p) = fin (a ++ b) p := by
 unfold fin; by_cases h : p.2 = 0 <;> simp [h]
def textsL (l : List UInt8) : List (List UInt8) × Nat :=
 if l = [] then ([], 0)
 else if _h : (headFrom 0 0 l).2.2 = 0 then
  if (headFrom 0 0 l).2.1.length < (headFrom 0 0 l).1 then ([], 4)
  else fin [(headFrom 0 0 l).2.1.take (headFrom 0 0 l).1] (textsL ((headFrom 0 0 l).2.1.drop (headFrom 0 0 l).1))
 else ([], (headFrom 0 0 l).2.2)
termination_by l.length
decreasing_by
 have := headFrom_len l 0 0 _h
 rw [List.length_drop]; omega
theorem textsL_nil : textsL [] = ([], 0) := by rw [textsL]; simp
theorem textsL_err {l t : List UInt8} {n c : Nat} (h : headFrom 0 0 l = (n, t, c)) (hl : l ≠ []) (hc : c ≠ 0) : textsL l = ([], c) := by
 rw [textsL, if_neg hl, h]; simp [hc]
theorem textsL_short {l t : List UInt8} {n : Nat} (h : headFrom 0 0 l = (n, t, 0)) (hl : l ≠ []) (hc : t.length < n) : textsL l = ([], 4) := by
 rw [textsL, if_neg hl, h]; simp [hc]
theorem textsL_more {l t : List UInt8} {n : Nat} (h : headFrom 0 0 l = (n, t, 0)) (hl : l ≠ []) (hc : ¬ t.length < n) : textsL l = fin [t.take n] (textsL (t.drop n)) := by
 rw [textsL, if_neg hl, h]; simp [hc]
theorem fin_nil (l : List UInt8) : fin [] (textsL l) = textsL l := by
 rw [textsL]
 split
 ·rfl
 ·split
  ·split
   ·rfl
   ·rw [fin_fin]; rfl
  ·rename_i h; simp [fin, h]
def isDig (c : UInt8) : Bool := 48 ≤ c.toNat && c.toNat ≤ 57
end Go.Proofs.YtlbipokkdiiaiaaGreatDoor
namespace Go.Proofs.YtlbipokkdiiaiaaGreatDoor
open Go.RowKit
theorem toNat_ofNat {n : Nat} (h : n < 256) : (UInt8.ofNat n).toNat = n := by simp [UInt8.toNat_ofNat']; omega
theorem dig_pos (n : Nat) : 0 < (dig n).length := by
 by_cases h : n < 10
 ·rw [dig_lt h]; simp
 ·rw [dig_ge h]; simp
theorem head_dig (k : Nat) : ∀ n, n ≤ k → n < 1000000000 → ∀ r, headFrom 0 0 (dig n ++ r) = headFrom (dig n).length n r := by
 induction k with
 | zero =>
   intro n h _ r
   obtain rfl : n = 0 := by omega
   rw [dig_lt (by omega)]
   show headFrom 0 0 (UInt8.ofNat (48 + 0) :: r) = _
   rw [headFrom_more (by rw [toNat_ofNat (by omega)]; omega) (by rw [toNat_ofNat (by omega)]; omega), toNat_ofNat (by omega)]; rfl
 | succ k ih =>
   intro n h hn r
   by_cases h10 : n < 10
   ·rw [dig_lt h10]
    show headFrom 0 0 (UInt8.ofNat (48 + n) :: r) = _
    rw [headFrom_more (by rw [toNat_ofNat (by omega)]; omega) (by rw [toNat_ofNat (by omega)]; omega), toNat_ofNat (by omega)]
    show headFrom 1 _ r = headFrom 1 n r
    rw [show 10 * 0 + (48 + n - 48) = n by omega]
   ·have hl : (dig (n / 10)).length ≤ 8 := dig_len_le 7 (n / 10) (by omega)
    have hp := dig_pos (n / 10)
    rw [dig_ge h10, List.append_assoc, ih (n / 10) (by omega) (by omega), List.singleton_append]
    rw [headFrom_more (by rw [toNat_ofNat (by omega)]; omega) (by rw [toNat_ofNat (by omega)]; omega), toNat_ofNat (by omega), List.length_append]
    rw [show 10 * (n / 10) + (48 + n % 10 - 48) = n by omega]; rfl
theorem head_of {n : Nat} (hn : n < 1000000000) (r : List UInt8) : headFrom 0 0 (dig n ++ 58 :: r) = (n, r, 0) := by
 rw [head_dig n n (Nat.le_refl _) hn, headFrom_done rfl (dig_pos n)]
theorem texts_row (ss : List (List UInt8)) (h : ∀ s ∈ ss, s.length < 1000000000) : textsL (rowL ss) = (ss, 0) := by
 induction ss with
 | nil => exact textsL_nil
 | cons s ss ih =>
   have e : rowL (s :: ss) = dig s.length ++ 58 :: (s ++ rowL ss) := by simp [rowL]
   rw [e, textsL_more (head_of (h s (by simp)) _) (by simp) (by simp), List.take_left' rfl, List.drop_left' rfl, ih (fun x hx => h x (by simp [hx]))]
   rfl
end Go.Proofs.YtlbipokkdiiaiaaGreatDoor
namespace Go.Proofs.YtlbipokkdiiaiaaGreatDoor
open Go.RowKit
def valD (a : Nat) : List UInt8 → Nat
 | [] => a
 | c :: r => valD (10 * a + (c.toNat - 48)) r
theorem valD_append (x y : List UInt8) : ∀ a, valD a (x ++ y) = valD (valD a x) y := by
 induction x with
 | nil => intro a; rfl
 | cons c x ih => intro a; exact ih _
theorem valD_le (x : List UInt8) : ∀ a, a ≤ valD a x := by
 induction x with
 | nil => intro a; exact Nat.le_refl _
 | cons c x ih => intro a; have := ih (10 * a + (c.toNat - 48)); show a ≤ valD _ x; omega
def allDig (l : List UInt8) : Bool := l.all isDig
theorem ofNat48 {n : Nat} (h : n < 10) : (UInt8.ofNat (48 + n)).toNat = 48 + n := by
 rw [UInt8.toNat_ofNat']; omega
theorem isDig_of {n : Nat} (h : n < 10) : isDig (UInt8.ofNat (48 + n)) = true := by
 unfold isDig
 rw [ofNat48 h]
 simp only [Bool.and_eq_true, decide_eq_true_eq]; omega
theorem ofNat_val {n : Nat} (h : n < 10) : (UInt8.ofNat (48 + n)).toNat - 48 = n := by
 rw [ofNat48 h]; omega
theorem dig_all (k : Nat) : ∀ n, n ≤ k → allDig (dig n) = true := by
 induction k with
 | zero => intro n h; rw [dig_lt (by omega)]; simp only [allDig, List.all_cons, List.all_nil, isDig_of (show n < 10 by omega), Bool.and_true]
 | succ k ih =>
   intro n h
   by_cases hn : n < 10
   ·rw [dig_lt hn]; simp only [allDig, List.all_cons, List.all_nil, isDig_of hn, Bool.and_true]
   ·have := ih (n / 10) (by omega)
    rw [dig_ge hn]
    unfold allDig at *
    rw [List.all_append, this]; simp only [List.all_cons, List.all_nil, isDig_of (show n % 10 < 10 by omega), Bool.and_true]
theorem dig_val (k : Nat) : ∀ n, n ≤ k → valD 0 (dig n) = n := by
 induction k with
 | zero => intro n h; obtain rfl : n = 0 := by omega
           rw [dig_lt (by omega)]; rfl
 | succ k ih =>
   intro n h
   by_cases hn : n < 10
   ·rw [dig_lt hn]; show 10 * 0 + _ = n; rw [ofNat_val hn]; omega
   ·rw [dig_ge hn, valD_append, ih (n / 10) (by omega)]
    show 10 * (n / 10) + _ = n
    rw [ofNat_val (show n % 10 < 10 by omega)]; omega
theorem dig_ne (n : Nat) : dig n ≠ [] := by
 by_cases hn : n < 10
 ·rw [dig_lt hn]; simp
 ·rw [dig_ge hn]; simp
theorem itoa_neg' (u : Nat) (h : 1 ≤ u) : Lib.itoa (-(u : Int)) = 45 :: dig u := by
 unfold Lib.itoa; rw [if_pos (by omega), dig_eq u u (Nat.le_refl _)]; simp
theorem itoa_cases (v : Int) : (∃ u : Nat, v = u ∧ Lib.itoa v = dig u) ∨ (∃ u : Nat, 1 ≤ u ∧ v = -(u : Int) ∧ Lib.itoa v = 45 :: dig u) := by
 rcases Int.lt_or_le v 0 with h | h
 ·refine .inr ⟨v.natAbs, by omega, by omega, ?_⟩
  have e : v = -(v.natAbs : Int) := by omega
  rw [e, itoa_neg' _ (by omega)]; simp
 ·refine .inl ⟨v.toNat, by omega, ?_⟩
  have e : v = (v.toNat : Int) := by omega
  rw [e, itoa_nat]; rfl
theorem parse_dig (M : Nat) (hM : M < 18446744073709551616) : ∀ (l : List UInt8) (a : Nat), allDig l = true → valD a l ≤ M → Lib.parseUintM M a l = .ok (valD a l)
 | [], a, _, _ => rfl
 | c :: r, a, h, hv => by
   have hc : isDig c = true := by unfold allDig at h; simp only [List.all_cons, Bool.and_eq_true] at h; exact h.1
   have hr : allDig r = true := by unfold allDig at *; simp only [List.all_cons, Bool.and_eq_true] at h; exact h.2
   have hcd : 48 ≤ c.toNat ∧ c.toNat ≤ 57 := by simp [isDig] at hc; omega
   have hv' : valD (10 * a + (c.toNat - 48)) r ≤ M := hv
   have hle := valD_le r (10 * a + (c.toNat - 48))
   rw [Lib.parseUintM, if_pos hcd, if_neg (by omega), if_neg (by omega), Nat.mul_comm a 10]
   exact parse_dig M hM r _ hr hv'
theorem parse_itoa {v : Int} (h1 : -9223372036854775808 ≤ v) (h2 : v ≤ 9223372036854775807) : Lib.parseIntB 64 (Lib.itoa v) = .ok v := by
 have pd : ∀ u : Nat, u ≤ 9223372036854775808 → Lib.parseUintB 64 (dig u) = .ok u := fun u hu => by
  have := parse_dig (2 ^ 64 - 1) (by decide) (dig u) 0 (dig_all u u (Nat.le_refl _)) (by rw [dig_val u u (Nat.le_refl _)]; omega)
  rw [dig_val u u (Nat.le_refl _)] at this
  rw [Lib.parseUintB, if_neg (dig_ne u), this]
 rcases itoa_cases v with ⟨u, rfl, e⟩ | ⟨u, hu, rfl, e⟩
 ·rw [e]
  have hp := pd u (by omega)
  cases hd : dig u with
  | nil => exact absurd hd (dig_ne u)
  | cons c r =>
    have hall := dig_all u u (Nat.le_refl _)
    rw [hd] at hall
    have hc : isDig c = true := by unfold allDig at hall; simp only [List.all_cons, Bool.and_eq_true] at hall; exact hall.1
    have hcd : 48 ≤ c.toNat ∧ c.toNat ≤ 57 := by simp [isDig] at hc; omega
    rw [hd] at hp
    rw [Lib.parseIntB_plain 64 c r (by omega) (by omega), hp]
    unfold Lib.signlessC
    simp only
    rw [if_neg (by omega)]
 ·rw [e, Lib.parseIntB_minus, pd u (by omega)]
  unfold Lib.signedC
  simp only
  rw [if_neg (by omega)]
def intL (s : List UInt8) : Int × Bool := match Lib.parseIntB 64 s with
 | .ok v => if Lib.itoa v = s then (v, true) else (0, false)
 | _ => (0, false)
theorem parse_bounds {s : List UInt8} {v : Int} (h : Lib.parseIntB 64 s = .ok v) : -9223372036854775808 ≤ v ∧ v ≤ 9223372036854775807 := by
 cases s with
 | nil => simp [Lib.parseIntB] at h
 | cons c r =>
   unfold Lib.parseIntB at h
   simp only at h
   split at h
   ·cases h
   ·cases h
   ·rename_i u hu
    split at h
    ·cases h
    ·split at h
     ·cases h
     ·rename_i k1 k2
      by_cases hc : c.toNat = 45
      ·simp [hc] at h k1 k2; omega
      ·simp [hc] at h k1 k2; omega
theorem intL_itoa {v : Int} (h1 : -9223372036854775808 ≤ v) (h2 : v ≤ 9223372036854775807) : intL (Lib.itoa v) = (v, true) := by
 unfold intL; rw [parse_itoa h1 h2]; simp
end Go.Proofs.YtlbipokkdiiaiaaGreatDoor
namespace Go.Proofs.YtlbipokkdiiaiaaGreatDoor
open Go.RowKit Go.Proofs.YtlbipokkdiiaiaaGreatDoor.Exec
set_option maxRecDepth 100000
def numB : Nat → Nat → List UInt8
 | _, 0 => []
 | n, k + 1 => numB (n / 256) k ++ [UInt8.ofNat (n % 256)]
theorem numB_len : ∀ (k n : Nat), (numB n k).length = k
 | 0, _ => rfl
 | k + 1, n => by simp [numB, numB_len k]
def bigL (s : List UInt8) : Nat := s.foldl (fun n b => n * 256 + b.toNat) 0
theorem big_num : ∀ (k n : Nat), bigL (numB n k) = n % 256 ^ k
 | 0, n => by simp [numB, bigL, Nat.mod_one]
 | k + 1, n => by
   have ih := big_num k (n / 256)
   unfold bigL at ih ⊢
   rw [numB, List.foldl_append, ih]
   simp only [List.foldl_cons, List.foldl_nil]
   rw [toNat_ofNat (by omega), Nat.pow_succ, Nat.mul_comm (256 ^ k) 256, Nat.mod_mul]
   omega
theorem big_take (s : List UInt8) (k : Nat) (h : k < s.length) : bigL (s.take (k + 1)) = bigL (s.take k) * 256 + s[k].toNat := by
 unfold bigL
 rw [take_at _ _ h, List.foldl_append]; rfl
theorem big_lt (s : List UInt8) : bigL s < 256 ^ s.length := by
 have : ∀ (l : List UInt8) (a : Nat), l.foldl (fun n b => n * 256 + b.toNat) a < (a + 1) * 256 ^ l.length := by
  intro l
  induction l with
  | nil => intro a; simp
  | cons b l ih =>
    intro a
    rw [List.foldl_cons]
    refine Nat.lt_of_lt_of_le (ih _) ?_
    rw [List.length_cons, Nat.pow_succ, Nat.mul_comm (256 ^ l.length) 256, ← Nat.mul_assoc]
    refine Nat.mul_le_mul_right _ ?_
    have := b.toNat_lt
    omega
 simpa [bigL] using this s 0
theorem numB_step : ∀ (d k n i : Nat), k = i + 1 + d → (numB n k).drop i = UInt8.ofNat (n / 256 ^ d % 256) :: (numB n k).drop (i + 1)
 | 0, k, n, i, h => by
   subst h
   have hl := numB_len i (n / 256)
   simp [numB, List.drop_append, hl]
 | d + 1, k, n, i, h => by
   obtain ⟨m, rfl⟩ : ∃ m, k = m + 1 := ⟨k - 1, by omega⟩
   have ih := numB_step d m (n / 256) i (by omega)
   have hl := numB_len m (n / 256)
   simp only [numB]
   rw [List.drop_append_of_le_length (by omega), List.drop_append_of_le_length (by omega), ih, Nat.div_div_eq_div_mul, ← Nat.pow_succ']
   rfl
theorem numB_get (k n i : Nat) (h : i < k) : (Lib.byteCells (numB n k))[i]? = some (.int .u8 ((n / 256 ^ (k - (i + 1)) % 256 : Nat) : Int)) := by
 have hs := numB_step (k - (i + 1)) k n i (by omega)
 have hd : (numB n k)[i]? = some (UInt8.ofNat (n / 256 ^ (k - (i + 1)) % 256)) := by
  have := congrArg List.head? hs
  simpa using this
 simp only [Lib.byteCells, List.getElem?_map, hd, Option.map_some]
 rw [toNat_ofNat (by omega)]
def numF (n k j : Nat) : Nat → Value := fun i => if i < j then .int .u8 0 else .int .u8 ((n / 256 ^ (k - (i + 1)) % 256 : Nat) : Int)
theorem slice_of_row {w : World} {b k : Nat} {t : TypeId} {f : Nat → Value} {xs : List Value} (h : w.rowIs b t k f) (hl : xs.length = k) (hx : ∀ i, i < k → xs[i]? = some (f i)) (hk : k ≤ maxLen) : SliceAt w 1 (.slice (some ⟨b, 0, none⟩) k k) k xs := by
 refine ⟨by omega, some ⟨b, 0, none⟩, k, rfl, Nat.le_refl _, hk, fun e => (by cases e), fun _ => ⟨b, 0, rfl, h.lt, fun j u hu => ?_⟩⟩
 have hj : j < k := by rw [← hl]; exact (List.getElem?_eq_some_iff.1 hu).1
 rw [hx j hj] at hu
 rw [Nat.zero_add, ← hu]
 exact h.cell hj
set_option maxHeartbeats 1000000 in
theorem number_any (n k : Nat) (_hn : n < 18446744073709551616) (hk : k ≤ 8) (w : World) :
  Calls Tryz.prog 37 #[.int .u64 n, .int .i64 k] w fun e w' => ∃ v, e = .returned v ∧ SliceAt w' 1 v k (Lib.byteCells (numB n k)) ∧ Below w.heap.size w w' := by
 have hmk := run_make_row' (P := Tryz.prog) 49 5 (.int .u8 0) 1 (by kernel_rfl) (by kernel_rfl) rfl .i64 .i64 k (by omega) (by omega)
 go_enter Tryz.func37, Tryz.ntmps37
 go_upto_region 2 with fail
 obtain ⟨W0, hW0, hb0, hn0⟩ := an0 w (.cells (madeCells #[.int .u8 0] k) 5)
 rw [← hW0.out]
 clear hW0 hmk
 have HB0 := hid hb0
 have HR0 := hid (show W0.rowIs w.heap.size 5 k (numF n k k) from by
  have := World.rowIs_alloc w (madeCells #[.int .u8 0] k) 5 (numF n k k) (fun i hi => by
   rw [size_madeCells] at hi
   have hi : i < k := by simpa using hi
   unfold numF
   rw [if_pos hi]
   simp [madeCells, hi, Nat.mod_one])
  obtain ⟨c, h1, h2, h3⟩ := this
  exact ⟨c, hn0.trans ((heap_alloc_new w _).symm.trans h1), by simpa [size_madeCells] using h2, fun i hi => h3 i (by simpa [size_madeCells] using hi)⟩)
 clear hb0 hn0
 go_wp2_with fail
 go_loopw [6, 0] (fun i x wr => ∃ j : Nat, j ≤ k ∧ i = .int .i64 ((j : Int) - 1) ∧ x = .int .u64 ((n / 256 ^ (k - j) : Nat) : Int) ∧ wr.rowIs w.heap.size 5 k (numF n k j) ∧ Below w.heap.size w wr) (fun i _ _ => (intOf i + 1).toNat)
 case atStart => exact ⟨k, Nat.le_refl _, rfl, by simp, HR0.out, HB0.out⟩
 case round =>
  obtain ⟨j, hj, rfl, rfl, hr, hb⟩ := hrel
  have HB := hid hb
  have HR := hid hr
  clear hr hb HR0 HB0
  by_cases h0 : 0 < j
  ·obtain ⟨d, rfl⟩ : ∃ d, j = d + 1 := ⟨j - 1, by omega⟩
   have hi1 : ((d + 1 : Nat) : Int) - 1 = (d : Int) := by omega
   rw [hi1]
   have ck := HR.out.cell (i := d) (by omega)
   have fz : wr.frozen? ⟨w.heap.size, d, none⟩ = false := by
    obtain ⟨c, hc, _, _⟩ := HR.out
    exact Lib.frozen_of_heap hc d
   have e1 : Hid (((n : Int) / 256 ^ (k - (d + 1)) / 256 : Int) = ((n / 256 ^ (k - d) : Nat) : Int)) := hid (by
    rw [show k - d = (k - (d + 1)) + 1 by omega, Nat.pow_succ, ← Nat.div_div_eq_div_mul]
    push_cast
    rfl)
   have e2 : Hid (((n : Int) / 256 ^ (k - (d + 1)) % 256 : Int) = ((n / 256 ^ (k - (d + 1)) % 256 : Nat) : Int)) := hid (by push_cast; rfl)
   have e3 : Hid ((fun i => if i = d then .int .u8 ((n / 256 ^ (k - (d + 1)) % 256 : Nat) : Int) else numF n k (d + 1) i) = numF n k d) := hid (by
    funext i
    unfold numF
    by_cases e : i = d
    ·subst e; simp
    ·rw [if_neg e]
     by_cases e4 : i < d
     ·rw [if_pos (by omega), if_pos e4]
     ·rw [if_neg (by omega), if_neg e4])
   go_wp2
   rw [e1.out, e2.out]
   exact ⟨⟨d, by omega, rfl, rfl, by rw [← e3.out]; exact HR.out.set d _, HB.out.setCell (Nat.le_refl _) _⟩, by simp [intOf]⟩
  ·obtain rfl : j = 0 := by omega
   go_wp2
   go_ret
   exact ⟨_, rfl, slice_of_row HR.out (by rw [byteCells_len, numB_len]) (fun i hi => by rw [numB_get k n i hi]; simp [numF]) (by unfold maxLen; omega), HB.out⟩
theorem shl_or (m : Nat) (b : UInt8) (h : m < 2 ^ 56) : bits .or .u64 (IntKind.u64.wrap ((m : Int) * 256)) (IntKind.u64.wrap (b.toNat : Int)) = ((m * 256 + b.toNat : Nat) : Int) := by
 have hb := b.toNat_lt
 have h1 : IntKind.u64.wrap ((m : Int) * 256) = ((m * 256 : Nat) : Int) := by
  simp only [IntKind.wrap, IntKind.bits, IntKind.signed]
  simp
  omega
 have h2 : IntKind.u64.wrap (b.toNat : Int) = (b.toNat : Int) := by
  simp only [IntKind.wrap, IntKind.bits, IntKind.signed]
  simp
  omega
 rw [h1, h2, u64_or_nat _ _ (by omega) (by omega)]
 have := Nat.shiftLeft_add_eq_or_of_lt (i := 8) hb m
 rw [Nat.shiftLeft_eq] at this
 rw [← this]
set_option maxHeartbeats 1000000 in
theorem big_any (s : List UInt8) (hs : s.length ≤ 8) (w : World) :
  Calls Tryz.prog 38 #[.string (bs s)] w fun e w' => e = .returned (.int .u64 (bigL s)) ∧ w' = w := by
 go_enter Tryz.func38, Tryz.ntmps38
 go_wp2
 go_loopw [6, 2] (fun i x wr => ∃ j : Nat, j ≤ s.length ∧ i = .int .i64 j ∧ x = .int .u64 (bigL (s.take j)) ∧ wr = w) (fun i _ _ => s.length - (intOf i).toNat)
 case atStart => exact ⟨0, by omega, rfl, rfl, rfl⟩
 case round =>
  obtain ⟨j, hj, rfl, rfl, rfl⟩ := hrel
  by_cases h0 : j < s.length
  ·have hB : Hid (bigL (s.take j) < 2 ^ 56) := hid (by
    refine Nat.lt_of_lt_of_le (big_lt _) ?_
    rw [show (2 : Nat) ^ 56 = 256 ^ 7 from by decide]
    exact Nat.pow_le_pow_right (by omega) (by rw [List.length_take]; omega))
   have hT := hid (big_take s j h0)
   go_wp2
   rw [shl_or _ _ hB.out, ← hT.out]
   exact ⟨⟨j + 1, by omega, rfl, rfl, trivial⟩, by simp [intOf]; omega⟩
  ·obtain rfl : j = s.length := by omega
   rw [List.take_length]
   go_wp2
   go_ret
   exact ⟨rfl, rfl⟩
end Go.Proofs.YtlbipokkdiiaiaaGreatDoor
namespace Go.Proofs.YtlbipokkdiiaiaaGreatDoor
open Go.RowKit Go.Proofs.YtlbipokkdiiaiaaGreatDoor.Exec
section
variable {P : Program} {md : Region.Mode} {ops : Array Oper} {Q : Exit → Act → World → Prop} {S : World → Prop} {k : Nat}
def wpAnyL (P : Program) (md : Region.Mode) (ops : Array Oper) (Q : Exit → Act → World → Prop) (S : World → Prop) (k : Nat) : Nat → Array Bool → Act → World → Prop
 | 0, listed, a, w => Region.ready md ops listed = [] ∧ Q .normal a w
 | fuel + 1, listed, a, w =>
   (Region.ready md ops listed = [] → Q .normal a w) ∧
   ∀ i ∈ Region.ready md ops listed, wpOp P ops Q i (fun a' w' => ((listed.setIfInBounds i true).getD k false = true ∨ S w') ∧ wpAnyL P md ops Q S k fuel (listed.setIfInBounds i true) a' w') a w
theorem wpAny_of_late : ∀ (fuel : Nat) (listed : Array Bool) (a : Act) (w : World), wpAnyL P md ops Q S k fuel listed a w → wpAny P md ops Q fuel listed a w
 | 0, _, _, _, h => h
 | fuel + 1, _, _, _, h => ⟨h.1, fun i hi => wpOp_mono (fun a' w' h' => wpAny_of_late fuel _ a' w' h'.2) (h.2 i hi)⟩
theorem wpAnyL_first {i : Nat} {oi : Oper} {v : Value} (hi : ops[i]? = some oi) (hsel : ∀ (j : Nat) (o : Oper) cs b, ops[j]? = some o → o.op ≠ .select cs b)
  (hQ : ∀ c a w, Q (.panic c) (a.put oi.dst v) w → Q (.panic c) a w)
  (hk : ∃ ok, ops[k]? = some ok ∧ ∃ e ∈ ok.after, Region.binds md e = true ∧ e.on = i) :
  ∀ (fuel : Nat) (listed : Array Bool) (a : Act) (w : World),
    (∀ j oj, ops[j]? = some oj → j ≠ i → listed.getD j true = false → (∀ e ∈ oj.after, Region.binds md e = true → e.on ≠ i) → oi.apart ops oj = true) →
    i ∈ Region.ready md ops listed → YieldsIf P ops S oi v a → S w → listed.getD k false = false → k ≠ i →
    wpAnyL P md ops Q S k fuel (listed.setIfInBounds i true) (a.put oi.dst v) w → wpAnyL P md ops Q S k (fuel + 1) listed a w := by
 intro fuel
 induction fuel with
 | zero =>
   intro listed a w _ hr hy hS _ _ H
   refine ⟨fun h => (by rw [h] at hr; cases hr), fun j hj => ?_⟩
   by_cases hji : j = i
   ·subst hji; exact hy.wpOp hi hS ⟨.inr hS, H⟩
   ·have := ready_mono hj hji
    rw [H.1] at this
    cases this
 | succ fuel ih =>
   intro listed a w hfree hr hy hS hkl hki H
   refine ⟨fun h => (by rw [h] at hr; cases hr), fun j hj => ?_⟩
   by_cases hji : j = i
   ·subst hji; exact hy.wpOp hi hS ⟨.inr hS, H⟩
   ·have h1 := H.2 j (ready_mono hj hji)
    obtain ⟨hjun, oj, hoj, hall⟩ := mem_ready.1 hj
    have hnot : ∀ e ∈ oj.after, Region.binds md e = true → e.on ≠ i := fun e he hb heq => by
     have h1 := hall e he hb
     have h0 := (mem_ready.1 hr).1
     rw [heq] at h1
     rcases Nat.lt_or_ge i listed.size with h' | h'
     ·simp [h'] at h0 h1; rw [h0] at h1; cases h1
     ·simp [Array.getElem?_eq_none h'] at h1
    have hjk : j ≠ k := fun e => by
     subst e
     obtain ⟨ok, hok, e, he, hb, hon⟩ := hk
     obtain rfl : ok = oj := Option.some.inj (hok.symm.trans hoj)
     exact hnot e he hb hon
    have h2 := wpOp_putIf hoj (hfree j oj hoj hji hjun hnot) (fun cs b => hsel i oi cs b hi) (fun cs b => hsel j oj cs b hoj) hQ hy h1
    have hfree' : ∀ k ok, ops[k]? = some ok → k ≠ i → (listed.setIfInBounds j true).getD k true = false →
      (∀ e ∈ ok.after, Region.binds md e = true → e.on ≠ i) → oi.apart ops ok = true := fun k ok hk hki hun hno => by
     refine hfree k ok hk hki ?_ hno
     by_cases hjk : j = k
     ·subst hjk; exact hjun
     ·rw [getD_set_ne true hjk] at hun; exact hun
    have hkj : (listed.setIfInBounds j true).getD k false = false := by rw [getD_set_ne false hjk]; exact hkl
    refine wpOp_mono (fun a' w' h3 => ?_) h2
    obtain ⟨h4, h5, h6⟩ := h3
    have hS' : S w' := by
     rcases h5 with h5 | h5
     ·rw [getD_set_ne false hjk, getD_set_ne false (Ne.symm hki), hkl] at h5
      cases h5
     ·exact h5
    refine ⟨.inr hS', ih (listed.setIfInBounds j true) a' w' hfree' (ready_mono hr (Ne.symm hji)) h4 hS' hkj hki ?_⟩
    rw [Array.setIfInBounds_comm _ _ hji]
    exact h6
theorem wpAnyL_pure {i : Nat} {oi : Oper} {v : Value} (hi : ops[i]? = some oi) (hsel : ∀ (j : Nat) (o : Oper) cs b, ops[j]? = some o → o.op ≠ .select cs b)
  (hQ : ∀ c a w, Q (.panic c) (a.put oi.dst v) w → Q (.panic c) a w) :
  ∀ (fuel : Nat) (listed : Array Bool) (a : Act) (w : World),
    (∀ j oj, ops[j]? = some oj → j ≠ i → listed.getD j true = false → (∀ e ∈ oj.after, Region.binds md e = true → e.on ≠ i) → oi.apart ops oj = true) →
    i ∈ Region.ready md ops listed → YieldsIf P ops (fun _ => True) oi v a → (listed.getD k false = true ∨ S w) → k ≠ i →
    wpAnyL P md ops Q S k fuel (listed.setIfInBounds i true) (a.put oi.dst v) w → wpAnyL P md ops Q S k (fuel + 1) listed a w := by
 intro fuel
 induction fuel with
 | zero =>
   intro listed a w _ hr hy hS hki H
   refine ⟨fun h => (by rw [h] at hr; cases hr), fun j hj => ?_⟩
   by_cases hji : j = i
   ·subst hji; exact hy.wpOp hi trivial ⟨by rw [getD_set_ne false (Ne.symm hki)]; exact hS, H⟩
   ·have := ready_mono hj hji
    rw [H.1] at this
    cases this
 | succ fuel ih =>
   intro listed a w hfree hr hy hS hki H
   refine ⟨fun h => (by rw [h] at hr; cases hr), fun j hj => ?_⟩
   by_cases hji : j = i
   ·subst hji; exact hy.wpOp hi trivial ⟨by rw [getD_set_ne false (Ne.symm hki)]; exact hS, H⟩
   ·have h1 := H.2 j (ready_mono hj hji)
    obtain ⟨hjun, oj, hoj, hall⟩ := mem_ready.1 hj
    have hnot : ∀ e ∈ oj.after, Region.binds md e = true → e.on ≠ i := fun e he hb heq => by
     have h1 := hall e he hb
     have h0 := (mem_ready.1 hr).1
     rw [heq] at h1
     rcases Nat.lt_or_ge i listed.size with h' | h'
     ·simp [h'] at h0 h1; rw [h0] at h1; cases h1
     ·simp [Array.getElem?_eq_none h'] at h1
    have h2 := wpOp_putIf hoj (hfree j oj hoj hji hjun hnot) (fun cs b => hsel i oi cs b hi) (fun cs b => hsel j oj cs b hoj) hQ hy h1
    have hfree' : ∀ k ok, ops[k]? = some ok → k ≠ i → (listed.setIfInBounds j true).getD k true = false →
      (∀ e ∈ ok.after, Region.binds md e = true → e.on ≠ i) → oi.apart ops ok = true := fun k ok hk hki hun hno => by
     refine hfree k ok hk hki ?_ hno
     by_cases hjk : j = k
     ·subst hjk; exact hjun
     ·rw [getD_set_ne true hjk] at hun; exact hun
    refine wpOp_mono (fun a' w' h3 => ?_) h2
    obtain ⟨h4, h5, h6⟩ := h3
    rw [Array.setIfInBounds_comm _ _ (Ne.symm hji), getD_set_ne false (Ne.symm hki)] at h5
    refine ⟨h5, ih (listed.setIfInBounds j true) a' w' hfree' (ready_mono hr (Ne.symm hji)) h4 h5 hki ?_⟩
    rw [Array.setIfInBounds_comm _ _ hji]
    exact h6
structure WL (P : Program) (ops : Array Oper) (Q : Exit → Act → World → Prop) (S : World → Prop) (k fuel : Nat) (listed : Array Bool) (a : Act) (w : World) : Prop where
 out : wpAnyL P .any ops Q S k fuel listed a w
variable {fuel : Nat} {listed : Array Bool} {a : Act} {w : World}
theorem wp_region_wl {id : Nat} {l : List Oper} (S : World → Prop) (k : Nat) (hm : P.follows .mixedOrders = true) (h : ∀ W, Below w.heap.size w W → WL P l.toArray Q S k l.length (Array.replicate l.length false) a W) : (Code.region id l.toArray true).wp P Q a w :=
 wp_region_any hm (wpAny_of_late _ _ _ _ (by simpa using (h w.drew (Drawn.below ⟨1, rfl⟩)).out))
def waits (ops : Array Oper) (k i : Nat) : Bool := match ops[k]? with | some o => o.after.any fun e => Region.binds .any e && e.on == i | none => false
theorem waits_out {i : Nat} (h : waits ops k i = true) : ∃ ok, ops[k]? = some ok ∧ ∃ e ∈ ok.after, Region.binds .any e = true ∧ e.on = i := by
 unfold waits at h
 split at h
 ·rename_i o ho
  obtain ⟨e, he, h⟩ := Array.any_eq_true'.1 h
  simp only [Bool.and_eq_true, beq_iff_eq] at h
  exact ⟨o, ho, e, he, h⟩
 ·cases h
theorem WL.take (i : Nat) (dst : Option Tmp) (v : Value) {oi : Oper} (hS : S w) (h : WL P ops Q S k fuel (listed.setIfInBounds i true) (a.put dst v) w) (hy : YieldsIf P ops S oi v a)
  (hi : ops[i]? = some oi := by rfl) (hd : oi.dst = dst := by rfl) (hs : Region.noSelect ops = true := by kernel_rfl) (hf : Region.free .any ops listed i = true := by kernel_rfl) (hr : (Region.ready .any ops listed).contains i = true := by kernel_rfl)
  (hQ : ∀ c a w, Q (.panic c) (a.put oi.dst v) w → Q (.panic c) a w := by exact fun _ _ _ h => h) (hw : waits ops k i = true := by kernel_rfl) (hkl : listed.getD k false = false := by kernel_rfl) (hki : k ≠ i := by decide) : WL P ops Q S k (fuel + 1) listed a w := by
 subst hd
 exact ⟨wpAnyL_first hi (Region.noSelect_spec hs) hQ (waits_out hw) fuel listed a w (Region.free_spec hi hf) (by simpa using hr) hy hS hkl hki h.out⟩
theorem WL.tk (i : Nat) (dst : Option Tmp) (v : Value) {oi : Oper} (hS : S w) (h : WL P ops Q S k fuel (listed.setIfInBounds i true) (a.put dst v) w)
  (hv : ∀ W, S W → (execOp a.eval oi).run P W = .ok (.value v) W := by exact fun _ _ => rfl)
  (hi : ops[i]? = some oi := by rfl) (hd : oi.dst = dst := by rfl) (hs : Region.noSelect ops = true := by kernel_rfl) (hf : Region.free .any ops listed i = true := by kernel_rfl) (hr : (Region.ready .any ops listed).contains i = true := by kernel_rfl)
  (hQ : ∀ c a w, Q (.panic c) (a.put oi.dst v) w → Q (.panic c) a w := by exact fun _ _ _ h => h) (hwt : Region.wanted oi (yielded ops a.tmps) = true := by kernel_rfl) (hw : waits ops k i = true := by kernel_rfl) (hkl : listed.getD k false = false := by kernel_rfl) (hki : k ≠ i := by decide) : WL P ops Q S k (fuel + 1) listed a w :=
 WL.take i dst v hS h (.inl ⟨hwt, hv⟩) hi hd hs hf hr hQ hw hkl hki
theorem WL.te (i : Nat) (dst : Option Tmp) {oi : Oper} (hS : S w) (h : ∃ v, (∀ W, S W → (execOp a.eval oi).run P W = .ok (.value v) W) ∧ WL P ops Q S k fuel (listed.setIfInBounds i true) (a.put dst v) w)
  (hi : ops[i]? = some oi := by rfl) (hd : oi.dst = dst := by rfl) (hs : Region.noSelect ops = true := by kernel_rfl) (hf : Region.free .any ops listed i = true := by kernel_rfl) (hr : (Region.ready .any ops listed).contains i = true := by kernel_rfl)
  (hQ : ∀ v c a w, Q (.panic c) (a.put oi.dst v) w → Q (.panic c) a w := by exact fun _ _ _ _ h => h) (hwt : Region.wanted oi (yielded ops a.tmps) = true := by kernel_rfl) (hw : waits ops k i = true := by kernel_rfl) (hkl : listed.getD k false = false := by kernel_rfl) (hki : k ≠ i := by decide) : WL P ops Q S k (fuel + 1) listed a w := by
 obtain ⟨v, hv, h⟩ := h
 exact WL.take i dst v hS h (.inl ⟨hwt, hv⟩) hi hd hs hf hr (hQ v) hw hkl hki
theorem WL.tp (i : Nat) (dst : Option Tmp) {oi : Oper} (hS : listed.getD k false = true ∨ S w) (h : ∃ v, (∀ W, (execOp a.eval oi).run P W = .ok (.value v) W) ∧ WL P ops Q S k fuel (listed.setIfInBounds i true) (a.put dst v) w)
  (hi : ops[i]? = some oi := by rfl) (hd : oi.dst = dst := by rfl) (hs : Region.noSelect ops = true := by kernel_rfl) (hf : Region.free .any ops listed i = true := by kernel_rfl) (hr : (Region.ready .any ops listed).contains i = true := by kernel_rfl)
  (hQ : ∀ v c a w, Q (.panic c) (a.put oi.dst v) w → Q (.panic c) a w := by exact fun _ _ _ _ h => h) (hwt : Region.wanted oi (yielded ops a.tmps) = true := by kernel_rfl) (hki : k ≠ i := by decide) : WL P ops Q S k (fuel + 1) listed a w := by
 subst hd
 obtain ⟨v, hv, h⟩ := h
 exact ⟨wpAnyL_pure hi (Region.noSelect_spec hs) (hQ v) fuel listed a w (Region.free_spec hi hf) (by simpa using hr) (.inl ⟨hwt, fun W _ => hv W⟩) hS hki h.out⟩
theorem WL.o (i : Nat) {oi : Oper}
  (h : ∀ K' : Act → World → Prop, Shut (∀ a w, ((listed.setIfInBounds i true).getD k false = true ∨ S w) → WL P ops Q S k fuel (listed.setIfInBounds i true) a w → K' a w) → Oper.wp P oi a w K' Q)
  (hi : ops[i]? = some oi := by rfl) (hr : Region.ready .any ops listed = [i] := by kernel_rfl) (hw : Region.wanted oi (yielded ops a.tmps) = true := by kernel_rfl) : WL P ops Q S k (fuel + 1) listed a w :=
 ⟨⟨fun h0 => absurd (hr ▸ h0) (by simp), hr ▸ fun j hj => by
   obtain rfl : j = i := by simpa using hj
   exact wpOp_step hi (fun K' hK => by rw [if_pos hw]; exact h K' (fun a w hS hW => hK a w ⟨hS, hW.out⟩))⟩⟩
theorem WL.tw (i j : Nat) {oi oj : Oper}
  (h : ∀ K' : Act → World → Prop, Shut (∀ a w, ((listed.setIfInBounds i true).getD k false = true ∨ S w) → WL P ops Q S k fuel (listed.setIfInBounds i true) a w → K' a w) → Oper.wp P oi a w K' Q)
  (h' : ∀ K' : Act → World → Prop, Shut (∀ a w, ((listed.setIfInBounds j true).getD k false = true ∨ S w) → WL P ops Q S k fuel (listed.setIfInBounds j true) a w → K' a w) → Oper.wp P oj a w K' Q)
  (hi : ops[i]? = some oi := by rfl) (hj : ops[j]? = some oj := by rfl) (hr : Region.ready .any ops listed = [i, j] := by kernel_rfl) (hw : Region.wanted oi (yielded ops a.tmps) = true := by kernel_rfl) (hv : Region.wanted oj (yielded ops a.tmps) = true := by kernel_rfl) : WL P ops Q S k (fuel + 1) listed a w :=
 ⟨⟨fun h0 => absurd (hr ▸ h0) (by simp), hr ▸ fun m hm => by
   rcases List.mem_cons.1 hm with rfl | hm
   ·exact wpOp_step hi (fun K' hK => by rw [if_pos hw]; exact h K' (fun a w hS hW => hK a w ⟨hS, hW.out⟩))
   ·obtain rfl : m = j := by simpa using hm
    exact wpOp_step hj (fun K' hK => by rw [if_pos hv]; exact h' K' (fun a w hS hW => hK a w ⟨hS, hW.out⟩))⟩⟩
theorem WL.d (h : Q .normal a w) (hr : Region.ready .any ops listed = [] := by kernel_rfl) : WL P ops Q S k fuel listed a w := ⟨by
 cases fuel with
 | zero => exact ⟨hr, h⟩
 | succ f => exact ⟨fun _ => h, by rw [hr]; simp⟩⟩
end
end Go.Proofs.YtlbipokkdiiaiaaGreatDoor
