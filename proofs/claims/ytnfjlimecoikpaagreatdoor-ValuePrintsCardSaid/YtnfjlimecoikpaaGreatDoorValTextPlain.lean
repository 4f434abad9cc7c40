/- Plain: how long values' texts are; joins. -/
import Derived.Test.YtnfjlimecoikpaaGreatDoorValRise
import Derived.Lib.Join
import Derived.Lib.ItoaLen
namespace Go.Proofs.YtnfjlimecoikpaaGreatDoor
set_option maxRecDepth 100000
open Go.RowKit

theorem join_is (ss : List (List UInt8)) : Lib.join ss [44, 32] = joinC ss := by
  cases ss with
  | nil => rfl
  | cons a r =>
    rw [Lib.join_cons]
    induction r generalizing a with
    | nil => simp [Lib.joinTail, joinC]
    | cons b r ih =>
      have e : joinC (a :: b :: r) = a ++ 44 :: 32 :: joinC (b :: r) := rfl
      rw [e, ← ih b]
      simp [Lib.joinTail]
/-- How long texts are together, each with what may stand around it. -/
def tot (ts : List (List UInt8)) : Nat := (ts.map fun t => t.length + 131078).sum
theorem tot_cons (a : List UInt8) (r : List (List UInt8)) : tot (a :: r) = a.length + 131078 + tot r := by simp [tot]
theorem joinC_le : ∀ ts : List (List UInt8), (joinC ts).length ≤ tot ts
  | [] => by simp [joinC]
  | [a] => by simp [joinC, tot]
  | a :: b :: r => by
    have ih := joinC_le (b :: r)
    have e : joinC (a :: b :: r) = a ++ 44 :: 32 :: joinC (b :: r) := rfl
    rw [e, tot_cons]
    simp only [List.length_append, List.length_cons]; omega
theorem esc_lenV (c : UInt8) : (escB c).length ≤ 2 := by unfold escB; split <;> (try split) <;> simp
theorem flat_lenV : ∀ s : List UInt8, (s.flatMap escB).length ≤ 2 * s.length
  | [] => by simp
  | c :: r => by
    have := flat_lenV r
    have := esc_lenV c
    simp only [List.flatMap_cons, List.length_append, List.length_cons]; omega
theorem quoteL_le (s : List UInt8) : (quoteL s).length ≤ 2 * s.length + 2 := by
  unfold quoteL
  split
  · simp
  · have := flat_lenV s
    simp only [List.length_cons, List.length_append, List.length_nil]; omega
theorem rise_each : ∀ (ks : List (List UInt8)), riseB ks = true → ∀ k ∈ ks, k.length ≤ 65536
  | [], _, k, h => by cases h
  | [a], h, k, hk => by
    obtain rfl := List.mem_singleton.1 hk
    simpa [riseB] using h
  | a :: b :: r, h, k, hk => by
    have h' : (decide (a.length ≤ 65536) && less a b && riseB (b :: r)) = true := h
    simp only [Bool.and_eq_true, decide_eq_true_eq] at h'
    rcases List.mem_cons.1 hk with rfl | hk
    · exact h'.1.1
    · exact rise_each (b :: r) h'.2 k hk
/-- The entries' lengths, quotes and all, within what tot allows. -/
theorem entries_le : ∀ (ks ts : List (List UInt8)), (∀ k ∈ ks, k.length ≤ 65536) → (joinC (entries ks ts)).length ≤ tot ts
  | [], _, _ => by simp [entries, joinC]
  | _ :: _, [], _ => by simp [entries, joinC]
  | [a], b :: t, h => by
    have e : entries [a] (b :: t) = [quoteL a ++ 58 :: 32 :: b] := by cases t <;> rfl
    have := quoteL_le a
    have := h a (by simp)
    rw [e, tot_cons]
    simp only [joinC, List.length_append, List.length_cons]; omega
  | a :: a' :: r, [b], h => by
    have e : entries (a :: a' :: r) [b] = [quoteL a ++ 58 :: 32 :: b] := rfl
    have := quoteL_le a
    have := h a (by simp)
    rw [e, tot_cons]
    simp only [joinC, List.length_append, List.length_cons]; omega
  | a :: a' :: r, b :: b' :: t, h => by
    have ih := entries_le (a' :: r) (b' :: t) (fun k hk => h k (List.mem_cons_of_mem _ hk))
    have := quoteL_le a
    have := h a (by simp)
    have e : entries (a :: a' :: r) (b :: b' :: t) = (quoteL a ++ 58 :: 32 :: b) :: entries (a' :: r) (b' :: t) := rfl
    have e2 : entries (a' :: r) (b' :: t) = (quoteL a' ++ 58 :: 32 :: b') :: entries r t := rfl
    have e3 : joinC (entries (a :: a' :: r) (b :: b' :: t)) = (quoteL a ++ 58 :: 32 :: b) ++ 44 :: 32 :: joinC (entries (a' :: r) (b' :: t)) := by rw [e, e2]; rfl
    rw [e3, tot_cons]
    simp only [List.length_append, List.length_cons]; omega
theorem node_text {k n : Int} {s : List UInt8} {m : Nat} {ks : List (List UInt8)} (h : nodeB k n s m ks = true) : s.length ≤ 65536 ∧ ∀ x ∈ ks, x.length ≤ 65536 := by
  unfold nodeB at h
  by_cases h0 : k = 0
  · rw [if_pos h0] at h; simp at h; rw [h.2]; exact ⟨by rw [h.1.1.2]; simp, by simp⟩
  rw [if_neg h0] at h
  by_cases h1 : k = 1
  · rw [if_pos h1] at h; simp at h; rw [h.2]; exact ⟨by rw [h.1.1.2]; simp, by simp⟩
  rw [if_neg h1] at h
  by_cases h2 : k = 2
  · rw [if_pos h2] at h; simp at h; rw [h.2]; exact ⟨by rw [h.1.1]; simp, by simp⟩
  rw [if_neg h2] at h
  by_cases h3 : k = 3
  · rw [if_pos h3] at h; simp at h; rw [h.2]; exact ⟨h.1.1.2, by simp⟩
  rw [if_neg h3] at h
  by_cases h4 : k = 4
  · rw [if_pos h4] at h; simp at h; rw [h.2]; exact ⟨by rw [h.1.1.2]; simp, by simp⟩
  rw [if_neg h4] at h
  by_cases h5 : k = 5
  · rw [if_pos h5] at h; simp at h; exact ⟨by rw [h.1.1.2]; simp, rise_each ks h.2.2⟩
  rw [if_neg h5] at h; cases h
theorem itoa_short (n : Int) : (Lib.itoa n).length ≤ 100 ∨ n < -9223372036854775808 ∨ 9223372036854775807 < n := by
  by_cases h0 : n < -9223372036854775808
  · exact .inr (.inl h0)
  · by_cases h1 : 9223372036854775807 < n
    · exact .inr (.inr h1)
    · exact .inl (by have := Lib.itoa_length_le n (by omega) (by omega); omega)
mutual
/-- Every number fits its kind. -/
def fitB : VM → Bool
  | .mk k n _ _ _ l _ => decide (-9223372036854775808 ≤ k ∧ k ≤ 9223372036854775807 ∧ -9223372036854775808 ≤ n ∧ n ≤ 9223372036854775807) && fitL l
def fitL : List VM → Bool
  | [] => true
  | v :: r => fitB v && fitL r
end
mutual
theorem textV_le : ∀ v : VM, nodesB v = true → fitB v = true → (textV v).length + 131100 ≤ 400000 * cnt v
  | .mk k n s lv kv l ks, h, hf => by
    have hn : nodesL l = true ∧ nodeB k n s l.length ks = true := by simpa [nodesB] using h
    have hfl : (-9223372036854775808 ≤ k ∧ k ≤ 9223372036854775807 ∧ -9223372036854775808 ≤ n ∧ n ≤ 9223372036854775807) ∧ fitL l = true := by simpa [fitB] using hf
    have ih := textL_le l hn.1 hfl.2
    have hc : cnt (.mk k n s lv kv l ks) = 1 + cntL l := by simp [cnt]
    obtain ⟨hs, hk⟩ := node_text hn.2
    rw [hc]
    unfold textV
    split
    · split <;> simp <;> omega
    · split
      · rcases itoa_short n with h | h | h <;> omega
      · split
        · have := quoteL_le s; omega
        · split
          · have := joinC_le (textL' l)
            simp only [List.length_cons, List.length_append, List.length_nil]; omega
          · split
            · have := entries_le ks (textL' l) hk
              simp only [List.length_cons, List.length_append, List.length_nil]; omega
            · simp; omega
theorem textL_le : ∀ l : List VM, nodesL l = true → fitL l = true → tot (textL' l) ≤ 400000 * cntL l
  | [], _, _ => by simp [textL', tot]
  | v :: r, h, hf => by
    have hn : nodesB v = true ∧ nodesL r = true := by simpa [nodesL] using h
    have hfl : fitB v = true ∧ fitL r = true := by simpa [fitL] using hf
    have h1 := textV_le v hn.1 hfl.1
    have h2 := textL_le r hn.2 hfl.2
    have hc : cntL (v :: r) = cnt v + cntL r := by simp [cntL]
    have e : textL' (v :: r) = textV v :: textL' r := by simp [textL']
    rw [hc, e, tot_cons]; omega
end
theorem textL_map : ∀ l : List VM, textL' l = l.map textV
  | [] => by simp [textL']
  | v :: r => by simp [textL', textL_map r]
end Go.Proofs.YtnfjlimecoikpaaGreatDoor
