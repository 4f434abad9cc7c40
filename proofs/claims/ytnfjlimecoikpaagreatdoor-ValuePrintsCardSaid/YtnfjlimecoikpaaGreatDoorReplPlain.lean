/- byteStringReplacer's counts, plain. -/
import Derived.Test.YtnfjlimecoikpaaGreatDoorReplDo
import Derived.Test.YtnfjlimecoikpaaGreatDoorQuotePlain
namespace Go.Proofs.YtnfjlimecoikpaaGreatDoor
set_option maxRecDepth 100000
open Go.RowKit

def hit (c : UInt8) : Bool := decide (c ∈ takenB 3)
theorem hit_iff (c : UInt8) : hit c = true ↔ c.toNat = 10 ∨ c.toNat = 92 ∨ c.toNat = 34 := by
  have h : ∀ d : UInt8, c = d ↔ c.toNat = d.toNat := fun d => UInt8.toNat_inj.symm
  simp [hit, takenB, h]
theorem mem_of_hit {c : UInt8} (h : hit c = true) : c ∈ takenB 3 := of_decide_eq_true h
theorem not_of_hit {c : UInt8} (h : hit c = false) : c ∉ takenB 3 := of_decide_eq_false h
theorem esc_hit {c : UInt8} (h : hit c = true) : (escB c).length = 2 := by
  rcases (hit_iff c).1 h with e | e | e
  · rw [esc_ten e]; rfl
  · rw [esc_two (by omega) (.inr e)]; rfl
  · rw [esc_two (by omega) (.inl e)]; rfl
theorem esc_not {c : UInt8} (h : hit c = false) : escB c = [c] := by
  have h' : ¬ (c.toNat = 10 ∨ c.toNat = 92 ∨ c.toNat = 34) := fun e => by rw [(hit_iff c).2 e] at h; cases h
  exact esc_one (fun e => h' (.inl e)) (fun e => h' (e.elim (fun e => .inr (.inr e)) (fun e => .inr (.inl e))))
theorem esc_hit_len (c : UInt8) : (escB c).length = 1 + (if hit c = true then 1 else 0) := by
  cases h : hit c with
  | true => rw [esc_hit h]; rfl
  | false => rw [esc_not h]; rfl
/-- By bytes. -/
def sizeB (s : List UInt8) (k : Nat) : Nat := s.length + ((s.take k).countP hit)
theorem sizeB_zero (s : List UInt8) : sizeB s 0 = s.length := by simp [sizeB]
theorem sizeB_step {s : List UInt8} {k : Nat} (h : k < s.length) : sizeB s (k + 1) = sizeB s k + (if hit s[k] = true then 1 else 0) := by
  unfold sizeB
  rw [take_at s k h, List.countP_append, List.countP_singleton]
  omega
theorem flat_len (s : List UInt8) : (s.flatMap escB).length = s.length + s.countP hit := by
  induction s with
  | nil => rfl
  | cons c r ih => rw [List.flatMap_cons, List.length_append, ih, esc_hit_len, List.countP_cons, List.length_cons]; omega
theorem sizeB_end (s : List UInt8) : sizeB s s.length = (s.flatMap escB).length := by rw [flat_len, sizeB, List.take_length]
theorem any_step {s : List UInt8} {k : Nat} (h : k < s.length) : (s.take (k + 1)).any hit = ((s.take k).any hit || hit s[k]) := by
  rw [take_at s k h, List.any_append]; simp
theorem flat_same : ∀ {s : List UInt8}, s.any hit = false → s.flatMap escB = s
  | [], _ => rfl
  | c :: r, h => by
    rw [List.any_cons, Bool.or_eq_false_iff] at h
    rw [List.flatMap_cons, esc_not h.1, flat_same h.2]; rfl
/-- By counts. -/
def sizeC (s : List UInt8) (k : Nat) : Nat := s.length + ((takenB k).map (fun x => s.count x)).sum
def anyC (s : List UInt8) (k : Nat) : Bool := (takenB k).any (fun x => s.count x != 0)
theorem count_three (s : List UInt8) : s.countP hit = s.count 10 + s.count 92 + s.count 34 := by
  induction s with
  | nil => rfl
  | cons c r ih =>
    simp only [List.countP_cons, List.count_cons, ih]
    have hb : ∀ d : UInt8, (c == d) = decide (c = d) := fun d => by by_cases h : c = d <;> simp [h]
    simp only [hb]
    by_cases h1 : c = 10
    · subst h1; simp [hit, takenB]; omega
    · by_cases h2 : c = 92
      · subst h2; simp [hit, takenB]; omega
      · by_cases h3 : c = 34
        · subst h3; simp [hit, takenB]; omega
        · simp [hit, takenB, h1, h2, h3]
theorem sizeC_end (s : List UInt8) : sizeC s 3 = (s.flatMap escB).length := by
  rw [flat_len, count_three]; simp [sizeC, takenB]; omega
theorem anyC_end (s : List UInt8) : anyC s 3 = s.any hit := by
  have h := count_three s
  have h1 : s.any hit = (s.countP hit != 0) := by
    cases h2 : s.any hit with
    | false =>
      have : s.countP hit = 0 := List.countP_eq_zero.2 (fun a ha => by
        have := List.any_eq_false.1 h2 a ha
        exact this)
      simp [this]
    | true =>
      obtain ⟨a, ha, hh⟩ := List.any_eq_true.1 h2
      have : 0 < s.countP hit := List.countP_pos_iff.2 ⟨a, ha, hh⟩
      have hne : s.countP hit ≠ 0 := by omega
      simp [hne]
  rw [h1, h]
  have e : anyC s 3 = ((s.count 10 != 0) || ((s.count 92 != 0) || (s.count 34 != 0))) := by simp [anyC, takenB]
  rw [e]
  generalize s.count 10 = a
  generalize s.count 92 = b
  generalize s.count 34 = c
  cases a <;> cases b <;> cases c <;> first | rfl | (simp [bne]; done) | (apply Eq.symm; simp; omega) | (simp; omega)
theorem sizeC_step (s : List UInt8) (k : Nat) (h : k < 3) : sizeC s (k + 1) = sizeC s k + s.count (takes k) ∧ anyC s (k + 1) = (anyC s k || (s.count (takes k) != 0)) := by
  obtain rfl | rfl | rfl : k = 0 ∨ k = 1 ∨ k = 2 := by omega
  · exact ⟨by simp [sizeC, takenB, takes], by simp [anyC, takenB, takes]⟩
  · exact ⟨by simp [sizeC, takenB, takes]; omega, by simp [anyC, takenB, takes]⟩
  · exact ⟨by simp [sizeC, takenB, takes]; omega, by simp [anyC, takenB, takes, Bool.or_assoc]⟩
theorem sizeC_le (s : List UInt8) (k : Nat) (h : k ≤ 3) : sizeC s k ≤ 4 * s.length := by
  have h1 : s.count 10 ≤ s.length := List.count_le_length
  have h2 : s.count 92 ≤ s.length := List.count_le_length
  have h3 : s.count 34 ≤ s.length := List.count_le_length
  obtain rfl | rfl | rfl | rfl : k = 0 ∨ k = 1 ∨ k = 2 ∨ k = 3 := by omega
  all_goals simp [sizeC, takenB]; omega
theorem sizeB_le (s : List UInt8) (k : Nat) : sizeB s k ≤ 2 * s.length := by
  have h1 : (s.take k).countP hit ≤ (s.take k).length := List.countP_le_length
  rw [List.length_take] at h1
  unfold sizeB
  omega
theorem count_le (s : List UInt8) (x : UInt8) : s.count x ≤ s.length := List.count_le_length
theorem flat_step {s : List UInt8} {k : Nat} (h : k < s.length) : (s.take (k + 1)).flatMap escB = (s.take k).flatMap escB ++ escB s[k] := by
  rw [take_at s k h, List.flatMap_append]; simp only [List.flatMap_cons, List.flatMap_nil, List.append_nil]
theorem flat_fit {s : List UInt8} {k : Nat} (h : k < s.length) : ((s.take k).flatMap escB).length + (escB s[k]).length ≤ (s.flatMap escB).length := by
  have h1 : s.flatMap escB = (s.take (k + 1)).flatMap escB ++ (s.drop (k + 1)).flatMap escB := by rw [← List.flatMap_append, List.take_append_drop]
  rw [h1, flat_step h]
  simp only [List.length_append]; omega
theorem own_list {w : World} {base : Nat} {e : TypeId} {a : Addr} {n c : Nat} {xs : List Value} (h : w.ownsRow base e 1 (.slice (some a) n c) n xs) : ∃ L : List Value, w.heap[a.block]? = some (.cells L.toArray e (0, 0)) ∧ L.length = c := by
  obtain ⟨_, h | ⟨g, cap, cur, he, _, hh, _, _, hc, _⟩⟩ := h
  · cases h.1
  · cases he
    exact ⟨cur.toList, by simpa using hh, by simpa using hc⟩
theorem quote_flat {s : List UInt8} (h : s.any badQ = false) : quoteL s = 34 :: (s.flatMap escB ++ [34]) := by
  unfold quoteL; rw [h]; rfl
end Go.Proofs.YtnfjlimecoikpaaGreatDoor
