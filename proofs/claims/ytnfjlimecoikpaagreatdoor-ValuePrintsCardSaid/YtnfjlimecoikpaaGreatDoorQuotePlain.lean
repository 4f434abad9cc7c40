/- Plain: a text quoted, byte by byte. -/
import Derived.Test.YtnfjlimecoikpaaGreatDoorLexPlain
namespace Go.Proofs.YtnfjlimecoikpaaGreatDoor
open Go.RowKit

theorem esc_ten {c : UInt8} (h : c.toNat = 10) : escB c = [92, 110] := by unfold escB; rw [if_pos h]
theorem esc_two {c : UInt8} (h1 : c.toNat ≠ 10) (h : c.toNat = 34 ∨ c.toNat = 92) : escB c = [92, c] := by unfold escB; rw [if_neg h1, if_pos h]
theorem esc_one {c : UInt8} (h1 : c.toNat ≠ 10) (h : ¬ (c.toNat = 34 ∨ c.toNat = 92)) : escB c = [c] := by unfold escB; rw [if_neg h1, if_neg h]
theorem bad_ten {c : UInt8} (h : c.toNat = 10) : badQ c = false := by simp [badQ, h]
theorem bad_yes {c : UInt8} (h : c.toNat ≠ 10) (h2 : c.toNat < 32 ∨ c.toNat = 127) : badQ c = true := by
  rcases h2 with h2 | h2 <;> simp [badQ, h, h2]
theorem bad_not {c : UInt8} (h2 : ¬ (c.toNat < 32 ∨ c.toNat = 127)) : badQ c = false := by
  have h3 : ¬ c.toNat < 32 := fun h => h2 (.inl h)
  have h4 : c.toNat ≠ 127 := fun h => h2 (.inr h)
  simp [badQ, h3, h4]
def QAt (s : List UInt8) (k : Nat) (out : List UInt8) : Prop := out = 34 :: (s.take k).flatMap escB ∧ (s.take k).any badQ = false
theorem QAt.step {s : List UInt8} {k : Nat} (h : k < s.length) {out t : List UInt8} (ho : QAt s k out) (hb : badQ s[k] = false) (he : escB s[k] = t) : QAt s (k + 1) (out ++ t) := by
  obtain ⟨rfl, hq⟩ := ho
  subst he
  refine ⟨by rw [take_at s k h]; simp only [List.flatMap_append, List.flatMap_cons, List.flatMap_nil, List.append_nil, List.cons_append], ?_⟩
  rw [take_at s k h, List.any_append, hq]
  simp [hb]
theorem quote_bad {s : List UInt8} {k : Nat} (h : k < s.length) (hb : badQ s[k] = true) : quoteL s = [] := by
  unfold quoteL
  rw [if_pos (List.any_eq_true.2 ⟨s[k], List.getElem_mem h, hb⟩)]
theorem QAt.end {s out : List UInt8} (h : QAt s s.length out) : quoteL s = out ++ [34] := by
  obtain ⟨rfl, hq⟩ := h
  rw [List.take_length] at hq ⊢
  unfold quoteL
  rw [hq]; simp

end Go.Proofs.YtnfjlimecoikpaaGreatDoor
