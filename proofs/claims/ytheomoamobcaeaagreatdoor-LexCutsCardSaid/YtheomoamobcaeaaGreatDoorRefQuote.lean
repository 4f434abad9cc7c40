/- The walk of the document's Quote. -/
import Derived.Test.YtheomoamobcaeaaGreatDoorRefAll
namespace Go.Proofs.YtheomoamobcaeaaGreatDoor
set_option maxRecDepth 100000
open Go.RowKit

theorem esc_ten {c : UInt8} (h : c.toNat = 10) : escB c = [92, 110] := by unfold escB; rw [if_pos h]
theorem esc_two {c : UInt8} (h1 : c.toNat ≠ 10) (h : c.toNat = 34 ∨ c.toNat = 92) : escB c = [92, c] := by unfold escB; rw [if_neg h1, if_pos h]
theorem esc_one {c : UInt8} (h1 : c.toNat ≠ 10) (h : ¬ (c.toNat = 34 ∨ c.toNat = 92)) : escB c = [c] := by unfold escB; rw [if_neg h1, if_neg h]
theorem bad_ten {c : UInt8} (h : c.toNat = 10) : badQ c = false := by simp [badQ, h]
theorem bad_yes {c : UInt8} (h : c.toNat ≠ 10) (h2 : c.toNat < 32 ∨ c.toNat = 127) : badQ c = true := by
  rcases h2 with h2 | h2 <;> simp [badQ, h, h2]
theorem bad_not {c : UInt8} (h2 : ¬ (c.toNat < 32 ∨ c.toNat = 127)) : badQ c = false := by
  have h3 : ¬ c.toNat < 32 := fun h => h2 (.inl h)
  have h4 : c.toNat ≠ 127 := fun h => h2 (.inr h)
  simp [badQ, h3, h4]
def QAt (s : List UInt8) (k : Nat) (out : List UInt8) : Prop := out = 34 :: (s.take k).flatMap escB ∧ (s.take k).any badQ = false
theorem QAt.step {s : List UInt8} {k : Nat} (h : k < s.length) {out t : List UInt8} (ho : QAt s k out) (hb : badQ s[k] = false) (he : escB s[k] = t) : QAt s (k + 1) (out ++ t) := by
  obtain ⟨rfl, hq⟩ := ho
  subst he
  refine ⟨by rw [take_at s k h]; simp only [List.flatMap_append, List.flatMap_cons, List.flatMap_nil, List.append_nil, List.cons_append], ?_⟩
  rw [take_at s k h, List.any_append, hq]
  simp [hb]
theorem quote_bad {s : List UInt8} {k : Nat} (h : k < s.length) (hb : badQ s[k] = true) : quoteL s = [] := by
  unfold quoteL
  rw [if_pos (List.any_eq_true.2 ⟨s[k], List.getElem_mem h, hb⟩)]
theorem QAt.end {s out : List UInt8} (h : QAt s s.length out) : quoteL s = out ++ [34] := by
  obtain ⟨rfl, hq⟩ := h
  rw [List.take_length] at hq ⊢
  unfold quoteL
  rw [hq]; simp

set_option maxHeartbeats 2000000 in
theorem rquote_any (s : List UInt8) (hs : s.length ≤ 1000000000000) (q : List UInt8) (hq : quoteL s = q) (w : World) :
    Calls Tryz.prog 13 #[.string (bs s)] w fun e w' => e = .returned (.string (bs q)) ∧ w = w' := by
  have HQ := hid hq
  clear hq
  go_enter Tryz.func13, Tryz.ntmps13
  go_wp2_with fail
  go_loop [3, 4] (fun o i => ∃ (k : Nat) (out : List UInt8), k ≤ s.length ∧ out.length ≤ 2 * k + 1 ∧ i = .int .i64 k ∧ o = .string (bs out) ∧ Hid (QAt s k out)) (fun _ i => s.length - (intOf i).toNat)
  case atStart => exact ⟨0, [34], by omega, by simp, rfl, rfl, hid ⟨rfl, rfl⟩⟩
  case round =>
    obtain ⟨k, out, hk, hol, rfl, rfl, HA⟩ := hrel
    by_cases hlt : k < s.length
    · have HS : Hid ((s.drop k).take 1 = [s[k]]) := hid (by rw [drop_at s k hlt]; rfl)
      by_cases c1 : s[k].toNat = 10
      · have q1 : ((s[k].toNat : Int) == 10) = true := eqT (by omega)
        have HN : Hid (QAt s (k + 1) (out ++ [92, 110])) := hid (HA.out.step hlt (bad_ten c1) (esc_ten c1))
        clear c1
        go_wp2_with fail
        go_round
        case rel => exact ⟨k + 1, out ++ [92, 110], by omega, by simp; omega, by go_num, rfl, HN⟩
        case measure => simp [intOf]; omega
      · have q1 : ((s[k].toNat : Int) == 10) = false := eqF (by omega)
        by_cases c2 : s[k].toNat < 32 ∨ s[k].toNat = 127
        · have HE : Hid (q = []) := hid (by rw [← HQ.out, quote_bad hlt (bad_yes c1 c2)])
          by_cases c3 : s[k].toNat < 32
          · have c3' : (s[k].toNat : Int) < 32 := by omega
            clear c1 c2 c3
            go_wp2_with fail
            go_ret
            exact ⟨by rw [HE.out]; rfl, rfl⟩
          · have c3' : ¬ (s[k].toNat : Int) < 32 := by omega
            have q2 : ((s[k].toNat : Int) == 127) = true := eqT (by omega)
            clear c1 c2 c3
            go_wp2_with fail
            go_ret
            exact ⟨by rw [HE.out]; rfl, rfl⟩
        · have c3' : ¬ (s[k].toNat : Int) < 32 := by omega
          have q2 : ((s[k].toNat : Int) == 127) = false := eqF (by omega)
          by_cases c4 : s[k].toNat = 34 ∨ s[k].toNat = 92
          · have HN : Hid (QAt s (k + 1) (out ++ [92, s[k]])) := hid (HA.out.step hlt (bad_not c2) (esc_two c1 c4))
            by_cases c5 : s[k].toNat = 34
            · have q3 : ((s[k].toNat : Int) == 34) = true := eqT (by omega)
              clear c1 c2 c4 c5
              go_wp2_with fail
              go_round
              case rel => exact ⟨k + 1, out ++ [92, s[k]], by omega, by simp; omega, by go_num, by rw [HS.out], HN⟩
              case measure => simp [intOf]; omega
            · have q3 : ((s[k].toNat : Int) == 34) = false := eqF (by omega)
              have q4 : ((s[k].toNat : Int) == 92) = true := eqT (by omega)
              clear c1 c2 c4 c5
              go_wp2_with fail
              go_round
              case rel => exact ⟨k + 1, out ++ [92, s[k]], by omega, by simp; omega, by go_num, by rw [HS.out], HN⟩
              case measure => simp [intOf]; omega
          · have HN : Hid (QAt s (k + 1) (out ++ [s[k]])) := hid (HA.out.step hlt (bad_not c2) (esc_one c1 c4))
            have q3 : ((s[k].toNat : Int) == 34) = false := eqF (by omega)
            have q4 : ((s[k].toNat : Int) == 92) = false := eqF (by omega)
            clear c1 c2 c4
            go_wp2_with fail
            go_round
            case rel => exact ⟨k + 1, out ++ [s[k]], by omega, by simp; omega, by go_num, by rw [HS.out], HN⟩
            case measure => simp [intOf]; omega
    · obtain rfl : k = s.length := by omega
      have HE : Hid (out ++ [34] = q) := hid (by rw [← HQ.out, HA.out.end])
      go_wp2_with fail
      go_ret
      exact ⟨by rw [← HE.out]; rfl, rfl⟩
end Go.Proofs.YtheomoamobcaeaaGreatDoor
