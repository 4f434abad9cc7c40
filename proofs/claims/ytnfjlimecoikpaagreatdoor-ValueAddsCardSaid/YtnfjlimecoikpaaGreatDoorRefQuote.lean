/- The walk of the document's Quote. -/
import Derived.Test.YtnfjlimecoikpaaGreatDoorMPlain
import Derived.Test.YtnfjlimecoikpaaGreatDoorChecked
namespace Go.Proofs.YtnfjlimecoikpaaGreatDoor
set_option maxRecDepth 100000
open Go.RowKit

set_option maxHeartbeats 2000000 in
theorem rquote_any (s : List UInt8) (hs : s.length ≤ 1000000000000) (q : List UInt8) (hq : quoteL s = q) (w : World) :
    Calls Tryz.prog 43 #[.string (bs s)] w fun e w' => e = .returned (.string (bs q)) ∧ w = w' := by
  have HQ := hid hq
  clear hq
  go_enter Tryz.func43, Tryz.ntmps43
  go_wp2_with fail
  go_loop [3, 4] (fun o i => ∃ (k : Nat) (out : List UInt8), k ≤ s.length ∧ out.length ≤ 2 * k + 1 ∧ i = .int .i64 k ∧ o = .string (bs out) ∧ Hid (QAt s k out)) (fun _ i => s.length - (intOf i).toNat)
  case atStart => exact ⟨0, [34], by omega, by simp, rfl, rfl, hid ⟨rfl, rfl⟩⟩
  case round =>
    obtain ⟨k, out, hk, hol, rfl, rfl, HA⟩ := hrel
    by_cases hlt : k < s.length
    · have HS : Hid ((s.drop k).take 1 = [s[k]]) := hid (by rw [drop_at s k hlt]; rfl)
      by_cases c1 : s[k].toNat = 10
      · have q1 : ((s[k].toNat : Int) == 10) = true := eqT (by omega)
        have HN : Hid (QAt s (k + 1) (out ++ [92, 110])) := hid (HA.out.step hlt (bad_ten c1) (esc_ten c1))
        clear c1
        go_wp2_with fail
        go_round
        case rel => exact ⟨k + 1, out ++ [92, 110], by omega, by simp; omega, by go_num, rfl, HN⟩
        case measure => simp [intOf]; omega
      · have q1 : ((s[k].toNat : Int) == 10) = false := eqF (by omega)
        by_cases c2 : s[k].toNat < 32 ∨ s[k].toNat = 127
        · have HE : Hid (q = []) := hid (by rw [← HQ.out, quote_bad hlt (bad_yes c1 c2)])
          by_cases c3 : s[k].toNat < 32
          · have c3' : (s[k].toNat : Int) < 32 := by omega
            clear c1 c2 c3
            go_wp2_with fail
            go_ret
            exact ⟨by rw [HE.out]; rfl, rfl⟩
          · have c3' : ¬ (s[k].toNat : Int) < 32 := by omega
            have q2 : ((s[k].toNat : Int) == 127) = true := eqT (by omega)
            clear c1 c2 c3
            go_wp2_with fail
            go_ret
            exact ⟨by rw [HE.out]; rfl, rfl⟩
        · have c3' : ¬ (s[k].toNat : Int) < 32 := by omega
          have q2 : ((s[k].toNat : Int) == 127) = false := eqF (by omega)
          by_cases c4 : s[k].toNat = 34 ∨ s[k].toNat = 92
          · have HN : Hid (QAt s (k + 1) (out ++ [92, s[k]])) := hid (HA.out.step hlt (bad_not c2) (esc_two c1 c4))
            by_cases c5 : s[k].toNat = 34
            · have q3 : ((s[k].toNat : Int) == 34) = true := eqT (by omega)
              clear c1 c2 c4 c5
              go_wp2_with fail
              go_round
              case rel => exact ⟨k + 1, out ++ [92, s[k]], by omega, by simp; omega, by go_num, by rw [HS.out], HN⟩
              case measure => simp [intOf]; omega
            · have q3 : ((s[k].toNat : Int) == 34) = false := eqF (by omega)
              have q4 : ((s[k].toNat : Int) == 92) = true := eqT (by omega)
              clear c1 c2 c4 c5
              go_wp2_with fail
              go_round
              case rel => exact ⟨k + 1, out ++ [92, s[k]], by omega, by simp; omega, by go_num, by rw [HS.out], HN⟩
              case measure => simp [intOf]; omega
          · have HN : Hid (QAt s (k + 1) (out ++ [s[k]])) := hid (HA.out.step hlt (bad_not c2) (esc_one c1 c4))
            have q3 : ((s[k].toNat : Int) == 34) = false := eqF (by omega)
            have q4 : ((s[k].toNat : Int) == 92) = false := eqF (by omega)
            clear c1 c2 c4
            go_wp2_with fail
            go_round
            case rel => exact ⟨k + 1, out ++ [s[k]], by omega, by simp; omega, by go_num, by rw [HS.out], HN⟩
            case measure => simp [intOf]; omega
    · obtain rfl : k = s.length := by omega
      have HE : Hid (out ++ [34] = q) := hid (by rw [← HQ.out, HA.out.end])
      go_wp2_with fail
      go_ret
      exact ⟨by rw [← HE.out]; rfl, rfl⟩
end Go.Proofs.YtnfjlimecoikpaaGreatDoor
