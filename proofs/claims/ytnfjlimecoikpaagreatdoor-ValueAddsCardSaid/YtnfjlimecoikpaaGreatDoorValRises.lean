/- The program's walk over keys: rises. -/
import Derived.Test.YtnfjlimecoikpaaGreatDoorValMem
import Derived.Test.YtnfjlimecoikpaaGreatDoorMPlain
namespace Go.Proofs.YtnfjlimecoikpaaGreatDoor
set_option maxRecDepth 100000
open Go.RowKit

set_option maxHeartbeats 1000000 in
theorem rises_any (kv : Value) (m : Nat) (ks : List (List UInt8)) (b : Bool) (hb : (riseB ks && decide (ks.length ≤ 1000)) = b) (w : World) (hk : SliceAt w 1 kv m (strCells ks)) :
    Calls Tryz.prog 56 #[kv] w fun e w' => e = .returned (.bool b) ∧ w = w' := by
  obtain ⟨-, ka, kc, rfl, hkc, hkm, hx⟩ := hk.str
  unfold maxLen at hkm
  have HE := hid hb
  have HX := hid hx
  clear hb hk hx
  go_enter Tryz.func56, Tryz.ntmps56
  go_wp2_with fail
  go_loop [7] (fun i => ∃ j : Nat, j ≤ ks.length ∧ i = .int .i64 j ∧ Hid (riseB (ks.take j) = true)) (fun i => ks.length - (intOf i).toNat)
  case atStart => exact ⟨0, by omega, rfl, hid rfl⟩
  case round =>
    obtain ⟨j, hj, rfl, HA⟩ := hrel
    by_cases hlt : j < ks.length
    · obtain ⟨kb, ko, rfl, hkb, hcl⟩ := HX.out j hlt
      have e0 := hcl j hlt
      have HT := hid (rise_take ks j hlt)
      have HBad := hid (fun h => rise_bad (ks := ks) hlt h)
      by_cases h1 : 65536 < ks[j].length
      · have HF : Hid (b = false) := hid (by rw [← HE.out, HBad.out (by unfold nextB; rw [decide_eq_false (by omega)]; rfl)]; rfl)
        have h1' : (65536 : Int) < (ks[j].length : Int) := by omega
        clear hcl h1
        go_wp2_with fail
        go_ret
        exact ⟨by rw [HF.out]; rfl, rfl⟩
      · have h1' : ¬ (65536 : Int) < (ks[j].length : Int) := by omega
        have h1d : decide (ks[j].length ≤ 65536) = true := decide_eq_true (by omega)
        by_cases h0 : j = 0
        · have HN : Hid (riseB (ks.take (j + 1)) = true) := hid (by rw [HT.out, HA.out]; unfold nextB; rw [h1d, decide_eq_true h0]; rfl)
          have hn : ¬ 0 < j := by omega
          clear hcl h1 h1d h0
          go_wp2_with fail
          go_round
          case rel => exact ⟨j + 1, by omega, by go_num, HN⟩
          case measure => simp [intOf]; omega
        · obtain ⟨p, hp, hpl, hpj⟩ : ∃ p : Nat, (j : Int) - 1 = (p : Int) ∧ p < ks.length ∧ p = j - 1 := ⟨j - 1, by omega, by omega, rfl⟩
          have HX2 : Hid (nextB ks j hlt = less ks[p] ks[j]) := hid (by subst hpj; unfold nextB; rw [h1d, decide_eq_false h0]; rfl)
          have e1 := hcl p hpl
          have hpos : 0 < j := by omega
          cases hls : less ks[p] ks[j] with
          | true =>
            have HN : Hid (riseB (ks.take (j + 1)) = true) := hid (by rw [HT.out, HA.out, HX2.out, hls]; rfl)
            have hls' : Op.bytesLess ks[p] ks[j] = true := hls
            clear hcl h1 h1d hls hpj h0
            go_wp2_with fail
            clear hp
            go_round
            case rel => exact ⟨j + 1, by omega, by go_num, HN⟩
            case measure => simp [intOf]; omega
          | false =>
            have HF : Hid (b = false) := hid (by rw [← HE.out, HBad.out (by rw [HX2.out, hls])]; rfl)
            have hls' : Op.bytesLess ks[p] ks[j] = false := hls
            clear hcl h1 h1d hls hpj h0
            go_wp2_with fail
            go_ret
            exact ⟨by rw [HF.out]; rfl, rfl⟩
    · obtain rfl : j = ks.length := by omega
      have HF : Hid (b = decide (ks.length ≤ 1000)) := hid (by rw [← HE.out]; have := HA.out; rw [List.take_length] at this; rw [this]; rfl)
      go_wp2_with fail
      go_ret
      refine ⟨?_, rfl⟩
      rw [HF.out]
      have : decide ((ks.length : Int) ≤ 1000) = decide (ks.length ≤ 1000) := by rw [Bool.eq_iff_iff]; simp; omega
      first | rw [← this]; rfl | simp
end Go.Proofs.YtnfjlimecoikpaaGreatDoor
