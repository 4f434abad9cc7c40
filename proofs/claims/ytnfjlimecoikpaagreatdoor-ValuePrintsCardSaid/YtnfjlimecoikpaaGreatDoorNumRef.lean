/- The walk of the document's number of a text. -/
import Derived.Test.YtnfjlimecoikpaaGreatDoorNumWalks
namespace Go.Proofs.YtnfjlimecoikpaaGreatDoor
set_option maxRecDepth 100000
open Go.RowKit

def stepR (m : Bool) (a : Int) (c : UInt8) : Int := if m = true then wrap64 (wrap64 (a * 10) - ((c.toNat : Int) - 48)) else wrap64 (wrap64 (a * 10) + ((c.toNat : Int) - 48))
def loopR (m : Bool) : Int → List UInt8 → Option Int
  | a, [] => some a
  | a, c :: r => if isDig c = true then loopR m (stepR m a c) r else none
def refIntR (m : Bool) (rest s : List UInt8) : Int × Bool :=
  if rest = [] ∨ 19 < rest.length then (0, false)
  else match loopR m 0 rest with
    | none => (0, false)
    | some n => if Lib.itoa n = s then (n, true) else (0, false)
theorem isDig_is {c : UInt8} (h : isDig c = true) : 48 ≤ c.toNat ∧ c.toNat ≤ 57 := by simpa [isDig] using h
theorem wrap64_in (a : Int) : -9223372036854775808 ≤ wrap64 a ∧ wrap64 a ≤ 9223372036854775807 := by unfold wrap64; omega
theorem stepR_in (m : Bool) (a : Int) (c : UInt8) : -9223372036854775808 ≤ stepR m a c ∧ stepR m a c ≤ 9223372036854775807 := by
  unfold stepR; split <;> exact wrap64_in _

set_option maxHeartbeats 1000000 in
theorem refInt_minus (r : List UInt8) (w : World) (v : Int) (b : Bool) (hv : refIntR true r (45 :: r) = (v, b)) :
    Calls Tryz.prog 55 #[.string (bs (45 :: r))] w fun e w' => e = .returned (.tuple #[.int .i64 v, .bool b]) ∧ Below w.heap.size w w' := by
  by_cases h0 : r = []
  · have e0 : (v, b) = (0, false) := by rw [← hv, refIntR, if_pos (.inl h0)]
    obtain ⟨rfl, rfl⟩ := Prod.mk.inj e0
    subst h0
    clear e0 hv
    go_enter Tryz.func55, Tryz.ntmps55
    go_wp2_with fail
    go_ret2
    exact ⟨rfl, Below.refl _ _⟩
  · by_cases h19 : 19 < (r).length
    · have e0 : (v, b) = (0, false) := by rw [← hv, refIntR, if_pos (.inr h19)]
      obtain ⟨rfl, rfl⟩ := Prod.mk.inj e0
      have hne : r.isEmpty = false := by cases hr : r <;> simp_all
      have h19' : (19 : Int) < (((r).length : Nat) : Int) := by omega
      have hpos : 0 < (r).length := List.length_pos_iff.2 h0
      have hz : ((((r).length : Nat) : Int) == 0) = false := eqF (by omega)
      clear e0 hv h0
      go_enter Tryz.func55, Tryz.ntmps55
      go_wp2_with fail
      go_ret2
      exact ⟨rfl, Below.refl _ _⟩
    · have hne : r.isEmpty = false := by cases hr : r <;> simp_all
      have h19' : (((r).length : Nat) : Int) ≤ 19 := by omega
      have hpos : 0 < (r).length := List.length_pos_iff.2 h0
      have hz : ((((r).length : Nat) : Int) == 0) = false := eqF (by omega)
      rw [refIntR, if_neg (by intro h; rcases h with h | h; exact h0 h; exact h19 h)] at hv
      have HV := hid hv
      clear hv h0 h19
      go_enter Tryz.func55, Tryz.ntmps55
      go_wp2_with fail
      go_loop [6, 7] (fun n i => ∃ (k : Nat) (a : Int), k ≤ (r).length ∧ i = .int .i64 k ∧ n = .int .i64 a ∧ Hid (loopR true 0 r = loopR true a ((r).drop k)) ∧ -9223372036854775808 ≤ a ∧ a ≤ 9223372036854775807) (fun _ i => (r).length - (intOf i).toNat)
      case atStart => exact ⟨0, 0, by omega, rfl, rfl, hid rfl, by omega, by omega⟩
      case round =>
        obtain ⟨k, a, hk, rfl, rfl, HL, ha0, ha1⟩ := hrel
        by_cases hlt : k < (r).length
        · have Hd := hid (drop_at r k hlt)
          cases hd : isDig (r)[k] with
          | true =>
            have hcd := isDig_is hd
            have HD := hid (fun W => digit_is (r)[k] true hd W)
            have HN : Hid (loopR true 0 r = loopR true (stepR true a (r)[k]) ((r).drop (k + 1))) := hid (by rw [HL.out, Hd.out, loopR, if_pos hd])
            have hb := stepR_in true a (r)[k]
            clear hd HL Hd
            go_wp2_with fail
            refine (HD.out _).mono ?_
            rintro e w1 ⟨rfl, rfl⟩
            go_wp2_with fail
            go_round
            case rel => exact ⟨k + 1, stepR true a (r)[k], by omega, by go_num, rfl, HN, hb.1, hb.2⟩
            case measure => simp [intOf]; omega
          | false =>
            have HD := hid (fun W => digit_is (r)[k] false hd W)
            have e0 := HV.out
            rw [HL.out, Hd.out, loopR, if_neg (by rw [hd]; simp)] at e0
            obtain ⟨rfl, rfl⟩ := Prod.mk.inj e0
            clear e0 hd HL Hd HV
            go_wp2_with fail
            refine (HD.out _).mono ?_
            rintro e w1 ⟨rfl, rfl⟩
            go_wp2_with fail
            go_ret2
            exact ⟨rfl, Below.refl _ _⟩
        · have e0 := HV.out
          rw [HL.out, List.drop_eq_nil_of_le (by omega), loopR] at e0
          simp only at e0
          have HNum := hid (fun W => refNum_any a.natAbs a W (Nat.le_refl _) ha0 ha1)
          have hl2 : (Lib.itoa a).length ≤ 100 := by have := Lib.itoa_length_le a ha0 ha1; omega
          clear HV HL
          cases q : (Lib.itoa a == 45 :: r) with
          | true =>
            rw [if_pos (by simpa using q)] at e0
            obtain ⟨rfl, rfl⟩ := Prod.mk.inj e0
            clear e0
            go_wp2_with fail
            refine (HNum.out _).mono ?_
            rintro e w1 ⟨rfl, hb1⟩
            go_wp2_with fail
            go_ret2
            exact ⟨rfl, hb1⟩
          | false =>
            rw [if_neg (by simpa using q)] at e0
            obtain ⟨rfl, rfl⟩ := Prod.mk.inj e0
            clear e0
            go_wp2_with fail
            refine (HNum.out _).mono ?_
            rintro e w1 ⟨rfl, hb1⟩
            go_wp2_with fail
            go_ret2
            exact ⟨rfl, hb1⟩

set_option maxHeartbeats 1000000 in
theorem refInt_plain (l : List UInt8) (hp : 0 < l.length) (hc : l[0].toNat ≠ 45) (w : World) (v : Int) (b : Bool) (hv : refIntR false l (l) = (v, b)) :
    Calls Tryz.prog 55 #[.string (bs (l))] w fun e w' => e = .returned (.tuple #[.int .i64 v, .bool b]) ∧ Below w.heap.size w w' := by
  have q45 : ((l[0].toNat : Int) == 45) = false := eqF (by omega)
  by_cases h0 : l = []
  · subst h0; simp at hp
  · by_cases h19 : 19 < (l).length
    · have e0 : (v, b) = (0, false) := by rw [← hv, refIntR, if_pos (.inr h19)]
      obtain ⟨rfl, rfl⟩ := Prod.mk.inj e0
      have hne : l.isEmpty = false := by cases hr : l <;> simp_all
      have h19' : (19 : Int) < (((l).length : Nat) : Int) := by omega
      have hpos : 0 < (l).length := List.length_pos_iff.2 h0
      have hz : ((((l).length : Nat) : Int) == 0) = false := eqF (by omega)
      clear e0 hv h0
      go_enter Tryz.func55, Tryz.ntmps55
      go_wp2_with fail
      go_ret2
      exact ⟨rfl, Below.refl _ _⟩
    · have hne : l.isEmpty = false := by cases hr : l <;> simp_all
      have h19' : (((l).length : Nat) : Int) ≤ 19 := by omega
      have hpos : 0 < (l).length := List.length_pos_iff.2 h0
      have hz : ((((l).length : Nat) : Int) == 0) = false := eqF (by omega)
      rw [refIntR, if_neg (by intro h; rcases h with h | h; exact h0 h; exact h19 h)] at hv
      have HV := hid hv
      clear hv h0 h19
      go_enter Tryz.func55, Tryz.ntmps55
      go_wp2_with fail
      go_loop [6, 7] (fun n i => ∃ (k : Nat) (a : Int), k ≤ (l).length ∧ i = .int .i64 k ∧ n = .int .i64 a ∧ Hid (loopR false 0 l = loopR false a ((l).drop k)) ∧ -9223372036854775808 ≤ a ∧ a ≤ 9223372036854775807) (fun _ i => (l).length - (intOf i).toNat)
      case atStart => exact ⟨0, 0, by omega, rfl, rfl, hid rfl, by omega, by omega⟩
      case round =>
        obtain ⟨k, a, hk, rfl, rfl, HL, ha0, ha1⟩ := hrel
        by_cases hlt : k < (l).length
        · have Hd := hid (drop_at l k hlt)
          cases hd : isDig (l)[k] with
          | true =>
            have hcd := isDig_is hd
            have HD := hid (fun W => digit_is (l)[k] true hd W)
            have HN : Hid (loopR false 0 l = loopR false (stepR false a (l)[k]) ((l).drop (k + 1))) := hid (by rw [HL.out, Hd.out, loopR, if_pos hd])
            have hb := stepR_in false a (l)[k]
            clear hd HL Hd
            go_wp2_with fail
            refine (HD.out _).mono ?_
            rintro e w1 ⟨rfl, rfl⟩
            go_wp2_with fail
            go_round
            case rel => exact ⟨k + 1, stepR false a (l)[k], by omega, by go_num, rfl, HN, hb.1, hb.2⟩
            case measure => simp [intOf]; omega
          | false =>
            have HD := hid (fun W => digit_is (l)[k] false hd W)
            have e0 := HV.out
            rw [HL.out, Hd.out, loopR, if_neg (by rw [hd]; simp)] at e0
            obtain ⟨rfl, rfl⟩ := Prod.mk.inj e0
            clear e0 hd HL Hd HV
            go_wp2_with fail
            refine (HD.out _).mono ?_
            rintro e w1 ⟨rfl, rfl⟩
            go_wp2_with fail
            go_ret2
            exact ⟨rfl, Below.refl _ _⟩
        · have e0 := HV.out
          rw [HL.out, List.drop_eq_nil_of_le (by omega), loopR] at e0
          simp only at e0
          have HNum := hid (fun W => refNum_any a.natAbs a W (Nat.le_refl _) ha0 ha1)
          have hl2 : (Lib.itoa a).length ≤ 100 := by have := Lib.itoa_length_le a ha0 ha1; omega
          clear HV HL
          cases q : (Lib.itoa a == l) with
          | true =>
            rw [if_pos (by simpa using q)] at e0
            obtain ⟨rfl, rfl⟩ := Prod.mk.inj e0
            clear e0
            go_wp2_with fail
            refine (HNum.out _).mono ?_
            rintro e w1 ⟨rfl, hb1⟩
            go_wp2_with fail
            go_ret2
            exact ⟨rfl, hb1⟩
          | false =>
            rw [if_neg (by simpa using q)] at e0
            obtain ⟨rfl, rfl⟩ := Prod.mk.inj e0
            clear e0
            go_wp2_with fail
            refine (HNum.out _).mono ?_
            rintro e w1 ⟨rfl, hb1⟩
            go_wp2_with fail
            go_ret2
            exact ⟨rfl, hb1⟩
end Go.Proofs.YtnfjlimecoikpaaGreatDoor
