/- Words turned: the walks of both sides. -/
import Derived.Test.YtilkneajohpgiaaDoorShaPlain
import Derived.Test.YtilkneajohpgiaaDoorChecked
import Derived.Deep.QuietTactic
namespace Go.Proofs.YtilkneajohpgiaaDoor
set_option maxRecDepth 100000
open Go.RowKit

set_option maxHeartbeats 400000 in
theorem rturn_any (x n : Int) (h1 : 0 < n) (h2 : n < 32) (w : World) : Calls Tryd.prog 41 #[.int .u32 x, .int .i64 n] w fun e w' => e = .returned (.int .u32 (rotI x n)) ∧ Drawn w w' := by
  have hw : wrap64 (32 - n) = 32 - n := by unfold wrap64; omega
  have h3 : 0 ≤ n := by omega
  have h4 : 0 ≤ 32 - n := by omega
  go_enter Tryd.func41, Tryd.ntmps41
  go_wp2_with fail
  any_goals go_quiet (fail)
  any_goals go_wp2_with fail
  go_ret
  exact ⟨rfl, _, rfl⟩
theorem and31 (m : Int) (h1 : 0 ≤ m) (h2 : m < 32) : bits .and .u64 m 31 = m := by
  obtain ⟨k, rfl⟩ := Int.eq_ofNat_of_zero_le h1
  have := u64_and_nat k 31 (by omega) (by omega)
  rw [show ((31 : Nat) : Int) = 31 from rfl] at this
  rw [this, show (31 : Nat) = 2 ^ 5 - 1 from rfl, Nat.and_two_pow_sub_one_eq_mod, Nat.mod_eq_of_lt (by omega)]
set_option maxHeartbeats 400000 in
theorem rotl_any (x m : Int) (h1 : 0 ≤ m) (h2 : m < 32) (w : World) : Calls Tryd.prog 54 #[.int .u32 x, .int .i64 m] w fun e w' => e = .returned (.int .u32 (rotI x (32 - m))) ∧ w' = w := by
  have hm := and31 m h1 h2
  have hw : m % 18446744073709551616 = m := by omega
  have hw2 : (32 - m) % 18446744073709551616 = 32 - m := by omega
  have h4 : 0 ≤ 32 - m := by omega
  have e : rotI x (32 - m) = bits .or .u32 (x * 2 ^ m.toNat % 4294967296) (x / 2 ^ (32 - m).toNat) := by
    unfold rotI
    rw [bits_or_comm, show 32 - (32 - m) = m by omega]
  rw [e]
  clear e
  go_enter Tryd.func54, Tryd.ntmps54
  go_wp2_with fail
  go_ret
  exact ⟨rfl, rfl⟩
end Go.Proofs.YtilkneajohpgiaaDoor
