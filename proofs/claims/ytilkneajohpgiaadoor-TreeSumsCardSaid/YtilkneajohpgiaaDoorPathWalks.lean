/- The walks of package path: sign, part, May, Under. -/
import Derived.Test.YtilkneajohpgiaaDoorPathPlain
import Derived.Test.YtilkneajohpgiaaDoorRange
import Derived.Test.YtilkneajohpgiaaDoorChecked
import Derived.Test.YtilkneajohpgiaaDoorShelf
namespace Go.Proofs.YtilkneajohpgiaaDoor
open Go.RowKit

theorem idx4' : ∀ c : Fin 128, decide (0 ≤ Lib.indexByte [95, 46, 45, 43] (UInt8.ofNat c.1)) = (c.1 == 95 || c.1 == 46 || c.1 == 45 || c.1 == 43) := by decide
theorem idx4 (c : Nat) (h : c < 128) : decide (0 ≤ Lib.indexByte [95, 46, 45, 43] (UInt8.ofNat c)) = (c == 95 || c == 46 || c == 45 || c == 43) := idx4' ⟨c, h⟩
set_option maxHeartbeats 400000 in
set_option maxRecDepth 100000 in
theorem sign_any (c : Nat) (hc : c ≤ 1114111) (w : World) : Calls Tryd.prog 53 #[.int .i32 c] w fun e w' => e = .returned (.bool (signN c)) ∧ w = w' := by
  go_enter Tryd.func53, Tryd.ntmps53
  go_wp2_with (go_at_call 63; refine (Tryd.strings_IndexByte _ _ _).mono ?_; rintro e w' ⟨rfl, rfl⟩)
  all_goals
    go_ret
    refine ⟨congrArg (fun x => Ending.returned (Value.bool x)) ?_, rfl⟩
    first
      | (have h4 := idx4 c (by omega)
         rw [h4, Bool.eq_iff_iff]
         simp only [signN, Bool.or_eq_true, Bool.and_eq_true, decide_eq_true_eq, beq_iff_eq]
         omega)
      | (rw [Bool.eq_iff_iff]
         simp only [signN, Bool.or_eq_true, Bool.and_eq_true, decide_eq_true_eq, beq_iff_eq]
         omega)
      | (symm
         simp only [signN, Bool.or_eq_true, Bool.and_eq_true, decide_eq_true_eq, beq_iff_eq]
         omega)
      | go_goals
theorem sign_is (c : Nat) (hc : c ≤ 1114111) (b : Bool) (h : signN c = b) (w : World) : Calls Tryd.prog 53 #[.int .i32 c] w fun e w' => e = .returned (.bool b) ∧ w = w' := by
  subst h; exact sign_any c hc w

set_option maxHeartbeats 400000 in
theorem notSign_any (c : Nat) (hc : c ≤ 1114111) (w : World) : Calls Tryd.prog 52 #[.int .i32 c] w fun e w' => e = .returned (.bool (!signN c)) ∧ w = w' := by
  obtain ⟨b, hb⟩ : ∃ b, signN c = b := ⟨_, rfl⟩
  have Hb := hid hb; clear hb
  rw [Hb.out]
  go_enter Tryd.func52, Tryd.ntmps52
  go_wp2_with (go_at_call 53; refine (sign_is c hc b Hb.out _).mono ?_; rintro e w' ⟨rfl, rfl⟩)
  go_ret
  exact ⟨rfl, rfl⟩

theorem notSign_pred (w : World) : Go.Proofs.PredGrows Tryd.prog 52 #[] (fun x => !signN x) w := by
  intro W x hx _
  exact (notSign_any x hx W).mono fun _ _ ⟨h, h2⟩ => ⟨h, h2 ▸ Below.refl _ _⟩

set_option maxHeartbeats 400000 in
theorem part_any (l : List UInt8) (w : World) : Calls Tryd.prog 43 #[.string (bs l)] w fun e w' => e = .returned (.bool (partB l)) ∧ Below w.heap.size w w' := by
  have eg : ∀ args w, (callFunc 52 args).run Tryd.prog w = .ok (.enter 52 args) w := enters_of Tryd.func52 (by kernel_rfl) rfl
  have hcon := Tryd.strings_ContainsFunc_grows 52 #[] eg (fun x => !signN x) (bs l)
  rw [contains_sign l] at hcon
  obtain ⟨b, hb⟩ : ∃ b, (l.all fun b => signN b.toNat) = b := ⟨_, rfl⟩
  rw [hb] at hcon
  have Hb := hid hb; clear hb
  have Hcon := hid hcon; clear hcon
  have hE : (l.isEmpty) = decide (l = []) := by cases l <;> simp
  have Hp : Hid (partB l = (!decide (l = []) && decide (l.length ≤ 64) && !(l == [46]) && !(l == [46, 46]) && b)) := by
    apply hid; rw [partB, hE, Hb.out]
  clear hE
  by_cases h0 : l = []
  · subst h0
    go_enter Tryd.func43, Tryd.ntmps43
    go_wp2_with fail
    go_ret
    exact ⟨rfl, Below.refl _ _⟩
  · have h0' : l.isEmpty = false := by simpa using h0
    by_cases h64 : l.length ≤ 64
    · have H0 := hid h0; clear h0
      rcases Bool.eq_false_or_eq_true (l == [46]) with h1 | h1
      · go_enter Tryd.func43, Tryd.ntmps43
        go_wp2_with fail
        go_ret
        exact ⟨by rw [Hp.out, h1]; simp, Below.refl _ _⟩
      · rcases Bool.eq_false_or_eq_true (l == [46, 46]) with h2 | h2
        · go_enter Tryd.func43, Tryd.ntmps43
          go_wp2_with fail
          go_ret
          exact ⟨by rw [Hp.out, h1, h2]; simp, Below.refl _ _⟩
        · go_enter Tryd.func43, Tryd.ntmps43
          go_wp2_with fail
          refine (Hcon.out w (notSign_pred w)).mono ?_
          rintro e w1 ⟨rfl, hb1⟩
          go_wp2_with fail
          go_ret
          exact ⟨by rw [Hp.out, h1, h2, decide_eq_false H0.out, decide_eq_true h64]; simp, hb1⟩
    · go_enter Tryd.func43, Tryd.ntmps43
      go_wp2_with fail
      go_ret
      exact ⟨by rw [Hp.out, decide_eq_false h64]; simp, Below.refl _ _⟩
theorem part_is (l : List UInt8) (b : Bool) (h : partB l = b) (w : World) : Calls Tryd.prog 43 #[.string (bs l)] w fun e w' => e = .returned (.bool b) ∧ Below w.heap.size w w' := by
  subst h; exact part_any l w
end Go.Proofs.YtilkneajohpgiaaDoor
