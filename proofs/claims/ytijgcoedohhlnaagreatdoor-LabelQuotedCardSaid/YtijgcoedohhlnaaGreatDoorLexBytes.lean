/- The walks of the bytes' kinds, the program's and the document's; of a run. -/
import Derived.Test.YtijgcoedohhlnaaGreatDoorLexPlain
import Derived.Test.YtijgcoedohhlnaaGreatDoorChecked
import Derived.Test.YtijgcoedohhlnaaGreatDoorShelf
namespace Go.Proofs.YtijgcoedohhlnaaGreatDoor
set_option maxRecDepth 100000
open Go.RowKit

theorem ret_bool {a b : Bool} (h : a = b) : Ending.returned (.bool a) = .returned (.bool b) := by rw [h]
/-- A byte's kind, as a function tells it. -/
def Tells (f : FuncId) (p : UInt8 → Bool) : Prop := ∀ (c : UInt8) (w : World), Calls Tryz.prog f #[.int .u8 c.toNat] w fun e w' => e = .returned (.bool (p c)) ∧ w = w'
theorem Tells.is {f : FuncId} {p : UInt8 → Bool} (h : Tells f p) (c : UInt8) (b : Bool) (hb : p c = b) (w : World) : Calls Tryz.prog f #[.int .u8 c.toNat] w fun e w' => e = .returned (.bool b) ∧ w = w' := by
  rw [← hb]; exact h c w
set_option maxHeartbeats 1000000
theorem digit_tells : Tells 32 isDig := by
  intro c w
  go_enter Tryz.func32, Tryz.ntmps32
  go_wp2
  all_goals (go_ret; refine ⟨ret_bool ?_, rfl⟩; rw [Bool.eq_iff_iff]; simp [isDig]; omega)
theorem letter_tells : Tells 30 isLet := by
  intro c w
  go_enter Tryz.func30, Tryz.ntmps30
  go_wp2
  all_goals (go_ret; refine ⟨ret_bool ?_, rfl⟩; rw [Bool.eq_iff_iff]; simp [isLet]; omega)
theorem gap_tells : Tells 27 isGap := by
  intro c w
  go_enter Tryz.func27, Tryz.ntmps27
  go_wp2
  all_goals (go_ret; refine ⟨ret_bool ?_, rfl⟩; rw [Bool.eq_iff_iff]; simp [isGap]; omega)
theorem line_tells : Tells 29 notLine := by
  intro c w
  go_enter Tryz.func29, Tryz.ntmps29
  go_wp2
  all_goals (go_ret; refine ⟨ret_bool ?_, rfl⟩; rw [Bool.eq_iff_iff]; simp [notLine]; omega)
theorem word_tells : Tells 31 isWord := by
  intro c w
  cases hl : isLet c with
  | true =>
    go_enter Tryz.func31, Tryz.ntmps31
    go_wp2_with fail
    refine (letter_tells.is c true hl _).mono ?_
    rintro e w' ⟨rfl, rfl⟩
    go_wp2_with fail
    go_ret
    exact ⟨ret_bool (by simp [isWord, hl]), rfl⟩
  | false =>
    go_enter Tryz.func31, Tryz.ntmps31
    go_wp2_with fail
    refine (letter_tells.is c false hl _).mono ?_
    rintro e w' ⟨rfl, rfl⟩
    go_wp2_with fail
    refine (digit_tells c _).mono ?_
    rintro e w' ⟨rfl, rfl⟩
    go_wp2_with fail
    go_ret
    exact ⟨ret_bool (by simp [isWord, hl]), rfl⟩

theorem run_drop {p : UInt8 → Bool} {s : List UInt8} {k : Nat} (hk : k < s.length) (hc : p s[k] = true) : k + runL p (s.drop k) = k + 1 + runL p (s.drop (k + 1)) := by
  rw [drop_at s k hk, run_cons hc]; omega
theorem run_digit (s : List UInt8) (hs : s.length ≤ 1000000000000) (w : World) :
    Calls Tryz.prog 28 #[.string (bs s), .func (.func 32) #[] #[]] w fun e w' => e = .returned (.int .i64 (runL isDig s)) ∧ w = w' := by
  have HT := hid digit_tells
  go_enter Tryz.func28, Tryz.ntmps28
  go_wp2_with fail
  go_loop [5] (fun i => ∃ k : Nat, k ≤ s.length ∧ i = .int .i64 k ∧ Hid (runL isDig s = k + runL isDig (s.drop k))) (fun i => s.length - (intOf i).toNat)
  case atStart => exact ⟨0, by omega, rfl, hid (by simp)⟩
  case round =>
    obtain ⟨k, hk, rfl, HR⟩ := hrel
    by_cases hlt : k < s.length
    · cases hc : isDig s[k] with
      | true =>
        have HN : Hid (runL isDig s = (k + 1) + runL isDig (s.drop (k + 1))) := hid (by rw [HR.out, run_drop hlt hc])
        have HC := hid (HT.out.is s[k] true hc)
        clear hc HR
        go_wp2_with fail
        refine (HC.out _).mono ?_
        rintro e w' ⟨rfl, rfl⟩
        go_wp2_with fail
        go_round
        case rel => exact ⟨k + 1, by omega, by go_num, HN⟩
        case measure => simp [intOf]; omega
      | false =>
        have HN : Hid (runL isDig s = k) := hid (by rw [HR.out, drop_at s k hlt, run_stop hc]; rfl)
        have HC := hid (HT.out.is s[k] false hc)
        clear hc HR
        go_wp2_with fail
        refine (HC.out _).mono ?_
        rintro e w' ⟨rfl, rfl⟩
        go_wp2_with fail
        go_ret
        exact ⟨by rw [HN.out]; rfl, rfl⟩
    · have HN : Hid (runL isDig s = k) := hid (by rw [HR.out, List.drop_eq_nil_of_le (by omega)]; rfl)
      have hd : decide (k < s.length) = false := decide_eq_false hlt
      clear HR
      go_wp2_with fail
      go_ret
      exact ⟨by rw [HN.out]; rfl, rfl⟩
theorem run_gap (s : List UInt8) (hs : s.length ≤ 1000000000000) (w : World) :
    Calls Tryz.prog 28 #[.string (bs s), .func (.func 27) #[] #[]] w fun e w' => e = .returned (.int .i64 (runL isGap s)) ∧ w = w' := by
  have HT := hid gap_tells
  go_enter Tryz.func28, Tryz.ntmps28
  go_wp2_with fail
  go_loop [5] (fun i => ∃ k : Nat, k ≤ s.length ∧ i = .int .i64 k ∧ Hid (runL isGap s = k + runL isGap (s.drop k))) (fun i => s.length - (intOf i).toNat)
  case atStart => exact ⟨0, by omega, rfl, hid (by simp)⟩
  case round =>
    obtain ⟨k, hk, rfl, HR⟩ := hrel
    by_cases hlt : k < s.length
    · cases hc : isGap s[k] with
      | true =>
        have HN : Hid (runL isGap s = (k + 1) + runL isGap (s.drop (k + 1))) := hid (by rw [HR.out, run_drop hlt hc])
        have HC := hid (HT.out.is s[k] true hc)
        clear hc HR
        go_wp2_with fail
        refine (HC.out _).mono ?_
        rintro e w' ⟨rfl, rfl⟩
        go_wp2_with fail
        go_round
        case rel => exact ⟨k + 1, by omega, by go_num, HN⟩
        case measure => simp [intOf]; omega
      | false =>
        have HN : Hid (runL isGap s = k) := hid (by rw [HR.out, drop_at s k hlt, run_stop hc]; rfl)
        have HC := hid (HT.out.is s[k] false hc)
        clear hc HR
        go_wp2_with fail
        refine (HC.out _).mono ?_
        rintro e w' ⟨rfl, rfl⟩
        go_wp2_with fail
        go_ret
        exact ⟨by rw [HN.out]; rfl, rfl⟩
    · have HN : Hid (runL isGap s = k) := hid (by rw [HR.out, List.drop_eq_nil_of_le (by omega)]; rfl)
      have hd : decide (k < s.length) = false := decide_eq_false hlt
      clear HR
      go_wp2_with fail
      go_ret
      exact ⟨by rw [HN.out]; rfl, rfl⟩
theorem run_line (s : List UInt8) (hs : s.length ≤ 1000000000000) (w : World) :
    Calls Tryz.prog 28 #[.string (bs s), .func (.func 29) #[] #[]] w fun e w' => e = .returned (.int .i64 (runL notLine s)) ∧ w = w' := by
  have HT := hid line_tells
  go_enter Tryz.func28, Tryz.ntmps28
  go_wp2_with fail
  go_loop [5] (fun i => ∃ k : Nat, k ≤ s.length ∧ i = .int .i64 k ∧ Hid (runL notLine s = k + runL notLine (s.drop k))) (fun i => s.length - (intOf i).toNat)
  case atStart => exact ⟨0, by omega, rfl, hid (by simp)⟩
  case round =>
    obtain ⟨k, hk, rfl, HR⟩ := hrel
    by_cases hlt : k < s.length
    · cases hc : notLine s[k] with
      | true =>
        have HN : Hid (runL notLine s = (k + 1) + runL notLine (s.drop (k + 1))) := hid (by rw [HR.out, run_drop hlt hc])
        have HC := hid (HT.out.is s[k] true hc)
        clear hc HR
        go_wp2_with fail
        refine (HC.out _).mono ?_
        rintro e w' ⟨rfl, rfl⟩
        go_wp2_with fail
        go_round
        case rel => exact ⟨k + 1, by omega, by go_num, HN⟩
        case measure => simp [intOf]; omega
      | false =>
        have HN : Hid (runL notLine s = k) := hid (by rw [HR.out, drop_at s k hlt, run_stop hc]; rfl)
        have HC := hid (HT.out.is s[k] false hc)
        clear hc HR
        go_wp2_with fail
        refine (HC.out _).mono ?_
        rintro e w' ⟨rfl, rfl⟩
        go_wp2_with fail
        go_ret
        exact ⟨by rw [HN.out]; rfl, rfl⟩
    · have HN : Hid (runL notLine s = k) := hid (by rw [HR.out, List.drop_eq_nil_of_le (by omega)]; rfl)
      have hd : decide (k < s.length) = false := decide_eq_false hlt
      clear HR
      go_wp2_with fail
      go_ret
      exact ⟨by rw [HN.out]; rfl, rfl⟩
theorem run_word (s : List UInt8) (hs : s.length ≤ 1000000000000) (w : World) :
    Calls Tryz.prog 28 #[.string (bs s), .func (.func 31) #[] #[]] w fun e w' => e = .returned (.int .i64 (runL isWord s)) ∧ w = w' := by
  have HT := hid word_tells
  go_enter Tryz.func28, Tryz.ntmps28
  go_wp2_with fail
  go_loop [5] (fun i => ∃ k : Nat, k ≤ s.length ∧ i = .int .i64 k ∧ Hid (runL isWord s = k + runL isWord (s.drop k))) (fun i => s.length - (intOf i).toNat)
  case atStart => exact ⟨0, by omega, rfl, hid (by simp)⟩
  case round =>
    obtain ⟨k, hk, rfl, HR⟩ := hrel
    by_cases hlt : k < s.length
    · cases hc : isWord s[k] with
      | true =>
        have HN : Hid (runL isWord s = (k + 1) + runL isWord (s.drop (k + 1))) := hid (by rw [HR.out, run_drop hlt hc])
        have HC := hid (HT.out.is s[k] true hc)
        clear hc HR
        go_wp2_with fail
        refine (HC.out _).mono ?_
        rintro e w' ⟨rfl, rfl⟩
        go_wp2_with fail
        go_round
        case rel => exact ⟨k + 1, by omega, by go_num, HN⟩
        case measure => simp [intOf]; omega
      | false =>
        have HN : Hid (runL isWord s = k) := hid (by rw [HR.out, drop_at s k hlt, run_stop hc]; rfl)
        have HC := hid (HT.out.is s[k] false hc)
        clear hc HR
        go_wp2_with fail
        refine (HC.out _).mono ?_
        rintro e w' ⟨rfl, rfl⟩
        go_wp2_with fail
        go_ret
        exact ⟨by rw [HN.out]; rfl, rfl⟩
    · have HN : Hid (runL isWord s = k) := hid (by rw [HR.out, List.drop_eq_nil_of_le (by omega)]; rfl)
      have hd : decide (k < s.length) = false := decide_eq_false hlt
      clear HR
      go_wp2_with fail
      go_ret
      exact ⟨by rw [HN.out]; rfl, rfl⟩
end Go.Proofs.YtijgcoedohhlnaaGreatDoor
