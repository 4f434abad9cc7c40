/- The walk of the document's number. -/
import Derived.Test.YtheomoamobcaeaaGreatDoorRefQuoted
namespace Go.Proofs.YtheomoamobcaeaaGreatDoor
set_option maxRecDepth 100000
open Go.RowKit

theorem val_snoc (s : List UInt8) (k : Nat) (h : k < s.length) : valD 0 (s.take (k + 1)) = 10 * valD 0 (s.take k) + (s[k].toNat - 48) := by
  rw [take_at s k h, valD_append]; rfl
def NumAt (s : List UInt8) (k : Nat) (x : Int) (big : Bool) : Prop :=
  (big = false ∧ x = valD 0 (s.take k) ∧ valD 0 (s.take k) ≤ 9223372036854775807) ∨ (big = true ∧ 9223372036854775807 < valD 0 (s.take k))
theorem num_start (s : List UInt8) : NumAt s 0 0 false := by
  refine .inl ⟨rfl, ?_, ?_⟩
  · rw [List.take_zero]; rfl
  · rw [List.take_zero]; show (0 : Nat) ≤ _; omega
theorem u64_in (a : Int) : 0 ≤ IntKind.u64.wrap a ∧ IntKind.u64.wrap a ≤ 18446744073709551615 := by
  have : IntKind.u64.wrap a = a % 18446744073709551616 := rfl
  rw [this]; omega

theorem head48 {s : List UInt8} (hp : 0 < s.length) (h : s.head? = some 48) : ((s[0].toNat : Int) == 48) = true := by
  cases s with
  | nil => simp at hp
  | cons c r => have : c = 48 := by simpa using h
                subst this; rfl
theorem head_not {s : List UInt8} (hp : 0 < s.length) {k : Nat} (h : ¬ (1 < k ∧ s.head? = some 48)) : (Hid (¬ (1 : Int) < (k : Int))) ∨ (Hid ((1 : Int) < (k : Int)) ∧ Hid (((s[0].toNat : Int) == 48) = false)) := by
  by_cases h1 : 1 < k
  · refine .inr ⟨hid (by omega), hid (eqF ?_)⟩
    intro h2
    apply h
    refine ⟨h1, ?_⟩
    cases s with
    | nil => simp at hp
    | cons c r =>
      have h3 : c.toNat = 48 := by simp only [List.getElem_cons_zero] at h2; omega
      have h4 : c = 48 := UInt8.toNat_inj.1 (h3.trans rfl)
      rw [h4]; rfl
  · exact .inl (hid (by omega))
set_option maxHeartbeats 4000000 in
theorem rnumber_any (s : List UInt8) (hs : s.length ≤ 1000000000000) (hn : 0 < runL isDig s) (k0 : Nat) (t : List UInt8) (n0 e0 : Nat) (hp : numP s = (k0, t, n0, e0)) (w : World) :
    Calls Tryz.prog 36 #[.string (bs s)] w (PieRet k0 t n0 e0 w) := by
  have hrl := run_le isDig s
  have hp0 : 0 < s.length := by omega
  have HP := hid hp
  have Hf := hid (four_new w (.int .i64 0) (.string ⟨#[]⟩) (.int .i64 0) (.int .i64 0) 43 (0, 0))
  have HR0 := hid hn
  clear hp hn hrl
  go_enter Tryz.func36, Tryz.ntmps36
  go_wp2_with fail
  go_loop [3, 4, 5] (fun i v b => ∃ (k : Nat) (x : Int) (big : Bool), k ≤ s.length ∧ i = .int .i64 k ∧ v = .int .u64 x ∧ b = .bool big ∧ Hid (runL isDig s = k + runL isDig (s.drop k)) ∧ Hid (NumAt s k x big) ∧ 0 ≤ x ∧ x ≤ 18446744073709551615) (fun i _ _ => s.length - (intOf i).toNat)
  case atStart => exact ⟨0, 0, false, by omega, rfl, rfl, rfl, hid (by simp), hid (num_start s), by omega, by omega⟩
  case round =>
    obtain ⟨k, x, big, hk, rfl, rfl, rfl, HR, HB, hx0, hx1⟩ := hrel
    by_cases hlt : k < s.length
    · cases hc : isDig s[k] with
      | true =>
        have hcd : 48 ≤ s[k].toNat ∧ s[k].toNat ≤ 57 := by simpa [isDig] using hc
        have HN : Hid (runL isDig s = (k + 1) + runL isDig (s.drop (k + 1))) := hid (by rw [HR.out, run_drop hlt hc])
        have HC := hid (rdigit_tells.is s[k] true hc)
        have hvs := val_snoc s k hlt
        rcases HB.out with ⟨rfl, hx, hv⟩ | ⟨rfl, hv⟩
        · obtain ⟨v, hvv⟩ : ∃ v, valD 0 (s.take k) = v := ⟨_, rfl⟩
          rw [hvv] at hx hv hvs
          subst hx
          by_cases hbig : 9223372036854775807 < 10 * v + (s[k].toNat - 48)
          · have HB2 : ∀ y, Hid (NumAt s (k + 1) y true) := fun y => hid (.inr ⟨rfl, by rw [hvs]; exact hbig⟩)
            by_cases hA : 922337203685477580 < v
            · have hA' : (922337203685477580 : Int) < (v : Int) := by omega
              clear hc HR HB hvs hvv hbig hA
              go_wp2_with fail
              refine (HC.out _).mono ?_
              rintro e wx ⟨rfl, rfl⟩
              go_wp2_with fail
              go_round
              case rel => exact ⟨k + 1, _, true, by omega, by go_num, rfl, rfl, HN, HB2 _, by first | exact (u64_in _).1 | omega, by first | exact (u64_in _).2 | omega⟩
              case measure => simp [intOf]; omega
            · have hA' : ¬ (922337203685477580 : Int) < (v : Int) := by omega
              have hE : ((v : Int) == 922337203685477580) = true := eqT (by omega)
              have h7 : (55 : Int) < (s[k].toNat : Int) := by omega
              clear hc HR HB hvs hvv hbig hA
              go_wp2_with fail
              refine (HC.out _).mono ?_
              rintro e wx ⟨rfl, rfl⟩
              go_wp2_with fail
              go_round
              case rel => exact ⟨k + 1, _, true, by omega, by go_num, rfl, rfl, HN, HB2 _, by first | exact (u64_in _).1 | omega, by first | exact (u64_in _).2 | omega⟩
              case measure => simp [intOf]; omega
          · have HV := hid hvs
            by_cases hA : v = 922337203685477580
            · have hE : ((v : Int) == 922337203685477580) = true := eqT (by omega)
              have hA' : ¬ (922337203685477580 : Int) < (v : Int) := by omega
              have h7 : ¬ (55 : Int) < (s[k].toNat : Int) := by omega
              clear hc HR HB hvs hvv hA
              go_wp2_with fail
              refine (HC.out _).mono ?_
              rintro e wx ⟨rfl, rfl⟩
              go_wp2_with fail
              go_round
              case rel => exact ⟨k + 1, _, false, by omega, by go_num, rfl, rfl, HN, hid (.inl ⟨rfl, by rw [HV.out]; omega, by rw [HV.out]; omega⟩), by omega, by omega⟩
              case measure => simp [intOf]; omega
            · have hE : ((v : Int) == 922337203685477580) = false := eqF (by omega)
              have hA' : ¬ (922337203685477580 : Int) < (v : Int) := by omega
              clear hc HR HB hvs hvv hA
              go_wp2_with fail
              refine (HC.out _).mono ?_
              rintro e wx ⟨rfl, rfl⟩
              go_wp2_with fail
              go_round
              case rel => exact ⟨k + 1, _, false, by omega, by go_num, rfl, rfl, HN, hid (.inl ⟨rfl, by rw [HV.out]; omega, by rw [HV.out]; omega⟩), by omega, by omega⟩
              case measure => simp [intOf]; omega
        · have HB2 : ∀ y, Hid (NumAt s (k + 1) y true) := fun y => hid (.inr ⟨rfl, by rw [hvs]; omega⟩)
          clear hc HR HB hvs hv
          go_wp2_with fail
          refine (HC.out _).mono ?_
          rintro e wx ⟨rfl, rfl⟩
          go_wp2_with fail
          all_goals
            go_round
            case rel => exact ⟨k + 1, _, true, by omega, by go_num, rfl, rfl, HN, HB2 _, by first | exact (u64_in _).1 | omega, by first | exact (u64_in _).2 | omega⟩
            case measure => simp [intOf]; omega
      | false =>
        have HC := hid (rdigit_tells.is s[k] false hc)
        have HNk : Hid (runL isDig s = k) := hid (by rw [HR.out, drop_at s k hlt, run_stop hc]; rfl)
        clear hc HR
        have hp := HP.out
        rw [numP, HNk.out] at hp
        by_cases hform : 1 < k ∧ s.head? = some 48
        · rw [if_pos hform] at hp
          simp only [Prod.mk.injEq] at hp
          obtain ⟨rfl, rfl, rfl, rfl⟩ := hp
          have g1 : (1 : Int) < (k : Int) := by omega
          have g2 : ((s[0].toNat : Int) == 48) = true := head48 hp0 hform.2
          clear HP HNk hform HB
          go_wp2_with fail
          refine (HC.out _).mono ?_
          rintro e wx ⟨rfl, rfl⟩
          go_wp2_with fail
          exact bodyPost_ret (rnumber_res (k := 0) (t := []) (n := 0) (e := 3) rfl (four_new w _ _ _ _ _ _)) rfl ⟨rfl, (Below.refl _ _).alloc (Nat.le_refl _) _⟩
        · rw [if_neg hform] at hp
          have hz : (Hid (¬ (1 : Int) < (k : Int))) ∨ (Hid ((1 : Int) < (k : Int)) ∧ Hid (((s[0].toNat : Int) == 48) = false)) := head_not hp0 hform
          rcases HB.out with ⟨rfl, hx, hv⟩ | ⟨rfl, hv⟩
          · rw [if_neg (by omega)] at hp
            simp only [Prod.mk.injEq] at hp
            obtain ⟨rfl, rfl, rfl, rfl⟩ := hp
            clear HP HNk hform HB hx hv
            rcases hz with hz | ⟨hz, hq⟩
            all_goals
              have hz' := hz.out
              (try have hq' := hq.out)
              go_wp2_with fail
              refine (HC.out _).mono ?_
              rintro e wx ⟨rfl, rfl⟩
              go_wp2_with fail
              exact bodyPost_ret (rnumber_res (k := 2) (t := s.take k) (n := k) (e := 0) rfl (four_new w _ _ _ _ _ _)) rfl ⟨rfl, (Below.refl _ _).alloc (Nat.le_refl _) _⟩
          · rw [if_pos hv] at hp
            simp only [Prod.mk.injEq] at hp
            obtain ⟨rfl, rfl, rfl, rfl⟩ := hp
            clear HP HNk hform HB hv
            rcases hz with hz | ⟨hz, hq⟩
            all_goals
              have hz' := hz.out
              (try have hq' := hq.out)
              go_wp2_with fail
              refine (HC.out _).mono ?_
              rintro e wx ⟨rfl, rfl⟩
              go_wp2_with fail
              exact bodyPost_ret (rnumber_res (k := 0) (t := []) (n := 0) (e := 2) rfl (four_new w _ _ _ _ _ _)) rfl ⟨rfl, (Below.refl _ _).alloc (Nat.le_refl _) _⟩
    · have HNk : Hid (runL isDig s = k) := hid (by rw [HR.out, List.drop_eq_nil_of_le (by omega)]; rfl)
      have hd : decide (k < s.length) = false := decide_eq_false hlt
      clear HR
      have hp := HP.out
      rw [numP, HNk.out] at hp
      by_cases hform : 1 < k ∧ s.head? = some 48
      · rw [if_pos hform] at hp
        simp only [Prod.mk.injEq] at hp
        obtain ⟨rfl, rfl, rfl, rfl⟩ := hp
        have g1 : (1 : Int) < (k : Int) := by omega
        have g2 : ((s[0].toNat : Int) == 48) = true := head48 hp0 hform.2
        clear HP HNk hform HB
        go_wp2_with fail
        exact bodyPost_ret (rnumber_res (k := 0) (t := []) (n := 0) (e := 3) rfl (four_new w _ _ _ _ _ _)) rfl ⟨rfl, (Below.refl _ _).alloc (Nat.le_refl _) _⟩
      · rw [if_neg hform] at hp
        have hz : (Hid (¬ (1 : Int) < (k : Int))) ∨ (Hid ((1 : Int) < (k : Int)) ∧ Hid (((s[0].toNat : Int) == 48) = false)) := head_not hp0 hform
        rcases HB.out with ⟨rfl, hx, hv⟩ | ⟨rfl, hv⟩
        · rw [if_neg (by omega)] at hp
          simp only [Prod.mk.injEq] at hp
          obtain ⟨rfl, rfl, rfl, rfl⟩ := hp
          clear HP HNk hform HB hx hv
          rcases hz with hz | ⟨hz, hq⟩
          all_goals
            have hz' := hz.out
            (try have hq' := hq.out)
            go_wp2_with fail
            exact bodyPost_ret (rnumber_res (k := 2) (t := s.take k) (n := k) (e := 0) rfl (four_new w _ _ _ _ _ _)) rfl ⟨rfl, (Below.refl _ _).alloc (Nat.le_refl _) _⟩
        · rw [if_pos hv] at hp
          simp only [Prod.mk.injEq] at hp
          obtain ⟨rfl, rfl, rfl, rfl⟩ := hp
          clear HP HNk hform HB hv
          rcases hz with hz | ⟨hz, hq⟩
          all_goals
            have hz' := hz.out
            (try have hq' := hq.out)
            go_wp2_with fail
            exact bodyPost_ret (rnumber_res (k := 0) (t := []) (n := 0) (e := 2) rfl (four_new w _ _ _ _ _ _)) rfl ⟨rfl, (Below.refl _ _).alloc (Nat.le_refl _) _⟩
end Go.Proofs.YtheomoamobcaeaaGreatDoor
