/- The walk of lex.number. -/
import Derived.Test.YtijgcoedohhlnaaGreatDoorLexTok
namespace Go.Proofs.YtijgcoedohhlnaaGreatDoor
set_option maxRecDepth 100000
open Go.RowKit

def TokRet (k : Nat) (t : List UInt8) (n e : Nat) (w : World) (x : Ending) (w' : World) : Prop := x = .returned (.tuple #[tokV k t 0 0, .int .i64 n, .int .i64 e]) ∧ Below w.heap.size w w'
set_option maxHeartbeats 1000000
theorem number_form (s : List UInt8) (hs : s.length ≤ 1000000000000) (h1 : 1 < runL isDig s) (h0 : s.head? = some 48) (w : World) :
    Calls Tryz.prog 33 #[.string (bs s)] w (TokRet 0 [] 0 3 w) := by
  have HR := hid (run_digit s hs)
  have hl := run_le isDig s
  have hp : 0 < s.length := by omega
  have h48 : s[0] = 48 := by cases s with | nil => simp at hp | cons c r => simpa using h0
  have q0 : ((s[0].toNat : Int) == 48) = true := by rw [h48]; rfl
  have hf := four_new w (.int .i64 0) (.string ⟨#[]⟩) (.int .i64 0) (.int .i64 0) 35 (0, 0)
  have Hf := hid hf
  clear h0 h48 hf
  go_enter Tryz.func33, Tryz.ntmps33
  go_wp2_with fail
  refine (HR.out _).mono ?_
  rintro e w1 ⟨rfl, rfl⟩
  go_wp2_with fail
  exact bodyPost_ret (number_res (k := 0) (t := []) (l := 0) (c := 0) rfl rfl rfl Hf.out) rfl ⟨rfl, (Below.refl _ _).alloc (Nat.le_refl _) _⟩
/-- What a run of digits hands on. -/
theorem digs_of (s : List UInt8) (h : 0 < runL isDig s) : allDig (s.take (runL isDig s)) = true ∧ s.take (runL isDig s) ≠ [] := by
  refine ⟨run_all isDig s, fun e => ?_⟩
  have h2 := run_le isDig s
  have := congrArg List.length e
  rw [List.length_take, Nat.min_eq_left h2, List.length_nil] at this
  omega
theorem number_any (s : List UInt8) (hs : s.length ≤ 1000000000000) (hn : 0 < runL isDig s) (k : Nat) (t : List UInt8) (n e : Nat) (hp : numP s = (k, t, n, e)) (w : World) (hr : RangeAt w) :
    Calls Tryz.prog 33 #[.string (bs s)] w (TokRet k t n e w) := by
  by_cases hform : 1 < runL isDig s ∧ s.head? = some 48
  · rw [numP, if_pos hform] at hp
    simp only [Prod.mk.injEq] at hp
    obtain ⟨rfl, rfl, rfl, rfl⟩ := hp
    exact number_form s hs hform.1 hform.2 w
  rw [numP, if_neg hform] at hp
  have HR := hid (run_digit s hs)
  have hl := run_le isDig s
  have hp0 : 0 < s.length := by omega
  obtain ⟨hd, hne⟩ := digs_of s hn
  have hdl : (s.take (runL isDig s)).length ≤ 1000000000000 := by rw [List.length_take]; omega
  have hz : (Hid (¬ (1 : Int) < (runL isDig s : Int))) ∨ (Hid (1 < (runL isDig s : Int)) ∧ Hid (((s[0].toNat : Int) == 48) = false)) := by
    by_cases h1 : 1 < runL isDig s
    · refine .inr ⟨hid (by omega), hid (eqF ?_)⟩
      intro h2
      apply hform
      refine ⟨h1, ?_⟩
      cases s with
      | nil => simp at hp0
      | cons c r =>
        have h3 : c.toNat = 48 := by simp only [List.getElem_cons_zero] at h2; omega
        have h4 : c = 48 := UInt8.toNat_inj.1 (h3.trans rfl)
        rw [h4]; rfl
    · exact .inl (hid (by omega))
  have Hb := hid (fun (w2 : World) (hb : Below (w.alloc (.cells #[.int .i64 0, .string ⟨#[]⟩, .int .i64 0, .int .i64 0] 35)).heap.size (w.alloc (.cells #[.int .i64 0, .string ⟨#[]⟩, .int .i64 0, .int .i64 0] 35)) w2) =>
    (⟨four_below (four_new w _ _ _ _ _ _) hb, free_below (free_new w _ _) (by simp) hb, ((Below.refl w.heap.size w).alloc (Nat.le_refl _) _).trans (hb.mono (by simp)), Nat.lt_of_lt_of_le (by simp) hb.size⟩ :
      Four w2 w.heap.size (.int .i64 0) (.string ⟨#[]⟩) (.int .i64 0) (.int .i64 0) ∧ Free w2 w.heap.size ∧ Below w.heap.size w w2 ∧ w.heap.size < w2.heap.size))
  have hr1 : RangeAt (w.alloc (.cells #[.int .i64 0, .string ⟨#[]⟩, .int .i64 0, .int .i64 0] 35)) := hr.below ((Below.refl _ _).alloc (Nat.le_refl _) _)
  have hwrap : (runL isDig s : Int) ≤ 1000000000000 := by omega
  by_cases hv : 18446744073709551615 < valD 0 (s.take (runL isDig s))
  · rw [if_pos (by omega)] at hp
    simp only [Prod.mk.injEq] at hp
    obtain ⟨rfl, rfl, rfl, rfl⟩ := hp
    have HP := hid (parse_wide _ hdl hd hne hv _ hr1)
    clear hform hd hne hv hdl hr1 hr
    rcases hz with hz | ⟨hz, hq⟩
    all_goals
      have hz' := hz.out
      (try have hq' := hq.out)
      go_enter Tryz.func33, Tryz.ntmps33
      go_wp2_with fail
      refine (HR.out _).mono ?_
      rintro e w1 ⟨rfl, rfl⟩
      go_wp2_with fail
      refine HP.out.mono ?_
      rintro e w2 ⟨x, y, z, rfl, hb2⟩
      obtain ⟨hf, hfr, hbx, hlt⟩ := Hb.out _ hb2
      have Hf := hid hf
      obtain ⟨k0, k1, k2, k3⟩ := hf
      have g0 := hfr 0
      have g1 := hfr 1
      have g2 := hfr 2
      have g3 := hfr 3
      clear hb2 hfr
      go_wp2_with fail
      exact bodyPost_ret (number_res (k := 0) (t := []) (l := 0) (c := 0) rfl rfl rfl (four_set Hf.out _ _ _ _)) rfl ⟨rfl, below_four hbx (Nat.le_refl _) _ _ _ _⟩
  · have HP := hid (parse_fit _ hdl hd hne (by omega) (w.alloc (.cells #[.int .i64 0, .string ⟨#[]⟩, .int .i64 0, .int .i64 0] 35)))
    by_cases hv2 : 9223372036854775807 < valD 0 (s.take (runL isDig s))
    · rw [if_pos hv2] at hp
      simp only [Prod.mk.injEq] at hp
      obtain ⟨rfl, rfl, rfl, rfl⟩ := hp
      have hv3 : (9223372036854775807 : Int) < (valD 0 (s.take (runL isDig s)) : Int) := by omega
      generalize valD 0 (s.take (runL isDig s)) = u at *
      clear hform hd hne hv hdl hr1 hr hv2
      rcases hz with hz | ⟨hz, hq⟩
      all_goals
        have hz' := hz.out
        (try have hq' := hq.out)
        go_enter Tryz.func33, Tryz.ntmps33
        go_wp2_with fail
        refine (HR.out _).mono ?_
        rintro e w1 ⟨rfl, rfl⟩
        go_wp2_with fail
        refine HP.out.mono ?_
        rintro e w2 ⟨rfl, hb2⟩
        obtain ⟨hf, hfr, hbx, hlt⟩ := Hb.out _ hb2
        have Hf := hid hf
        obtain ⟨k0, k1, k2, k3⟩ := hf
        have g0 := hfr 0
        have g1 := hfr 1
        have g2 := hfr 2
        have g3 := hfr 3
        clear hb2 hfr
        go_wp2_with fail
        exact bodyPost_ret (number_res (k := 0) (t := []) (l := 0) (c := 0) rfl rfl rfl (four_set Hf.out _ _ _ _)) rfl ⟨rfl, below_four hbx (Nat.le_refl _) _ _ _ _⟩
    · rw [if_neg hv2] at hp
      simp only [Prod.mk.injEq] at hp
      obtain ⟨rfl, rfl, rfl, rfl⟩ := hp
      have hv3 : ¬ (9223372036854775807 : Int) < (valD 0 (s.take (runL isDig s)) : Int) := by omega
      have hv4 : (0 : Int) ≤ (valD 0 (s.take (runL isDig s)) : Int) := by omega
      generalize valD 0 (s.take (runL isDig s)) = u at *
      clear hform hd hne hv hdl hr1 hr hv2
      rcases hz with hz | ⟨hz, hq⟩
      all_goals
        have hz' := hz.out
        (try have hq' := hq.out)
        go_enter Tryz.func33, Tryz.ntmps33
        go_wp2_with fail
        refine (HR.out _).mono ?_
        rintro e w1 ⟨rfl, rfl⟩
        go_wp2_with fail
        refine HP.out.mono ?_
        rintro e w2 ⟨rfl, hb2⟩
        obtain ⟨hf, hfr, hbx, hlt⟩ := Hb.out _ hb2
        have Hf := hid hf
        obtain ⟨k0, k1, k2, k3⟩ := hf
        have g0 := hfr 0
        have g1 := hfr 1
        have g2 := hfr 2
        have g3 := hfr 3
        clear hb2 hfr
        go_wp2_with fail
        exact bodyPost_ret (number_res (k := 2) (t := s.take (runL isDig s)) (l := 0) (c := 0) rfl rfl rfl (four_set Hf.out _ _ _ _)) rfl ⟨rfl, below_four hbx (Nat.le_refl _) _ _ _ _⟩
end Go.Proofs.YtijgcoedohhlnaaGreatDoor
