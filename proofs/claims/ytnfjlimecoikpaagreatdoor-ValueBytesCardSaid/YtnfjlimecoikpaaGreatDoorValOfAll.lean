/- Of bytes the value: however deep. -/
import Derived.Test.YtnfjlimecoikpaaGreatDoorValOf
import Derived.Test.YtnfjlimecoikpaaGreatDoorValROf4
import Derived.Test.YtnfjlimecoikpaaGreatDoorValROf5
namespace Go.Proofs.YtnfjlimecoikpaaGreatDoor
set_option maxRecDepth 100000
open Go.RowKit

set_option maxHeartbeats 1000000 in
theorem pof_zero : POfC 0 := by
  intro b hbl w ht he d hd1 hd
  have HT := hid (texts_own b (w.alloc (.cells #[.int .i64 0, .int .i64 0, .string ⟨#[]⟩, .slice none 0 0, .slice none 0 0] 25)) (by omega))
  have HF : Hid (ofV 0 b = none) := hid rfl
  unfold TextsOwn at HT
  generalize ofV 0 b = res at *
  generalize hc : (textsL b).2 = c at *
  generalize hts : (textsL b).1 = ts at *
  clear hc hts
  have hbn := below_new w (.cells #[.int .i64 0, .int .i64 0, .string ⟨#[]⟩, .slice none 0 0, .slice none 0 0] 25)
  have HN0 := hid (rc_new w 0 0 [] (.slice none 0 0) (.slice none 0 0))
  have qd : (60 : Int) < d := by omega
  have qd2 : decide ((60 : Int) < d) = true := decide_eq_true qd
  by_cases hc0 : c = 0
  case neg =>
    have q : ((c : Int) != 0) = true := neT (by omega)
    clear hc0 hd
    go_enter Tryz.func35, Tryz.ntmps35
    go_wp2_with fail
    refine HT.out.mono ?_
    rintro e w1 ⟨v, rfl, hown, hb1⟩
    obtain ⟨va, vc, rfl⟩ := own_shape hown
    have HRC := hid (HN0.out.keep hb1)
    obtain ⟨⟨c0, c1, c2, c3, c4⟩, hfr⟩ := HRC.out
    have f0 := hfr 0
    have f1 := hfr 1
    have f2 := hfr 2
    have f3 := hfr 3
    have f4 := hfr 4
    go_wp2_with fail
    rw [HF.out]
    refine bodyPost_ret (of_res rfl rfl (RC.all HRC.out _ _ _ _ _).x) rfl ?_
    exact of_end_none (Below.chain hbn hb1) (Nat.le_refl _) _ _ _ _ _
  subst hc0
  cases ts with
  | nil =>
    clear hd
    go_enter Tryz.func35, Tryz.ntmps35
    go_wp2_with fail
    refine HT.out.mono ?_
    rintro e w1 ⟨v, rfl, hown, hb1⟩
    obtain ⟨va, vc, rfl⟩ := own_shape hown
    have HRC := hid (HN0.out.keep hb1)
    obtain ⟨⟨c0, c1, c2, c3, c4⟩, hfr⟩ := HRC.out
    have f0 := hfr 0
    have f1 := hfr 1
    have f2 := hfr 2
    have f3 := hfr 3
    have f4 := hfr 4
    go_wp2_with fail
    rw [HF.out]
    refine bodyPost_ret (of_res rfl rfl (RC.all HRC.out _ _ _ _ _).x) rfl ?_
    exact of_end_none (Below.chain hbn hb1) (Nat.le_refl _) _ _ _ _ _
  | cons t r =>
    have ql : ((r.length : Int) + 1 == 0) = false := eqF (by omega)
    clear hd
    go_enter Tryz.func35, Tryz.ntmps35
    go_wp2_with fail
    refine HT.out.mono ?_
    rintro e w1 ⟨v, rfl, hown, hb1⟩
    obtain ⟨va, vc, rfl⟩ := own_shape hown
    have HRC := hid (HN0.out.keep hb1)
    obtain ⟨⟨c0, c1, c2, c3, c4⟩, hfr⟩ := HRC.out
    have f0 := hfr 0
    have f1 := hfr 1
    have f2 := hfr 2
    have f3 := hfr 3
    have f4 := hfr 4
    go_wp2_with fail
    rw [HF.out]
    refine bodyPost_ret (of_res rfl rfl (RC.all HRC.out _ _ _ _ _).x) rfl ?_
    exact of_end_none (Below.chain hbn hb1) (Nat.le_refl _) _ _ _ _ _
theorem pof_all : ∀ m, POfC m
  | 0 => pof_zero
  | m + 1 => pof_step m (pof_all m)
set_option maxHeartbeats 1000000 in
theorem rof_zero : ROfC 0 := by
  intro b hbl w d hd hdu
  have HT := hid (refTexts_any b ((w.alloc (.cells #[.int .i64 0, .int .i64 0, .string ⟨#[]⟩, .slice none 0 0, .slice none 0 0] 25)).alloc (.cells #[.int .i64 0, .int .i64 0, .string ⟨#[]⟩, .slice none 0 0, .slice none 0 0] 25)) (by omega))
  have HF : Hid (ofV 0 b = none) := hid rfl
  unfold TextsPost at HT
  generalize ofV 0 b = res at *
  generalize hc : (textsL b).2 = c at *
  generalize hts : (textsL b).1 = ts at *
  clear hc hts
  have hbn := below_new2 w (.cells #[.int .i64 0, .int .i64 0, .string ⟨#[]⟩, .slice none 0 0, .slice none 0 0] 25) (.cells #[.int .i64 0, .int .i64 0, .string ⟨#[]⟩, .slice none 0 0, .slice none 0 0] 25)
  have HN0 := hid ((rc_new w 0 0 [] (.slice none 0 0) (.slice none 0 0)).keep (below_new (w.alloc (.cells #[.int .i64 0, .int .i64 0, .string ⟨#[]⟩, .slice none 0 0, .slice none 0 0] 25)) (.cells #[.int .i64 0, .int .i64 0, .string ⟨#[]⟩, .slice none 0 0, .slice none 0 0] 25)))
  have HN1 : Hid (RC ((w.alloc (.cells #[.int .i64 0, .int .i64 0, .string ⟨#[]⟩, .slice none 0 0, .slice none 0 0] 25)).alloc (.cells #[.int .i64 0, .int .i64 0, .string ⟨#[]⟩, .slice none 0 0, .slice none 0 0] 25)) (w.heap.size + 1) 0 0 [] (.slice none 0 0) (.slice none 0 0)) := hid (by have := rc_new (w.alloc (.cells #[.int .i64 0, .int .i64 0, .string ⟨#[]⟩, .slice none 0 0, .slice none 0 0] 25)) 0 0 [] (.slice none 0 0) (.slice none 0 0); rw [World.size_alloc] at this; exact this)
  have qd : (d == 0) = true := eqT (by omega)
  clear hd
  by_cases hc0 : c = 0
  case neg =>
    have q : ((c : Int) != 0) = true := neT (by omega)
    clear hc0
    go_enter Tryz.func36, Tryz.ntmps36
    go_wp2_with fail
    refine HT.out.mono ?_
    rintro e w1 ⟨v, rfl, hsl, hb1⟩
    have HQ := hid (HN0.out.keep hb1)
    have HM := hid (HN1.out.keep hb1)
    have hbq := Below.chain hbn hb1
    obtain ⟨-, va, vc, rfl, hvc, hvm, hvx⟩ := hsl.str
    obtain ⟨⟨c0, c1, c2, c3, c4⟩, hfr⟩ := HQ.out
    have f0 := hfr 0
    have f1 := hfr 1
    have f2 := hfr 2
    have f3 := hfr 3
    have f4 := hfr 4
    obtain ⟨n0, n1, n2, n3, n4⟩ := (HM.out).x
    go_wp2_with fail
    rw [HF.out]
    refine bodyPost_ret (rof_res rfl rfl (RC.all HQ.out _ _ _ _ _).x) rfl ?_
    exact of_end_none hbq (Nat.le_refl _) _ _ _ _ _
  subst hc0
  cases ts with
  | nil =>
    go_enter Tryz.func36, Tryz.ntmps36
    go_wp2_with fail
    refine HT.out.mono ?_
    rintro e w1 ⟨v, rfl, hsl, hb1⟩
    have HQ := hid (HN0.out.keep hb1)
    have HM := hid (HN1.out.keep hb1)
    have hbq := Below.chain hbn hb1
    obtain ⟨-, va, vc, rfl, hvc, hvm, hvx⟩ := hsl.str
    obtain ⟨⟨c0, c1, c2, c3, c4⟩, hfr⟩ := HQ.out
    have f0 := hfr 0
    have f1 := hfr 1
    have f2 := hfr 2
    have f3 := hfr 3
    have f4 := hfr 4
    obtain ⟨n0, n1, n2, n3, n4⟩ := (HM.out).x
    go_wp2_with fail
    rw [HF.out]
    refine bodyPost_ret (rof_res rfl rfl (RC.all HQ.out _ _ _ _ _).x) rfl ?_
    exact of_end_none hbq (Nat.le_refl _) _ _ _ _ _
  | cons t r =>
    have ql : ((r.length : Int) + 1 == 0) = false := eqF (by omega)
    go_enter Tryz.func36, Tryz.ntmps36
    go_wp2_with fail
    refine HT.out.mono ?_
    rintro e w1 ⟨v, rfl, hsl, hb1⟩
    have HQ := hid (HN0.out.keep hb1)
    have HM := hid (HN1.out.keep hb1)
    have hbq := Below.chain hbn hb1
    obtain ⟨-, va, vc, rfl, hvc, hvm, hvx⟩ := hsl.str
    obtain ⟨⟨c0, c1, c2, c3, c4⟩, hfr⟩ := HQ.out
    have f0 := hfr 0
    have f1 := hfr 1
    have f2 := hfr 2
    have f3 := hfr 3
    have f4 := hfr 4
    obtain ⟨n0, n1, n2, n3, n4⟩ := (HM.out).x
    go_wp2_with fail
    rw [HF.out]
    refine bodyPost_ret (rof_res rfl rfl (RC.all HQ.out _ _ _ _ _).x) rfl ?_
    exact of_end_none hbq (Nat.le_refl _) _ _ _ _ _
set_option maxHeartbeats 1000000 in
theorem rof_step (m : Nat) (IH : ROfC m) : ROfC (m + 1) := by
  intro b hbl w d hd hdu
  by_cases hc0 : (textsL b).2 = 0
  · cases hts : (textsL b).1 with
    | cons t r =>
      by_cases hl : t = wList
      · exact rof_list m IH b hbl w d hd hdu t r hc0 hts hl
      by_cases hdc : t = wDict ∧ r.length % 2 = 0
      · exact rof_dict m IH b hbl w d hd hdu t r hc0 hts hdc.1 hdc.2
      · exact rof_other m IH b hbl w d hd hdu t r hc0 hts hl hdc
    | nil =>
      have HF : Hid (ofV (m + 1) b = none) := hid (by show ofP (ofV m) b = none; unfold ofP; rw [hc0, hts]; rfl)
      have HT := hid (refTexts_any b ((w.alloc (.cells #[.int .i64 0, .int .i64 0, .string ⟨#[]⟩, .slice none 0 0, .slice none 0 0] 25)).alloc (.cells #[.int .i64 0, .int .i64 0, .string ⟨#[]⟩, .slice none 0 0, .slice none 0 0] 25)) (by omega))
      unfold TextsPost at HT
      rw [hc0, hts] at HT
      generalize ofV (m + 1) b = res at *
      clear hc0 hts IH hd
      have hbn := below_new2 w (.cells #[.int .i64 0, .int .i64 0, .string ⟨#[]⟩, .slice none 0 0, .slice none 0 0] 25) (.cells #[.int .i64 0, .int .i64 0, .string ⟨#[]⟩, .slice none 0 0, .slice none 0 0] 25)
      have HN0 := hid ((rc_new w 0 0 [] (.slice none 0 0) (.slice none 0 0)).keep (below_new (w.alloc (.cells #[.int .i64 0, .int .i64 0, .string ⟨#[]⟩, .slice none 0 0, .slice none 0 0] 25)) (.cells #[.int .i64 0, .int .i64 0, .string ⟨#[]⟩, .slice none 0 0, .slice none 0 0] 25)))
      have HN1 : Hid (RC ((w.alloc (.cells #[.int .i64 0, .int .i64 0, .string ⟨#[]⟩, .slice none 0 0, .slice none 0 0] 25)).alloc (.cells #[.int .i64 0, .int .i64 0, .string ⟨#[]⟩, .slice none 0 0, .slice none 0 0] 25)) (w.heap.size + 1) 0 0 [] (.slice none 0 0) (.slice none 0 0)) := hid (by have := rc_new (w.alloc (.cells #[.int .i64 0, .int .i64 0, .string ⟨#[]⟩, .slice none 0 0, .slice none 0 0] 25)) 0 0 [] (.slice none 0 0) (.slice none 0 0); rw [World.size_alloc] at this; exact this)
      go_enter Tryz.func36, Tryz.ntmps36
      go_wp2_with fail
      refine HT.out.mono ?_
      rintro e w1 ⟨v, rfl, hsl, hb1⟩
      have HQ := hid (HN0.out.keep hb1)
      have HM := hid (HN1.out.keep hb1)
      have hbq := Below.chain hbn hb1
      obtain ⟨-, va, vc, rfl, hvc, hvm, hvx⟩ := hsl.str
      obtain ⟨⟨c0, c1, c2, c3, c4⟩, hfr⟩ := HQ.out
      have f0 := hfr 0
      have f1 := hfr 1
      have f2 := hfr 2
      have f3 := hfr 3
      have f4 := hfr 4
      obtain ⟨n0, n1, n2, n3, n4⟩ := (HM.out).x
      go_wp2_with fail
      rw [HF.out]
      refine bodyPost_ret (rof_res rfl rfl (RC.all HQ.out _ _ _ _ _).x) rfl ?_
      exact of_end_none hbq (Nat.le_refl _) _ _ _ _ _
  · have HF : Hid (ofV (m + 1) b = none) := hid (by show ofP (ofV m) b = none; unfold ofP; rw [if_pos hc0])
    have HT := hid (refTexts_any b ((w.alloc (.cells #[.int .i64 0, .int .i64 0, .string ⟨#[]⟩, .slice none 0 0, .slice none 0 0] 25)).alloc (.cells #[.int .i64 0, .int .i64 0, .string ⟨#[]⟩, .slice none 0 0, .slice none 0 0] 25)) (by omega))
    unfold TextsPost at HT
    generalize ofV (m + 1) b = res at *
    generalize hc : (textsL b).2 = c at *
    generalize (textsL b).1 = ts at *
    have q : ((c : Int) != 0) = true := neT (by omega)
    clear hc0 hc IH hd
    have hbn := below_new2 w (.cells #[.int .i64 0, .int .i64 0, .string ⟨#[]⟩, .slice none 0 0, .slice none 0 0] 25) (.cells #[.int .i64 0, .int .i64 0, .string ⟨#[]⟩, .slice none 0 0, .slice none 0 0] 25)
    have HN0 := hid ((rc_new w 0 0 [] (.slice none 0 0) (.slice none 0 0)).keep (below_new (w.alloc (.cells #[.int .i64 0, .int .i64 0, .string ⟨#[]⟩, .slice none 0 0, .slice none 0 0] 25)) (.cells #[.int .i64 0, .int .i64 0, .string ⟨#[]⟩, .slice none 0 0, .slice none 0 0] 25)))
    have HN1 : Hid (RC ((w.alloc (.cells #[.int .i64 0, .int .i64 0, .string ⟨#[]⟩, .slice none 0 0, .slice none 0 0] 25)).alloc (.cells #[.int .i64 0, .int .i64 0, .string ⟨#[]⟩, .slice none 0 0, .slice none 0 0] 25)) (w.heap.size + 1) 0 0 [] (.slice none 0 0) (.slice none 0 0)) := hid (by have := rc_new (w.alloc (.cells #[.int .i64 0, .int .i64 0, .string ⟨#[]⟩, .slice none 0 0, .slice none 0 0] 25)) 0 0 [] (.slice none 0 0) (.slice none 0 0); rw [World.size_alloc] at this; exact this)
    go_enter Tryz.func36, Tryz.ntmps36
    go_wp2_with fail
    refine HT.out.mono ?_
    rintro e w1 ⟨v, rfl, hsl, hb1⟩
    have HQ := hid (HN0.out.keep hb1)
    have HM := hid (HN1.out.keep hb1)
    have hbq := Below.chain hbn hb1
    obtain ⟨-, va, vc, rfl, hvc, hvm, hvx⟩ := hsl.str
    obtain ⟨⟨c0, c1, c2, c3, c4⟩, hfr⟩ := HQ.out
    have f0 := hfr 0
    have f1 := hfr 1
    have f2 := hfr 2
    have f3 := hfr 3
    have f4 := hfr 4
    obtain ⟨n0, n1, n2, n3, n4⟩ := (HM.out).x
    go_wp2_with fail
    rw [HF.out]
    refine bodyPost_ret (rof_res rfl rfl (RC.all HQ.out _ _ _ _ _).x) rfl ?_
    exact of_end_none hbq (Nat.le_refl _) _ _ _ _ _
theorem rof_all : ∀ m, ROfC m
  | 0 => rof_zero
  | m + 1 => rof_step m (rof_all m)
end Go.Proofs.YtnfjlimecoikpaaGreatDoor
