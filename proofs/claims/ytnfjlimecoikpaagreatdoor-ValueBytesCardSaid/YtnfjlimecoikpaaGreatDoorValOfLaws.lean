/- The laws ValueReads, ValueBytes. -/
import Derived.Test.YtnfjlimecoikpaaGreatDoorValOfTop
import Derived.Test.YtnfjlimecoikpaaGreatDoorValBytes
import Derived.Test.YtnfjlimecoikpaaGreatDoorValSame
import Derived.Test.YtnfjlimecoikpaaGreatDoorValLaw1
namespace Go.Proofs.YtnfjlimecoikpaaGreatDoor
set_option maxRecDepth 100000
open Go.RowKit

mutual
theorem same_fit : ∀ a b : VM, sameB a b = true → fitB a = fitB b
  | .mk k n s lv kv l ks, .mk k' n' s' lv' kv' l' ks', h => by
    rw [same_mk] at h
    simp only [Bool.and_eq_true, decide_eq_true_eq] at h
    obtain ⟨⟨⟨⟨rfl, rfl⟩, rfl⟩, rfl⟩, hl⟩ := h
    simp [fitB, same_fitL l l' hl]
theorem same_fitL : ∀ a b : List VM, sameL a b = true → fitL a = fitL b
  | [], [], _ => rfl
  | v :: r, v' :: r', h => by
    have e1 : sameB v v' = true ∧ sameL r r' = true := by simpa [sameL] using h
    simp [fitL, same_fit v v' e1.1, same_fitL r r' e1.2]
  | [], _ :: _, h => by simp [sameL] at h
  | _ :: _, [], h => by simp [sameL] at h
end
theorem top_cases (b : List UInt8) : (∃ v, ofV 60 b = some v ∧ okB v = true ∧ topOf b = (v, 0)) ∨ topOf b = (noneV, 3) := by
  unfold topOf
  cases h : ofV 60 b with
  | none => exact .inr rfl
  | some v =>
    by_cases ho : okB v = true
    · exact .inl ⟨v, rfl, ho, by simp only [ho, if_true]⟩
    · exact .inr (by simp only [ho, if_false]; rfl)
theorem top_fit {b : List UInt8} {x : VM} (h : sameB x (topOf b).1 = true) : fitB x = true := by
  rw [same_fit _ _ h]
  rcases top_cases b with ⟨v, h1, -, h2⟩ | h2
  · rw [h2]; exact of_fit 60 b v h1
  · rw [h2]; rfl
theorem top_bytes {b : List UInt8} {x : VM} (h : sameB x (topOf b).1 = true) (hc : (topOf b).2 = 0) : bytesV x = b := by
  rcases top_cases b with ⟨v, h1, h3, h2⟩ | h2
  · rw [h2] at h
    unfold bytesV
    rw [if_pos (by rw [same_ok h]; exact h3), same_row _ _ h]
    exact of_row 60 b v h1
  · rw [h2] at hc; cases hc
theorem top_nil : topOf [] = (noneV, 3) := by
  have h : ofV 60 [] = none := by
    show ofP (ofV 59) [] = none
    unfold ofP
    rw [textsL_nil]; rfl
  unfold topOf; rw [h]
theorem top_row {v : VM} (h : okB v = true) (hf : fitB v = true) (hc : cnt v ≤ 2000) : ∃ v', topOf (rowV v) = (v', 0) ∧ sameB v' v = true := by
  have h' := h
  unfold okB at h
  simp only [Bool.and_eq_true, decide_eq_true_eq] at h
  obtain ⟨v', h1, h2⟩ := row_of v 60 h.1.2 h.2 hf hc
  refine ⟨v', ?_, h2⟩
  unfold topOf
  rw [h1]
  show (if okB v' = true then (v', 0) else (noneV, 3)) = _
  rw [if_pos (by rw [same_ok h2]; exact h')]
set_option maxHeartbeats 1000000 in
theorem law_vreads (b : List UInt8) (hbig : b.length ≤ 1000000000000000) (w : World) (ht : PowTab w) (he : ErrsAt w) :
    Calls Tryz.prog 7 #[.string (bs b)] w fun e w' => e = .returned (.bool true) ∧ Below w.heap.size w w' := by
  have HFx := hid (fun W (hW : Below w.heap.size w W) => fixed_any W (ht.below hW))
  by_cases hl : 500 < b.length
  · have q : (500 : Int) < (b.length : Int) := by omega
    go_enter Tryz.func7, Tryz.ntmps7
    go_wp2_with fail
    refine (HFx.out _ (Below.refl _ _)).mono ?_
    rintro e w2 ⟨rfl, hb2⟩
    go_wp2_with fail
    go_ret
    exact ⟨rfl, hb2⟩
  have q : ¬ (500 : Int) < (b.length : Int) := by omega
  have HP := hid (pOf_any b (by omega) w ht he)
  have HR := hid (fun W => rOf_any b (by omega) W)
  have HB := hid (fun x (h : sameB x (topOf b).1 = true) (hc : (topOf b).2 = 0) => top_bytes h hc)
  have HFt := hid (fun x (h : sameB x (topOf b).1 = true) => top_fit h)
  unfold TopRet at HP HR
  generalize (topOf b).2 = c at *
  generalize (topOf b).1 = tv at *
  clear hl
  go_enter Tryz.func7, Tryz.ntmps7
  go_wp2_with fail
  refine HP.out.mono ?_
  rintro e w1 ⟨k, n, s, lv, kv, l, ks, rfl, hH, hs, hb1⟩
  obtain ⟨⟨la, ln, lc, e1⟩, ka, kn, kc, e2⟩ := held_slices hH
  obtain rfl : lv = .slice la ln lc := e1
  obtain rfl : kv = .slice ka kn kc := e2
  have hba := below_new w1 (.cells #[.int .i64 k, .int .i64 n, .string (bs s), .slice la ln lc, .slice ka kn kc] 25)
  have HX1 := hid (box_new w1 k n s (.slice la ln lc) (.slice ka kn kc) 25 (0, 0))
  have hbA := Below.chain hb1 hba
  obtain ⟨WA, hWA⟩ : ∃ WA, WA = w1.alloc (.cells #[.int .i64 k, .int .i64 n, .string (bs s), .slice la ln lc, .slice ka kn kc] 25) := ⟨_, rfl⟩
  have HHx := hid (Held.below hba (Nat.le_refl _) hH)
  rw [← hWA] at hba HX1 hbA HHx
  go_upto_region 4 with fail
  rw [← hWA]
  clear hWA hH
  go_wp2_with fail
  refine (HR.out WA).mono ?_
  rintro e w2 ⟨k', n', s', lv', kv', l', ks', rfl, hH', hs', hb2⟩
  obtain ⟨⟨la', ln', lc', e1⟩, ka', kn', kc', e2⟩ := held_slices hH'
  obtain rfl : lv' = .slice la' ln' lc' := e1
  obtain rfl : kv' = .slice ka' kn' kc' := e2
  have hbb := below_new w2 (.cells #[.int .i64 k', .int .i64 n', .string (bs s'), .slice la' ln' lc', .slice ka' kn' kc'] 25)
  have HY1 := hid (box_new w2 k' n' s' (.slice la' ln' lc') (.slice ka' kn' kc') 25 (0, 0))
  have HHy := hid (Held.below hbb (Nat.le_refl _) hH')
  have hb2b := Below.chain hb2 hbb
  have hbB := Below.chain hbA hb2b
  obtain ⟨WB, hWB⟩ : ∃ WB, WB = w2.alloc (.cells #[.int .i64 k', .int .i64 n', .string (bs s'), .slice la' ln' lc', .slice ka' kn' kc'] 25) := ⟨_, rfl⟩
  have HX2 := hid (HX1.out.keeps hb2b)
  have HHx2 := hid (Held.below hb2b (Nat.le_refl _) HHx.out)
  rw [← hWB] at hb2b hbB HY1 HX2 HHy HHx2
  have hxy : sameB (.mk k n s (.slice la ln lc) (.slice ka kn kc) l ks) (.mk k' n' s' (.slice la' ln' lc') (.slice ka' kn' kc') l' ks') = true := same_trans _ _ _ hs (by rw [same_comm]; exact hs')
  have HS := hid (rsame_any (.mk k n s (.slice la ln lc) (.slice ka kn kc) l ks) (.mk k' n' s' (.slice la' ln' lc') (.slice ka' kn' kc') l' ks') WB HHx2.out HHy.out)
  rw [hxy] at HS
  have HBy := hid (fun W (hW : Below WB.heap.size WB W) r hr => pbytes_any k n s (.slice la ln lc) (.slice ka kn kc) l ks (HFt.out _ hs) W (Held.below hW (Nat.le_refl _) HHx2.out) (ht.below (Below.chain hbB hW)) r hr)
  have HBb := hid (fun hc => HB.out _ hs hc)
  clear hxy hs hs' hH'
  go_upto_region 5 with fail
  rw [← hWB]
  clear hWB
  obtain ⟨c0, c1, c2, c3, c4⟩ := HX2.out
  obtain ⟨d0, d1, d2, d3, d4⟩ := HY1.out
  have qc : ((c : Int) == (c : Int)) = true := beq_self_eq_true _
  go_wp2_with fail
  refine HS.out.mono ?_
  rintro e w3 ⟨rfl, hb3⟩
  have hb3' := Below.chain hbB hb3
  clear c0 c1 c2 c3 c4 d0 d1 d2 d3 d4
  obtain ⟨c0, c1, c2, c3, c4⟩ := HX2.out.keeps hb3
  obtain ⟨d0, d1, d2, d3, d4⟩ := HY1.out.keeps hb3
  by_cases hc : c = 0
  · have qn : ((c : Int) != 0) = false := neF (by omega)
    have HBz := hid (HBy.out w3 hb3 b (HBb.out hc))
    have qb : (b == b) = true := beq_self_eq_true _
    clear hc
    go_wp2_with fail
    refine HBz.out.mono ?_
    rintro e w4 ⟨rfl, hb4⟩
    go_wp2_with fail
    refine (HFx.out _ (Below.chain hb3' hb4)).mono ?_
    rintro e w5 ⟨rfl, hb5⟩
    go_wp2_with fail
    go_ret
    exact ⟨rfl, Below.chain (Below.chain hb3' hb4) hb5⟩
  · have qn : ((c : Int) != 0) = true := neT (by omega)
    clear hc
    go_wp2_with fail
    refine (HFx.out _ hb3').mono ?_
    rintro e w5 ⟨rfl, hb5⟩
    go_wp2_with fail
    go_ret
    exact ⟨rfl, Below.chain hb3' hb5⟩
set_option maxHeartbeats 1000000 in
theorem law_vbytes (k n : Int) (s : List UInt8) (lv kv : Value) (l : List VM) (ks : List (List UInt8)) (hf : fitB (.mk k n s lv kv l ks) = true) (w : World) (hH : Held w (.mk k n s lv kv l ks)) (ht : PowTab w) (he : ErrsAt w) :
    Calls Tryz.prog 6 #[valA k n s lv kv] w fun e w' => e = .returned (.bool true) ∧ Below w.heap.size w w' := by
  have HB0 := hid (box_new w k n s lv kv 25 (0, 0))
  have hq0 := below_new w (.cells #[.int .i64 k, .int .i64 n, .string (bs s), lv, kv] 25)
  have HG := hid (fun W (hW : Below w.heap.size w W) => rgreat_any k n s lv kv l ks W (hH.below hW (Nat.le_refl _)))
  have HFx := hid (fun W (hW : Below w.heap.size w W) => fixed_any W (ht.below hW))
  obtain ⟨ok, hok⟩ : ∃ ok, okB (.mk k n s lv kv l ks) = ok := ⟨_, rfl⟩
  have HC := hid (fun W (hW : Below w.heap.size w W) => rcheck_any k n s lv kv l ks W (hH.below hW (Nat.le_refl _)) ok hok)
  obtain ⟨r, hr⟩ : ∃ r, bytesV (.mk k n s lv kv l ks) = r := ⟨_, rfl⟩
  have HP := hid (fun W (hW : Below w.heap.size w W) => pbytes_any k n s lv kv l ks hf W (hH.below hW (Nat.le_refl _)) (ht.below hW) r hr)
  have HR := hid (fun W (hW : Below w.heap.size w W) => rbytes_any k n s lv kv l ks hf W (hH.below hW (Nat.le_refl _)) r hr)
  have HO := hid (fun W (hW : Below w.heap.size w W) h => pOf_any r h W (ht.below hW) (he.below hW))
  have HHv := hid (fun W (hW : Below w.heap.size w W) => hH.below hW (Nat.le_refl _))
  have HK : Hid (∀ g : Bool, g = false → (cnt (.mk k n s lv kv l ks) ≤ 20000 → g = (decide (60 < cnt (.mk k n s lv kv l ks)) || longB (.mk k n s lv kv l ks))) → r.length ≤ 1000000000 ∧ (ok = false → r = [] ∧ topOf r = (noneV, 3)) ∧ (ok = true → ∃ v', topOf r = (v', 0) ∧ sameB v' (.mk k n s lv kv l ks) = true)) := hid (fun g hg hx => by
    subst hg
    cases ok with
    | false =>
      have hr0 : r = [] := by rw [← hr]; unfold bytesV; rw [hok]; rfl
      subst hr0
      exact ⟨by simp, fun _ => ⟨rfl, top_nil⟩, fun h => by cases h⟩
    | true =>
      have ho := hok
      unfold okB at ho
      simp only [Bool.and_eq_true, decide_eq_true_eq] at ho
      have h60 := of_decide_eq_false (Bool.or_eq_false_iff.1 (hx ho.1.1).symm).1
      have hr0 : r = rowV (.mk k n s lv kv l ks) := by rw [← hr]; unfold bytesV; rw [hok]; rfl
      have hle := rowV_le (.mk k n s lv kv l ks) ho.2 hf ho.1.1
      rw [hr0]
      exact ⟨by omega, (fun h => by cases h), fun _ => top_row hok hf (by omega)⟩)
  clear hr hok hH hf ht he
  obtain ⟨c0, c1, c2, c3, c4⟩ := HB0.out
  go_enter Tryz.func6, Tryz.ntmps6
  go_wp2_with fail
  refine (HG.out _ hq0).mono ?_
  rintro e w1 ⟨g, rfl, hg, hb1⟩
  have hq1 := Below.chain hq0 hb1
  have HB1 := hid (HB0.out.keeps hb1)
  clear c0 c1 c2 c3 c4 hb1
  obtain ⟨c0, c1, c2, c3, c4⟩ := HB1.out
  cases g with
  | true =>
    go_wp2_with fail
    refine (HFx.out _ hq1).mono ?_
    rintro e wz ⟨rfl, hbz⟩
    go_wp2_with fail
    go_ret
    exact ⟨rfl, Below.chain hq1 hbz⟩
  | false =>
    obtain ⟨hrl, hk0, hk1⟩ := HK.out false rfl hg
    have HK0 := hid hk0
    have HK1 := hid hk1
    have qr : (r != r) = false := bne_self_eq_false r
    clear hg hk0 hk1 HK
    go_wp2_with fail
    refine (HP.out _ hq1).mono ?_
    rintro e w2 ⟨rfl, hb2⟩
    have hq2 := Below.chain hq1 hb2
    have HB2 := hid (HB1.out.keeps hb2)
    clear c0 c1 c2 c3 c4 hb2
    obtain ⟨c0, c1, c2, c3, c4⟩ := HB2.out
    go_wp2_with fail
    refine (HR.out _ hq2).mono ?_
    rintro e w3 ⟨rfl, hb3⟩
    have hq3 := Below.chain hq2 hb3
    have HB3 := hid (HB2.out.keeps hb3)
    clear c0 c1 c2 c3 c4 hb3
    obtain ⟨c0, c1, c2, c3, c4⟩ := HB3.out
    go_wp2_with fail
    refine (HO.out _ hq3 hrl).mono ?_
    rintro e w4 ⟨xk, xn, xs, lv', kv', xl, xks, rfl, hHx, hsx, hb4⟩
    obtain ⟨⟨la, ln, lc, e1⟩, ka, kn, kc, e2⟩ := held_slices hHx
    obtain rfl : lv' = .slice la ln lc := e1
    obtain rfl : kv' = .slice ka kn kc := e2
    have hq4 := Below.chain hq3 hb4
    have hba := below_new w4 (.cells #[.int .i64 xk, .int .i64 xn, .string (bs xs), .slice la ln lc, .slice ka kn kc] 25)
    have HX := hid (box_new w4 xk xn xs (.slice la ln lc) (.slice ka kn kc) 25 (0, 0))
    have HHx := hid (Held.below hba (Nat.le_refl _) hHx)
    have HB4 := hid ((HB3.out.keeps hb4).keeps hba)
    have hq5 := Below.chain hq4 hba
    have HSx := hid hsx
    obtain ⟨WA, hWA⟩ : ∃ WA, WA = w4.alloc (.cells #[.int .i64 xk, .int .i64 xn, .string (bs xs), .slice la ln lc, .slice ka kn kc] 25) := ⟨_, rfl⟩
    rw [← hWA] at HX HHx HB4 hq5
    obtain ⟨c, hc⟩ : ∃ c, (topOf r).2 = c := ⟨_, rfl⟩
    rw [hc]
    have HCc := hid hc
    go_upto_region 7 with fail
    rw [← hWA]
    clear hWA hHx hsx c0 c1 c2 c3 c4 hb4 hba hc
    obtain ⟨c0, c1, c2, c3, c4⟩ := HB4.out
    obtain ⟨d0, d1, d2, d3, d4⟩ := HX.out
    go_wp2_with fail
    refine (HC.out _ hq5).mono ?_
    rintro e w6 ⟨rfl, hb6⟩
    have hq6 := Below.chain hq5 hb6
    have HB6 := hid (HB4.out.keeps hb6)
    have HX6 := hid (HX.out.keeps hb6)
    clear c0 c1 c2 c3 c4 d0 d1 d2 d3 d4
    obtain ⟨c0, c1, c2, c3, c4⟩ := HB6.out
    obtain ⟨d0, d1, d2, d3, d4⟩ := HX6.out
    cases ok with
    | false =>
      obtain ⟨hr0, ht0⟩ := HK0.out rfl
      have hc3 : c = 3 := by rw [← HCc.out, ht0]
      subst hr0 hc3
      go_wp2_with fail
      refine (HFx.out _ hq6).mono ?_
      rintro e wz ⟨rfl, hbz⟩
      go_wp2_with fail
      go_ret
      exact ⟨rfl, Below.chain hq6 hbz⟩
    | true =>
      obtain ⟨v', ht0, hs0⟩ := HK1.out rfl
      have hc3 : c = 0 := by rw [← HCc.out, ht0]
      have hxv : sameB (.mk xk xn xs (.slice la ln lc) (.slice ka kn kc) xl xks) (.mk k n s lv kv l ks) = true := same_trans _ _ _ (by have := HSx.out; rw [ht0] at this; exact this) hs0
      have HS := hid (rsame_any (.mk xk xn xs (.slice la ln lc) (.slice ka kn kc) xl xks) (.mk k n s lv kv l ks) w6 (Held.below hb6 (Nat.le_refl _) HHx.out) (HHv.out _ hq6))
      rw [hxv] at HS
      subst hc3
      clear hxv hs0 ht0
      go_wp2_with fail
      refine HS.out.mono ?_
      rintro e w7 ⟨rfl, hb7⟩
      have hq7 := Below.chain hq6 hb7
      go_wp2_with fail
      refine (HFx.out _ hq7).mono ?_
      rintro e wz ⟨rfl, hbz⟩
      go_wp2_with fail
      go_ret
      exact ⟨rfl, Below.chain hq7 hbz⟩
end Go.Proofs.YtnfjlimecoikpaaGreatDoor
