/- The walks of the laws PackRows and PackTexts. -/
import Derived.Test.YtncdmaolcgpnkaaDoorPackLaws
import Derived.Test.YtncdmaolcgpnkaaDoorPackRow
import Derived.Test.YtncdmaolcgpnkaaDoorPackRefTexts
import GoSem.ClaimJoined
namespace Go.Proofs.YtncdmaolcgpnkaaDoor
open Go.RowKit

theorem sumLen_ge (ss : List (List UInt8)) : ∀ s ∈ ss, s.length + 1 ≤ sumLen ss := by
  induction ss with
  | nil => simp
  | cons t ss ih =>
    intro s hs
    have e : sumLen (t :: ss) = (t.length + 1) + sumLen ss := by simp [sumLen]
    rcases List.mem_cons.1 hs with rfl | hs
    · omega
    · have := ih s hs; omega
theorem rowL_len (ss : List (List UInt8)) (h : ∀ s ∈ ss, s.length < 1000000000) : (rowL ss).length ≤ 11 * sumLen ss := by
  induction ss with
  | nil => simp [rowL]
  | cons t ss ih =>
    have e : sumLen (t :: ss) = (t.length + 1) + sumLen ss := by simp [sumLen]
    have e2 : rowL (t :: ss) = (dig t.length ++ 58 :: t) ++ rowL ss := by simp [rowL]
    have := ih (fun s hs => h s (by simp [hs]))
    have hd := dig_len_le 8 t.length (by have := h t (by simp); omega)
    rw [e, e2]; simp; omega

set_option maxHeartbeats 400000 in
theorem law_rows (v0 : Value) (n0 : Nat) (ss : List (List UInt8)) (w : World) (h0 : SliceAt w 1 v0 n0 (strCells ss)) (hbig : ∀ s ∈ ss, s.length ≤ reachBytes) (ht : PowTab w) :
    Calls Tryd.prog 3 #[v0] w fun e w' => e = .returned (.bool true) ∧ Below w.heap.size w w' := by
  have hlong : ∀ W, Below w.heap.size w W → Calls Tryd.prog 9 #[v0] W fun e w' => e = .returned (.bool (longB ss)) ∧ W = w' :=
    fun W hb => long_any v0 n0 ss W (h0.below hb (Nat.le_refl _)) (fun s hs => by have := hbig s hs; simp only [reachBytes] at this; omega)
  clear hbig
  by_cases hl : longB ss = true
  · rw [hl] at hlong
    go_enter Tryd.func3, Tryd.ntmps3
    go_wp2_with fail
    refine (alive_any _ ht).mono ?_
    rintro e w1 ⟨rfl, hb1⟩
    go_wp2_with fail
    refine (hlong w1 hb1).mono ?_
    rintro e w2 ⟨rfl, rfl⟩
    go_wp2
    go_ret
    exact ⟨rfl, hb1⟩
  · rw [Bool.not_eq_true] at hl
    rw [hl] at hlong
    have hsum : sumLen ss ≤ 5000 := by have := of_decide_eq_false hl; omega
    have hsm : ∀ s ∈ ss, s.length < 1000000000 := fun s hs => by have := sumLen_ge ss s hs; omega
    have hrl := rowL_len ss hsm
    have Hrt := hid (texts_row ss hsm)
    clear hsm
    go_enter Tryd.func3, Tryd.ntmps3
    go_wp2_with fail
    refine (alive_any _ ht).mono ?_
    rintro e w1 ⟨rfl, hb1⟩
    go_wp2_with fail
    refine (hlong w1 hb1).mono ?_
    rintro e w2 ⟨rfl, rfl⟩
    go_wp2_with fail
    refine (row_any v0 n0 ss _ (h0.below hb1 (Nat.le_refl _)) (ht.below hb1) (by omega)).mono ?_
    rintro e w2 ⟨rfl, hb2⟩
    have hb12 := hb1.trans (hb2.mono hb1.size)
    go_wp2_with fail
    refine (texts_any (rowL ss) _ (by omega)).mono ?_
    rintro e w3 ⟨v, rfl, hv, hb3⟩
    rw [Hrt.out] at hv ⊢
    have hb13 := hb12.trans (hb3.mono hb12.size)
    go_wp2_with fail
    refine (refRow_any v0 n0 ss _ (h0.below hb13 (Nat.le_refl _)) (by omega)).mono ?_
    rintro e w4 ⟨rfl, hb4⟩
    have hb14 := hb13.trans (hb4.mono hb13.size)
    go_wp2_with fail
    refine (same_any v v0 _ n0 ss ss _ (hv.below hb4 (Nat.le_refl _)) (h0.below hb14 (Nat.le_refl _))).mono ?_
    rintro e w5 ⟨rfl, hd⟩
    rw [decide_eq_true rfl]
    go_wp2
    go_ret
    exact ⟨rfl, hb14.trans hd.below⟩

set_option maxHeartbeats 400000 in
theorem law_texts (l : List UInt8) (w : World) (hbig : l.length ≤ 140737488351232) (ht : PowTab w) :
    Calls Tryd.prog 4 #[.string (bs l)] w fun e w' => e = .returned (.bool true) ∧ Below w.heap.size w w' := by
  by_cases hl : 5000 < l.length
  · go_enter Tryd.func4, Tryd.ntmps4
    go_wp2_with fail
    refine (alive_any _ ht).mono ?_
    rintro e w1 ⟨rfl, hb1⟩
    go_wp2
    go_ret
    exact ⟨rfl, hb1⟩
  · by_cases hc : (textsL l).2 = 0
    · have Hc := hid hc
      have Hr := hid (row_texts' hc)
      clear hc
      go_enter Tryd.func4, Tryd.ntmps4
      go_wp2_with fail
      refine (alive_any _ ht).mono ?_
      rintro e w1 ⟨rfl, hb1⟩
      go_wp2_with fail
      refine (texts_any l _ (by omega)).mono ?_
      rintro e w2 ⟨v, rfl, hv, hb2⟩
      rw [Hc.out]
      have hb12 := hb1.trans (hb2.mono hb1.size)
      go_wp2_with fail
      refine (refTexts_any l _ (by omega)).mono ?_
      rintro e w3 ⟨v', rfl, hv', hb3⟩
      rw [Hc.out]
      have hb13 := hb12.trans (hb3.mono hb12.size)
      go_wp2_with fail
      refine (same_any v v' _ _ _ _ _ (hv.below hb3 (Nat.le_refl _)) hv').mono ?_
      rintro e w4 ⟨rfl, hd⟩
      rw [decide_eq_true rfl]
      have hb14 := hb13.trans (hd.below (B := w.heap.size))
      go_wp2_with fail
      have hv4 := (hv.below hb3 (Nat.le_refl _)).below (hd.below (B := w3.heap.size)) (Nat.le_refl _)
      refine (row_any v _ _ _ hv4 (ht.below hb14) (by rw [Hr.out]; omega)).mono ?_
      rintro e w5 ⟨rfl, hb5⟩
      rw [Hr.out]
      go_wp2
      go_ret
      exact ⟨rfl, hb14.trans (hb5.mono hb14.size)⟩
    · obtain ⟨c, hc'⟩ : ∃ c, (textsL l).2 = c := ⟨_, rfl⟩
      have hcn : ((c : Int) != 0) = true := by simp; omega
      have Hc := hid hc'
      clear hc hc'
      go_enter Tryd.func4, Tryd.ntmps4
      go_wp2_with fail
      refine (alive_any _ ht).mono ?_
      rintro e w1 ⟨rfl, hb1⟩
      go_wp2_with fail
      refine (texts_any l _ (by omega)).mono ?_
      rintro e w2 ⟨v, rfl, hv, hb2⟩
      rw [Hc.out]
      have hb12 := hb1.trans (hb2.mono hb1.size)
      go_wp2_with fail
      refine (refTexts_any l _ (by omega)).mono ?_
      rintro e w3 ⟨v', rfl, hv', hb3⟩
      rw [Hc.out]
      have hb13 := hb12.trans (hb3.mono hb12.size)
      go_wp2_with fail
      refine (same_any v v' _ _ _ _ _ (hv.below hb3 (Nat.le_refl _)) hv').mono ?_
      rintro e w4 ⟨rfl, hd⟩
      rw [decide_eq_true rfl]
      have hb14 := hb13.trans (hd.below (B := w.heap.size))
      go_wp2
      go_ret
      exact ⟨rfl, hb14⟩
end Go.Proofs.YtncdmaolcgpnkaaDoor
