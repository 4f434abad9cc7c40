/- The program's walk over values: may, kind by kind. -/
import Derived.Test.YtnfjlimecoikpaaGreatDoorValMay
import Derived.Test.YtnfjlimecoikpaaGreatDoorMQuiet
namespace Go.Proofs.YtnfjlimecoikpaaGreatDoor
set_option maxRecDepth 100000
open Go.RowKit

theorem node5 (n : Int) (s : List UInt8) (m : Nat) (ks : List (List UInt8)) : nodeB 5 n s m ks = (decide (n = 0) && s.isEmpty && decide (m ≤ 1000) && (m == ks.length && riseB ks)) := by unfold nodeB; simp
theorem node5_r {n : Int} {s : List UInt8} {m : Nat} {ks : List (List UInt8)} (hl : m = ks.length) (hz : (riseB ks && decide (ks.length ≤ 1000)) = false) : nodeB 5 n s m ks = false := by
  subst hl
  rw [node5]
  rcases Bool.and_eq_false_iff.1 hz with h | h
  · rw [h]; simp
  · rw [h]; simp
theorem node5_l {n : Int} {s : List UInt8} {m : Nat} {ks : List (List UInt8)} (hl : m ≠ ks.length) : nodeB 5 n s m ks = false := by
  rw [node5, beq_eq_false_iff_ne.2 hl]; simp
theorem node5_t {m : Nat} {ks : List (List UInt8)} (hl : m = ks.length) (hz : (riseB ks && decide (ks.length ≤ 1000)) = true) : nodeB 5 0 [] m ks = true := by
  subst hl
  rw [node5]
  simp only [Bool.and_eq_true] at hz
  rw [hz.1, hz.2]; simp
theorem node5_n {n : Int} {s : List UInt8} {m : Nat} {ks : List (List UInt8)} (hn : n ≠ 0) : nodeB 5 n s m ks = false := by rw [node5, decide_eq_false hn]; simp
theorem node5_s {n : Int} {s : List UInt8} {m : Nat} {ks : List (List UInt8)} (hs : s ≠ []) : nodeB 5 n s m ks = false := by
  rw [node5]
  cases s with
  | nil => exact absurd rfl hs
  | cons a b => simp
theorem s_set {W : World} {c B : Nat} {x y : Value} (h : W.cell? ⟨c, 3, none⟩ = some x ∧ W.cell? ⟨c, 4, none⟩ = some y) (hne : c ≠ B) (o : Nat) {v : Value} : (W.setCell ⟨B, o, none⟩ v).cell? ⟨c, 3, none⟩ = some x ∧ (W.setCell ⟨B, o, none⟩ v).cell? ⟨c, 4, none⟩ = some y :=
  ⟨by rw [World.cell?_setCell_other _ _ _ _ (fun e => hne (congrArg Addr.block e).symm)]; exact h.1, by rw [World.cell?_setCell_other _ _ _ _ (fun e => hne (congrArg Addr.block e).symm)]; exact h.2⟩
set_option maxHeartbeats 4000000 in
theorem may_k5 (n : Int) (s : List UInt8) (lv kv : Value) (l : List VM) (ks : List (List UInt8)) (d m b : Nat) (hdm : d ≤ 60 ∧ 0 < m ∧ m ≤ 1000000) (w : World) (hL : Left w b m) (hl : SliceAt w 5 lv l.length (vmCells l)) (hk : SliceAt w 1 kv ks.length (strCells ks))
    (hkw : ∀ W, But b w W → SliceAt W 1 kv ks.length (strCells ks)) (q r : Option Nat) (hr : r = if nodeB 5 n s l.length ks = false then none else q) (hC : ConC lv d m b q w) :
    Calls Tryz.prog 37 #[valA 5 n s lv kv, .int .i64 d, .pointer (some ⟨b, 0, none⟩)] w (MayRet r b w) := by
  have HR := hid hr
  have HC := hid hC
  have hlt := hL.lt
  obtain ⟨-, la, lc, rfl, hlc, hlm, -⟩ := hl.vms
  obtain ⟨-, ka, kc, rfl, hkc, hkm, -⟩ := hk.str
  unfold maxLen at hlm hkm
  obtain ⟨W, hW, q1, q2, q3, q4, q5, q6⟩ := may_three w 5 n s (.slice la l.length lc) (.slice ka ks.length kc) d b m hL 25 3 46
  obtain ⟨W2, hW2, r1, r2, r3, r4, r5, r6⟩ := may_store (y := (m : Int) - 1) (by omega : w.heap.size < W.heap.size) (by omega) (by omega) hlt q1 q2 q3 q4
  obtain ⟨W3, B, hW3, hB, hB1, hB2, s1, s2, s3, s4, s5, s6, s7⟩ := may_bare W2 w.heap.size b d 5 n ((m : Int) - 1) s _ _ 25 (by omega) r1 r2 r3 r4
  have HM := hid (MSt.mk s1 s2 s3 s4 s5 (((But.of q5).trans r5).trans (But.of s7)))
  obtain ⟨a0, a1, a2, a3, a4⟩ := s1
  obtain ⟨b0, b1, b2, b3, b4⟩ := s5
  have z1 := s6 1
  have z2 := s6 2
  have z3 := s6 3
  have z4 := s6 4
  obtain ⟨g0, g1⟩ := s4
  obtain ⟨c0, f0⟩ := q4
  obtain ⟨c1, f1⟩ := r4
  obtain ⟨v0, v1, v2, v3, v4⟩ := r1
  have hd1 : (d : Int) ≤ 60 := by omega
  have hm1 : 0 ≤ (m : Int) - 1 := by omega
  have hne : w.heap.size ≠ B := by omega
  clear hL q1 q5 r5 q6 r6 hl hk hr hC s7
  have HRi := hid (fun b0 (hb0 : (riseB ks && decide (ks.length ≤ 1000)) = b0) W (hW : But b w W) => rises_any (.slice ka ks.length kc) ks.length ks b0 hb0 W (hkw W hW))
  clear hkw
  by_cases hlen : l.length = ks.length
  · have u0 : ((l.length : Int) == (ks.length : Int)) = true := eqT (by omega)
    obtain ⟨z, hz⟩ : ∃ z, (riseB ks && decide (ks.length ≤ 1000)) = z := ⟨_, rfl⟩
    have HRz := hid (HRi.out z hz)
    cases z with
    | false =>
      have HF : Hid (r = none) := hid (by rw [HR.out, if_pos (node5_r hlen hz)])
      clear hz HRi hlen
      go_enter Tryz.func37, Tryz.ntmps37
      go_upto_region 1 with fail
      rw [← hW]
      clear hW
      go_upto_region 2 with fail
      rw [← hW2]
      clear hW2
      go_upto_region 5 with fail
      rw [← hW3, ← hB]
      clear hW3 hB
      go_wp2_with fail
      refine wp_region_wh (S := fun W => W.cell? ⟨w.heap.size, 3, none⟩ = some (.slice la l.length lc) ∧ W.cell? ⟨w.heap.size, 4, none⟩ = some (.slice ka ks.length kc)) (by kernel_rfl) ?_
      have hS : W3.drew.cell? ⟨w.heap.size, 3, none⟩ = some (.slice la l.length lc) ∧ W3.drew.cell? ⟨w.heap.size, 4, none⟩ = some (.slice ka ks.length kc) := ⟨a3, a4⟩
      refine WH.take 0 (some 67) rfl rfl (by kernel_rfl) (by kernel_rfl) (by kernel_rfl) (fun _ _ _ _ h => h) hS ?_
      apply Exists.intro
      refine ⟨⟨(by kernel_rfl), fun W hW => ?_⟩, ?_⟩
      · have e0 := hW.1
        have e1 := hW.2
        go_simp
        try rfl
      try simp only [Act.put, List.setIfInBounds_toArray, List.set_cons_zero, List.set_cons_succ]
      refine WH.take 1 (some 68) rfl rfl (by kernel_rfl) (by kernel_rfl) (by kernel_rfl) (fun _ _ _ _ h => h) hS ?_
      apply Exists.intro
      refine ⟨⟨(by kernel_rfl), fun W hW => ?_⟩, ?_⟩
      · have e0 := hW.1
        have e1 := hW.2
        go_simp
        try rfl
      try simp only [Act.put, List.setIfInBounds_toArray, List.set_cons_zero, List.set_cons_succ]
      refine WH.take 2 (some 69) rfl rfl (by kernel_rfl) (by kernel_rfl) (by kernel_rfl) (fun _ _ _ _ h => h) hS ?_
      apply Exists.intro
      refine ⟨⟨(by kernel_rfl), fun W hW => ?_⟩, ?_⟩
      · have e0 := hW.1
        have e1 := hW.2
        go_simp
        try rfl
      try simp only [Act.put, List.setIfInBounds_toArray, List.set_cons_zero, List.set_cons_succ]
      refine WH.take 3 (some 70) rfl rfl (by kernel_rfl) (by kernel_rfl) (by kernel_rfl) (fun _ _ _ _ h => h) hS ?_
      apply Exists.intro
      refine ⟨⟨(by kernel_rfl), fun W hW => ?_⟩, ?_⟩
      · have e0 := hW.1
        have e1 := hW.2
        go_simp
        try rfl
      try simp only [Act.put, List.setIfInBounds_toArray, List.set_cons_zero, List.set_cons_succ]
      refine WH.take 4 (some 71) rfl rfl (by kernel_rfl) (by kernel_rfl) (by kernel_rfl) (fun _ _ _ _ h => h) hS ?_
      apply Exists.intro
      refine ⟨⟨(by kernel_rfl), fun W hW => ?_⟩, ?_⟩
      · have e0 := hW.1
        have e1 := hW.2
        go_simp
        try rfl
      try simp only [Act.put, List.setIfInBounds_toArray, List.set_cons_zero, List.set_cons_succ]
      refine WH.take 5 (some 72) rfl rfl (by kernel_rfl) (by kernel_rfl) (by kernel_rfl) (fun _ _ _ _ h => h) hS ?_
      apply Exists.intro
      refine ⟨⟨(by kernel_rfl), fun W hW => ?_⟩, ?_⟩
      · have e0 := hW.1
        have e1 := hW.2
        go_simp
        try rfl
      try simp only [Act.put, List.setIfInBounds_toArray, List.set_cons_zero, List.set_cons_succ]
      refine WH.take 6 (some 73) rfl rfl (by kernel_rfl) (by kernel_rfl) (by kernel_rfl) (fun _ _ _ _ h => h) hS ?_
      apply Exists.intro
      refine ⟨⟨(by kernel_rfl), fun W hW => ?_⟩, ?_⟩
      · have e0 := hW.1
        have e1 := hW.2
        go_simp
        try rfl
      try simp only [Act.put, List.setIfInBounds_toArray, List.set_cons_zero, List.set_cons_succ]
      refine WH.take 7 (some 74) rfl rfl (by kernel_rfl) (by kernel_rfl) (by kernel_rfl) (fun _ _ _ _ h => h) hS ?_
      apply Exists.intro
      refine ⟨⟨(by kernel_rfl), fun W hW => ?_⟩, ?_⟩
      · have e0 := hW.1
        have e1 := hW.2
        go_simp
        try rfl
      try simp only [Act.put, List.setIfInBounds_toArray, List.set_cons_zero, List.set_cons_succ]
      refine WH.take 8 (some 75) rfl rfl (by kernel_rfl) (by kernel_rfl) (by kernel_rfl) (fun _ _ _ _ h => h) hS ?_
      apply Exists.intro
      refine ⟨⟨(by kernel_rfl), fun W hW => ?_⟩, ?_⟩
      · have e0 := hW.1
        have e1 := hW.2
        go_simp
        try rfl
      try simp only [Act.put, List.setIfInBounds_toArray, List.set_cons_zero, List.set_cons_succ]
      refine WH.take 9 (some 76) rfl rfl (by kernel_rfl) (by kernel_rfl) (by kernel_rfl) (fun _ _ _ _ h => h) hS ?_
      apply Exists.intro
      refine ⟨⟨(by kernel_rfl), fun W hW => ?_⟩, ?_⟩
      · have e0 := hW.1
        have e1 := hW.2
        go_simp
        try rfl
      try simp only [Act.put, List.setIfInBounds_toArray, List.set_cons_zero, List.set_cons_succ]
      refine WH.take 10 (some 77) rfl rfl (by kernel_rfl) (by kernel_rfl) (by kernel_rfl) (fun _ _ _ _ h => h) hS ?_
      apply Exists.intro
      refine ⟨⟨(by kernel_rfl), fun W hW => ?_⟩, ?_⟩
      · have e0 := hW.1
        have e1 := hW.2
        go_simp
        try rfl
      try simp only [Act.put, List.setIfInBounds_toArray, List.set_cons_zero, List.set_cons_succ]
      refine WH.take 11 (some 78) rfl rfl (by kernel_rfl) (by kernel_rfl) (by kernel_rfl) (fun _ _ _ _ h => h) hS ?_
      apply Exists.intro
      refine ⟨⟨(by kernel_rfl), fun W hW => ?_⟩, ?_⟩
      · have e0 := hW.1
        have e1 := hW.2
        go_simp
        try rfl
      try simp only [Act.put, List.setIfInBounds_toArray, List.set_cons_zero, List.set_cons_succ]
      refine WH.take 12 (some 79) rfl rfl (by kernel_rfl) (by kernel_rfl) (by kernel_rfl) (fun _ _ _ _ h => h) hS ?_
      apply Exists.intro
      refine ⟨⟨(by kernel_rfl), fun W hW => ?_⟩, ?_⟩
      · have e0 := hW.1
        have e1 := hW.2
        go_simp
        try rfl
      try simp only [Act.put, List.setIfInBounds_toArray, List.set_cons_zero, List.set_cons_succ]
      refine WH.take 13 (some 80) rfl rfl (by kernel_rfl) (by kernel_rfl) (by kernel_rfl) (fun _ _ _ _ h => h) hS ?_
      apply Exists.intro
      refine ⟨⟨(by kernel_rfl), fun W hW => ?_⟩, ?_⟩
      · have e0 := hW.1
        have e1 := hW.2
        go_simp
        try rfl
      try simp only [Act.put, List.setIfInBounds_toArray, List.set_cons_zero, List.set_cons_succ]
      refine WH.take 16 (some 83) rfl rfl (by kernel_rfl) (by kernel_rfl) (by kernel_rfl) (fun _ _ _ _ h => h) hS ?_
      apply Exists.intro
      refine ⟨⟨(by kernel_rfl), fun W hW => ?_⟩, ?_⟩
      · have e0 := hW.1
        have e1 := hW.2
        go_simp
        try rfl
      try simp only [Act.put, List.setIfInBounds_toArray, List.set_cons_zero, List.set_cons_succ]
      refine WH.one 14 (by kernel_rfl) rfl (by kernel_rfl) ?_
      intro K hK
      go_simp
      refine (HRz.out _ (HM.out.t.past (Below.refl _ _).drew)).mono ?_
      rintro e w8 ⟨rfl, rfl⟩
      go_wp2_with fail
      refine hK.out _ _ hS ?_
      clear hK K
      try simp only [Act.put, List.setIfInBounds_toArray, List.set_cons_zero, List.set_cons_succ]
      refine WH.take 15 (some 82) rfl rfl (by kernel_rfl) (by kernel_rfl) (by kernel_rfl) (fun _ _ _ _ h => h) hS ?_
      apply Exists.intro
      refine ⟨⟨(by kernel_rfl), fun W hW => ?_⟩, ?_⟩
      · have e0 := hW.1
        have e1 := hW.2
        go_simp
        try rfl
      try simp only [Act.put, List.setIfInBounds_toArray, List.set_cons_zero, List.set_cons_succ]
      refine WH.one 17 (by kernel_rfl) rfl (by kernel_rfl) ?_
      intro K hK
      go_simp
      refine hK.out _ _ (s_set hS hne 3) ?_
      replace hS := s_set hS hne 3 (v := .slice la l.length lc)
      clear hK K
      try simp only [Act.put, List.setIfInBounds_toArray, List.set_cons_zero, List.set_cons_succ]
      refine WH.take 18 (some 84) rfl rfl (by kernel_rfl) (by kernel_rfl) (by kernel_rfl) (fun _ _ _ _ h => h) hS ?_
      apply Exists.intro
      refine ⟨⟨(by kernel_rfl), fun W hW => ?_⟩, ?_⟩
      · have e0 := hW.1
        have e1 := hW.2
        go_simp
        try rfl
      try simp only [Act.put, List.setIfInBounds_toArray, List.set_cons_zero, List.set_cons_succ]
      refine WH.one 19 (by kernel_rfl) rfl (by kernel_rfl) ?_
      intro K hK
      go_simp
      refine hK.out _ _ (s_set hS hne 4) ?_
      replace hS := s_set hS hne 4 (v := .slice ka ks.length kc)
      clear hK K
      try simp only [Act.put, List.setIfInBounds_toArray, List.set_cons_zero, List.set_cons_succ]
      refine WH.take 20 (some 8) rfl rfl (by kernel_rfl) (by kernel_rfl) (by kernel_rfl) (fun _ _ _ _ h => h) hS ?_
      apply Exists.intro
      refine ⟨⟨(by kernel_rfl), fun W hW => ?_⟩, ?_⟩
      · have e0 := hW.1
        have e1 := hW.2
        go_simp
        try rfl
      try simp only [Act.put, List.setIfInBounds_toArray, List.set_cons_zero, List.set_cons_succ]
      refine WH.done (by kernel_rfl) ?_
      go_upto_region 19 with fail
      obtain ⟨W4, hW4⟩ : ∃ W4, W4 = ((W3.setCell ⟨B, 3, none⟩ (.slice la l.length lc)).setCell ⟨B, 4, none⟩ (.slice ka ks.length kc)).drew := ⟨_, rfl⟩
      rw [← hW4]
      have hb4 := ((below_set (W := W3) B 3 (.slice la l.length lc)).trans (below_set (W := W3.setCell ⟨B, 3, none⟩ (.slice la l.length lc)) B 4 (.slice ka ks.length kc))).drew
      have he4 := (box_set4 (box_set3 HM.out.e (.slice la l.length lc)) (.slice ka ks.length kc)).drew
      rw [← hW4] at hb4 he4
      have HM4 := hid (HM.out.go hlt hB1 hb4 he4)
      clear hb4 he4
      clear hW4 a0 a1 a2 a3 a4 b0 b1 b2 b3 b4 g0 g1 z1 z2 z3 z4 s2 s3
      obtain ⟨⟨x0, x1, x2, x3, x4⟩, xp, xq, ⟨xl, xf⟩, ⟨y0, y1, y2, y3, y4⟩, -⟩ := HM4.out
      go_wp2_with fail
      go_ret
      exact ⟨(m : Int) - 1, by rw [HF.out]; rfl, (fun m' h => by rw [HF.out] at h; cases h), HM4.out.t, HM4.out.l⟩
    | true =>
      by_cases hn : n = 0
      · subst hn
        by_cases hs : s = []
        · subst hs
          have HF : Hid (r = q) := hid (by rw [HR.out, if_neg (by rw [node5_t hlen hz]; simp)])
          clear hz HRi hlen
          go_enter Tryz.func37, Tryz.ntmps37
          go_upto_region 1 with fail
          rw [← hW]
          clear hW
          go_upto_region 2 with fail
          rw [← hW2]
          clear hW2
          go_upto_region 5 with fail
          rw [← hW3, ← hB]
          clear hW3 hB
          go_wp2_with fail
          refine wp_region_wh (S := fun W => W.cell? ⟨w.heap.size, 3, none⟩ = some (.slice la l.length lc) ∧ W.cell? ⟨w.heap.size, 4, none⟩ = some (.slice ka ks.length kc)) (by kernel_rfl) ?_
          have hS : W3.drew.cell? ⟨w.heap.size, 3, none⟩ = some (.slice la l.length lc) ∧ W3.drew.cell? ⟨w.heap.size, 4, none⟩ = some (.slice ka ks.length kc) := ⟨a3, a4⟩
          refine WH.take 0 (some 67) rfl rfl (by kernel_rfl) (by kernel_rfl) (by kernel_rfl) (fun _ _ _ _ h => h) hS ?_
          apply Exists.intro
          refine ⟨⟨(by kernel_rfl), fun W hW => ?_⟩, ?_⟩
          · have e0 := hW.1
            have e1 := hW.2
            go_simp
            try rfl
          try simp only [Act.put, List.setIfInBounds_toArray, List.set_cons_zero, List.set_cons_succ]
          refine WH.take 1 (some 68) rfl rfl (by kernel_rfl) (by kernel_rfl) (by kernel_rfl) (fun _ _ _ _ h => h) hS ?_
          apply Exists.intro
          refine ⟨⟨(by kernel_rfl), fun W hW => ?_⟩, ?_⟩
          · have e0 := hW.1
            have e1 := hW.2
            go_simp
            try rfl
          try simp only [Act.put, List.setIfInBounds_toArray, List.set_cons_zero, List.set_cons_succ]
          refine WH.take 2 (some 69) rfl rfl (by kernel_rfl) (by kernel_rfl) (by kernel_rfl) (fun _ _ _ _ h => h) hS ?_
          apply Exists.intro
          refine ⟨⟨(by kernel_rfl), fun W hW => ?_⟩, ?_⟩
          · have e0 := hW.1
            have e1 := hW.2
            go_simp
            try rfl
          try simp only [Act.put, List.setIfInBounds_toArray, List.set_cons_zero, List.set_cons_succ]
          refine WH.take 3 (some 70) rfl rfl (by kernel_rfl) (by kernel_rfl) (by kernel_rfl) (fun _ _ _ _ h => h) hS ?_
          apply Exists.intro
          refine ⟨⟨(by kernel_rfl), fun W hW => ?_⟩, ?_⟩
          · have e0 := hW.1
            have e1 := hW.2
            go_simp
            try rfl
          try simp only [Act.put, List.setIfInBounds_toArray, List.set_cons_zero, List.set_cons_succ]
          refine WH.take 4 (some 71) rfl rfl (by kernel_rfl) (by kernel_rfl) (by kernel_rfl) (fun _ _ _ _ h => h) hS ?_
          apply Exists.intro
          refine ⟨⟨(by kernel_rfl), fun W hW => ?_⟩, ?_⟩
          · have e0 := hW.1
            have e1 := hW.2
            go_simp
            try rfl
          try simp only [Act.put, List.setIfInBounds_toArray, List.set_cons_zero, List.set_cons_succ]
          refine WH.take 5 (some 72) rfl rfl (by kernel_rfl) (by kernel_rfl) (by kernel_rfl) (fun _ _ _ _ h => h) hS ?_
          apply Exists.intro
          refine ⟨⟨(by kernel_rfl), fun W hW => ?_⟩, ?_⟩
          · have e0 := hW.1
            have e1 := hW.2
            go_simp
            try rfl
          try simp only [Act.put, List.setIfInBounds_toArray, List.set_cons_zero, List.set_cons_succ]
          refine WH.take 6 (some 73) rfl rfl (by kernel_rfl) (by kernel_rfl) (by kernel_rfl) (fun _ _ _ _ h => h) hS ?_
          apply Exists.intro
          refine ⟨⟨(by kernel_rfl), fun W hW => ?_⟩, ?_⟩
          · have e0 := hW.1
            have e1 := hW.2
            go_simp
            try rfl
          try simp only [Act.put, List.setIfInBounds_toArray, List.set_cons_zero, List.set_cons_succ]
          refine WH.take 7 (some 74) rfl rfl (by kernel_rfl) (by kernel_rfl) (by kernel_rfl) (fun _ _ _ _ h => h) hS ?_
          apply Exists.intro
          refine ⟨⟨(by kernel_rfl), fun W hW => ?_⟩, ?_⟩
          · have e0 := hW.1
            have e1 := hW.2
            go_simp
            try rfl
          try simp only [Act.put, List.setIfInBounds_toArray, List.set_cons_zero, List.set_cons_succ]
          refine WH.take 8 (some 75) rfl rfl (by kernel_rfl) (by kernel_rfl) (by kernel_rfl) (fun _ _ _ _ h => h) hS ?_
          apply Exists.intro
          refine ⟨⟨(by kernel_rfl), fun W hW => ?_⟩, ?_⟩
          · have e0 := hW.1
            have e1 := hW.2
            go_simp
            try rfl
          try simp only [Act.put, List.setIfInBounds_toArray, List.set_cons_zero, List.set_cons_succ]
          refine WH.take 9 (some 76) rfl rfl (by kernel_rfl) (by kernel_rfl) (by kernel_rfl) (fun _ _ _ _ h => h) hS ?_
          apply Exists.intro
          refine ⟨⟨(by kernel_rfl), fun W hW => ?_⟩, ?_⟩
          · have e0 := hW.1
            have e1 := hW.2
            go_simp
            try rfl
          try simp only [Act.put, List.setIfInBounds_toArray, List.set_cons_zero, List.set_cons_succ]
          refine WH.take 10 (some 77) rfl rfl (by kernel_rfl) (by kernel_rfl) (by kernel_rfl) (fun _ _ _ _ h => h) hS ?_
          apply Exists.intro
          refine ⟨⟨(by kernel_rfl), fun W hW => ?_⟩, ?_⟩
          · have e0 := hW.1
            have e1 := hW.2
            go_simp
            try rfl
          try simp only [Act.put, List.setIfInBounds_toArray, List.set_cons_zero, List.set_cons_succ]
          refine WH.take 11 (some 78) rfl rfl (by kernel_rfl) (by kernel_rfl) (by kernel_rfl) (fun _ _ _ _ h => h) hS ?_
          apply Exists.intro
          refine ⟨⟨(by kernel_rfl), fun W hW => ?_⟩, ?_⟩
          · have e0 := hW.1
            have e1 := hW.2
            go_simp
            try rfl
          try simp only [Act.put, List.setIfInBounds_toArray, List.set_cons_zero, List.set_cons_succ]
          refine WH.take 12 (some 79) rfl rfl (by kernel_rfl) (by kernel_rfl) (by kernel_rfl) (fun _ _ _ _ h => h) hS ?_
          apply Exists.intro
          refine ⟨⟨(by kernel_rfl), fun W hW => ?_⟩, ?_⟩
          · have e0 := hW.1
            have e1 := hW.2
            go_simp
            try rfl
          try simp only [Act.put, List.setIfInBounds_toArray, List.set_cons_zero, List.set_cons_succ]
          refine WH.take 13 (some 80) rfl rfl (by kernel_rfl) (by kernel_rfl) (by kernel_rfl) (fun _ _ _ _ h => h) hS ?_
          apply Exists.intro
          refine ⟨⟨(by kernel_rfl), fun W hW => ?_⟩, ?_⟩
          · have e0 := hW.1
            have e1 := hW.2
            go_simp
            try rfl
          try simp only [Act.put, List.setIfInBounds_toArray, List.set_cons_zero, List.set_cons_succ]
          refine WH.take 16 (some 83) rfl rfl (by kernel_rfl) (by kernel_rfl) (by kernel_rfl) (fun _ _ _ _ h => h) hS ?_
          apply Exists.intro
          refine ⟨⟨(by kernel_rfl), fun W hW => ?_⟩, ?_⟩
          · have e0 := hW.1
            have e1 := hW.2
            go_simp
            try rfl
          try simp only [Act.put, List.setIfInBounds_toArray, List.set_cons_zero, List.set_cons_succ]
          refine WH.one 14 (by kernel_rfl) rfl (by kernel_rfl) ?_
          intro K hK
          go_simp
          refine (HRz.out _ (HM.out.t.past (Below.refl _ _).drew)).mono ?_
          rintro e w8 ⟨rfl, rfl⟩
          go_wp2_with fail
          refine hK.out _ _ hS ?_
          clear hK K
          try simp only [Act.put, List.setIfInBounds_toArray, List.set_cons_zero, List.set_cons_succ]
          refine WH.take 15 (some 82) rfl rfl (by kernel_rfl) (by kernel_rfl) (by kernel_rfl) (fun _ _ _ _ h => h) hS ?_
          apply Exists.intro
          refine ⟨⟨(by kernel_rfl), fun W hW => ?_⟩, ?_⟩
          · have e0 := hW.1
            have e1 := hW.2
            go_simp
            try rfl
          try simp only [Act.put, List.setIfInBounds_toArray, List.set_cons_zero, List.set_cons_succ]
          refine WH.one 17 (by kernel_rfl) rfl (by kernel_rfl) ?_
          intro K hK
          go_simp
          refine hK.out _ _ (s_set hS hne 3) ?_
          replace hS := s_set hS hne 3 (v := .slice la l.length lc)
          clear hK K
          try simp only [Act.put, List.setIfInBounds_toArray, List.set_cons_zero, List.set_cons_succ]
          refine WH.take 18 (some 84) rfl rfl (by kernel_rfl) (by kernel_rfl) (by kernel_rfl) (fun _ _ _ _ h => h) hS ?_
          apply Exists.intro
          refine ⟨⟨(by kernel_rfl), fun W hW => ?_⟩, ?_⟩
          · have e0 := hW.1
            have e1 := hW.2
            go_simp
            try rfl
          try simp only [Act.put, List.setIfInBounds_toArray, List.set_cons_zero, List.set_cons_succ]
          refine WH.one 19 (by kernel_rfl) rfl (by kernel_rfl) ?_
          intro K hK
          go_simp
          refine hK.out _ _ (s_set hS hne 4) ?_
          replace hS := s_set hS hne 4 (v := .slice ka ks.length kc)
          clear hK K
          try simp only [Act.put, List.setIfInBounds_toArray, List.set_cons_zero, List.set_cons_succ]
          refine WH.take 20 (some 8) rfl rfl (by kernel_rfl) (by kernel_rfl) (by kernel_rfl) (fun _ _ _ _ h => h) hS ?_
          apply Exists.intro
          refine ⟨⟨(by kernel_rfl), fun W hW => ?_⟩, ?_⟩
          · have e0 := hW.1
            have e1 := hW.2
            go_simp
            try rfl
          try simp only [Act.put, List.setIfInBounds_toArray, List.set_cons_zero, List.set_cons_succ]
          refine WH.done (by kernel_rfl) ?_
          go_upto_region 19 with fail
          obtain ⟨W4, hW4⟩ : ∃ W4, W4 = ((W3.setCell ⟨B, 3, none⟩ (.slice la l.length lc)).setCell ⟨B, 4, none⟩ (.slice ka ks.length kc)).drew := ⟨_, rfl⟩
          rw [← hW4]
          have hb4 := ((below_set (W := W3) B 3 (.slice la l.length lc)).trans (below_set (W := W3.setCell ⟨B, 3, none⟩ (.slice la l.length lc)) B 4 (.slice ka ks.length kc))).drew
          have he4 := (box_set4 (box_set3 HM.out.e (.slice la l.length lc)) (.slice ka ks.length kc)).drew
          rw [← hW4] at hb4 he4
          have HM4 := hid (HM.out.go hlt hB1 hb4 he4)
          clear hb4 he4
          clear hW4 a0 a1 a2 a3 a4 b0 b1 b2 b3 b4 g0 g1 z1 z2 z3 z4 s2 s3
          obtain ⟨⟨x0, x1, x2, x3, x4⟩, xp, xq, ⟨xl, xf⟩, ⟨y0, y1, y2, y3, y4⟩, -⟩ := HM4.out
          go_wp2_with fail
          refine (HC.out _ (w.heap.size + 1) (w.heap.size + 1 + 1) HM4.out.t HM4.out.l HM4.out.p HM4.out.q (by omega) (by omega)).mono ?_
          rintro e w9 ⟨x, rfl, hx, hb9, hl9⟩
          go_wp2_with fail
          go_ret
          refine ⟨x, ?_, (fun m' h => hx m' (by rw [← HF.out]; exact h)), HM4.out.t.trans hb9, hl9⟩
          rw [HF.out]
          cases q <;> rfl
        · have HF : Hid (r = none) := hid (by rw [HR.out, if_pos (node5_s hs)])
          clear hz HRi hlen
          have u1 : (([] : List UInt8) != s) = true := bne_iff_ne.2 (fun e => hs e.symm)
          have u2 : ¬ ([] : List UInt8) = s := fun e => hs e.symm
          have u3 : (([] : List UInt8) == s) = false := beq_eq_false_iff_ne.2 (fun e => hs e.symm)
          have u4 : s.isEmpty = false := by simpa using hs
          go_enter Tryz.func37, Tryz.ntmps37
          go_upto_region 1 with fail
          rw [← hW]
          clear hW
          go_upto_region 2 with fail
          rw [← hW2]
          clear hW2
          go_upto_region 5 with fail
          rw [← hW3, ← hB]
          clear hW3 hB
          go_wp2_with fail
          refine wp_region_wh (S := fun W => W.cell? ⟨w.heap.size, 3, none⟩ = some (.slice la l.length lc) ∧ W.cell? ⟨w.heap.size, 4, none⟩ = some (.slice ka ks.length kc)) (by kernel_rfl) ?_
          have hS : W3.drew.cell? ⟨w.heap.size, 3, none⟩ = some (.slice la l.length lc) ∧ W3.drew.cell? ⟨w.heap.size, 4, none⟩ = some (.slice ka ks.length kc) := ⟨a3, a4⟩
          refine WH.take 0 (some 67) rfl rfl (by kernel_rfl) (by kernel_rfl) (by kernel_rfl) (fun _ _ _ _ h => h) hS ?_
          apply Exists.intro
          refine ⟨⟨(by kernel_rfl), fun W hW => ?_⟩, ?_⟩
          · have e0 := hW.1
            have e1 := hW.2
            go_simp
            try rfl
          try simp only [Act.put, List.setIfInBounds_toArray, List.set_cons_zero, List.set_cons_succ]
          refine WH.take 1 (some 68) rfl rfl (by kernel_rfl) (by kernel_rfl) (by kernel_rfl) (fun _ _ _ _ h => h) hS ?_
          apply Exists.intro
          refine ⟨⟨(by kernel_rfl), fun W hW => ?_⟩, ?_⟩
          · have e0 := hW.1
            have e1 := hW.2
            go_simp
            try rfl
          try simp only [Act.put, List.setIfInBounds_toArray, List.set_cons_zero, List.set_cons_succ]
          refine WH.take 2 (some 69) rfl rfl (by kernel_rfl) (by kernel_rfl) (by kernel_rfl) (fun _ _ _ _ h => h) hS ?_
          apply Exists.intro
          refine ⟨⟨(by kernel_rfl), fun W hW => ?_⟩, ?_⟩
          · have e0 := hW.1
            have e1 := hW.2
            go_simp
            try rfl
          try simp only [Act.put, List.setIfInBounds_toArray, List.set_cons_zero, List.set_cons_succ]
          refine WH.take 3 (some 70) rfl rfl (by kernel_rfl) (by kernel_rfl) (by kernel_rfl) (fun _ _ _ _ h => h) hS ?_
          apply Exists.intro
          refine ⟨⟨(by kernel_rfl), fun W hW => ?_⟩, ?_⟩
          · have e0 := hW.1
            have e1 := hW.2
            go_simp
            try rfl
          try simp only [Act.put, List.setIfInBounds_toArray, List.set_cons_zero, List.set_cons_succ]
          refine WH.take 4 (some 71) rfl rfl (by kernel_rfl) (by kernel_rfl) (by kernel_rfl) (fun _ _ _ _ h => h) hS ?_
          apply Exists.intro
          refine ⟨⟨(by kernel_rfl), fun W hW => ?_⟩, ?_⟩
          · have e0 := hW.1
            have e1 := hW.2
            go_simp
            try rfl
          try simp only [Act.put, List.setIfInBounds_toArray, List.set_cons_zero, List.set_cons_succ]
          refine WH.take 5 (some 72) rfl rfl (by kernel_rfl) (by kernel_rfl) (by kernel_rfl) (fun _ _ _ _ h => h) hS ?_
          apply Exists.intro
          refine ⟨⟨(by kernel_rfl), fun W hW => ?_⟩, ?_⟩
          · have e0 := hW.1
            have e1 := hW.2
            go_simp
            try rfl
          try simp only [Act.put, List.setIfInBounds_toArray, List.set_cons_zero, List.set_cons_succ]
          refine WH.take 6 (some 73) rfl rfl (by kernel_rfl) (by kernel_rfl) (by kernel_rfl) (fun _ _ _ _ h => h) hS ?_
          apply Exists.intro
          refine ⟨⟨(by kernel_rfl), fun W hW => ?_⟩, ?_⟩
          · have e0 := hW.1
            have e1 := hW.2
            go_simp
            try rfl
          try simp only [Act.put, List.setIfInBounds_toArray, List.set_cons_zero, List.set_cons_succ]
          refine WH.take 7 (some 74) rfl rfl (by kernel_rfl) (by kernel_rfl) (by kernel_rfl) (fun _ _ _ _ h => h) hS ?_
          apply Exists.intro
          refine ⟨⟨(by kernel_rfl), fun W hW => ?_⟩, ?_⟩
          · have e0 := hW.1
            have e1 := hW.2
            go_simp
            try rfl
          try simp only [Act.put, List.setIfInBounds_toArray, List.set_cons_zero, List.set_cons_succ]
          refine WH.take 8 (some 75) rfl rfl (by kernel_rfl) (by kernel_rfl) (by kernel_rfl) (fun _ _ _ _ h => h) hS ?_
          apply Exists.intro
          refine ⟨⟨(by kernel_rfl), fun W hW => ?_⟩, ?_⟩
          · have e0 := hW.1
            have e1 := hW.2
            go_simp
            try rfl
          try simp only [Act.put, List.setIfInBounds_toArray, List.set_cons_zero, List.set_cons_succ]
          refine WH.take 9 (some 76) rfl rfl (by kernel_rfl) (by kernel_rfl) (by kernel_rfl) (fun _ _ _ _ h => h) hS ?_
          apply Exists.intro
          refine ⟨⟨(by kernel_rfl), fun W hW => ?_⟩, ?_⟩
          · have e0 := hW.1
            have e1 := hW.2
            go_simp
            try rfl
          try simp only [Act.put, List.setIfInBounds_toArray, List.set_cons_zero, List.set_cons_succ]
          refine WH.take 10 (some 77) rfl rfl (by kernel_rfl) (by kernel_rfl) (by kernel_rfl) (fun _ _ _ _ h => h) hS ?_
          apply Exists.intro
          refine ⟨⟨(by kernel_rfl), fun W hW => ?_⟩, ?_⟩
          · have e0 := hW.1
            have e1 := hW.2
            go_simp
            try rfl
          try simp only [Act.put, List.setIfInBounds_toArray, List.set_cons_zero, List.set_cons_succ]
          refine WH.take 11 (some 78) rfl rfl (by kernel_rfl) (by kernel_rfl) (by kernel_rfl) (fun _ _ _ _ h => h) hS ?_
          apply Exists.intro
          refine ⟨⟨(by kernel_rfl), fun W hW => ?_⟩, ?_⟩
          · have e0 := hW.1
            have e1 := hW.2
            go_simp
            try rfl
          try simp only [Act.put, List.setIfInBounds_toArray, List.set_cons_zero, List.set_cons_succ]
          refine WH.take 12 (some 79) rfl rfl (by kernel_rfl) (by kernel_rfl) (by kernel_rfl) (fun _ _ _ _ h => h) hS ?_
          apply Exists.intro
          refine ⟨⟨(by kernel_rfl), fun W hW => ?_⟩, ?_⟩
          · have e0 := hW.1
            have e1 := hW.2
            go_simp
            try rfl
          try simp only [Act.put, List.setIfInBounds_toArray, List.set_cons_zero, List.set_cons_succ]
          refine WH.take 13 (some 80) rfl rfl (by kernel_rfl) (by kernel_rfl) (by kernel_rfl) (fun _ _ _ _ h => h) hS ?_
          apply Exists.intro
          refine ⟨⟨(by kernel_rfl), fun W hW => ?_⟩, ?_⟩
          · have e0 := hW.1
            have e1 := hW.2
            go_simp
            try rfl
          try simp only [Act.put, List.setIfInBounds_toArray, List.set_cons_zero, List.set_cons_succ]
          refine WH.take 16 (some 83) rfl rfl (by kernel_rfl) (by kernel_rfl) (by kernel_rfl) (fun _ _ _ _ h => h) hS ?_
          apply Exists.intro
          refine ⟨⟨(by kernel_rfl), fun W hW => ?_⟩, ?_⟩
          · have e0 := hW.1
            have e1 := hW.2
            go_simp
            try rfl
          try simp only [Act.put, List.setIfInBounds_toArray, List.set_cons_zero, List.set_cons_succ]
          refine WH.one 14 (by kernel_rfl) rfl (by kernel_rfl) ?_
          intro K hK
          go_simp
          refine (HRz.out _ (HM.out.t.past (Below.refl _ _).drew)).mono ?_
          rintro e w8 ⟨rfl, rfl⟩
          go_wp2_with fail
          refine hK.out _ _ hS ?_
          clear hK K
          try simp only [Act.put, List.setIfInBounds_toArray, List.set_cons_zero, List.set_cons_succ]
          refine WH.take 15 (some 82) rfl rfl (by kernel_rfl) (by kernel_rfl) (by kernel_rfl) (fun _ _ _ _ h => h) hS ?_
          apply Exists.intro
          refine ⟨⟨(by kernel_rfl), fun W hW => ?_⟩, ?_⟩
          · have e0 := hW.1
            have e1 := hW.2
            go_simp
            try rfl
          try simp only [Act.put, List.setIfInBounds_toArray, List.set_cons_zero, List.set_cons_succ]
          refine WH.one 17 (by kernel_rfl) rfl (by kernel_rfl) ?_
          intro K hK
          go_simp
          refine hK.out _ _ (s_set hS hne 3) ?_
          replace hS := s_set hS hne 3 (v := .slice la l.length lc)
          clear hK K
          try simp only [Act.put, List.setIfInBounds_toArray, List.set_cons_zero, List.set_cons_succ]
          refine WH.take 18 (some 84) rfl rfl (by kernel_rfl) (by kernel_rfl) (by kernel_rfl) (fun _ _ _ _ h => h) hS ?_
          apply Exists.intro
          refine ⟨⟨(by kernel_rfl), fun W hW => ?_⟩, ?_⟩
          · have e0 := hW.1
            have e1 := hW.2
            go_simp
            try rfl
          try simp only [Act.put, List.setIfInBounds_toArray, List.set_cons_zero, List.set_cons_succ]
          refine WH.one 19 (by kernel_rfl) rfl (by kernel_rfl) ?_
          intro K hK
          go_simp
          refine hK.out _ _ (s_set hS hne 4) ?_
          replace hS := s_set hS hne 4 (v := .slice ka ks.length kc)
          clear hK K
          try simp only [Act.put, List.setIfInBounds_toArray, List.set_cons_zero, List.set_cons_succ]
          refine WH.take 20 (some 8) rfl rfl (by kernel_rfl) (by kernel_rfl) (by kernel_rfl) (fun _ _ _ _ h => h) hS ?_
          apply Exists.intro
          refine ⟨⟨(by kernel_rfl), fun W hW => ?_⟩, ?_⟩
          · have e0 := hW.1
            have e1 := hW.2
            go_simp
            try rfl
          try simp only [Act.put, List.setIfInBounds_toArray, List.set_cons_zero, List.set_cons_succ]
          refine WH.done (by kernel_rfl) ?_
          go_upto_region 19 with fail
          obtain ⟨W4, hW4⟩ : ∃ W4, W4 = ((W3.setCell ⟨B, 3, none⟩ (.slice la l.length lc)).setCell ⟨B, 4, none⟩ (.slice ka ks.length kc)).drew := ⟨_, rfl⟩
          rw [← hW4]
          have hb4 := ((below_set (W := W3) B 3 (.slice la l.length lc)).trans (below_set (W := W3.setCell ⟨B, 3, none⟩ (.slice la l.length lc)) B 4 (.slice ka ks.length kc))).drew
          have he4 := (box_set4 (box_set3 HM.out.e (.slice la l.length lc)) (.slice ka ks.length kc)).drew
          rw [← hW4] at hb4 he4
          have HM4 := hid (HM.out.go hlt hB1 hb4 he4)
          clear hb4 he4
          clear hW4 a0 a1 a2 a3 a4 b0 b1 b2 b3 b4 g0 g1 z1 z2 z3 z4 s2 s3
          obtain ⟨⟨x0, x1, x2, x3, x4⟩, xp, xq, ⟨xl, xf⟩, ⟨y0, y1, y2, y3, y4⟩, -⟩ := HM4.out
          go_wp2_with fail
          go_ret
          exact ⟨(m : Int) - 1, by rw [HF.out]; rfl, (fun m' h => by rw [HF.out] at h; cases h), HM4.out.t, HM4.out.l⟩
      · have HF : Hid (r = none) := hid (by rw [HR.out, if_pos (node5_n hn)])
        clear hz HRi hlen
        have u1 : ((0 : Int) != n) = true := neT (fun e => hn e.symm)
        have u2 : ¬ (0 : Int) = n := fun e => hn e.symm
        go_enter Tryz.func37, Tryz.ntmps37
        go_upto_region 1 with fail
        rw [← hW]
        clear hW
        go_upto_region 2 with fail
        rw [← hW2]
        clear hW2
        go_upto_region 5 with fail
        rw [← hW3, ← hB]
        clear hW3 hB
        go_wp2_with fail
        refine wp_region_wh (S := fun W => W.cell? ⟨w.heap.size, 3, none⟩ = some (.slice la l.length lc) ∧ W.cell? ⟨w.heap.size, 4, none⟩ = some (.slice ka ks.length kc)) (by kernel_rfl) ?_
        have hS : W3.drew.cell? ⟨w.heap.size, 3, none⟩ = some (.slice la l.length lc) ∧ W3.drew.cell? ⟨w.heap.size, 4, none⟩ = some (.slice ka ks.length kc) := ⟨a3, a4⟩
        refine WH.take 0 (some 67) rfl rfl (by kernel_rfl) (by kernel_rfl) (by kernel_rfl) (fun _ _ _ _ h => h) hS ?_
        apply Exists.intro
        refine ⟨⟨(by kernel_rfl), fun W hW => ?_⟩, ?_⟩
        · have e0 := hW.1
          have e1 := hW.2
          go_simp
          try rfl
        try simp only [Act.put, List.setIfInBounds_toArray, List.set_cons_zero, List.set_cons_succ]
        refine WH.take 1 (some 68) rfl rfl (by kernel_rfl) (by kernel_rfl) (by kernel_rfl) (fun _ _ _ _ h => h) hS ?_
        apply Exists.intro
        refine ⟨⟨(by kernel_rfl), fun W hW => ?_⟩, ?_⟩
        · have e0 := hW.1
          have e1 := hW.2
          go_simp
          try rfl
        try simp only [Act.put, List.setIfInBounds_toArray, List.set_cons_zero, List.set_cons_succ]
        refine WH.take 2 (some 69) rfl rfl (by kernel_rfl) (by kernel_rfl) (by kernel_rfl) (fun _ _ _ _ h => h) hS ?_
        apply Exists.intro
        refine ⟨⟨(by kernel_rfl), fun W hW => ?_⟩, ?_⟩
        · have e0 := hW.1
          have e1 := hW.2
          go_simp
          try rfl
        try simp only [Act.put, List.setIfInBounds_toArray, List.set_cons_zero, List.set_cons_succ]
        refine WH.take 3 (some 70) rfl rfl (by kernel_rfl) (by kernel_rfl) (by kernel_rfl) (fun _ _ _ _ h => h) hS ?_
        apply Exists.intro
        refine ⟨⟨(by kernel_rfl), fun W hW => ?_⟩, ?_⟩
        · have e0 := hW.1
          have e1 := hW.2
          go_simp
          try rfl
        try simp only [Act.put, List.setIfInBounds_toArray, List.set_cons_zero, List.set_cons_succ]
        refine WH.take 4 (some 71) rfl rfl (by kernel_rfl) (by kernel_rfl) (by kernel_rfl) (fun _ _ _ _ h => h) hS ?_
        apply Exists.intro
        refine ⟨⟨(by kernel_rfl), fun W hW => ?_⟩, ?_⟩
        · have e0 := hW.1
          have e1 := hW.2
          go_simp
          try rfl
        try simp only [Act.put, List.setIfInBounds_toArray, List.set_cons_zero, List.set_cons_succ]
        refine WH.take 5 (some 72) rfl rfl (by kernel_rfl) (by kernel_rfl) (by kernel_rfl) (fun _ _ _ _ h => h) hS ?_
        apply Exists.intro
        refine ⟨⟨(by kernel_rfl), fun W hW => ?_⟩, ?_⟩
        · have e0 := hW.1
          have e1 := hW.2
          go_simp
          try rfl
        try simp only [Act.put, List.setIfInBounds_toArray, List.set_cons_zero, List.set_cons_succ]
        refine WH.take 6 (some 73) rfl rfl (by kernel_rfl) (by kernel_rfl) (by kernel_rfl) (fun _ _ _ _ h => h) hS ?_
        apply Exists.intro
        refine ⟨⟨(by kernel_rfl), fun W hW => ?_⟩, ?_⟩
        · have e0 := hW.1
          have e1 := hW.2
          go_simp
          try rfl
        try simp only [Act.put, List.setIfInBounds_toArray, List.set_cons_zero, List.set_cons_succ]
        refine WH.take 7 (some 74) rfl rfl (by kernel_rfl) (by kernel_rfl) (by kernel_rfl) (fun _ _ _ _ h => h) hS ?_
        apply Exists.intro
        refine ⟨⟨(by kernel_rfl), fun W hW => ?_⟩, ?_⟩
        · have e0 := hW.1
          have e1 := hW.2
          go_simp
          try rfl
        try simp only [Act.put, List.setIfInBounds_toArray, List.set_cons_zero, List.set_cons_succ]
        refine WH.take 8 (some 75) rfl rfl (by kernel_rfl) (by kernel_rfl) (by kernel_rfl) (fun _ _ _ _ h => h) hS ?_
        apply Exists.intro
        refine ⟨⟨(by kernel_rfl), fun W hW => ?_⟩, ?_⟩
        · have e0 := hW.1
          have e1 := hW.2
          go_simp
          try rfl
        try simp only [Act.put, List.setIfInBounds_toArray, List.set_cons_zero, List.set_cons_succ]
        refine WH.take 9 (some 76) rfl rfl (by kernel_rfl) (by kernel_rfl) (by kernel_rfl) (fun _ _ _ _ h => h) hS ?_
        apply Exists.intro
        refine ⟨⟨(by kernel_rfl), fun W hW => ?_⟩, ?_⟩
        · have e0 := hW.1
          have e1 := hW.2
          go_simp
          try rfl
        try simp only [Act.put, List.setIfInBounds_toArray, List.set_cons_zero, List.set_cons_succ]
        refine WH.take 10 (some 77) rfl rfl (by kernel_rfl) (by kernel_rfl) (by kernel_rfl) (fun _ _ _ _ h => h) hS ?_
        apply Exists.intro
        refine ⟨⟨(by kernel_rfl), fun W hW => ?_⟩, ?_⟩
        · have e0 := hW.1
          have e1 := hW.2
          go_simp
          try rfl
        try simp only [Act.put, List.setIfInBounds_toArray, List.set_cons_zero, List.set_cons_succ]
        refine WH.take 11 (some 78) rfl rfl (by kernel_rfl) (by kernel_rfl) (by kernel_rfl) (fun _ _ _ _ h => h) hS ?_
        apply Exists.intro
        refine ⟨⟨(by kernel_rfl), fun W hW => ?_⟩, ?_⟩
        · have e0 := hW.1
          have e1 := hW.2
          go_simp
          try rfl
        try simp only [Act.put, List.setIfInBounds_toArray, List.set_cons_zero, List.set_cons_succ]
        refine WH.take 12 (some 79) rfl rfl (by kernel_rfl) (by kernel_rfl) (by kernel_rfl) (fun _ _ _ _ h => h) hS ?_
        apply Exists.intro
        refine ⟨⟨(by kernel_rfl), fun W hW => ?_⟩, ?_⟩
        · have e0 := hW.1
          have e1 := hW.2
          go_simp
          try rfl
        try simp only [Act.put, List.setIfInBounds_toArray, List.set_cons_zero, List.set_cons_succ]
        refine WH.take 13 (some 80) rfl rfl (by kernel_rfl) (by kernel_rfl) (by kernel_rfl) (fun _ _ _ _ h => h) hS ?_
        apply Exists.intro
        refine ⟨⟨(by kernel_rfl), fun W hW => ?_⟩, ?_⟩
        · have e0 := hW.1
          have e1 := hW.2
          go_simp
          try rfl
        try simp only [Act.put, List.setIfInBounds_toArray, List.set_cons_zero, List.set_cons_succ]
        refine WH.take 16 (some 83) rfl rfl (by kernel_rfl) (by kernel_rfl) (by kernel_rfl) (fun _ _ _ _ h => h) hS ?_
        apply Exists.intro
        refine ⟨⟨(by kernel_rfl), fun W hW => ?_⟩, ?_⟩
        · have e0 := hW.1
          have e1 := hW.2
          go_simp
          try rfl
        try simp only [Act.put, List.setIfInBounds_toArray, List.set_cons_zero, List.set_cons_succ]
        refine WH.one 14 (by kernel_rfl) rfl (by kernel_rfl) ?_
        intro K hK
        go_simp
        refine (HRz.out _ (HM.out.t.past (Below.refl _ _).drew)).mono ?_
        rintro e w8 ⟨rfl, rfl⟩
        go_wp2_with fail
        refine hK.out _ _ hS ?_
        clear hK K
        try simp only [Act.put, List.setIfInBounds_toArray, List.set_cons_zero, List.set_cons_succ]
        refine WH.take 15 (some 82) rfl rfl (by kernel_rfl) (by kernel_rfl) (by kernel_rfl) (fun _ _ _ _ h => h) hS ?_
        apply Exists.intro
        refine ⟨⟨(by kernel_rfl), fun W hW => ?_⟩, ?_⟩
        · have e0 := hW.1
          have e1 := hW.2
          go_simp
          try rfl
        try simp only [Act.put, List.setIfInBounds_toArray, List.set_cons_zero, List.set_cons_succ]
        refine WH.one 17 (by kernel_rfl) rfl (by kernel_rfl) ?_
        intro K hK
        go_simp
        refine hK.out _ _ (s_set hS hne 3) ?_
        replace hS := s_set hS hne 3 (v := .slice la l.length lc)
        clear hK K
        try simp only [Act.put, List.setIfInBounds_toArray, List.set_cons_zero, List.set_cons_succ]
        refine WH.take 18 (some 84) rfl rfl (by kernel_rfl) (by kernel_rfl) (by kernel_rfl) (fun _ _ _ _ h => h) hS ?_
        apply Exists.intro
        refine ⟨⟨(by kernel_rfl), fun W hW => ?_⟩, ?_⟩
        · have e0 := hW.1
          have e1 := hW.2
          go_simp
          try rfl
        try simp only [Act.put, List.setIfInBounds_toArray, List.set_cons_zero, List.set_cons_succ]
        refine WH.one 19 (by kernel_rfl) rfl (by kernel_rfl) ?_
        intro K hK
        go_simp
        refine hK.out _ _ (s_set hS hne 4) ?_
        replace hS := s_set hS hne 4 (v := .slice ka ks.length kc)
        clear hK K
        try simp only [Act.put, List.setIfInBounds_toArray, List.set_cons_zero, List.set_cons_succ]
        refine WH.take 20 (some 8) rfl rfl (by kernel_rfl) (by kernel_rfl) (by kernel_rfl) (fun _ _ _ _ h => h) hS ?_
        apply Exists.intro
        refine ⟨⟨(by kernel_rfl), fun W hW => ?_⟩, ?_⟩
        · have e0 := hW.1
          have e1 := hW.2
          go_simp
          try rfl
        try simp only [Act.put, List.setIfInBounds_toArray, List.set_cons_zero, List.set_cons_succ]
        refine WH.done (by kernel_rfl) ?_
        go_upto_region 19 with fail
        obtain ⟨W4, hW4⟩ : ∃ W4, W4 = ((W3.setCell ⟨B, 3, none⟩ (.slice la l.length lc)).setCell ⟨B, 4, none⟩ (.slice ka ks.length kc)).drew := ⟨_, rfl⟩
        rw [← hW4]
        have hb4 := ((below_set (W := W3) B 3 (.slice la l.length lc)).trans (below_set (W := W3.setCell ⟨B, 3, none⟩ (.slice la l.length lc)) B 4 (.slice ka ks.length kc))).drew
        have he4 := (box_set4 (box_set3 HM.out.e (.slice la l.length lc)) (.slice ka ks.length kc)).drew
        rw [← hW4] at hb4 he4
        have HM4 := hid (HM.out.go hlt hB1 hb4 he4)
        clear hb4 he4
        clear hW4 a0 a1 a2 a3 a4 b0 b1 b2 b3 b4 g0 g1 z1 z2 z3 z4 s2 s3
        obtain ⟨⟨x0, x1, x2, x3, x4⟩, xp, xq, ⟨xl, xf⟩, ⟨y0, y1, y2, y3, y4⟩, -⟩ := HM4.out
        go_wp2_with fail
        go_ret
        exact ⟨(m : Int) - 1, by rw [HF.out]; rfl, (fun m' h => by rw [HF.out] at h; cases h), HM4.out.t, HM4.out.l⟩
  · have u0 : ((l.length : Int) == (ks.length : Int)) = false := eqF (by omega)
    have HF : Hid (r = none) := hid (by rw [HR.out, if_pos (node5_l hlen)])
    clear HRi hlen
    go_enter Tryz.func37, Tryz.ntmps37
    go_upto_region 1 with fail
    rw [← hW]
    clear hW
    go_upto_region 2 with fail
    rw [← hW2]
    clear hW2
    go_upto_region 5 with fail
    rw [← hW3, ← hB]
    clear hW3 hB
    go_wp2_with fail
    refine wp_region_wh (S := fun W => W.cell? ⟨w.heap.size, 3, none⟩ = some (.slice la l.length lc) ∧ W.cell? ⟨w.heap.size, 4, none⟩ = some (.slice ka ks.length kc)) (by kernel_rfl) ?_
    have hS : W3.drew.cell? ⟨w.heap.size, 3, none⟩ = some (.slice la l.length lc) ∧ W3.drew.cell? ⟨w.heap.size, 4, none⟩ = some (.slice ka ks.length kc) := ⟨a3, a4⟩
    refine WH.take 0 (some 67) rfl rfl (by kernel_rfl) (by kernel_rfl) (by kernel_rfl) (fun _ _ _ _ h => h) hS ?_
    apply Exists.intro
    refine ⟨⟨(by kernel_rfl), fun W hW => ?_⟩, ?_⟩
    · have e0 := hW.1
      have e1 := hW.2
      go_simp
      try rfl
    try simp only [Act.put, List.setIfInBounds_toArray, List.set_cons_zero, List.set_cons_succ]
    refine WH.take 1 (some 68) rfl rfl (by kernel_rfl) (by kernel_rfl) (by kernel_rfl) (fun _ _ _ _ h => h) hS ?_
    apply Exists.intro
    refine ⟨⟨(by kernel_rfl), fun W hW => ?_⟩, ?_⟩
    · have e0 := hW.1
      have e1 := hW.2
      go_simp
      try rfl
    try simp only [Act.put, List.setIfInBounds_toArray, List.set_cons_zero, List.set_cons_succ]
    refine WH.take 2 (some 69) rfl rfl (by kernel_rfl) (by kernel_rfl) (by kernel_rfl) (fun _ _ _ _ h => h) hS ?_
    apply Exists.intro
    refine ⟨⟨(by kernel_rfl), fun W hW => ?_⟩, ?_⟩
    · have e0 := hW.1
      have e1 := hW.2
      go_simp
      try rfl
    try simp only [Act.put, List.setIfInBounds_toArray, List.set_cons_zero, List.set_cons_succ]
    refine WH.take 3 (some 70) rfl rfl (by kernel_rfl) (by kernel_rfl) (by kernel_rfl) (fun _ _ _ _ h => h) hS ?_
    apply Exists.intro
    refine ⟨⟨(by kernel_rfl), fun W hW => ?_⟩, ?_⟩
    · have e0 := hW.1
      have e1 := hW.2
      go_simp
      try rfl
    try simp only [Act.put, List.setIfInBounds_toArray, List.set_cons_zero, List.set_cons_succ]
    refine WH.take 4 (some 71) rfl rfl (by kernel_rfl) (by kernel_rfl) (by kernel_rfl) (fun _ _ _ _ h => h) hS ?_
    apply Exists.intro
    refine ⟨⟨(by kernel_rfl), fun W hW => ?_⟩, ?_⟩
    · have e0 := hW.1
      have e1 := hW.2
      go_simp
      try rfl
    try simp only [Act.put, List.setIfInBounds_toArray, List.set_cons_zero, List.set_cons_succ]
    refine WH.take 5 (some 72) rfl rfl (by kernel_rfl) (by kernel_rfl) (by kernel_rfl) (fun _ _ _ _ h => h) hS ?_
    apply Exists.intro
    refine ⟨⟨(by kernel_rfl), fun W hW => ?_⟩, ?_⟩
    · have e0 := hW.1
      have e1 := hW.2
      go_simp
      try rfl
    try simp only [Act.put, List.setIfInBounds_toArray, List.set_cons_zero, List.set_cons_succ]
    refine WH.take 6 (some 73) rfl rfl (by kernel_rfl) (by kernel_rfl) (by kernel_rfl) (fun _ _ _ _ h => h) hS ?_
    apply Exists.intro
    refine ⟨⟨(by kernel_rfl), fun W hW => ?_⟩, ?_⟩
    · have e0 := hW.1
      have e1 := hW.2
      go_simp
      try rfl
    try simp only [Act.put, List.setIfInBounds_toArray, List.set_cons_zero, List.set_cons_succ]
    refine WH.take 7 (some 74) rfl rfl (by kernel_rfl) (by kernel_rfl) (by kernel_rfl) (fun _ _ _ _ h => h) hS ?_
    apply Exists.intro
    refine ⟨⟨(by kernel_rfl), fun W hW => ?_⟩, ?_⟩
    · have e0 := hW.1
      have e1 := hW.2
      go_simp
      try rfl
    try simp only [Act.put, List.setIfInBounds_toArray, List.set_cons_zero, List.set_cons_succ]
    refine WH.take 8 (some 75) rfl rfl (by kernel_rfl) (by kernel_rfl) (by kernel_rfl) (fun _ _ _ _ h => h) hS ?_
    apply Exists.intro
    refine ⟨⟨(by kernel_rfl), fun W hW => ?_⟩, ?_⟩
    · have e0 := hW.1
      have e1 := hW.2
      go_simp
      try rfl
    try simp only [Act.put, List.setIfInBounds_toArray, List.set_cons_zero, List.set_cons_succ]
    refine WH.take 9 (some 76) rfl rfl (by kernel_rfl) (by kernel_rfl) (by kernel_rfl) (fun _ _ _ _ h => h) hS ?_
    apply Exists.intro
    refine ⟨⟨(by kernel_rfl), fun W hW => ?_⟩, ?_⟩
    · have e0 := hW.1
      have e1 := hW.2
      go_simp
      try rfl
    try simp only [Act.put, List.setIfInBounds_toArray, List.set_cons_zero, List.set_cons_succ]
    refine WH.take 10 (some 77) rfl rfl (by kernel_rfl) (by kernel_rfl) (by kernel_rfl) (fun _ _ _ _ h => h) hS ?_
    apply Exists.intro
    refine ⟨⟨(by kernel_rfl), fun W hW => ?_⟩, ?_⟩
    · have e0 := hW.1
      have e1 := hW.2
      go_simp
      try rfl
    try simp only [Act.put, List.setIfInBounds_toArray, List.set_cons_zero, List.set_cons_succ]
    refine WH.take 11 (some 78) rfl rfl (by kernel_rfl) (by kernel_rfl) (by kernel_rfl) (fun _ _ _ _ h => h) hS ?_
    apply Exists.intro
    refine ⟨⟨(by kernel_rfl), fun W hW => ?_⟩, ?_⟩
    · have e0 := hW.1
      have e1 := hW.2
      go_simp
      try rfl
    try simp only [Act.put, List.setIfInBounds_toArray, List.set_cons_zero, List.set_cons_succ]
    refine WH.skip 12 (some 79) rfl rfl (by kernel_rfl) (by kernel_rfl) (by kernel_rfl) (fun _ _ _ h => h) hS (by kernel_rfl) ?_
    try simp only [Act.put, List.setIfInBounds_toArray, List.set_cons_zero, List.set_cons_succ]
    refine WH.skip 13 (some 80) rfl rfl (by kernel_rfl) (by kernel_rfl) (by kernel_rfl) (fun _ _ _ h => h) hS (by kernel_rfl) ?_
    try simp only [Act.put, List.setIfInBounds_toArray, List.set_cons_zero, List.set_cons_succ]
    refine WH.skip 14 (some 81) rfl rfl (by kernel_rfl) (by kernel_rfl) (by kernel_rfl) (fun _ _ _ h => h) hS (by kernel_rfl) ?_
    try simp only [Act.put, List.setIfInBounds_toArray, List.set_cons_zero, List.set_cons_succ]
    refine WH.take 16 (some 83) rfl rfl (by kernel_rfl) (by kernel_rfl) (by kernel_rfl) (fun _ _ _ _ h => h) hS ?_
    apply Exists.intro
    refine ⟨⟨(by kernel_rfl), fun W hW => ?_⟩, ?_⟩
    · have e0 := hW.1
      have e1 := hW.2
      go_simp
      try rfl
    try simp only [Act.put, List.setIfInBounds_toArray, List.set_cons_zero, List.set_cons_succ]
    refine WH.take 15 (some 82) rfl rfl (by kernel_rfl) (by kernel_rfl) (by kernel_rfl) (fun _ _ _ _ h => h) hS ?_
    apply Exists.intro
    refine ⟨⟨(by kernel_rfl), fun W hW => ?_⟩, ?_⟩
    · have e0 := hW.1
      have e1 := hW.2
      go_simp
      try rfl
    try simp only [Act.put, List.setIfInBounds_toArray, List.set_cons_zero, List.set_cons_succ]
    refine WH.one 17 (by kernel_rfl) rfl (by kernel_rfl) ?_
    intro K hK
    go_simp
    refine hK.out _ _ (s_set hS hne 3) ?_
    replace hS := s_set hS hne 3 (v := .slice la l.length lc)
    clear hK K
    try simp only [Act.put, List.setIfInBounds_toArray, List.set_cons_zero, List.set_cons_succ]
    refine WH.take 18 (some 84) rfl rfl (by kernel_rfl) (by kernel_rfl) (by kernel_rfl) (fun _ _ _ _ h => h) hS ?_
    apply Exists.intro
    refine ⟨⟨(by kernel_rfl), fun W hW => ?_⟩, ?_⟩
    · have e0 := hW.1
      have e1 := hW.2
      go_simp
      try rfl
    try simp only [Act.put, List.setIfInBounds_toArray, List.set_cons_zero, List.set_cons_succ]
    refine WH.one 19 (by kernel_rfl) rfl (by kernel_rfl) ?_
    intro K hK
    go_simp
    refine hK.out _ _ (s_set hS hne 4) ?_
    replace hS := s_set hS hne 4 (v := .slice ka ks.length kc)
    clear hK K
    try simp only [Act.put, List.setIfInBounds_toArray, List.set_cons_zero, List.set_cons_succ]
    refine WH.take 20 (some 8) rfl rfl (by kernel_rfl) (by kernel_rfl) (by kernel_rfl) (fun _ _ _ _ h => h) hS ?_
    apply Exists.intro
    refine ⟨⟨(by kernel_rfl), fun W hW => ?_⟩, ?_⟩
    · have e0 := hW.1
      have e1 := hW.2
      go_simp
      try rfl
    try simp only [Act.put, List.setIfInBounds_toArray, List.set_cons_zero, List.set_cons_succ]
    refine WH.done (by kernel_rfl) ?_
    go_upto_region 19 with fail
    obtain ⟨W4, hW4⟩ : ∃ W4, W4 = ((W3.setCell ⟨B, 3, none⟩ (.slice la l.length lc)).setCell ⟨B, 4, none⟩ (.slice ka ks.length kc)).drew := ⟨_, rfl⟩
    rw [← hW4]
    have hb4 := ((below_set (W := W3) B 3 (.slice la l.length lc)).trans (below_set (W := W3.setCell ⟨B, 3, none⟩ (.slice la l.length lc)) B 4 (.slice ka ks.length kc))).drew
    have he4 := (box_set4 (box_set3 HM.out.e (.slice la l.length lc)) (.slice ka ks.length kc)).drew
    rw [← hW4] at hb4 he4
    have HM4 := hid (HM.out.go hlt hB1 hb4 he4)
    clear hb4 he4
    clear hW4 a0 a1 a2 a3 a4 b0 b1 b2 b3 b4 g0 g1 z1 z2 z3 z4 s2 s3
    obtain ⟨⟨x0, x1, x2, x3, x4⟩, xp, xq, ⟨xl, xf⟩, ⟨y0, y1, y2, y3, y4⟩, -⟩ := HM4.out
    go_wp2_with fail
    go_ret
    exact ⟨(m : Int) - 1, by rw [HF.out]; rfl, (fun m' h => by rw [HF.out] at h; cases h), HM4.out.t, HM4.out.l⟩
end Go.Proofs.YtnfjlimecoikpaaGreatDoor
