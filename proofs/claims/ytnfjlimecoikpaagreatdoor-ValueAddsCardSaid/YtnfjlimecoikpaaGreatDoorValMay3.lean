/- The program's walk over values: may, kind by kind. -/
import Derived.Test.YtnfjlimecoikpaaGreatDoorValMay
namespace Go.Proofs.YtnfjlimecoikpaaGreatDoor
set_option maxRecDepth 100000
open Go.RowKit

set_option maxHeartbeats 4000000 in
theorem may_k3 (n : Int) (s : List UInt8) (lv kv : Value) (l : List VM) (ks : List (List UInt8)) (d m b : Nat) (hdm : d ≤ 60 ∧ 0 < m ∧ m ≤ 1000000) (w : World) (hL : Left w b m) (hl : SliceAt w 5 lv l.length (vmCells l)) (hk : SliceAt w 1 kv ks.length (strCells ks))
    (q r : Option Nat) (hr : r = if nodeB 3 n s l.length ks = false then none else q) (hC : ConC lv d m b q w) :
    Calls Tryz.prog 37 #[valA 3 n s lv kv, .int .i64 d, .pointer (some ⟨b, 0, none⟩)] w (MayRet r b w) := by
  have HR := hid hr
  have HC := hid hC
  have hlt := hL.lt
  obtain ⟨-, la, lc, rfl, hlc, hlm, -⟩ := hl.vms
  obtain ⟨-, ka, kc, rfl, hkc, hkm, -⟩ := hk.str
  unfold maxLen at hlm hkm
  obtain ⟨W, hW, q1, q2, q3, q4, q5, q6⟩ := may_three w 3 n s (.slice la l.length lc) (.slice ka ks.length kc) d b m hL 25 3 46
  obtain ⟨W2, hW2, r1, r2, r3, r4, r5, r6⟩ := may_store (y := (m : Int) - 1) (by omega : w.heap.size < W.heap.size) (by omega) (by omega) hlt q1 q2 q3 q4
  obtain ⟨W3, B, hW3, hB, hB1, hB2, s1, s2, s3, s4, s5, s6, s7⟩ := may_bare W2 w.heap.size b d 3 n ((m : Int) - 1) s _ _ 25 (by omega) r1 r2 r3 r4
  have HM := hid (MSt.mk s1 s2 s3 s4 s5 (((But.of q5).trans r5).trans (But.of s7)))
  obtain ⟨a0, a1, a2, a3, a4⟩ := s1
  obtain ⟨b0, b1, b2, b3, b4⟩ := s5
  have z1 := s6 1
  have z2 := s6 2
  have z3 := s6 3
  have z4 := s6 4
  obtain ⟨g0, g1⟩ := s4
  obtain ⟨c0, f0⟩ := q4
  obtain ⟨c1, f1⟩ := r4
  obtain ⟨v0, v1, v2, v3, v4⟩ := r1
  have hd1 : (d : Int) ≤ 60 := by omega
  have hm1 : 0 ≤ (m : Int) - 1 := by omega
  have hne : w.heap.size ≠ B := by omega
  clear hL q1 q5 r5 q6 r6 hl hk hr hC s7
  by_cases hS : s.length ≤ 65536
  · have u0 : (s.length : Int) ≤ 65536 := by omega
    by_cases hn : n = 0
    · subst hn
      by_cases hl0 : l.length = 0
      · have u0 : ((0 : Int) != (l.length : Int)) = false := neF (by omega)
        have HLz := hid hl0
        clear hl0
        by_cases hk0 : ks.length = 0
        · have w0 : ((0 : Int) != (ks.length : Int)) = false := neF (by omega)
          have HKz := hid hk0
          clear hk0
          have HF : Hid (r = q) := hid (by rw [HR.out, if_neg (by simp [nodeB, hS, HLz.out, List.length_eq_zero_iff.1 HKz.out])])
          go_enter Tryz.func37, Tryz.ntmps37
          go_upto_region 1 with fail
          rw [← hW]
          clear hW
          go_upto_region 2 with fail
          rw [← hW2]
          clear hW2
          go_upto_region 5 with fail
          rw [← hW3, ← hB]
          clear hW3 hB
          go_wp2_with fail
          go_region
          go_upto_region 19 with fail
          obtain ⟨W4, hW4⟩ : ∃ W4, W4 = (W3.setCell ⟨B, 2, none⟩ (.string (bs s))).drew := ⟨_, rfl⟩
          rw [← hW4]
          have hb4 := (below_set (W := W3) B 2 (.string (bs s))).drew
          have he4 := (box_set2 HM.out.e s).drew
          rw [← hW4] at hb4 he4
          have HM4 := hid (HM.out.go hlt hB1 hb4 he4)
          clear hb4 he4
          clear hW4 a0 a1 a2 a3 a4 b0 b1 b2 b3 b4 g0 g1 z1 z2 z3 z4 s2 s3
          obtain ⟨⟨x0, x1, x2, x3, x4⟩, xp, xq, ⟨xl, xf⟩, ⟨y0, y1, y2, y3, y4⟩, -⟩ := HM4.out
          go_wp2_with fail
          refine (HC.out _ (w.heap.size + 1) (w.heap.size + 1 + 1) HM4.out.t HM4.out.l HM4.out.p HM4.out.q (by omega) (by omega)).mono ?_
          rintro e w9 ⟨x, rfl, hx, hb9, hl9⟩
          go_wp2_with fail
          go_ret
          refine ⟨x, ?_, (fun m' h => hx m' (by rw [← HF.out]; exact h)), HM4.out.t.trans hb9, hl9⟩
          rw [HF.out]
          cases q <;> rfl
        · have u1k : ((0 : Int) != (ks.length : Int)) = true := neT (by omega)
          have hkn : Hid (ks ≠ []) := hid (fun e => hk0 (by rw [e]; rfl))
          clear hk0
          have HF : Hid (r = none) := hid (by rw [HR.out, if_pos (by simp [nodeB, hkn.out])])
          go_enter Tryz.func37, Tryz.ntmps37
          go_upto_region 1 with fail
          rw [← hW]
          clear hW
          go_upto_region 2 with fail
          rw [← hW2]
          clear hW2
          go_upto_region 5 with fail
          rw [← hW3, ← hB]
          clear hW3 hB
          go_wp2_with fail
          go_region
          go_upto_region 19 with fail
          obtain ⟨W4, hW4⟩ : ∃ W4, W4 = (W3.setCell ⟨B, 2, none⟩ (.string (bs s))).drew := ⟨_, rfl⟩
          rw [← hW4]
          have hb4 := (below_set (W := W3) B 2 (.string (bs s))).drew
          have he4 := (box_set2 HM.out.e s).drew
          rw [← hW4] at hb4 he4
          have HM4 := hid (HM.out.go hlt hB1 hb4 he4)
          clear hb4 he4
          clear hW4 a0 a1 a2 a3 a4 b0 b1 b2 b3 b4 g0 g1 z1 z2 z3 z4 s2 s3
          obtain ⟨⟨x0, x1, x2, x3, x4⟩, xp, xq, ⟨xl, xf⟩, ⟨y0, y1, y2, y3, y4⟩, -⟩ := HM4.out
          go_wp2_with fail
          go_ret
          exact ⟨(m : Int) - 1, by rw [HF.out]; rfl, (fun m' h => by rw [HF.out] at h; cases h), HM4.out.t, HM4.out.l⟩
      · have u1 : ((0 : Int) != (l.length : Int)) = true := neT (by omega)
        have HLz := hid hl0
        clear hl0
        have HF : Hid (r = none) := hid (by rw [HR.out, if_pos (by simp [nodeB, HLz.out])])
        go_enter Tryz.func37, Tryz.ntmps37
        go_upto_region 1 with fail
        rw [← hW]
        clear hW
        go_upto_region 2 with fail
        rw [← hW2]
        clear hW2
        go_upto_region 5 with fail
        rw [← hW3, ← hB]
        clear hW3 hB
        go_wp2_with fail
        go_region
        go_upto_region 19 with fail
        obtain ⟨W4, hW4⟩ : ∃ W4, W4 = (W3.setCell ⟨B, 2, none⟩ (.string (bs s))).drew := ⟨_, rfl⟩
        rw [← hW4]
        have hb4 := (below_set (W := W3) B 2 (.string (bs s))).drew
        have he4 := (box_set2 HM.out.e s).drew
        rw [← hW4] at hb4 he4
        have HM4 := hid (HM.out.go hlt hB1 hb4 he4)
        clear hb4 he4
        clear hW4 a0 a1 a2 a3 a4 b0 b1 b2 b3 b4 g0 g1 z1 z2 z3 z4 s2 s3
        obtain ⟨⟨x0, x1, x2, x3, x4⟩, xp, xq, ⟨xl, xf⟩, ⟨y0, y1, y2, y3, y4⟩, -⟩ := HM4.out
        go_wp2_with fail
        go_ret
        exact ⟨(m : Int) - 1, by rw [HF.out]; rfl, (fun m' h => by rw [HF.out] at h; cases h), HM4.out.t, HM4.out.l⟩
    · have u1 : ((0 : Int) != n) = true := neT (fun e => hn e.symm)
      have u2 : ¬ (0 : Int) = n := fun e => hn e.symm
      have HF : Hid (r = none) := hid (by rw [HR.out, if_pos (by simp [nodeB, hn])])
      go_enter Tryz.func37, Tryz.ntmps37
      go_upto_region 1 with fail
      rw [← hW]
      clear hW
      go_upto_region 2 with fail
      rw [← hW2]
      clear hW2
      go_upto_region 5 with fail
      rw [← hW3, ← hB]
      clear hW3 hB
      go_wp2_with fail
      go_region
      go_upto_region 19 with fail
      obtain ⟨W4, hW4⟩ : ∃ W4, W4 = (W3.setCell ⟨B, 2, none⟩ (.string (bs s))).drew := ⟨_, rfl⟩
      rw [← hW4]
      have hb4 := (below_set (W := W3) B 2 (.string (bs s))).drew
      have he4 := (box_set2 HM.out.e s).drew
      rw [← hW4] at hb4 he4
      have HM4 := hid (HM.out.go hlt hB1 hb4 he4)
      clear hb4 he4
      clear hW4 a0 a1 a2 a3 a4 b0 b1 b2 b3 b4 g0 g1 z1 z2 z3 z4 s2 s3
      obtain ⟨⟨x0, x1, x2, x3, x4⟩, xp, xq, ⟨xl, xf⟩, ⟨y0, y1, y2, y3, y4⟩, -⟩ := HM4.out
      go_wp2_with fail
      go_ret
      exact ⟨(m : Int) - 1, by rw [HF.out]; rfl, (fun m' h => by rw [HF.out] at h; cases h), HM4.out.t, HM4.out.l⟩
  · have u1 : ¬ (s.length : Int) ≤ 65536 := by omega
    have HF : Hid (r = none) := hid (by rw [HR.out, if_pos (by simp [nodeB, hS])])
    go_enter Tryz.func37, Tryz.ntmps37
    go_upto_region 1 with fail
    rw [← hW]
    clear hW
    go_upto_region 2 with fail
    rw [← hW2]
    clear hW2
    go_upto_region 5 with fail
    rw [← hW3, ← hB]
    clear hW3 hB
    go_wp2_with fail
    go_region
    go_upto_region 19 with fail
    obtain ⟨W4, hW4⟩ : ∃ W4, W4 = (W3.setCell ⟨B, 2, none⟩ (.string (bs s))).drew := ⟨_, rfl⟩
    rw [← hW4]
    have hb4 := (below_set (W := W3) B 2 (.string (bs s))).drew
    have he4 := (box_set2 HM.out.e s).drew
    rw [← hW4] at hb4 he4
    have HM4 := hid (HM.out.go hlt hB1 hb4 he4)
    clear hb4 he4
    clear hW4 a0 a1 a2 a3 a4 b0 b1 b2 b3 b4 g0 g1 z1 z2 z3 z4 s2 s3
    obtain ⟨⟨x0, x1, x2, x3, x4⟩, xp, xq, ⟨xl, xf⟩, ⟨y0, y1, y2, y3, y4⟩, -⟩ := HM4.out
    go_wp2_with fail
    go_ret
    exact ⟨(m : Int) - 1, by rw [HF.out]; rfl, (fun m' h => by rw [HF.out] at h; cases h), HM4.out.t, HM4.out.l⟩
end Go.Proofs.YtnfjlimecoikpaaGreatDoor
