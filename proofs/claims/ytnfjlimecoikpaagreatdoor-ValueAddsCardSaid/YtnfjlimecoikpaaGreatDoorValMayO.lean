/- The program's walk over values: may, kind by kind. -/
import Derived.Test.YtnfjlimecoikpaaGreatDoorValMay
namespace Go.Proofs.YtnfjlimecoikpaaGreatDoor
set_option maxRecDepth 100000
open Go.RowKit

set_option maxHeartbeats 4000000 in
theorem may_other (c n : Int) (s : List UInt8) (lv kv : Value) (l : List VM) (ks : List (List UInt8)) (d m b : Nat) (hdm : d ≤ 60 ∧ 0 < m ∧ m ≤ 1000000) (w : World) (hL : Left w b m) (hl : SliceAt w 5 lv l.length (vmCells l)) (hk : SliceAt w 1 kv ks.length (strCells ks))
    (hc : c ≠ 0 ∧ c ≠ 1 ∧ c ≠ 2 ∧ c ≠ 3 ∧ c ≠ 4 ∧ c ≠ 5) (q r : Option Nat) (hr : r = if nodeB c n s l.length ks = false then none else q) (hC : ConC lv d m b q w) :
    Calls Tryz.prog 37 #[valA c n s lv kv, .int .i64 d, .pointer (some ⟨b, 0, none⟩)] w (MayRet r b w) := by
  have HR := hid hr
  have HC := hid hC
  have hlt := hL.lt
  obtain ⟨-, la, lc, rfl, hlc, hlm, -⟩ := hl.vms
  obtain ⟨-, ka, kc, rfl, hkc, hkm, -⟩ := hk.str
  unfold maxLen at hlm hkm
  obtain ⟨W, hW, q1, q2, q3, q4, q5, q6⟩ := may_three w c n s (.slice la l.length lc) (.slice ka ks.length kc) d b m hL 25 3 46
  obtain ⟨W2, hW2, r1, r2, r3, r4, r5, r6⟩ := may_store (y := (m : Int) - 1) (by omega : w.heap.size < W.heap.size) (by omega) (by omega) hlt q1 q2 q3 q4
  obtain ⟨W3, B, hW3, hB, hB1, hB2, s1, s2, s3, s4, s5, s6, s7⟩ := may_bare W2 w.heap.size b d c n ((m : Int) - 1) s _ _ 25 (by omega) r1 r2 r3 r4
  have HM := hid (MSt.mk s1 s2 s3 s4 s5 (((But.of q5).trans r5).trans (But.of s7)))
  obtain ⟨a0, a1, a2, a3, a4⟩ := s1
  obtain ⟨b0, b1, b2, b3, b4⟩ := s5
  have z1 := s6 1
  have z2 := s6 2
  have z3 := s6 3
  have z4 := s6 4
  obtain ⟨g0, g1⟩ := s4
  obtain ⟨c0, f0⟩ := q4
  obtain ⟨c1, f1⟩ := r4
  obtain ⟨v0, v1, v2, v3, v4⟩ := r1
  have hd1 : (d : Int) ≤ 60 := by omega
  have hm1 : 0 ≤ (m : Int) - 1 := by omega
  have hne : w.heap.size ≠ B := by omega
  clear hL q1 q5 r5 q6 r6 hl hk hr hC s7
  obtain ⟨h0, h1, h2, h3, h4, h5⟩ := hc
  have HF : Hid (r = none) := hid (by rw [HR.out, if_pos (by simp [nodeB, h0, h1, h2, h3, h4, h5])])
  have u0 : (c == 0) = false := eqF h0
  have u1 : (c == 1) = false := eqF h1
  have u2 : (c == 2) = false := eqF h2
  have u3 : (c == 3) = false := eqF h3
  have u4 : (c == 4) = false := eqF h4
  have u5 : (c == 5) = false := eqF h5
  have HM4 := HM
  clear h0 h1 h2 h3 h4 h5
  go_enter Tryz.func37, Tryz.ntmps37
  go_upto_region 1 with fail
  rw [← hW]
  clear hW
  go_upto_region 2 with fail
  rw [← hW2]
  clear hW2
  go_upto_region 5 with fail
  rw [← hW3, ← hB]
  clear hW3 hB
  go_wp2_with fail
  go_ret
  exact ⟨(m : Int) - 1, by rw [HF.out]; rfl, (fun m' h => by rw [HF.out] at h; cases h), HM4.out.t, HM4.out.l⟩
end Go.Proofs.YtnfjlimecoikpaaGreatDoor
