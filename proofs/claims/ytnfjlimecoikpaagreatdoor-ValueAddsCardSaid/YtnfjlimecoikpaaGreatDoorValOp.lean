/- Op at the sum; the law ValueAdds. -/
import Derived.Test.YtnfjlimecoikpaaGreatDoorValPlus
namespace Go.Proofs.YtnfjlimecoikpaaGreatDoor
set_option maxRecDepth 100000
open Go.RowKit

theorem op_res {w : World} {tmps : Array Value} {b : Nat} {k n : Int} {s : List UInt8} {lv kv : Value} {c : Int} (h2 : tmps[6]?.getD undef = .pointer (some ⟨b, 0, none⟩)) (h3 : tmps[7]?.getD undef = .int .i64 c) (h : Box w b k n s lv kv) :
    (results Tryz.f16 tmps).run Tryz.prog w = .ok (.tuple #[valA k n s lv kv, .int .i64 c]) w := by
  simp [results, Tryz.f16, go_sem, h2, h3, h.c0, h.c1, h.c2, h.c3, h.c4]
set_option maxHeartbeats 2000000 in
theorem pOp_any (k n : Int) (s : List UInt8) (lv kv : Value) (l : List VM) (ks : List (List UInt8)) (k' n' : Int) (s' : List UInt8) (lv' kv' : Value) (l' : List VM) (ks' : List (List UInt8)) (hf : fitB (.mk k n s lv kv l ks) = true) (hf' : fitB (.mk k' n' s' lv' kv' l' ks') = true) (w : World) (hH : Held w (.mk k n s lv kv l ks)) (hH' : Held w (.mk k' n' s' lv' kv' l' ks')) :
    Calls Tryz.prog 16 #[.string ⟨#[43]⟩, valA k n s lv kv, valA k' n' s' lv' kv'] w (SumRet (opV (.mk k n s lv kv l ks) (.mk k' n' s' lv' kv' l' ks')) w) := by
  obtain ⟨W, hW, hA, hB, hR, hbw⟩ := plus_three w k n s lv kv k' n' s' lv' kv'
  have HA := hid hA
  have HB := hid hB
  have HR := hid hR
  obtain ⟨ca, hca⟩ : ∃ ca, okB (.mk k n s lv kv l ks) = ca := ⟨_, rfl⟩
  obtain ⟨cb, hcb⟩ : ∃ cb, okB (.mk k' n' s' lv' kv' l' ks') = cb := ⟨_, rfl⟩
  have HCa := hid (check_any k n s lv kv l ks W (hH.below hbw (Nat.le_refl _)) ca hca)
  have HCb := hid (fun W' (hW' : Below w.heap.size w W') => check_any k' n' s' lv' kv' l' ks' W' (hH'.below hW' (Nat.le_refl _)) cb hcb)
  have HPl := hid (fun W' (hW' : Below w.heap.size w W') (h1 : ca = true) (h2 : cb = true) => plus_any k n s lv kv l ks k' n' s' lv' kv' l' ks' hf hf' (hca.trans h1) (hcb.trans h2) w W' hW' hH hH')
  obtain ⟨r, hr⟩ : ∃ r, opV (.mk k n s lv kv l ks) (.mk k' n' s' lv' kv' l' ks') = r := ⟨_, rfl⟩
  have HP : Hid (r = if ca = true ∧ cb = true then plusV (.mk k n s lv kv l ks) (.mk k' n' s' lv' kv' l' ks') else (noneV, 1)) := hid (by rw [← hr]; unfold opV; rw [hca, hcb])
  rw [hr]
  clear hr hca hcb hA hB hR hH hH' hf hf'
  obtain ⟨a0, a1, a2, a3, a4⟩ := HA.out
  obtain ⟨b0, b1, b2, b3, b4⟩ := HB.out
  obtain ⟨⟨c0, c1, c2, c3, c4⟩, hfr⟩ := HR.out
  have f0 := hfr 0
  have f1 := hfr 1
  have f2 := hfr 2
  have f3 := hfr 3
  have f4 := hfr 4
  go_enter Tryz.func16, Tryz.ntmps16
  go_upto_region 1 with fail
  rw [← hW]
  clear hW
  go_wp2_with fail
  refine HCa.out.mono ?_
  rintro e w1 ⟨rfl, hb1⟩
  have hq1 := Below.chain hbw hb1
  have HA1 := hid (HA.out.keeps hb1)
  have HB1 := hid (HB.out.keeps hb1)
  have HR1 := hid (HR.out.keep hb1)
  clear a0 a1 a2 a3 a4 b0 b1 b2 b3 b4 c0 c1 c2 c3 c4 f0 f1 f2 f3 f4 hfr hb1
  obtain ⟨a0, a1, a2, a3, a4⟩ := HA1.out
  obtain ⟨b0, b1, b2, b3, b4⟩ := HB1.out
  obtain ⟨⟨c0, c1, c2, c3, c4⟩, hfr⟩ := HR1.out
  have f0 := hfr 0
  have f1 := hfr 1
  have f2 := hfr 2
  have f3 := hfr 3
  have f4 := hfr 4
  cases ca with
  | false =>
    have HF : Hid (r = (noneV, 1)) := hid (by rw [HP.out, if_neg (by simp)])
    go_wp2_with fail
    refine bodyPost_ret (op_res rfl rfl (RC.all HR1.out _ _ _ _ _).x) rfl ?_
    exact sum_bare 0 0 [] HF.out hq1 (by omega) _ _ _ _ _
  | true =>
    go_wp2_with fail
    refine (HCb.out _ hq1).mono ?_
    rintro e w2 ⟨rfl, hb2⟩
    have hq2 := Below.chain hq1 hb2
    have HA2 := hid (HA1.out.keeps hb2)
    have HB2 := hid (HB1.out.keeps hb2)
    have HR2 := hid (HR1.out.keep hb2)
    clear a0 a1 a2 a3 a4 b0 b1 b2 b3 b4 c0 c1 c2 c3 c4 f0 f1 f2 f3 f4 hfr hb2
    obtain ⟨a0, a1, a2, a3, a4⟩ := HA2.out
    obtain ⟨b0, b1, b2, b3, b4⟩ := HB2.out
    obtain ⟨⟨c0, c1, c2, c3, c4⟩, hfr⟩ := HR2.out
    have f0 := hfr 0
    have f1 := hfr 1
    have f2 := hfr 2
    have f3 := hfr 3
    have f4 := hfr 4
    cases cb with
    | false =>
      have HF : Hid (r = (noneV, 1)) := hid (by rw [HP.out, if_neg (by simp)])
      go_wp2_with fail
      refine bodyPost_ret (op_res rfl rfl (RC.all HR2.out _ _ _ _ _).x) rfl ?_
      exact sum_bare 0 0 [] HF.out hq2 (by omega) _ _ _ _ _
    | true =>
      have HF : Hid (r = plusV (.mk k n s lv kv l ks) (.mk k' n' s' lv' kv' l' ks')) := hid (by rw [HP.out, if_pos (by simp)])
      have HPw := hid (HPl.out w2 hq2 (by simp) (by simp))
      rw [← HF.out] at HPw
      clear HF HP
      go_wp2_with fail
      refine HPw.out.mono ?_
      rintro e w3 ⟨xk, xn, xs, la, ln, lc, ka, kn, kc, xl, xks, rfl, hHx, hsx, hb3⟩
      have hq3 := Below.chain hq2 hb3
      have HR3 := hid (HR2.out.keep hb3)
      have HHx := hid hHx
      have HSx := hid hsx
      have hbo : w.heap.size + 2 < w2.heap.size := HR2.out.lt
      clear a0 a1 a2 a3 a4 b0 b1 b2 b3 b4 c0 c1 c2 c3 c4 f0 f1 f2 f3 f4 hfr hHx hsx
      obtain ⟨⟨c0, c1, c2, c3, c4⟩, hfr⟩ := HR3.out
      have f0 := hfr 0
      have f1 := hfr 1
      have f2 := hfr 2
      have f3 := hfr 3
      have f4 := hfr 4
      go_wp2_with fail
      refine bodyPost_ret (op_res rfl rfl (RC.all HR3.out _ _ _ _ _).x) rfl ?_
      refine ⟨xk, xn, xs, _, _, xl, xks, rfl, ?_, HSx.out, below_ch hq3 (by omega) _ _ _ _ _⟩
      exact (HHx.out.ch (b := w.heap.size + 2) ⟨by omega, hbo⟩ _ _ _ _ _).now
end Go.Proofs.YtnfjlimecoikpaaGreatDoor
