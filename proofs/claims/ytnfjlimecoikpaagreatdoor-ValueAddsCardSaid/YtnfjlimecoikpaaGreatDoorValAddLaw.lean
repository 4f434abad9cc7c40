/- The law ValueAdds. -/
import Derived.Test.YtnfjlimecoikpaaGreatDoorValOp
import Derived.Test.YtnfjlimecoikpaaGreatDoorValLaw1
import Derived.Test.YtnfjlimecoikpaaGreatDoorValRef4
namespace Go.Proofs.YtnfjlimecoikpaaGreatDoor
set_option maxRecDepth 100000
open Go.RowKit

theorem adds_three (w : World) (k n : Int) (s : List UInt8) (lv kv : Value) (k' n' : Int) (s' : List UInt8) (lv' kv' : Value) (k'' n'' : Int) (s'' : List UInt8) (lv'' kv'' : Value) :
    ∃ W, W = ((w.alloc (.cells #[.int .i64 k, .int .i64 n, .string (bs s), lv, kv] 25 (0, 0))).alloc (.cells #[.int .i64 k', .int .i64 n', .string (bs s'), lv', kv'] 25 (0, 0))).alloc (.cells #[.int .i64 k'', .int .i64 n'', .string (bs s''), lv'', kv''] 25 (0, 0)) ∧ Box W w.heap.size k n s lv kv ∧ Box W (w.heap.size + 1) k' n' s' lv' kv' ∧ Box W (w.heap.size + 2) k'' n'' s'' lv'' kv'' ∧ Below w.heap.size w W := by
  refine ⟨_, rfl, (box_two w k n s lv kv _ _ (0, 0)).keeps (below_new _ _), (box_next w k' n' s' lv' kv' _ _ (0, 0)).keeps (below_new _ _), ?_, Below.chain (below_new2 w _ _) (below_new _ _)⟩
  have := box_new ((w.alloc (.cells #[.int .i64 k, .int .i64 n, .string (bs s), lv, kv] 25 (0, 0))).alloc (.cells #[.int .i64 k', .int .i64 n', .string (bs s'), lv', kv'] 25 (0, 0))) k'' n'' s'' lv'' kv'' 25 (0, 0)
  rw [World.size_alloc, World.size_alloc] at this
  exact this
set_option maxHeartbeats 4000000 in
theorem law_adds (k n : Int) (s : List UInt8) (lv kv : Value) (l : List VM) (ks : List (List UInt8)) (k' n' : Int) (s' : List UInt8) (lv' kv' : Value) (l' : List VM) (ks' : List (List UInt8)) (k'' n'' : Int) (s'' : List UInt8) (lv'' kv'' : Value) (l'' : List VM) (ks'' : List (List UInt8)) (hf0 : fitB (.mk k n s lv kv l ks) = true) (hf1 : fitB (.mk k' n' s' lv' kv' l' ks') = true) (hf2 : fitB (.mk k'' n'' s'' lv'' kv'' l'' ks'') = true) (w : World) (hH0 : Held w (.mk k n s lv kv l ks)) (hH1 : Held w (.mk k' n' s' lv' kv' l' ks')) (hH2 : Held w (.mk k'' n'' s'' lv'' kv'' l'' ks'')) (ht : PowTab w) :
    Calls Tryz.prog 5 #[valA k n s lv kv, valA k' n' s' lv' kv', valA k'' n'' s'' lv'' kv''] w fun e w' => e = .returned (.bool true) ∧ Below w.heap.size w w' := by
  have HFx := hid (fun W (hW : Below w.heap.size w W) => fixed_any W (ht.below hW))
  have HG0 := hid (fun W (hW : Below w.heap.size w W) => rgreat_any k n s lv kv l ks W (hH0.below hW (Nat.le_refl _)))
  have HH0 := hid (fun W (hW : Below w.heap.size w W) => hH0.below hW (Nat.le_refl _))
  have HG1 := hid (fun W (hW : Below w.heap.size w W) => rgreat_any k' n' s' lv' kv' l' ks' W (hH1.below hW (Nat.le_refl _)))
  have HH1 := hid (fun W (hW : Below w.heap.size w W) => hH1.below hW (Nat.le_refl _))
  have HG2 := hid (fun W (hW : Below w.heap.size w W) => rgreat_any k'' n'' s'' lv'' kv'' l'' ks'' W (hH2.below hW (Nat.le_refl _)))
  have HH2 := hid (fun W (hW : Below w.heap.size w W) => hH2.below hW (Nat.le_refl _))
  obtain ⟨W, hW, hA, hB, hC, hq0⟩ := adds_three w k n s lv kv k' n' s' lv' kv' k'' n'' s'' lv'' kv''
  have Ha0 := hid hA
  have Hb0 := hid hB
  have Hc0 := hid hC
  clear hA hB hC hH0 hH1 hH2 ht
  obtain ⟨a0, a1, a2, a3, a4⟩ := Ha0.out
  obtain ⟨b0, b1, b2, b3, b4⟩ := Hb0.out
  obtain ⟨c0, c1, c2, c3, c4⟩ := Hc0.out
  go_enter Tryz.func5, Tryz.ntmps5
  go_upto_region 1 with fail
  rw [← hW]
  clear hW
  go_wp2_with fail
  refine (HG0.out _ hq0).mono ?_
  rintro e w1 ⟨g1, rfl, -, hb1⟩
  have hq1 := Below.chain hq0 hb1
  have Ha1 := hid (Ha0.out.keeps hb1)
  have Hb1 := hid (Hb0.out.keeps hb1)
  have Hc1 := hid (Hc0.out.keeps hb1)
  clear a0 a1 a2 a3 a4 b0 b1 b2 b3 b4 c0 c1 c2 c3 c4 hb1
  obtain ⟨a0, a1, a2, a3, a4⟩ := Ha1.out
  obtain ⟨b0, b1, b2, b3, b4⟩ := Hb1.out
  obtain ⟨c0, c1, c2, c3, c4⟩ := Hc1.out
  cases g1 with
  | true =>
    go_wp2_with fail
    refine (HFx.out _ hq1).mono ?_
    rintro e wz ⟨rfl, hbz⟩
    go_wp2_with fail
    go_ret
    exact ⟨rfl, Below.chain hq1 hbz⟩
  | false =>
    go_wp2_with fail
    refine (HG1.out _ hq1).mono ?_
    rintro e w2 ⟨g2, rfl, -, hb2⟩
    have hq2 := Below.chain hq1 hb2
    have Ha2 := hid (Ha1.out.keeps hb2)
    have Hb2 := hid (Hb1.out.keeps hb2)
    have Hc2 := hid (Hc1.out.keeps hb2)
    clear a0 a1 a2 a3 a4 b0 b1 b2 b3 b4 c0 c1 c2 c3 c4 hb2
    obtain ⟨a0, a1, a2, a3, a4⟩ := Ha2.out
    obtain ⟨b0, b1, b2, b3, b4⟩ := Hb2.out
    obtain ⟨c0, c1, c2, c3, c4⟩ := Hc2.out
    cases g2 with
    | true =>
      go_wp2_with fail
      refine (HFx.out _ hq2).mono ?_
      rintro e wz ⟨rfl, hbz⟩
      go_wp2_with fail
      go_ret
      exact ⟨rfl, Below.chain hq2 hbz⟩
    | false =>
      go_wp2_with fail
      refine (HG2.out _ hq2).mono ?_
      rintro e w3 ⟨g3, rfl, -, hb3⟩
      have hq3 := Below.chain hq2 hb3
      have Ha3 := hid (Ha2.out.keeps hb3)
      have Hb3 := hid (Hb2.out.keeps hb3)
      have Hc3 := hid (Hc2.out.keeps hb3)
      clear a0 a1 a2 a3 a4 b0 b1 b2 b3 b4 c0 c1 c2 c3 c4 hb3
      obtain ⟨a0, a1, a2, a3, a4⟩ := Ha3.out
      obtain ⟨b0, b1, b2, b3, b4⟩ := Hb3.out
      obtain ⟨c0, c1, c2, c3, c4⟩ := Hc3.out
      cases g3 with
      | true =>
        go_wp2_with fail
        refine (HFx.out _ hq3).mono ?_
        rintro e wz ⟨rfl, hbz⟩
        go_wp2_with fail
        go_ret
        exact ⟨rfl, Below.chain hq3 hbz⟩
      | false =>
        have HOx := hid (pOp_any k n s lv kv l ks k' n' s' lv' kv' l' ks' hf0 hf1 _ (HH0.out _ hq3) (HH1.out _ hq3))
        generalize hrx : opV (.mk k n s lv kv l ks) (.mk k' n' s' lv' kv' l' ks') = rx at HOx
        go_wp2_with fail
        refine HOx.out.mono ?_
        rintro e w4 ⟨xk, xn, xs, lv1, kv1, xl, xq, rfl, hHx, hsx, hbx⟩
        obtain ⟨⟨xa, xb, xc, e1⟩, xd, xe, xf, e2⟩ := held_slices hHx
        obtain rfl : lv1 = (.slice xa xb xc) := e1
        obtain rfl : kv1 = (.slice xd xe xf) := e2
        have hby := Below.chain hbx (below_new w4 (.cells #[.int .i64 xk, .int .i64 xn, .string (bs xs), (.slice xa xb xc), (.slice xd xe xf)] 25 (0, 0)))
        have HN := hid (box_new w4 xk xn xs (.slice xa xb xc) (.slice xd xe xf) 25 (0, 0))
        have HHn := hid (Held.below (below_new w4 (.cells #[.int .i64 xk, .int .i64 xn, .string (bs xs), (.slice xa xb xc), (.slice xd xe xf)] 25 (0, 0))) (Nat.le_refl _) hHx)
        have Hsx := hid hsx
        have hfx : fitB (.mk xk xn xs (.slice xa xb xc) (.slice xd xe xf) xl xq) = true := by rw [same_fits _ _ hsx, ← hrx]; exact op_fit hf0 hf1
        obtain ⟨V4, hV⟩ : ∃ V, V = w4.alloc (.cells #[.int .i64 xk, .int .i64 xn, .string (bs xs), (.slice xa xb xc), (.slice xd xe xf)] 25 (0, 0)) := ⟨_, rfl⟩
        rw [← hV] at hby HN HHn
        have hq4 := Below.chain hq3 hby
        have Ha4 := hid (Ha3.out.keeps hby)
        have Hb4 := hid (Hb3.out.keeps hby)
        have Hc4 := hid (Hc3.out.keeps hby)
        have Hx4 := HN
        have Kx4 := HHn
        have hccx := (rfl : rx.2 = rx.2)
        obtain ⟨cx, hcx⟩ : ∃ cx, rx.2 = cx := ⟨_, rfl⟩
        rw [hcx]
        have Hcx := hid hcx
        clear hcx hccx
        go_upto_region 4 with fail
        rw [← hV]
        clear hV hHx hsx hbx hby HN HHn HOx
        clear a0 a1 a2 a3 a4 b0 b1 b2 b3 b4 c0 c1 c2 c3 c4
        obtain ⟨a0, a1, a2, a3, a4⟩ := Ha4.out
        obtain ⟨b0, b1, b2, b3, b4⟩ := Hb4.out
        obtain ⟨c0, c1, c2, c3, c4⟩ := Hc4.out
        obtain ⟨x0, x1, x2, x3, x4⟩ := Hx4.out
        have HOy := hid (pOp_any k' n' s' lv' kv' l' ks' k'' n'' s'' lv'' kv'' l'' ks'' hf1 hf2 _ (HH1.out _ hq4) (HH2.out _ hq4))
        generalize hry : opV (.mk k' n' s' lv' kv' l' ks') (.mk k'' n'' s'' lv'' kv'' l'' ks'') = ry at HOy
        go_wp2_with fail
        refine HOy.out.mono ?_
        rintro e w5 ⟨yk, yn, ys, lv1, kv1, yl, yq, rfl, hHx, hsx, hbx⟩
        obtain ⟨⟨ya, yb, yc, e1⟩, yd, ye, yf, e2⟩ := held_slices hHx
        obtain rfl : lv1 = (.slice ya yb yc) := e1
        obtain rfl : kv1 = (.slice yd ye yf) := e2
        have hby := Below.chain hbx (below_new w5 (.cells #[.int .i64 yk, .int .i64 yn, .string (bs ys), (.slice ya yb yc), (.slice yd ye yf)] 25 (0, 0)))
        have HN := hid (box_new w5 yk yn ys (.slice ya yb yc) (.slice yd ye yf) 25 (0, 0))
        have HHn := hid (Held.below (below_new w5 (.cells #[.int .i64 yk, .int .i64 yn, .string (bs ys), (.slice ya yb yc), (.slice yd ye yf)] 25 (0, 0))) (Nat.le_refl _) hHx)
        have Hsy := hid hsx
        have hfy : fitB (.mk yk yn ys (.slice ya yb yc) (.slice yd ye yf) yl yq) = true := by rw [same_fits _ _ hsx, ← hry]; exact op_fit hf1 hf2
        obtain ⟨V5, hV⟩ : ∃ V, V = w5.alloc (.cells #[.int .i64 yk, .int .i64 yn, .string (bs ys), (.slice ya yb yc), (.slice yd ye yf)] 25 (0, 0)) := ⟨_, rfl⟩
        rw [← hV] at hby HN HHn
        have hq5 := Below.chain hq4 hby
        have Ha5 := hid (Ha4.out.keeps hby)
        have Hb5 := hid (Hb4.out.keeps hby)
        have Hc5 := hid (Hc4.out.keeps hby)
        have Hx5 := hid (Hx4.out.keeps hby)
        have Hy5 := HN
        have Kx5 := hid (Held.below hby (Nat.le_refl _) Kx4.out)
        have Ky5 := HHn
        have hccy := (rfl : ry.2 = ry.2)
        obtain ⟨cy, hcy⟩ : ∃ cy, ry.2 = cy := ⟨_, rfl⟩
        rw [hcy]
        have Hcy := hid hcy
        clear hcy hccy
        go_upto_region 5 with fail
        rw [← hV]
        clear hV hHx hsx hbx hby HN HHn HOy
        clear a0 a1 a2 a3 a4 b0 b1 b2 b3 b4 c0 c1 c2 c3 c4 x0 x1 x2 x3 x4
        obtain ⟨a0, a1, a2, a3, a4⟩ := Ha5.out
        obtain ⟨b0, b1, b2, b3, b4⟩ := Hb5.out
        obtain ⟨c0, c1, c2, c3, c4⟩ := Hc5.out
        obtain ⟨x0, x1, x2, x3, x4⟩ := Hx5.out
        obtain ⟨y0, y1, y2, y3, y4⟩ := Hy5.out
        have HOu := hid (pOp_any xk xn xs (.slice xa xb xc) (.slice xd xe xf) xl xq k'' n'' s'' lv'' kv'' l'' ks'' hfx hf2 _ Kx5.out (HH2.out _ hq5))
        generalize hru : opV (.mk xk xn xs (.slice xa xb xc) (.slice xd xe xf) xl xq) (.mk k'' n'' s'' lv'' kv'' l'' ks'') = ru at HOu
        go_wp2_with fail
        refine HOu.out.mono ?_
        rintro e w6 ⟨uk, un, us, lv1, kv1, ul, uq, rfl, hHx, hsx, hbx⟩
        obtain ⟨⟨ua, ub, uc, e1⟩, ud, ue, uf, e2⟩ := held_slices hHx
        obtain rfl : lv1 = (.slice ua ub uc) := e1
        obtain rfl : kv1 = (.slice ud ue uf) := e2
        have hby := Below.chain hbx (below_new w6 (.cells #[.int .i64 uk, .int .i64 un, .string (bs us), (.slice ua ub uc), (.slice ud ue uf)] 25 (0, 0)))
        have HN := hid (box_new w6 uk un us (.slice ua ub uc) (.slice ud ue uf) 25 (0, 0))
        have HHn := hid (Held.below (below_new w6 (.cells #[.int .i64 uk, .int .i64 un, .string (bs us), (.slice ua ub uc), (.slice ud ue uf)] 25 (0, 0))) (Nat.le_refl _) hHx)
        have Hsu := hid hsx
        have hfu : fitB (.mk uk un us (.slice ua ub uc) (.slice ud ue uf) ul uq) = true := by rw [same_fits _ _ hsx, ← hru]; exact op_fit hfx hf2
        obtain ⟨V6, hV⟩ : ∃ V, V = w6.alloc (.cells #[.int .i64 uk, .int .i64 un, .string (bs us), (.slice ua ub uc), (.slice ud ue uf)] 25 (0, 0)) := ⟨_, rfl⟩
        rw [← hV] at hby HN HHn
        have hq6 := Below.chain hq5 hby
        have Ha6 := hid (Ha5.out.keeps hby)
        have Hb6 := hid (Hb5.out.keeps hby)
        have Hc6 := hid (Hc5.out.keeps hby)
        have Hx6 := hid (Hx5.out.keeps hby)
        have Hy6 := hid (Hy5.out.keeps hby)
        have Hu6 := HN
        have Kx6 := hid (Held.below hby (Nat.le_refl _) Kx5.out)
        have Ky6 := hid (Held.below hby (Nat.le_refl _) Ky5.out)
        have Ku6 := HHn
        have hccu := (rfl : ru.2 = ru.2)
        obtain ⟨cu, hcu⟩ : ∃ cu, ru.2 = cu := ⟨_, rfl⟩
        rw [hcu]
        have Hcu := hid hcu
        clear hcu hccu
        go_upto_region 6 with fail
        rw [← hV]
        clear hV hHx hsx hbx hby HN HHn HOu
        clear a0 a1 a2 a3 a4 b0 b1 b2 b3 b4 c0 c1 c2 c3 c4 x0 x1 x2 x3 x4 y0 y1 y2 y3 y4
        obtain ⟨a0, a1, a2, a3, a4⟩ := Ha6.out
        obtain ⟨b0, b1, b2, b3, b4⟩ := Hb6.out
        obtain ⟨c0, c1, c2, c3, c4⟩ := Hc6.out
        obtain ⟨x0, x1, x2, x3, x4⟩ := Hx6.out
        obtain ⟨y0, y1, y2, y3, y4⟩ := Hy6.out
        obtain ⟨u0, u1, u2, u3, u4⟩ := Hu6.out
        have HOv := hid (pOp_any k n s lv kv l ks yk yn ys (.slice ya yb yc) (.slice yd ye yf) yl yq hf0 hfy _ (HH0.out _ hq6) Ky6.out)
        generalize hrv : opV (.mk k n s lv kv l ks) (.mk yk yn ys (.slice ya yb yc) (.slice yd ye yf) yl yq) = rv at HOv
        go_wp2_with fail
        refine HOv.out.mono ?_
        rintro e w7 ⟨vk, vn, vs, lv1, kv1, vl, vq, rfl, hHx, hsx, hbx⟩
        obtain ⟨⟨va, vb, vc, e1⟩, vd, ve, vf, e2⟩ := held_slices hHx
        obtain rfl : lv1 = (.slice va vb vc) := e1
        obtain rfl : kv1 = (.slice vd ve vf) := e2
        have hby := Below.chain hbx (below_new w7 (.cells #[.int .i64 vk, .int .i64 vn, .string (bs vs), (.slice va vb vc), (.slice vd ve vf)] 25 (0, 0)))
        have HN := hid (box_new w7 vk vn vs (.slice va vb vc) (.slice vd ve vf) 25 (0, 0))
        have HHn := hid (Held.below (below_new w7 (.cells #[.int .i64 vk, .int .i64 vn, .string (bs vs), (.slice va vb vc), (.slice vd ve vf)] 25 (0, 0))) (Nat.le_refl _) hHx)
        have Hsv := hid hsx
        have hfv : fitB (.mk vk vn vs (.slice va vb vc) (.slice vd ve vf) vl vq) = true := by rw [same_fits _ _ hsx, ← hrv]; exact op_fit hf0 hfy
        obtain ⟨V7, hV⟩ : ∃ V, V = w7.alloc (.cells #[.int .i64 vk, .int .i64 vn, .string (bs vs), (.slice va vb vc), (.slice vd ve vf)] 25 (0, 0)) := ⟨_, rfl⟩
        rw [← hV] at hby HN HHn
        have hq7 := Below.chain hq6 hby
        have Ha7 := hid (Ha6.out.keeps hby)
        have Hb7 := hid (Hb6.out.keeps hby)
        have Hc7 := hid (Hc6.out.keeps hby)
        have Hx7 := hid (Hx6.out.keeps hby)
        have Hy7 := hid (Hy6.out.keeps hby)
        have Hu7 := hid (Hu6.out.keeps hby)
        have Hv7 := HN
        have Kx7 := hid (Held.below hby (Nat.le_refl _) Kx6.out)
        have Ky7 := hid (Held.below hby (Nat.le_refl _) Ky6.out)
        have Ku7 := hid (Held.below hby (Nat.le_refl _) Ku6.out)
        have Kv7 := HHn
        have hccv := (rfl : rv.2 = rv.2)
        obtain ⟨cv, hcv⟩ : ∃ cv, rv.2 = cv := ⟨_, rfl⟩
        rw [hcv]
        have Hcv := hid hcv
        clear hcv hccv
        go_upto_region 7 with fail
        rw [← hV]
        clear hV hHx hsx hbx hby HN HHn HOv
        clear a0 a1 a2 a3 a4 b0 b1 b2 b3 b4 c0 c1 c2 c3 c4 x0 x1 x2 x3 x4 y0 y1 y2 y3 y4 u0 u1 u2 u3 u4
        obtain ⟨a0, a1, a2, a3, a4⟩ := Ha7.out
        obtain ⟨b0, b1, b2, b3, b4⟩ := Hb7.out
        obtain ⟨c0, c1, c2, c3, c4⟩ := Hc7.out
        obtain ⟨x0, x1, x2, x3, x4⟩ := Hx7.out
        obtain ⟨y0, y1, y2, y3, y4⟩ := Hy7.out
        obtain ⟨u0, u1, u2, u3, u4⟩ := Hu7.out
        obtain ⟨v0, v1, v2, v3, v4⟩ := Hv7.out
        have HOz := hid (pOp_any k' n' s' lv' kv' l' ks' k n s lv kv l ks hf1 hf0 _ (HH1.out _ hq7) (HH0.out _ hq7))
        generalize hrz : opV (.mk k' n' s' lv' kv' l' ks') (.mk k n s lv kv l ks) = rz at HOz
        go_wp2_with fail
        refine HOz.out.mono ?_
        rintro e w8 ⟨zk, zn, zs, lv1, kv1, zl, zq, rfl, hHx, hsx, hbx⟩
        obtain ⟨⟨za, zb, zc, e1⟩, zd, ze, zf, e2⟩ := held_slices hHx
        obtain rfl : lv1 = (.slice za zb zc) := e1
        obtain rfl : kv1 = (.slice zd ze zf) := e2
        have hby := Below.chain hbx (below_new w8 (.cells #[.int .i64 zk, .int .i64 zn, .string (bs zs), (.slice za zb zc), (.slice zd ze zf)] 25 (0, 0)))
        have HN := hid (box_new w8 zk zn zs (.slice za zb zc) (.slice zd ze zf) 25 (0, 0))
        have HHn := hid (Held.below (below_new w8 (.cells #[.int .i64 zk, .int .i64 zn, .string (bs zs), (.slice za zb zc), (.slice zd ze zf)] 25 (0, 0))) (Nat.le_refl _) hHx)
        have Hsz := hid hsx
        have hfz : fitB (.mk zk zn zs (.slice za zb zc) (.slice zd ze zf) zl zq) = true := by rw [same_fits _ _ hsx, ← hrz]; exact op_fit hf1 hf0
        obtain ⟨V8, hV⟩ : ∃ V, V = w8.alloc (.cells #[.int .i64 zk, .int .i64 zn, .string (bs zs), (.slice za zb zc), (.slice zd ze zf)] 25 (0, 0)) := ⟨_, rfl⟩
        rw [← hV] at hby HN HHn
        have hq8 := Below.chain hq7 hby
        have Ha8 := hid (Ha7.out.keeps hby)
        have Hb8 := hid (Hb7.out.keeps hby)
        have Hc8 := hid (Hc7.out.keeps hby)
        have Hx8 := hid (Hx7.out.keeps hby)
        have Hy8 := hid (Hy7.out.keeps hby)
        have Hu8 := hid (Hu7.out.keeps hby)
        have Hv8 := hid (Hv7.out.keeps hby)
        have Hz8 := HN
        have Kx8 := hid (Held.below hby (Nat.le_refl _) Kx7.out)
        have Ky8 := hid (Held.below hby (Nat.le_refl _) Ky7.out)
        have Ku8 := hid (Held.below hby (Nat.le_refl _) Ku7.out)
        have Kv8 := hid (Held.below hby (Nat.le_refl _) Kv7.out)
        have Kz8 := HHn
        have hccz := (rfl : rz.2 = rz.2)
        obtain ⟨cz, hcz⟩ : ∃ cz, rz.2 = cz := ⟨_, rfl⟩
        rw [hcz]
        have Hcz := hid hcz
        clear hcz hccz
        go_upto_region 8 with fail
        rw [← hV]
        clear hV hHx hsx hbx hby HN HHn HOz
        clear a0 a1 a2 a3 a4 b0 b1 b2 b3 b4 c0 c1 c2 c3 c4 x0 x1 x2 x3 x4 y0 y1 y2 y3 y4 u0 u1 u2 u3 u4 v0 v1 v2 v3 v4
        obtain ⟨a0, a1, a2, a3, a4⟩ := Ha8.out
        obtain ⟨b0, b1, b2, b3, b4⟩ := Hb8.out
        obtain ⟨c0, c1, c2, c3, c4⟩ := Hc8.out
        obtain ⟨x0, x1, x2, x3, x4⟩ := Hx8.out
        obtain ⟨y0, y1, y2, y3, y4⟩ := Hy8.out
        obtain ⟨u0, u1, u2, u3, u4⟩ := Hu8.out
        obtain ⟨v0, v1, v2, v3, v4⟩ := Hv8.out
        obtain ⟨z0, z1, z2, z3, z4⟩ := Hz8.out
        have HT : Hid (k = 2 → k' = 2 → cx = cz ∧ sameB (.mk xk xn xs (.slice xa xb xc) (.slice xd xe xf) xl xq) (.mk zk zn zs (.slice za zb zc) (.slice zd ze zf) zl zq) = true) := hid (fun h h' => by
          obtain ⟨e1, e2⟩ := op_turn (a := (.mk k n s lv kv l ks)) (b := (.mk k' n' s' lv' kv' l' ks')) h h'
          rw [hrx, hrz] at e1 e2
          refine ⟨by rw [← Hcx.out, ← Hcz.out, e1], same_trans _ _ _ Hsx.out (by rw [e2, same_comm]; exact Hsz.out)⟩)
        have HAs : Hid (cx = 0 → cy = 0 → cu = 0 → cv = 0 → sameB (.mk uk un us (.slice ua ub uc) (.slice ud ue uf) ul uq) (.mk vk vn vs (.slice va vb vc) (.slice vd ve vf) vl vq) = true) := hid (fun e1 e2 e3 e4 => op_assoc (a := (.mk k n s lv kv l ks)) (b := (.mk k' n' s' lv' kv' l' ks')) (c := (.mk k'' n'' s'' lv'' kv'' l'' ks'')) (x := (.mk xk xn xs (.slice xa xb xc) (.slice xd xe xf) xl xq)) (y := (.mk yk yn ys (.slice ya yb yc) (.slice yd ye yf) yl yq)) (by rw [hrx]; exact Hsx.out) (by rw [hry]; exact Hsy.out) (by rw [hru]; exact Hsu.out) (by rw [hrv]; exact Hsv.out) (by rw [hrx, Hcx.out, e1]) (by rw [hry, Hcy.out, e2]) (by rw [hru, Hcu.out, e3]) (by rw [hrv, Hcv.out, e4]))
        have HXZ := hid (fun (h : sameB (.mk xk xn xs (.slice xa xb xc) (.slice xd xe xf) xl xq) (.mk zk zn zs (.slice za zb zc) (.slice zd ze zf) zl zq) = true) => by have := rsame_any (.mk xk xn xs (.slice xa xb xc) (.slice xd xe xf) xl xq) (.mk zk zn zs (.slice za zb zc) (.slice zd ze zf) zl zq) V8 Kx8.out Kz8.out; rw [h] at this; exact this)
        have HUV := hid (fun W (hW : Below V8.heap.size V8 W) (h : sameB (.mk uk un us (.slice ua ub uc) (.slice ud ue uf) ul uq) (.mk vk vn vs (.slice va vb vc) (.slice vd ve vf) vl vq) = true) => by have := rsame_any (.mk uk un us (.slice ua ub uc) (.slice ud ue uf) ul uq) (.mk vk vn vs (.slice va vb vc) (.slice vd ve vf) vl vq) W (Held.below hW (Nat.le_refl _) Ku8.out) (Held.below hW (Nat.le_refl _) Kv8.out); rw [h] at this; exact this)
        clear hrx hry hru hrv hrz hfx hfy hfu hfv hfz hf0 hf1 hf2
        by_cases h2 : k = 2
        case neg =>
          have q2 : (k == 2) = false := eqF h2
          by_cases zcx : cx = 0
          case neg =>
            have ncx : ((cx : Int) != 0) = true := neT (by omega)
            clear zcx
            go_wp2_with fail
            refine (HFx.out _ hq8).mono ?_
            rintro e wz ⟨rfl, hbz⟩
            go_wp2_with fail
            go_ret
            exact ⟨rfl, Below.chain hq8 hbz⟩
          have ncx : ((cx : Int) != 0) = false := neF (by omega)
          by_cases zcy : cy = 0
          case neg =>
            have ncy : ((cy : Int) != 0) = true := neT (by omega)
            clear zcy
            go_wp2_with fail
            refine (HFx.out _ hq8).mono ?_
            rintro e wz ⟨rfl, hbz⟩
            go_wp2_with fail
            go_ret
            exact ⟨rfl, Below.chain hq8 hbz⟩
          have ncy : ((cy : Int) != 0) = false := neF (by omega)
          by_cases zcu : cu = 0
          case neg =>
            have ncu : ((cu : Int) != 0) = true := neT (by omega)
            clear zcu
            go_wp2_with fail
            refine (HFx.out _ hq8).mono ?_
            rintro e wz ⟨rfl, hbz⟩
            go_wp2_with fail
            go_ret
            exact ⟨rfl, Below.chain hq8 hbz⟩
          have ncu : ((cu : Int) != 0) = false := neF (by omega)
          by_cases zcv : cv = 0
          case neg =>
            have ncv : ((cv : Int) != 0) = true := neT (by omega)
            clear zcv
            go_wp2_with fail
            refine (HFx.out _ hq8).mono ?_
            rintro e wz ⟨rfl, hbz⟩
            go_wp2_with fail
            go_ret
            exact ⟨rfl, Below.chain hq8 hbz⟩
          have ncv : ((cv : Int) != 0) = false := neF (by omega)
          have HS := hid (HUV.out _ (Below.refl _ _) (HAs.out zcx zcy zcu zcv))
          clear zcx zcy zcu zcv
          go_wp2_with fail
          refine HS.out.mono ?_
          rintro e wy ⟨rfl, hby⟩
          have hqy := Below.chain hq8 hby
          go_wp2_with fail
          refine (HFx.out _ hqy).mono ?_
          rintro e wz ⟨rfl, hbz⟩
          go_wp2_with fail
          go_ret
          exact ⟨rfl, Below.chain hqy hbz⟩
        by_cases h3 : k' = 2
        case neg =>
          have q2 : (k == 2) = true := eqT h2
          have q3 : (k' == 2) = false := eqF h3
          clear h2
          by_cases zcx : cx = 0
          case neg =>
            have ncx : ((cx : Int) != 0) = true := neT (by omega)
            clear zcx
            go_wp2_with fail
            refine (HFx.out _ hq8).mono ?_
            rintro e wz ⟨rfl, hbz⟩
            go_wp2_with fail
            go_ret
            exact ⟨rfl, Below.chain hq8 hbz⟩
          have ncx : ((cx : Int) != 0) = false := neF (by omega)
          by_cases zcy : cy = 0
          case neg =>
            have ncy : ((cy : Int) != 0) = true := neT (by omega)
            clear zcy
            go_wp2_with fail
            refine (HFx.out _ hq8).mono ?_
            rintro e wz ⟨rfl, hbz⟩
            go_wp2_with fail
            go_ret
            exact ⟨rfl, Below.chain hq8 hbz⟩
          have ncy : ((cy : Int) != 0) = false := neF (by omega)
          by_cases zcu : cu = 0
          case neg =>
            have ncu : ((cu : Int) != 0) = true := neT (by omega)
            clear zcu
            go_wp2_with fail
            refine (HFx.out _ hq8).mono ?_
            rintro e wz ⟨rfl, hbz⟩
            go_wp2_with fail
            go_ret
            exact ⟨rfl, Below.chain hq8 hbz⟩
          have ncu : ((cu : Int) != 0) = false := neF (by omega)
          by_cases zcv : cv = 0
          case neg =>
            have ncv : ((cv : Int) != 0) = true := neT (by omega)
            clear zcv
            go_wp2_with fail
            refine (HFx.out _ hq8).mono ?_
            rintro e wz ⟨rfl, hbz⟩
            go_wp2_with fail
            go_ret
            exact ⟨rfl, Below.chain hq8 hbz⟩
          have ncv : ((cv : Int) != 0) = false := neF (by omega)
          have HS := hid (HUV.out _ (Below.refl _ _) (HAs.out zcx zcy zcu zcv))
          clear zcx zcy zcu zcv
          go_wp2_with fail
          refine HS.out.mono ?_
          rintro e wy ⟨rfl, hby⟩
          have hqy := Below.chain hq8 hby
          go_wp2_with fail
          refine (HFx.out _ hqy).mono ?_
          rintro e wz ⟨rfl, hbz⟩
          go_wp2_with fail
          go_ret
          exact ⟨rfl, Below.chain hqy hbz⟩
        have q2 : (k == 2) = true := eqT h2
        have q3 : (k' == 2) = true := eqT h3
        obtain ⟨hcz, hxz⟩ := HT.out h2 h3
        have q4 : ((cx : Int) != (cz : Int)) = false := neF (by omega)
        have HSx := hid (HXZ.out hxz)
        clear h2 h3 hcz hxz HT
        go_wp2_with fail
        refine HSx.out.mono ?_
        rintro e w9 ⟨rfl, hb9⟩
        have hq9 := Below.chain hq8 hb9
        have Ha9 := hid (Ha8.out.keeps hb9)
        have Hb9 := hid (Hb8.out.keeps hb9)
        have Hc9 := hid (Hc8.out.keeps hb9)
        have Hx9 := hid (Hx8.out.keeps hb9)
        have Hy9 := hid (Hy8.out.keeps hb9)
        have Hu9 := hid (Hu8.out.keeps hb9)
        have Hv9 := hid (Hv8.out.keeps hb9)
        have Hz9 := hid (Hz8.out.keeps hb9)
        clear a0 a1 a2 a3 a4 b0 b1 b2 b3 b4 c0 c1 c2 c3 c4 x0 x1 x2 x3 x4 y0 y1 y2 y3 y4 u0 u1 u2 u3 u4 v0 v1 v2 v3 v4 z0 z1 z2 z3 z4
        obtain ⟨a0, a1, a2, a3, a4⟩ := Ha9.out
        obtain ⟨b0, b1, b2, b3, b4⟩ := Hb9.out
        obtain ⟨c0, c1, c2, c3, c4⟩ := Hc9.out
        obtain ⟨x0, x1, x2, x3, x4⟩ := Hx9.out
        obtain ⟨y0, y1, y2, y3, y4⟩ := Hy9.out
        obtain ⟨u0, u1, u2, u3, u4⟩ := Hu9.out
        obtain ⟨v0, v1, v2, v3, v4⟩ := Hv9.out
        obtain ⟨z0, z1, z2, z3, z4⟩ := Hz9.out
        by_cases zcx : cx = 0
        case neg =>
          have ncx : ((cx : Int) != 0) = true := neT (by omega)
          clear zcx
          go_wp2_with fail
          refine (HFx.out _ hq9).mono ?_
          rintro e wz ⟨rfl, hbz⟩
          go_wp2_with fail
          go_ret
          exact ⟨rfl, Below.chain hq9 hbz⟩
        have ncx : ((cx : Int) != 0) = false := neF (by omega)
        by_cases zcy : cy = 0
        case neg =>
          have ncy : ((cy : Int) != 0) = true := neT (by omega)
          clear zcy
          go_wp2_with fail
          refine (HFx.out _ hq9).mono ?_
          rintro e wz ⟨rfl, hbz⟩
          go_wp2_with fail
          go_ret
          exact ⟨rfl, Below.chain hq9 hbz⟩
        have ncy : ((cy : Int) != 0) = false := neF (by omega)
        by_cases zcu : cu = 0
        case neg =>
          have ncu : ((cu : Int) != 0) = true := neT (by omega)
          clear zcu
          go_wp2_with fail
          refine (HFx.out _ hq9).mono ?_
          rintro e wz ⟨rfl, hbz⟩
          go_wp2_with fail
          go_ret
          exact ⟨rfl, Below.chain hq9 hbz⟩
        have ncu : ((cu : Int) != 0) = false := neF (by omega)
        by_cases zcv : cv = 0
        case neg =>
          have ncv : ((cv : Int) != 0) = true := neT (by omega)
          clear zcv
          go_wp2_with fail
          refine (HFx.out _ hq9).mono ?_
          rintro e wz ⟨rfl, hbz⟩
          go_wp2_with fail
          go_ret
          exact ⟨rfl, Below.chain hq9 hbz⟩
        have ncv : ((cv : Int) != 0) = false := neF (by omega)
        have HS := hid (HUV.out _ hb9 (HAs.out zcx zcy zcu zcv))
        clear zcx zcy zcu zcv
        go_wp2_with fail
        refine HS.out.mono ?_
        rintro e wy ⟨rfl, hby⟩
        have hqy := Below.chain hq9 hby
        go_wp2_with fail
        refine (HFx.out _ hqy).mono ?_
        rintro e wz ⟨rfl, hbz⟩
        go_wp2_with fail
        go_ret
        exact ⟨rfl, Below.chain hqy hbz⟩
end Go.Proofs.YtnfjlimecoikpaaGreatDoor
