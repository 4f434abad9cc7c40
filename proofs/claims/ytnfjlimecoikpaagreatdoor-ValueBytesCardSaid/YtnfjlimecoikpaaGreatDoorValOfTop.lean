/- The value of bytes: the program's and the document's. -/
import Derived.Test.YtnfjlimecoikpaaGreatDoorValOfAll
import Derived.Test.YtnfjlimecoikpaaGreatDoorValRef4
import Derived.Test.YtnfjlimecoikpaaGreatDoorValCheck
namespace Go.Proofs.YtnfjlimecoikpaaGreatDoor
set_option maxRecDepth 100000
open Go.RowKit

theorem Dep.put_lo {lo b : Nat} {X : Nat → Prop} {w : World} {P : World → Prop} (h : Dep lo X w P) (hb : b < lo) (j : Nat) (v : Value) : Dep lo X (w.setCell ⟨b, j, none⟩ v) P :=
  h.step (by simp [World.setCell]) (fun i hi _ _ => Go.heap_setCell_other w ⟨b, j, none⟩ i v (by show i ≠ b; omega)) (fun _ _ _ k => k)
theorem Dep.ch_lo {lo b : Nat} {X : Nat → Prop} {w : World} {P : World → Prop} (h : Dep lo X w P) (hb : b < lo) (x0 x1 x2 x3 x4 : Value) : Dep lo X ((((((w).setCell ⟨b, 0, none⟩ x0).setCell ⟨b, 1, none⟩ x1).setCell ⟨b, 2, none⟩ x2).setCell ⟨b, 3, none⟩ x3).setCell ⟨b, 4, none⟩ x4) P :=
  ((((h.put_lo hb 0 x0).put_lo hb 1 x1).put_lo hb 2 x2).put_lo hb 3 x3).put_lo hb 4 x4
/-- What Of answers. -/
def TopRet (b : List UInt8) (w : World) (e : Ending) (w' : World) : Prop :=
  ∃ (k n : Int) (s : List UInt8) (lv kv : Value) (l : List VM) (ks : List (List UInt8)), e = .returned (.tuple #[valA k n s lv kv, .int .i64 (topOf b).2]) ∧ Held w' (.mk k n s lv kv l ks) ∧ sameB (.mk k n s lv kv l ks) (topOf b).1 = true ∧ Below w.heap.size w w'
theorem pOf_res {w : World} {tmps : Array Value} {b : Nat} {k n : Int} {s : List UInt8} {lv kv : Value} {c : Int} (h2 : tmps[2]?.getD undef = .pointer (some ⟨b, 0, none⟩)) (h3 : tmps[3]?.getD undef = .int .i64 c) (h : Box w b k n s lv kv) :
    (results Tryz.f18 tmps).run Tryz.prog w = .ok (.tuple #[valA k n s lv kv, .int .i64 c]) w := by
  simp [results, Tryz.f18, go_sem, h2, h3, h.c0, h.c1, h.c2, h.c3, h.c4]
set_option maxHeartbeats 1000000 in
theorem pOf_any (b : List UInt8) (hbl : b.length ≤ 1000000000) (w : World) (ht : PowTab w) (he : ErrsAt w) : Calls Tryz.prog 18 #[.string (bs b)] w (TopRet b w) := by
  have hbn := below_new w (.cells #[.int .i64 0, .int .i64 0, .string ⟨#[]⟩, .slice none 0 0, .slice none 0 0] 25)
  have HO := hid (pof_all 60 b hbl _ (ht.below hbn) (he.below hbn) 1 (by omega) (by omega))
  have HN0 := hid (rc_new w 0 0 [] (.slice none 0 0) (.slice none 0 0))
  obtain ⟨r, hr⟩ : ∃ r, ofV 60 b = r := ⟨_, rfl⟩
  rw [hr] at HO
  cases r with
  | none =>
    have HF : Hid (topOf b = (noneV, 3)) := hid (by unfold topOf; rw [hr])
    clear hr
    go_enter Tryz.func18, Tryz.ntmps18
    go_wp2_with fail
    refine HO.out.mono ?_
    rintro e w1 ⟨k, n, s, a1, n1, c1, a2, n2, c2, rfl, hb1, -⟩
    have HR1 := hid ((HN0.out.keep hb1).keep (below_new w1 (.cells #[.int .i64 k, .int .i64 n, .string (bs s), .slice a1 n1 c1, .slice a2 n2 c2] 25)))
    have hb2 := Below.chain (Below.chain hbn hb1) (below_new w1 (.cells #[.int .i64 k, .int .i64 n, .string (bs s), .slice a1 n1 c1, .slice a2 n2 c2] 25))
    obtain ⟨W2, hW2⟩ : ∃ W2, W2 = w1.alloc (.cells #[.int .i64 k, .int .i64 n, .string (bs s), .slice a1 n1 c1, .slice a2 n2 c2] 25) := ⟨_, rfl⟩
    have hx := box_new w1 k n s (.slice a1 n1 c1) (.slice a2 n2 c2) 25 (0, 0)
    rw [← hW2] at HR1 hb2 hx
    obtain ⟨d0, d1, d2, d3, d4⟩ := hx
    go_upto_region 2 with fail
    rw [← hW2]
    clear hW2
    obtain ⟨⟨c0, c1, c2, c3, c4⟩, hfr⟩ := HR1.out
    have f0 := hfr 0
    have f1 := hfr 1
    have f2 := hfr 2
    have f3 := hfr 3
    have f4 := hfr 4
    go_wp2_with fail
    refine bodyPost_ret (pOf_res rfl rfl (RC.all HR1.out _ _ _ _ _).x) rfl ?_
    refine ⟨0, 0, [], _, _, [], [], by rw [HF.out]; rfl, ?_, by rw [HF.out]; exact same_refl _, below_ch hb2 (Nat.le_refl _) _ _ _ _ _⟩
    exact mk_held (SliceAt.nil _ 5) (SliceAt.nil _ 1) heldL_nil
  | some v =>
    obtain ⟨ok, hok⟩ : ∃ ok, okB v = ok := ⟨_, rfl⟩
    have HF : Hid (topOf b = if ok = true then (v, 0) else (noneV, 3)) := hid (by unfold topOf; rw [hr]; show (if okB v = true then (v, 0) else (noneV, 3)) = _; rw [hok])
    clear hr
    go_enter Tryz.func18, Tryz.ntmps18
    go_wp2_with fail
    refine HO.out.mono ?_
    rintro e w1 ⟨k, n, s, a1, n1, c1, a2, n2, c2, rfl, hb1, hv⟩
    obtain ⟨l, ks, hD, hsm⟩ := hv v rfl
    have HSM := hid hsm
    have hb0 := below_new w1 (.cells #[.int .i64 k, .int .i64 n, .string (bs s), .slice a1 n1 c1, .slice a2 n2 c2] 25)
    have HD2 := hid (hD.below hb0)
    have HR1 := hid ((HN0.out.keep hb1).keep hb0)
    have hb2 := Below.chain (Below.chain hbn hb1) hb0
    obtain ⟨W2, hW2⟩ : ∃ W2, W2 = w1.alloc (.cells #[.int .i64 k, .int .i64 n, .string (bs s), .slice a1 n1 c1, .slice a2 n2 c2] 25) := ⟨_, rfl⟩
    have hx := rc_new w1 k n s (.slice a1 n1 c1) (.slice a2 n2 c2)
    rw [← hW2] at HR1 hb2 hx HD2
    have HX := hid hx
    have HC := hid (check_any k n s (.slice a1 n1 c1) (.slice a2 n2 c2) l ks W2 HD2.out.now ok (by rw [same_ok hsm, hok]))
    obtain ⟨d0, d1, d2, d3, d4⟩ := hx.x
    clear hx hv hD hsm hok
    go_upto_region 2 with fail
    rw [← hW2]
    clear hW2
    go_wp2_with fail
    refine HC.out.mono ?_
    rintro e w3 ⟨rfl, hb3⟩
    have HR3 := hid (HR1.out.keep hb3)
    have HX3 := hid (HX.out.keep hb3)
    have hb4 := Below.chain hb2 hb3
    have HD3 := hid (HD2.out.below hb3)
    clear d0 d1 d2 d3 d4
    obtain ⟨d0, d1, d2, d3, d4⟩ := HX3.out.x
    obtain ⟨⟨c0, c1, c2, c3, c4⟩, hfr⟩ := HR3.out
    have f0 := hfr 0
    have f1 := hfr 1
    have f2 := hfr 2
    have f3 := hfr 3
    have f4 := hfr 4
    cases ok with
    | false =>
      go_wp2_with fail
      refine bodyPost_ret (pOf_res rfl rfl (RC.all HR3.out _ _ _ _ _).x) rfl ?_
      refine ⟨0, 0, [], _, _, [], [], by rw [HF.out]; rfl, ?_, by rw [HF.out]; exact same_refl _, below_ch hb4 (Nat.le_refl _) _ _ _ _ _⟩
      exact mk_held (SliceAt.nil _ 5) (SliceAt.nil _ 1) heldL_nil
    | true =>
      go_wp2_with fail
      refine bodyPost_ret (pOf_res rfl rfl (RC.all HR3.out _ _ _ _ _).x) rfl ?_
      refine ⟨k, n, s, _, _, l, ks, by rw [HF.out]; rfl, ?_, by rw [HF.out]; exact HSM.out, below_ch hb4 (Nat.le_refl _) _ _ _ _ _⟩
      exact (HD3.out.ch_lo (b := w.heap.size) (by rw [World.size_alloc]; omega) _ _ _ _ _).now
theorem rOf_res {w : World} {tmps : Array Value} {b : Nat} {k n : Int} {s : List UInt8} {lv kv : Value} {c : Int} (h2 : tmps[2]?.getD undef = .pointer (some ⟨b, 0, none⟩)) (h3 : tmps[3]?.getD undef = .int .i64 c) (h : Box w b k n s lv kv) :
    (results Tryz.f19 tmps).run Tryz.prog w = .ok (.tuple #[valA k n s lv kv, .int .i64 c]) w := by
  simp [results, Tryz.f19, go_sem, h2, h3, h.c0, h.c1, h.c2, h.c3, h.c4]
set_option maxHeartbeats 1000000 in
theorem rOf_any (b : List UInt8) (hbl : b.length ≤ 1000000000) (w : World) : Calls Tryz.prog 19 #[.string (bs b)] w (TopRet b w) := by
  have hbn := below_new w (.cells #[.int .i64 0, .int .i64 0, .string ⟨#[]⟩, .slice none 0 0, .slice none 0 0] 25)
  have HO := hid (rof_all 60 b hbl (w.alloc (.cells #[.int .i64 0, .int .i64 0, .string ⟨#[]⟩, .slice none 0 0, .slice none 0 0] 25)) 60 rfl (by omega))
  have HN0 := hid (rc_new w 0 0 [] (.slice none 0 0) (.slice none 0 0))
  obtain ⟨r, hr⟩ : ∃ r, ofV 60 b = r := ⟨_, rfl⟩
  rw [hr] at HO
  cases r with
  | none =>
    have HF : Hid (topOf b = (noneV, 3)) := hid (by unfold topOf; rw [hr])
    clear hr
    go_enter Tryz.func19, Tryz.ntmps19
    go_wp2_with fail
    refine HO.out.mono ?_
    rintro e w1 ⟨k, n, s, a1, n1, c1, a2, n2, c2, rfl, hb1, -⟩
    have HR1 := hid ((HN0.out.keep hb1).keep (below_new w1 (.cells #[.int .i64 k, .int .i64 n, .string (bs s), .slice a1 n1 c1, .slice a2 n2 c2] 25)))
    have hb2 := Below.chain (Below.chain hbn hb1) (below_new w1 (.cells #[.int .i64 k, .int .i64 n, .string (bs s), .slice a1 n1 c1, .slice a2 n2 c2] 25))
    obtain ⟨W2, hW2⟩ : ∃ W2, W2 = w1.alloc (.cells #[.int .i64 k, .int .i64 n, .string (bs s), .slice a1 n1 c1, .slice a2 n2 c2] 25) := ⟨_, rfl⟩
    have hx := box_new w1 k n s (.slice a1 n1 c1) (.slice a2 n2 c2) 25 (0, 0)
    rw [← hW2] at HR1 hb2 hx
    obtain ⟨d0, d1, d2, d3, d4⟩ := hx
    go_upto_region 2 with fail
    rw [← hW2]
    clear hW2
    obtain ⟨⟨c0, c1, c2, c3, c4⟩, hfr⟩ := HR1.out
    have f0 := hfr 0
    have f1 := hfr 1
    have f2 := hfr 2
    have f3 := hfr 3
    have f4 := hfr 4
    go_wp2_with fail
    refine bodyPost_ret (rOf_res rfl rfl (RC.all HR1.out _ _ _ _ _).x) rfl ?_
    refine ⟨0, 0, [], _, _, [], [], by rw [HF.out]; rfl, ?_, by rw [HF.out]; exact same_refl _, below_ch hb2 (Nat.le_refl _) _ _ _ _ _⟩
    exact mk_held (SliceAt.nil _ 5) (SliceAt.nil _ 1) heldL_nil
  | some v =>
    obtain ⟨ok, hok⟩ : ∃ ok, okB v = ok := ⟨_, rfl⟩
    have HF : Hid (topOf b = if ok = true then (v, 0) else (noneV, 3)) := hid (by unfold topOf; rw [hr]; show (if okB v = true then (v, 0) else (noneV, 3)) = _; rw [hok])
    clear hr
    go_enter Tryz.func19, Tryz.ntmps19
    go_wp2_with fail
    refine HO.out.mono ?_
    rintro e w1 ⟨k, n, s, a1, n1, c1, a2, n2, c2, rfl, hb1, hv⟩
    obtain ⟨l, ks, hD, hsm⟩ := hv v rfl
    have HSM := hid hsm
    have hb0 := below_new w1 (.cells #[.int .i64 k, .int .i64 n, .string (bs s), .slice a1 n1 c1, .slice a2 n2 c2] 25)
    have HD2 := hid (hD.below hb0)
    have HR1 := hid ((HN0.out.keep hb1).keep hb0)
    have hb2 := Below.chain (Below.chain hbn hb1) hb0
    obtain ⟨W2, hW2⟩ : ∃ W2, W2 = w1.alloc (.cells #[.int .i64 k, .int .i64 n, .string (bs s), .slice a1 n1 c1, .slice a2 n2 c2] 25) := ⟨_, rfl⟩
    have hx := rc_new w1 k n s (.slice a1 n1 c1) (.slice a2 n2 c2)
    rw [← hW2] at HR1 hb2 hx HD2
    have HX := hid hx
    have HC := hid (rcheck_any k n s (.slice a1 n1 c1) (.slice a2 n2 c2) l ks W2 HD2.out.now ok (by rw [same_ok hsm, hok]))
    obtain ⟨d0, d1, d2, d3, d4⟩ := hx.x
    clear hx hv hD hsm hok
    go_upto_region 2 with fail
    rw [← hW2]
    clear hW2
    go_wp2_with fail
    refine HC.out.mono ?_
    rintro e w3 ⟨rfl, hb3⟩
    have HR3 := hid (HR1.out.keep hb3)
    have HX3 := hid (HX.out.keep hb3)
    have hb4 := Below.chain hb2 hb3
    have HD3 := hid (HD2.out.below hb3)
    clear d0 d1 d2 d3 d4
    obtain ⟨d0, d1, d2, d3, d4⟩ := HX3.out.x
    obtain ⟨⟨c0, c1, c2, c3, c4⟩, hfr⟩ := HR3.out
    have f0 := hfr 0
    have f1 := hfr 1
    have f2 := hfr 2
    have f3 := hfr 3
    have f4 := hfr 4
    cases ok with
    | false =>
      go_wp2_with fail
      refine bodyPost_ret (rOf_res rfl rfl (RC.all HR3.out _ _ _ _ _).x) rfl ?_
      refine ⟨0, 0, [], _, _, [], [], by rw [HF.out]; rfl, ?_, by rw [HF.out]; exact same_refl _, below_ch hb4 (Nat.le_refl _) _ _ _ _ _⟩
      exact mk_held (SliceAt.nil _ 5) (SliceAt.nil _ 1) heldL_nil
    | true =>
      go_wp2_with fail
      refine bodyPost_ret (rOf_res rfl rfl (RC.all HR3.out _ _ _ _ _).x) rfl ?_
      refine ⟨k, n, s, _, _, l, ks, by rw [HF.out]; rfl, ?_, by rw [HF.out]; exact HSM.out, below_ch hb4 (Nat.le_refl _) _ _ _ _ _⟩
      exact (HD3.out.ch_lo (b := w.heap.size) (by rw [World.size_alloc]; omega) _ _ _ _ _).now
end Go.Proofs.YtnfjlimecoikpaaGreatDoor
