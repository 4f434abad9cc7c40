/- The law LabelPaths, one way through it. -/
import Derived.Test.YtemfmheimblboaaDoorLabelPart
namespace Go.Proofs.YtemfmheimblboaaDoor
open Go.RowKit

set_option maxHeartbeats 1000000 in
theorem paths_all0 (p pkg d b : List UInt8) (h1 : p.length ≤ 1500) (h2 : pkg.length ≤ 1500) (hd5 : d.length ≤ 1500) (hb5 : b.length ≤ 1500)
    (Ha : Hid (∀ w, Calls Tryd.prog 7 #[] w fun e w' => e = .returned (.bool true) ∧ Below w.heap.size w w'))
    (Hm : Hid (∀ w, Calls Tryd.prog 14 #[.string (bs p)] w fun e w' => e = .returned (.bool true) ∧ Below w.heap.size w w'))
    (Hd : Hid (∀ w, Calls Tryd.prog 15 #[.string (bs p)] w fun e w' => e = .returned (.string (bs d)) ∧ Below w.heap.size w w'))
    (Hb : Hid (∀ w, Calls Tryd.prog 16 #[.string (bs p)] w fun e w' => e = .returned (.string (bs b)) ∧ Below w.heap.size w w'))
    (Ht : Hid (∀ w, Calls Tryd.prog 10 #[labV d b] w fun e w' => e = .returned (.string (bs (47 :: 47 :: (d ++ 58 :: b)))) ∧ Below w.heap.size w w'))
    (Hs : Hid (∀ w, Calls Tryd.prog 11 #[labV d b, .string (bs d)] w fun e w' => e = .returned (.string (bs (58 :: b))) ∧ Below w.heap.size w w'))
    (Hr : Hid (∀ w, Calls Tryd.prog 8 #[.string (bs (47 :: 47 :: (d ++ 58 :: b))), .string (bs pkg)] w fun e w' => e = .returned (.tuple #[labV d b, .int .i64 (0 : Nat)]) ∧ Below w.heap.size w w'))
    (Hk : Hid (∀ w, Calls Tryd.prog 17 #[.string (bs pkg)] w fun e w' => e = .returned (.bool true) ∧ Below w.heap.size w w'))
    (q0 : (d == []) = true) (_ : d.isEmpty = true)
    (HS : Hid (SeesC ([47, 47, 46, 46, 46]) pkg true))
    (q2 : (pkg == d) = true)
    (w : World) :
    Calls Tryd.prog 5 #[.string (bs p), .string (bs pkg)] w fun e w' => e = .returned (.bool true) ∧ Below w.heap.size w w' := by
  unfold SeesC at HS
  go_enter Tryd.func5, Tryd.ntmps5
  go_wp2_with fail
  refine (Ha.out _).mono ?_
  rintro e w1 ⟨rfl, hb1⟩
  go_wp2_with fail
  refine (Hm.out _).mono ?_
  rintro e w2 ⟨rfl, hb2⟩
  go_wp2_with fail
  refine (Hd.out _).mono ?_
  rintro e w3 ⟨rfl, hb3⟩
  go_wp2_with fail
  refine (Hb.out _).mono ?_
  rintro e w4 ⟨rfl, hb4⟩
  have hB4 := Below.chain (Below.chain (Below.chain hb1 hb2) hb3) hb4
  clear hb1 hb2 hb3 hb4
  go_wp2_with fail
  refine (Ht.out _).mono ?_
  rintro e w5 ⟨rfl, hb5⟩
  obtain ⟨k0, k1, hB5⟩ := box_cells hb5
  clear hb5
  go_wp2_with fail
  refine (Hr.out _).mono ?_
  rintro e w6 ⟨rfl, hb6⟩
  have k2 := Below.keeps hb6 k0
  have k3 := Below.keeps hb6 k1
  have hB6 := Below.chain (Below.chain hB4 hB5) hb6
  clear k0 k1 hb6 hB4 hB5
  obtain ⟨W0, hW0⟩ : ∃ W0, W0 = w6.alloc (.cells #[.string (bs d), .string (bs b)] 24) := ⟨_, rfl⟩
  have hk6 : Below w6.heap.size w6 W0 := by rw [hW0]; exact (Below.refl _ _).alloc (Nat.le_refl _) _
  have c0 := Below.keeps hk6 k2
  have c1 := Below.keeps hk6 k3
  have x0 : W0.cell? ⟨w6.heap.size, 0, none⟩ = some (.string (bs d)) := by rw [hW0, World.cell?_alloc_mark]; rfl
  have x1 : W0.cell? ⟨w6.heap.size, 1, none⟩ = some (.string (bs b)) := by rw [hW0, World.cell?_alloc_mark]; rfl
  have hB0 := Below.chain hB6 hk6
  clear k2 k3 hk6 hB6
  go_wp2_with fail
  rw [← hW0]
  clear hW0
  refine wp_region_wq (by kernel_rfl) (by kernel_rfl) ?_
  repeat (refine WQ.step (fun K hK => ?_); go_simp; first | (refine hK _ ?_; clear hK K) | (apply Exists.intro; refine ⟨fun W hW => ?_, hK _ ?_⟩; (first | (go_at_call 10; exact Calls.quiet_below hW (Ht.out W)) | (go_at_call 11; exact Calls.quiet_below hW (Hs.out W)) | (have e0 := Below.keeps hW c0; have e1 := Below.keeps hW c1; have e2 := Below.keeps hW x0; have e3 := Below.keeps hW x1; go_simp; first | rfl | exact ⟨rfl, rfl⟩ | (rw [if_neg (by omega)]; exact ⟨rfl, rfl⟩))); clear hK K))
  refine WQ.nil ?_
  intro w7 hw7
  have d0 := Below.keeps hw7 c0
  have d1 := Below.keeps hw7 c1
  have hB7 := Below.chain hB0 hw7
  clear c0 c1 x0 x1 hw7 hB0
  go_wp2_with fail
  refine wp_region_wh (S := fun W => W.cell? ⟨w4.heap.size, 0, none⟩ = some (.string (bs d)) ∧ Below w7.heap.size w7 W) (by kernel_rfl) ?_
  have hS := s_first d0
  refine WH.take 0 (some 72) rfl rfl (by kernel_rfl) (by kernel_rfl) (by kernel_rfl) (fun _ _ _ _ h => h) hS ?_
  apply Exists.intro
  refine ⟨⟨(by kernel_rfl), fun W hW => ?_⟩, ?_⟩
  · have e0 := hW.1
    go_simp
    try rfl
  try simp only [Act.put, List.setIfInBounds_toArray, List.set_cons_zero, List.set_cons_succ]
  refine WH.one 1 (by kernel_rfl) rfl (by kernel_rfl) ?_
  intro K hK
  go_simp
  refine (Hk.out _).mono ?_
  rintro e wk ⟨rfl, hbk⟩
  go_wp2_with fail
  refine hK.out _ _ (s_call hS hbk) ?_
  replace hS := s_call hS hbk
  clear hK K
  try simp only [Act.put, List.setIfInBounds_toArray, List.set_cons_zero, List.set_cons_succ]
  refine WH.take 2 (some 74) rfl rfl (by kernel_rfl) (by kernel_rfl) (by kernel_rfl) (fun _ _ _ _ h => h) hS ?_
  apply Exists.intro
  refine ⟨⟨(by kernel_rfl), fun W hW => ?_⟩, ?_⟩
  · have e0 := hW.1
    go_simp
    try rfl
  try simp only [Act.put, List.setIfInBounds_toArray, List.set_cons_zero, List.set_cons_succ]
  refine WH.take 3 (some 75) rfl rfl (by kernel_rfl) (by kernel_rfl) (by kernel_rfl) (fun _ _ _ _ h => h) hS ?_
  apply Exists.intro
  refine ⟨⟨(by kernel_rfl), fun W hW => ?_⟩, ?_⟩
  · have e0 := hW.1
    go_simp
    try rfl
  try simp only [Act.put, List.setIfInBounds_toArray, List.set_cons_zero, List.set_cons_succ]
  refine WH.take 4 (some 76) rfl rfl (by kernel_rfl) (by kernel_rfl) (by kernel_rfl) (fun _ _ _ _ h => h) hS ?_
  apply Exists.intro
  refine ⟨⟨(by kernel_rfl), fun W hW => ?_⟩, ?_⟩
  · have e0 := hW.1
    go_simp
    try rfl
  try simp only [Act.put, List.setIfInBounds_toArray, List.set_cons_zero, List.set_cons_succ]
  refine WH.take 6 (some 78) rfl rfl (by kernel_rfl) (by kernel_rfl) (by kernel_rfl) (fun _ _ _ _ h => h) hS ?_
  apply Exists.intro
  refine ⟨⟨(by kernel_rfl), fun W hW => ?_⟩, ?_⟩
  · have e0 := hW.1
    go_simp
    try rfl
  try simp only [Act.put, List.setIfInBounds_toArray, List.set_cons_zero, List.set_cons_succ]
  refine WH.take 8 (some 80) rfl rfl (by kernel_rfl) (by kernel_rfl) (by kernel_rfl) (fun _ _ _ _ h => h) hS ?_
  apply Exists.intro
  refine ⟨⟨(by kernel_rfl), fun W hW => ?_⟩, ?_⟩
  · have e0 := hW.1
    go_simp
    try rfl
  try simp only [Act.put, List.setIfInBounds_toArray, List.set_cons_zero, List.set_cons_succ]
  refine WH.take 9 (some 81) rfl rfl (by kernel_rfl) (by kernel_rfl) (by kernel_rfl) (fun _ _ _ _ h => h) hS ?_
  apply Exists.intro
  refine ⟨⟨(by kernel_rfl), fun W hW => ?_⟩, ?_⟩
  · have e0 := hW.1
    go_simp
    try rfl
  try simp only [Act.put, List.setIfInBounds_toArray, List.set_cons_zero, List.set_cons_succ]
  refine WH.take 10 (some 82) rfl rfl (by kernel_rfl) (by kernel_rfl) (by kernel_rfl) (fun _ _ _ _ h => h) hS ?_
  apply Exists.intro
  refine ⟨⟨(by kernel_rfl), fun W hW => ?_⟩, ?_⟩
  · have e0 := hW.1
    go_simp
    try rfl
  try simp only [Act.put, List.setIfInBounds_toArray, List.set_cons_zero, List.set_cons_succ]
  refine WH.take 11 (some 83) rfl rfl (by kernel_rfl) (by kernel_rfl) (by kernel_rfl) (fun _ _ _ _ h => h) hS ?_
  apply Exists.intro
  refine ⟨⟨(by kernel_rfl), fun W hW => ?_⟩, ?_⟩
  · have e0 := hW.1
    go_simp
    try rfl
  try simp only [Act.put, List.setIfInBounds_toArray, List.set_cons_zero, List.set_cons_succ]
  refine WH.one 5 (by kernel_rfl) rfl (by kernel_rfl) ?_
  intro K hK
  go_simp
  refine hK.out _ _ (s_alloc hS) ?_
  replace hS := s_alloc hS (o := .cells #[.string (bs [47, 47, 46, 46, 46])] 9)
  clear hK K
  try simp only [Act.put, List.setIfInBounds_toArray, List.set_cons_zero, List.set_cons_succ]
  refine WH.one 7 (by kernel_rfl) rfl (by kernel_rfl) ?_
  intro K hK
  go_simp
  refine (HS.out _ _ (one_new _ _ _)).mono ?_
  rintro e ws ⟨rfl, hbs⟩
  go_wp2_with fail
  refine hK.out _ _ (s_call hS hbs) ?_
  replace hS := s_call hS hbs
  clear hK K
  try simp only [Act.put, List.setIfInBounds_toArray, List.set_cons_zero, List.set_cons_succ]
  refine WH.take 12 (some 84) rfl rfl (by kernel_rfl) (by kernel_rfl) (by kernel_rfl) (fun _ _ _ _ h => h) hS ?_
  apply Exists.intro
  refine ⟨⟨(by kernel_rfl), fun W hW => ?_⟩, ?_⟩
  · have e0 := hW.1
    go_simp
    try rfl
  try simp only [Act.put, List.setIfInBounds_toArray, List.set_cons_zero, List.set_cons_succ]
  refine WH.skip 13 (some 85) rfl rfl (by kernel_rfl) (by kernel_rfl) (by kernel_rfl) (fun _ _ _ h => h) hS (by kernel_rfl) ?_
  try simp only [Act.put, List.setIfInBounds_toArray, List.set_cons_zero, List.set_cons_succ]
  refine WH.skip 14 (some 86) rfl rfl (by kernel_rfl) (by kernel_rfl) (by kernel_rfl) (fun _ _ _ h => h) hS (by kernel_rfl) ?_
  try simp only [Act.put, List.setIfInBounds_toArray, List.set_cons_zero, List.set_cons_succ]
  refine WH.skip 15 (some 87) rfl rfl (by kernel_rfl) (by kernel_rfl) (by kernel_rfl) (fun _ _ _ h => h) hS (by kernel_rfl) ?_
  try simp only [Act.put, List.setIfInBounds_toArray, List.set_cons_zero, List.set_cons_succ]
  refine WH.skip 16 (some 88) rfl rfl (by kernel_rfl) (by kernel_rfl) (by kernel_rfl) (fun _ _ _ h => h) hS (by kernel_rfl) ?_
  try simp only [Act.put, List.setIfInBounds_toArray, List.set_cons_zero, List.set_cons_succ]
  refine WH.take 17 (some 89) rfl rfl (by kernel_rfl) (by kernel_rfl) (by kernel_rfl) (fun _ _ _ _ h => h) hS ?_
  apply Exists.intro
  refine ⟨⟨(by kernel_rfl), fun W hW => ?_⟩, ?_⟩
  · have e0 := hW.1
    go_simp
    try rfl
  try simp only [Act.put, List.setIfInBounds_toArray, List.set_cons_zero, List.set_cons_succ]
  refine WH.take 18 (some 90) rfl rfl (by kernel_rfl) (by kernel_rfl) (by kernel_rfl) (fun _ _ _ _ h => h) hS ?_
  apply Exists.intro
  refine ⟨⟨(by kernel_rfl), fun W hW => ?_⟩, ?_⟩
  · have e0 := hW.1
    go_simp
    try rfl
  try simp only [Act.put, List.setIfInBounds_toArray, List.set_cons_zero, List.set_cons_succ]
  refine WH.take 19 (some 91) rfl rfl (by kernel_rfl) (by kernel_rfl) (by kernel_rfl) (fun _ _ _ _ h => h) hS ?_
  apply Exists.intro
  refine ⟨⟨(by kernel_rfl), fun W hW => ?_⟩, ?_⟩
  · have e0 := hW.1
    go_simp
    try rfl
  try simp only [Act.put, List.setIfInBounds_toArray, List.set_cons_zero, List.set_cons_succ]
  refine WH.take 20 (some 4) rfl rfl (by kernel_rfl) (by kernel_rfl) (by kernel_rfl) (fun _ _ _ _ h => h) hS ?_
  apply Exists.intro
  refine ⟨⟨(by kernel_rfl), fun W hW => ?_⟩, ?_⟩
  · have e0 := hW.1
    go_simp
    try rfl
  try simp only [Act.put, List.setIfInBounds_toArray, List.set_cons_zero, List.set_cons_succ]
  refine WH.done (by kernel_rfl) ?_
  go_wp2_with fail
  go_ret
  exact ⟨rfl, Below.chain hB7 hS.2⟩

end Go.Proofs.YtemfmheimblboaaDoor
