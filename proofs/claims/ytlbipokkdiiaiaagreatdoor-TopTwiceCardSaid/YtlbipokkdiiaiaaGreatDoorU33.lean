/- Lemmas for TopTwice: W64, W65, W66, W67. -/
import Derived.Test.YtlbipokkdiiaiaaGreatDoorU32
import Derived.Test.YtlbipokkdiiaiaaGreatDoorU24
open List renaming setIfInBounds_toArray → sA, set_cons_zero → sB, set_cons_succ → sC
namespace Go.Proofs.YtlbipokkdiiaiaaGreatDoor
open Go.RowKit Go.Proofs.YtlbipokkdiiaiaaGreatDoor.Exec
set_option maxRecDepth 100000
structure RightA (k : Nat) (s : Dg) (r : MsgL) : Prop where
 t : k = 1 → r.kind = 5 ∧ ∀ t ∈ r.traces, t.key = s
 b : k = 2 → r.kind = 6 ∧ r.sum = s ∧ shaD r.data = s ∧ r.data.length ≤ 1000
 o : k ≠ 1 → k ≠ 2 → r.kind = 7
set_option maxHeartbeats 8000000 in
theorem right_any (x : MsgM) (r : MsgL) (w : World) (k : Nat) (hk : x.kind = k) (hx1 : ∀ u ∈ x.cells, u.oneCell' = true) (hp : PowTab w) (he : ErrsAt w) (hc : checkM r = 0) (hi : r.id < 18446744073709551616) (hid_ : r.id = x.id) (hr : RightA k x.sum r) :
  Calls Tryz.prog 91 #[x.val, .string (bs (putB r))] w fun e w' => ∃ z : MsgM, e = .returned (.tuple #[.agg z.cells.toArray, .bool true]) ∧ z.l = r ∧ HeldM w' z ∧ OwnM (fun b => w.heap.size ≤ b) z ∧ Below w.heap.size w w' := by
 have HGT := hid (fun (V : World) (hb : Below w.heap.size w V) => wget_any r V (hp.below hb) (he.below hb) hc hi)
 have HR := hid hr
 have HK := hid hk
 have HX1 := hid hx1
 have HID := hid hid_
 unfold MsgM.val
 generalize putB r = P at *
 clear hp he hc hi hr hk hx1 hid_
 go_enter Tryz.func91, Tryz.ntmps91
 go_upto_region 1 with first | (refine wl_box rt34 ?_; intro W0 hb0 hn0 hs0) | (refine wl_al rt34 ?_; intro zs W0b hzs hb0b hn0b hs0b)
 rw [hs0] at hn0b hs0b
 have HB0 := hid (Below.chain hb0 hb0b)
 have HN0 := hid (And.intro ((hb0b.block _ (by omega)).trans hn0) hn0b)
 have hz0 : W0b.heap.size = w.heap.size + 2 := by omega
 clear hb0 hb0b hn0 hn0b hs0 hs0b
 go_upto_region 2 with first | (go_at_call 11; refine (HGT.out _ HB0.out).mono ?_; rintro e W1 ⟨z, rfl, hzl, hz, hzo, hb1⟩) | (refine wl_new (xs := z.cells.toArray) rt34 (by rw [List.size_toArray]; exact MsgM.len _) hz.one ?_; intro W2 hb2 hn2 hs2)
 have hz1 := hb1.size
 have HB14 := hid hb2
 have HB02 := hid (Below.chain HB0.out (Below.chain hb1 hb2))
 have HZ := hid (And.intro hz (And.intro (hzo.mono (fun b hb => show w.heap.size + 2 ≤ b by omega)) hzl))
 have HN := hid (show w.heap.size + 1 < W1.heap.size by omega)
 have hb12 := Below.chain hb1 hb2
 have HS := hid (fun (W : World) (hb : Below W2.heap.size W2 W) => show W.heap[W1.heap.size]? = some (.cells z.cells.toArray 34 (0, 0)) ∧ W.heap[w.heap.size]? = some (.cells x.cells.toArray 34 (0, 0)) from ⟨(hb.block _ (by omega)).trans hn2, (hb.block _ (by omega)).trans ((hb12.block _ (by omega)).trans HN0.out.1)⟩)
 have HT := hid (fun (W : World) (hb : Below W2.heap.size W2 W) => (hb.block _ (by omega)).trans ((hb12.block _ (by omega)).trans HN0.out.2))
 have hzi : z.id = x.id := by have h1 : z.l.id = r.id := by rw [hzl]
                              exact h1.trans HID.out
 clear hz hzo hzl hb1 hb2 hn2 hs2 hb12 HB0 HN0 HGT
 obtain ⟨-, x1, -, -, -, -⟩ := MsgM.parts (HS.out W2 (Below.refl _ _)).2
 obtain ⟨z0, z1, -, -, -, -⟩ := MsgM.parts (HS.out W2 (Below.refl _ _)).1
 rw [hzi] at z1
 go_upto_region 4 with fail
 clear x1 z1
 have hzk : z.kind = r.kind := by have h1 : z.l.kind = r.kind := by rw [HZ.out.2.2]
                                  exact h1
 have hzs2 : z.sum = r.sum := by have h1 : z.l.sum = r.sum := by rw [HZ.out.2.2]
                                 exact h1
 have hzd : z.data = r.data := by have h1 : z.l.data = r.data := by rw [HZ.out.2.2]
                                  exact h1
 have hzt : z.ts.map (·.t) = r.traces := by have h1 : z.l.traces = r.traces := by rw [HZ.out.2.2]
                                            exact h1
 obtain ⟨x0, -, -, -, -, -⟩ := MsgM.parts (HS.out W2 (Below.refl _ _)).2
 rw [HK.out] at x0
 by_cases k1 : k = 1
 ·obtain ⟨hk5, hke⟩ := HR.out.t k1
  have HZK : Hid (z.kind = 5) := hid (hzk.trans hk5)
  have HKE : Hid (∀ t ∈ z.ts, t.t.key = x.sum) := hid (fun t ht => hke t.t (by rw [← hzt]; exact List.mem_map.2 ⟨t, ht, rfl⟩))
  obtain ⟨za, zc, hzv, -, hzm, -, -⟩ := HZ.out.1.1.out TcM.len (by omega)
  have HZV := hid hzv
  unfold maxLen at hzm
  have e1 : ((k : Int) == 1) = true := eqT (by omega)
  rw [HZK.out] at z0
  clear hzv hk5 hke hzk hzs2 hzd hzt
  go_wp2_with fail
  clear x0 z0
  refine wp_region_wl (fun W => W.heap[W1.heap.size]? = some (.cells z.cells.toArray 34 (0, 0)) ∧ W.heap[w.heap.size]? = some (.cells x.cells.toArray 34 (0, 0))) 12 (by kernel_rfl) ?_
  intro Wd hbd
  have hS := HS.out _ hbd
  refine WL.ld 0 (some 39) rt34 (fun W hW => range_of_heap hW.1) (MsgM.len _) (hi := rfl) hS ?_
  try simp only [Act.put, sA, sB, sC]
  refine WL.tp 1 (some 40) (hi := rfl) (.inr hS) ?_
  apply Exists.intro
  refine ⟨fun W => ?_, ?_⟩
  ·go_simp
   try rfl
  try simp only [Act.put, sA, sB, sC]
  refine WL.te 2 (some 41) (hi := rfl) hS ?_
  apply Exists.intro
  refine ⟨fun W hW => ?_, ?_⟩
  ·obtain ⟨e0, -⟩ := hW; obtain ⟨z0, -, -, z3, z4, -⟩ := MsgM.parts e0; rw [HZK.out] at z0; clear e0
   go_simp
   try rfl
  try simp only [Act.put, sA, sB, sC]
  refine WL.tp 3 (some 42) (hi := rfl) (.inr hS) ?_
  apply Exists.intro
  refine ⟨fun W => ?_, ?_⟩
  ·go_simp
   try rfl
  try simp only [Act.put, sA, sB, sC]
  refine WL.tp 4 (some 43) (hi := rfl) (.inr hS) ?_
  apply Exists.intro
  refine ⟨fun W => ?_, ?_⟩
  ·go_simp
   try rfl
  try simp only [Act.put, sA, sB, sC]
  refine WL.tp 5 (some 44) (hi := rfl) (.inr hS) ?_
  apply Exists.intro
  refine ⟨fun W => ?_, ?_⟩
  ·go_simp
   try rfl
  try simp only [Act.put, sA, sB, sC]
  refine WL.te 6 (some 45) (hi := rfl) hS ?_
  apply Exists.intro
  refine ⟨fun W hW => ?_, ?_⟩
  ·obtain ⟨e0, -⟩ := hW; obtain ⟨z0, -, -, z3, z4, -⟩ := MsgM.parts e0; rw [HZK.out] at z0; rw [HZV.out] at z4; clear e0
   go_simp
   try rfl
  try simp only [Act.put, sA, sB, sC]
  refine WL.tp 7 (some 46) (hi := rfl) (.inr hS) ?_
  apply Exists.intro
  refine ⟨fun W => ?_, ?_⟩
  ·go_simp
   try rfl
  try simp only [Act.put, sA, sB, sC]
  refine WL.o 8 (hi := rfl) ?_
  intro K hK
  go_simp
  refine (keys_any z.ts x.sum w.heap.size (.slice za z.ts.length zc) Wd (MsgM.parts hS.2).2.2.1 (HZV.out ▸ (HZ.out.1.keep (Below.chain HB14.out hbd)).1) HKE.out).mono ?_
  rintro e W4 ⟨rfl, hb4⟩
  have hS4 := And.intro ((hb4.block _ (lx (hid hS.1))).trans hS.1) ((hb4.block _ (lx (hid hS.2))).trans hS.2)
  refine hK.out _ _ (.inr hS4) ?_
  clear hK K
  try simp only [Act.put, sA, sB, sC]
  refine WL.tp 9 (some 48) (hi := rfl) (.inr hS4) ?_
  apply Exists.intro
  refine ⟨fun W => ?_, ?_⟩
  ·go_simp
   try rfl
  try simp only [Act.put, sA, sB, sC]
  refine WL.tp 10 (some 49) (hi := rfl) (.inr hS4) ?_
  apply Exists.intro
  refine ⟨fun W => ?_, ?_⟩
  ·go_simp
   try rfl
  try simp only [Act.put, sA, sB, sC]
  refine WL.o 11 (hi := rfl) ?_
  intro K hK
  refine wp_st (xs := z.cells.toArray) rt34 ((HT.out _ (Below.chain hbd hb4))) hzs (by rw [List.size_toArray]; exact MsgM.len _) HZ.out.1.one ?_
  intro W5 ht5 hn5 hs5
  have hS5 := And.intro ((ht5.foot.block _ (lx (hid hS4.1)) (by have := HN.out; omega)).trans hS4.1) ((ht5.foot.block _ (lx (hid hS4.2)) (by have := HN.out; omega)).trans hS4.2)
  refine hK.out _ _ (.inr hS5) ?_
  clear hK K
  try simp only [Act.put, sA]
  refine WL.o 12 (hi := rfl) ?_
  intro K hK
  go_simp
  refine hK.out _ _ (.inl (by kernel_rfl)) ?_
  clear hK K
  try simp only [Act.put, sA, sB, sC]
  refine WL.d ?_
  go_wp2_with fail
  refine br2 _ hn5 ⟨z, rfl, HZ.out.2.2, (HZ.out.1.keep (Below.chain (Below.chain HB14.out hbd) hb4)).stay ht5.foot.size HZ.out.2.1 (fun k hk hl => ht5.foot.block k hl (by omega)), HZ.out.2.1.mono (fun b hb => by omega), (Below.chain HB02.out (Below.chain hbd hb4)).trans (ht5.below (Nat.le_succ _))⟩ (hu := Tryz.underlying34) (hi := by rw [List.size_toArray, MsgM.len]; kernel_rfl)
 ·by_cases k2 : k = 2
  ·obtain ⟨hk6, hs6, hsh, hdl⟩ := HR.out.b k2
   have HZK : Hid (z.kind = 6) := hid (hzk.trans hk6)
   have E31 := eqt_is (eqt31 z.sum x.sum) true (decide_eq_true (hzs2.trans hs6))
   have HBC := hid (fun (W : World) => show Calls Tryz.prog 47 #[.agg (dgc z.sum).toArray, .string (bs z.data)] W fun e w' => e = .returned (.bool true) ∧ Below W.heap.size W w' from by
    have h1 := bcheck_any z.sum z.data W (by rw [hzd]; omega)
    rw [decide_eq_true (show shaD z.data = z.sum by rw [hzd, hsh, hzs2, hs6])] at h1
    exact h1)
   have e1 : ((k : Int) == 1) = false := eqF (by omega)
   have e2 : ((k : Int) == 2) = true := eqT (by omega)
   rw [HZK.out] at z0
   clear hk6 hs6 hsh hdl hzk hzs2 hzd hzt
   go_wp2_with fail
   clear x0 z0
   refine wp_region_wl (fun W => W.heap[W1.heap.size]? = some (.cells z.cells.toArray 34 (0, 0)) ∧ W.heap[w.heap.size]? = some (.cells x.cells.toArray 34 (0, 0))) 19 (by kernel_rfl) ?_
   intro Wd hbd
   have hS := HS.out _ hbd
   refine WL.ld 0 (some 52) rt34 (fun W hW => range_of_heap hW.1) (MsgM.len _) (hi := rfl) hS ?_
   try simp only [Act.put, sA, sB, sC]
   refine WL.tp 1 (some 53) (hi := rfl) (.inr hS) ?_
   apply Exists.intro
   refine ⟨fun W => ?_, ?_⟩
   ·go_simp
    try rfl
   try simp only [Act.put, sA, sB, sC]
   refine WL.te 2 (some 54) (hi := rfl) hS ?_
   apply Exists.intro
   refine ⟨fun W hW => ?_, ?_⟩
   ·obtain ⟨e0, -⟩ := hW; obtain ⟨z0, -, -, z3, z4, -⟩ := MsgM.parts e0; rw [HZK.out] at z0; clear e0
    go_simp
    try rfl
   try simp only [Act.put, sA, sB, sC]
   refine WL.tp 3 (some 55) (hi := rfl) (.inr hS) ?_
   apply Exists.intro
   refine ⟨fun W => ?_, ?_⟩
   ·go_simp
    try rfl
   try simp only [Act.put, sA, sB, sC]
   refine WL.tp 4 (some 56) (hi := rfl) (.inr hS) ?_
   apply Exists.intro
   refine ⟨fun W => ?_, ?_⟩
   ·go_simp
    try rfl
   try simp only [Act.put, sA, sB, sC]
   refine WL.tp 5 (some 57) (hi := rfl) (.inr hS) ?_
   apply Exists.intro
   refine ⟨fun W => ?_, ?_⟩
   ·go_simp
    try rfl
   try simp only [Act.put, sA, sB, sC]
   refine WL.ld 6 (some 58) rt31 (fun W hW => (MsgM.parts hW.1).2.2.1) (dgc_len _) (hi := rfl) hS ?_
   try simp only [Act.put, sA, sB, sC]
   refine WL.tp 7 (some 59) (hi := rfl) (.inr hS) ?_
   apply Exists.intro
   refine ⟨fun W => ?_, ?_⟩
   ·go_simp
    try rfl
   try simp only [Act.put, sA, sB, sC]
   refine WL.ld 8 (some 60) rt31 (fun W hW => (MsgM.parts hW.2).2.2.1) (dgc_len _) (hi := rfl) hS ?_
   try simp only [Act.put, sA, sB, sC]
   refine WL.tp 9 (some 61) (hi := rfl) (.inr hS) ⟨_, fun W => r_eql E31 rfl rfl rfl, ?_⟩
   try simp only [Act.put, sA, sB, sC]
   refine WL.tp 10 (some 62) (hi := rfl) (.inr hS) ?_
   apply Exists.intro
   refine ⟨fun W => ?_, ?_⟩
   ·go_simp
    try rfl
   try simp only [Act.put, sA, sB, sC]
   refine WL.tp 11 (some 63) (hi := rfl) (.inr hS) ?_
   apply Exists.intro
   refine ⟨fun W => ?_, ?_⟩
   ·go_simp
    try rfl
   try simp only [Act.put, sA, sB, sC]
   refine WL.tp 12 (some 64) (hi := rfl) (.inr hS) ?_
   apply Exists.intro
   refine ⟨fun W => ?_, ?_⟩
   ·go_simp
    try rfl
   try simp only [Act.put, sA, sB, sC]
   refine WL.ld 13 (some 65) rt31 (fun W hW => (MsgM.parts hW.1).2.2.1) (dgc_len _) (hi := rfl) hS ?_
   try simp only [Act.put, sA, sB, sC]
   refine WL.tp 14 (some 66) (hi := rfl) (.inr hS) ?_
   apply Exists.intro
   refine ⟨fun W => ?_, ?_⟩
   ·go_simp
    try rfl
   try simp only [Act.put, sA, sB, sC]
   refine WL.te 15 (some 67) (hi := rfl) hS ?_
   apply Exists.intro
   refine ⟨fun W hW => ?_, ?_⟩
   ·obtain ⟨e0, -⟩ := hW; obtain ⟨z0, -, -, z3, z4, -⟩ := MsgM.parts e0; rw [HZK.out] at z0; clear e0
    go_simp
    try rfl
   try simp only [Act.put, sA, sB, sC]
   refine WL.o 16 (hi := rfl) ?_
   intro K hK
   go_simp
   refine (HBC.out Wd).mono ?_
   rintro e W4 ⟨rfl, hb4⟩
   have hS4 := And.intro ((hb4.block _ (lx (hid hS.1))).trans hS.1) ((hb4.block _ (lx (hid hS.2))).trans hS.2)
   refine hK.out _ _ (.inr hS4) ?_
   clear hK K
   try simp only [Act.put, sA, sB, sC]
   refine WL.tp 17 (some 69) (hi := rfl) (.inr hS4) ?_
   apply Exists.intro
   refine ⟨fun W => ?_, ?_⟩
   ·go_simp
    try rfl
   try simp only [Act.put, sA, sB, sC]
   refine WL.o 18 (hi := rfl) ?_
   intro K hK
   refine wp_st (xs := z.cells.toArray) rt34 ((HT.out _ (Below.chain hbd hb4))) hzs (by rw [List.size_toArray]; exact MsgM.len _) HZ.out.1.one ?_
   intro W5 ht5 hn5 hs5
   have hS5 := And.intro ((ht5.foot.block _ (lx (hid hS4.1)) (by have := HN.out; omega)).trans hS4.1) ((ht5.foot.block _ (lx (hid hS4.2)) (by have := HN.out; omega)).trans hS4.2)
   refine hK.out _ _ (.inr hS5) ?_
   clear hK K
   try simp only [Act.put, sA]
   refine WL.o 19 (hi := rfl) ?_
   intro K hK
   go_simp
   refine hK.out _ _ (.inl (by kernel_rfl)) ?_
   clear hK K
   try simp only [Act.put, sA, sB, sC]
   refine WL.d ?_
   go_wp2_with fail
   refine br2 _ hn5 ⟨z, rfl, HZ.out.2.2, (HZ.out.1.keep (Below.chain (Below.chain HB14.out hbd) hb4)).stay ht5.foot.size HZ.out.2.1 (fun k hk hl => ht5.foot.block k hl (by omega)), HZ.out.2.1.mono (fun b hb => by omega), (Below.chain HB02.out (Below.chain hbd hb4)).trans (ht5.below (Nat.le_succ _))⟩ (hu := Tryz.underlying34) (hi := by rw [List.size_toArray, MsgM.len]; kernel_rfl)
  ·have hk7 := HR.out.o k1 k2
   have HZK : Hid (z.kind = 7) := hid (hzk.trans hk7)
   have e1 : ((k : Int) == 1) = false := eqF (by omega)
   have e2 : ((k : Int) == 2) = false := eqF (by omega)
   rw [HZK.out] at z0
   clear hk7 hzk hzs2 hzd hzt
   go_wp2_with fail
   clear x0 z0
   refine wp_region_wl (fun W => W.heap[W1.heap.size]? = some (.cells z.cells.toArray 34 (0, 0)) ∧ W.heap[w.heap.size]? = some (.cells x.cells.toArray 34 (0, 0))) 5 (by kernel_rfl) ?_
   intro Wd hbd
   have hS := HS.out _ hbd
   refine WL.ld 0 (some 70) rt34 (fun W hW => range_of_heap hW.1) (MsgM.len _) (hi := rfl) hS ?_
   try simp only [Act.put, sA, sB, sC]
   refine WL.tp 1 (some 71) (hi := rfl) (.inr hS) ?_
   apply Exists.intro
   refine ⟨fun W => ?_, ?_⟩
   ·go_simp
    try rfl
   try simp only [Act.put, sA, sB, sC]
   refine WL.te 2 (some 72) (hi := rfl) hS ?_
   apply Exists.intro
   refine ⟨fun W hW => ?_, ?_⟩
   ·obtain ⟨e0, -⟩ := hW; obtain ⟨z0, -, -, z3, z4, -⟩ := MsgM.parts e0; rw [HZK.out] at z0; clear e0
    go_simp
    try rfl
   try simp only [Act.put, sA, sB, sC]
   refine WL.tp 3 (some 73) (hi := rfl) (.inr hS) ?_
   apply Exists.intro
   refine ⟨fun W => ?_, ?_⟩
   ·go_simp
    try rfl
   try simp only [Act.put, sA, sB, sC]
   refine WL.o 4 (hi := rfl) ?_
   intro K hK
   refine wp_st (xs := z.cells.toArray) rt34 ((HT.out _ hbd)) hzs (by rw [List.size_toArray]; exact MsgM.len _) HZ.out.1.one ?_
   intro W5 ht5 hn5 hs5
   have hS5 := And.intro ((ht5.foot.block _ (lx (hid hS.1)) (by have := HN.out; omega)).trans hS.1) ((ht5.foot.block _ (lx (hid hS.2)) (by have := HN.out; omega)).trans hS.2)
   refine hK.out _ _ (.inr hS5) ?_
   clear hK K
   try simp only [Act.put, sA]
   refine WL.o 5 (hi := rfl) ?_
   intro K hK
   go_simp
   refine hK.out _ _ (.inl (by kernel_rfl)) ?_
   clear hK K
   try simp only [Act.put, sA, sB, sC]
   refine WL.d ?_
   go_wp2_with fail
   refine br2 _ hn5 ⟨z, rfl, HZ.out.2.2, (HZ.out.1.keep (Below.chain HB14.out hbd)).stay ht5.foot.size HZ.out.2.1 (fun k hk hl => ht5.foot.block k hl (by omega)), HZ.out.2.1.mono (fun b hb => by omega), (Below.chain HB02.out (hbd)).trans (ht5.below (Nat.le_succ _))⟩ (hu := Tryz.underlying34) (hi := by rw [List.size_toArray, MsgM.len]; kernel_rfl)
end Go.Proofs.YtlbipokkdiiaiaaGreatDoor
namespace Go.Proofs.YtlbipokkdiiaiaaGreatDoor
open Go.RowKit Go.Proofs.YtlbipokkdiiaiaaGreatDoor.Exec
set_option maxRecDepth 100000
theorem wrap_one (n : Nat) (h : n ≤ 1000) : wrap64 ((n : Int) + 1) = (n : Int) + 1 ∧ IntKind.i64.wrap ((n : Int) + 1) = (n : Int) + 1 :=
 ⟨by unfold wrap64; omega, by rw [IntKind.wrap_i64]; omega⟩
set_option maxHeartbeats 8000000 in
theorem call_any {B g cb fb f n sent well : Nat} {F N : Nat → Prop} {w lo : World} {c : CaL} (hcl : CliIs g cb fb f (n + 1) sent well w) (hf : f = 0 ∨ f = 2) (hc : CacheIs B F w cb c) (hF : ¬ F g ∧ ¬ F fb) (hfb : fb < w.heap.size) (x : MsgM) (hx : OutM N w x) (hFN : ∀ k, F k ∨ k = g → N k) (hB : B ≤ w.heap.size) (hgB : B ≤ g) (hgc : GoodC c) (k : Nat) (hk : x.kind = k) (hck : checkM x.l = 0) (hi0 : x.id < 18446744073709551616) (hp : PowTab lo) (he : ErrsAt lo) (hl : Below lo.heap.size lo w) (hlB : lo.heap.size ≤ B) (hs : sent ≤ 1000) (hw : well ≤ 1000)
  (hra : ∀ c' r, Carried f c { x.l with id := sent + 1 } c' r → RightA k x.sum r) :
  Calls Tryz.prog 48 #[.pointer (some ⟨g, 0, none⟩), x.val] w fun e w' => ∃ (z : MsgM) (c' : CaL) (F' : Nat → Prop), e = .returned (.tuple #[.agg z.cells.toArray, .int .i64 0]) ∧ Carried f c { x.l with id := sent + 1 } c' z.l ∧ GoodC c' ∧ CliIs g cb fb f n (sent + 1) (well + 1) w' ∧ ((∀ k, F' k → F k ∨ w.heap.size ≤ k) ∧ Foot (fun k => F k ∨ k = g) w w' ∧ CacheIs B F' w' cb c') ∧ HeldM w' z ∧ OwnM (fun b => w.heap.size ≤ b ∧ ¬ F' b) z := by
 have HWW := hid (wrap_one well hw)
 have hgl := hcl.lt
 have HCL := hid hcl
 have HC := hid hc
 have HX := hid hx
 have HA := hid (And.intro hf (And.intro hF (And.intro hfb (And.intro hFN (And.intro hB (And.intro hgB hgc))))))
 have HP := hid (And.intro hp (And.intro he (And.intro hl hlB)))
 have HK := hid (And.intro hk (And.intro hck hi0))
 have HRA := hid hra
 have HPT := hid (fun (W : World) (hb : Below w.heap.size w W) => show Calls Tryz.prog 10 #[.agg x.cells.toArray] W fun e w' => e = .returned (.tuple #[.string (bs (putB x.l)), .int .i64 0]) ∧ Below W.heap.size W w' from wput_any x W (hx.held.keep hb) (hp.below (hl.trans (hb.mono (by omega)))) hi0 hck)
 unfold MsgM.val
 clear hcl hc hx hf hF hfb hFN hB hgB hgc hp he hl hlB hk hck hi0 hra
 go_enter Tryz.func48, Tryz.ntmps48
 go_upto_region 1 with first | (refine wl_box rt34 ?_; intro W0 hb0 hn0 hs0) | (refine wl_al rt34 ?_; intro zs W1 hzs hb1 hn1 hs1; rw [hs0] at hn1; have hn0' := (hb1.block _ (by omega)).trans hn0)
 generalize putB x.l = P0 at *
 go_upto_region 2 with first | (refine wl_ld rt34 (range_of_heap hn0') (MsgM.len _) ?_) | (go_at_call 10; refine (HPT.out _ (Below.chain hb0 hb1)).mono ?_; rintro e W2 ⟨rfl, hb2⟩)
 have HB2 := hid (Below.chain (Below.chain hb0 hb1) hb2)
 have HN2 := hid (And.intro ((hb2.block _ (by omega)).trans hn0') ((hb2.block _ (by omega)).trans hn1))
 have hz2 : w.heap.size + 1 < W2.heap.size := by have := hb2.size; omega
 clear hb0 hb1 hb2 hn0 hn0' hn1 hs0 hs1 HPT
 have hcl2 := HCL.out.keep HB2.out
 obtain ⟨fv, hg2, hs2, ho2⟩ := hcl2.out
 obtain ⟨-, -, c2, c3, -, -, -⟩ := cli_cells hg2
 have f3 : W2.frozen? ⟨g, 3, none⟩ = false := Lib.frozen_of_heap hg2 3
 have HG2 := hid (And.intro hg2 (And.intro hs2 ho2))
 have hws : IntKind.u64.wrap ((sent : Int) + 1) = (sent : Int) + 1 := by rw [IntKind.wrap_u64]; omega
 clear hcl2 hg2 hs2 ho2
 go_wp2_with fail
 go_loopw [24] (fun i wr => i = .int .i64 0 ∧ wr = W2) (fun _ _ => 0)
 case atStart => exact ⟨rfl, rfl⟩
 case round =>
  obtain ⟨rfl, rfl⟩ := hrel
  obtain ⟨hf, hF, hfb, hFN, hB, hgB, hgc⟩ := HA.out
  obtain ⟨hp, he, hl, hlB⟩ := HP.out
  have hFB : ∀ k, F k → B ≤ k ∧ k < w.heap.size := fun k hk => HC.out.bd k hk
  go_upto_region 7 with fail
  have hn3 : (wr.setCell ⟨g, 3, none⟩ (.int .u64 ((sent : Int) + 1))).heap[g]? = some (.cells (cliC cb fv (sent + 1) well).toArray 133 (0, 0)) := by
   rw [← cli_set3 cb fv sent well (sent + 1)]
   exact heap_setCell_same wr g 3 _ 133 _ HG2.out.1
  have ht3 := turned_cell (w := wr) (b := g) 3 (.int .u64 ((sent : Int) + 1)) (lx (hid HG2.out.1))
  generalize wr.setCell ⟨g, 3, none⟩ (.int .u64 ((sent : Int) + 1)) = W3 at *
  have hz3 := ht3.foot.size
  have hb3 := (ht3.foot.block _ (lx (hid HN2.out.1)) (by omega)).trans HN2.out.1
  have hb4 := (ht3.foot.block _ (lx (hid HN2.out.2)) (by omega)).trans HN2.out.2
  have c3' := (cli_cells hn3).2.2.2.1
  have c3n : W3.cell? ⟨g, 3, none⟩ = some (.int .u64 ((sent : Int) + 1)) := c3'
  have m1 := (MsgM.parts hb3).2.1
  have fm : W3.frozen? ⟨w.heap.size, 1, none⟩ = false := Lib.frozen_of_heap hb3 1
  have hcl3 : CliIs g cb fb f (n + 1) (sent + 1) well W3 := ⟨⟨fv, hn3, slice_keep HG2.out.2.1 ht3.foot.size (fun k hk hl => ht3.foot.block k hl (by rw [HG2.out.2.2 k hk]; exact HCL.out.ne)), HG2.out.2.2⟩, HCL.out.ne⟩
  have HK3 := hid (And.intro hcl3 (And.intro hb3 (And.intro hb4 ht3)))
  clear hcl3 hn3 c3 c3' c2 f3 hb3 hb4
  go_upto_region 8 with fail
  have hn4 : (W3.setCell ⟨w.heap.size, 1, none⟩ (.int .u64 ((sent : Int) + 1))).heap[w.heap.size]? = some (.cells (MsgM.cells { x with id := sent + 1 }).toArray 34 (0, 0)) := by
   have h1 := heap_setCell_same W3 w.heap.size 1 _ 34 (.int .u64 ((sent + 1 : Nat) : Int)) HK3.out.2.1
   rw [show MsgM.cells x = msgC x.kind x.id x.sum x.data x.tv x.why from rfl, id_cells] at h1
   exact h1
  have ht4 := turned_cell (w := W3) (b := w.heap.size) 1 (.int .u64 ((sent : Int) + 1)) (lx (hid HK3.out.2.1))
  generalize W3.setCell ⟨w.heap.size, 1, none⟩ (.int .u64 ((sent : Int) + 1)) = W4 at *
  have hz4 := ht4.foot.size
  have hfw4 : Foot (fun k => k = g) w W4 := (((Foot.of_below HB2.out).chain HK3.out.2.2.2.foot).trans ht4.foot fun i hi e => by omega)
  have hcl4 := HK3.out.1.foot ht4.foot (by omega) (by omega)
  have hc4 := HC.out.keep hfw4 (fun k hk e => hF.1 (e ▸ hk))
  have hx4 : OutM (fun k => N k ∨ w.heap.size ≤ k) W4 { x with id := sent + 1 } := by
   have h1 := ((HX.out.more.keep HB2.out).foot HK3.out.2.2.2.foot (fun k e => .inl (hFN k (.inr e)))).foot ht4.foot (fun k e => .inr (by omega))
   exact ⟨h1.held, h1.k0, h1.k1, h1.nd, h1.sm, h1.lo, h1.tl⟩
  have hl4 : Below lo.heap.size lo W4 := hl.trans (hfw4.below (by have := hl.size; omega) (fun k e => by omega))
  have HCA := hid (carry_any hcl4 hf hc4 hF (by omega) { x with id := sent + 1 } hx4 (fun k e => .inl (hFN k e)) (by omega) hgB hgc (by simp only; omega) hp hl4 hlB)
  have HN4 := hid (And.intro hn4 (And.intro ((ht4.foot.block _ (lx (hid HK3.out.2.2.1)) (by omega)).trans HK3.out.2.2.1) hfw4))
  have hx1 : ∀ u ∈ (MsgM.cells { x with id := sent + 1 }), u.oneCell' = true := hx4.held.one
  unfold MsgM.val at HCA
  clear hcl4 hc4 hx4 hn4 ht4 hfw4 c3n m1 fm
  go_upto_region 10 with first | (refine wl_ld rt34 (range_of_heap HN4.out.1) (MsgM.len _) ?_) | (go_at_call 90; refine (HCA.out).mono ?_; rintro e W5 ⟨r, c', rfl, hcd, hck, hid', hgc', hcl5, F', g1, g2, g3⟩)
  have hra := HRA.out c' r hcd
  have hz5 := g2.size
  have hnFg : ∀ k, w.heap.size ≤ k → ¬ (F k ∨ k = g) := fun k hk e => by
   rcases e with e | e
   ·have := (hFB k e).2; omega
   ·omega
  have hb35 := (g2.block _ (lx (hid HN4.out.1)) (hnFg _ (Nat.le_refl _))).trans HN4.out.1
  have hb45 := (g2.block _ (lx (hid HN4.out.2.1)) (hnFg _ (Nat.le_succ _))).trans HN4.out.2.1
  have hl5 : Below lo.heap.size lo W5 := hl4.trans (g2.below (by have := hl4.size; omega) (fun k e => by rcases e with e | e; have := (hFB k e).1; omega; omega))
  have HRT := hid (right_any { x with id := sent + 1 } r W5 k HK.out.1 hx1 (hp.below hl5) (he.below hl5) hck (by rw [hid']; show sent + 1 < 18446744073709551616; omega) hid' hra)
  have HC5 := hid (And.intro hcd (And.intro hgc' (And.intro hcl5 (And.intro g1 (And.intro g2 g3)))))
  have HB5 := hid (And.intro hb35 hb45)
  have hr8 : r.kind ≠ 8 := fun e => by
   by_cases k1 : k = 1
   ·have := (hra.t k1).1; omega
   ·by_cases k2 : k = 2
    ·have := (hra.b k2).1; omega
    ·have := hra.o k1 k2; omega
  unfold MsgM.val at HRT
  generalize putB r = PR at *
  clear hra hcd hck hid' hgc' hcl5 hb45 hl5 hl4 hx1 HCA
  go_upto_region 12 with first | (refine wl_ld rt34 (range_of_heap hb35) (MsgM.len _) ?_) | (go_at_call 91; refine (HRT.out).mono ?_; rintro e W6 ⟨z, rfl, hzl, hz, hzo, hb6⟩) | (refine wl_new (xs := z.cells.toArray) rt34 (by rw [List.size_toArray]; exact MsgM.len _) hz.one ?_; intro W7 hb7 hn7 hs7)
  have hz6 := hb6.size
  have hb57 := Below.chain hb6 hb7
  have hz7 := hb57.size
  have hcl7 := HC5.out.2.2.1.keep hb57
  obtain ⟨fv7, hg7, hs7b, ho7⟩ := hcl7.out
  have c4 := (cli_cells hg7).2.2.2.2.1
  have f4 : W7.frozen? ⟨g, 4, none⟩ = false := Lib.frozen_of_heap hg7 4
  obtain ⟨hww, hwi⟩ := HWW.out
  go_upto_region 13 with fail
  have hn8 : (W7.setCell ⟨g, 4, none⟩ (.int .i64 ((well : Int) + 1))).heap[g]? = some (.cells (cliC cb fv7 (sent + 1) (well + 1)).toArray 133 (0, 0)) := by
   rw [← cli_set4 cb fv7 (sent + 1) well (well + 1)]
   exact heap_setCell_same W7 g 4 _ 133 _ hg7
  have ht8 := turned_cell (w := W7) (b := g) 4 (.int .i64 ((well : Int) + 1)) (lx (hid hg7))
  generalize W7.setCell ⟨g, 4, none⟩ (.int .i64 ((well : Int) + 1)) = W8 at *
  have hz8 := ht8.foot.size
  have hcl8 : CliIs g cb fb f n (sent + 1) (well + 1) W8 := ⟨⟨fv7, hn8, slice_keep hs7b ht8.foot.size (fun k hk hl => ht8.foot.block k hl (by rw [ho7 k hk]; exact HCL.out.ne)), ho7⟩, HCL.out.ne⟩
  have hn78 := (ht8.foot.block _ (by omega) (by omega)).trans hn7
  have z0 := (MsgM.parts hn78).1
  have e8 : (z.kind == 8) = false := eqF (by have h1 : z.l.kind = r.kind := by rw [hzl]
                                             have h2 : z.kind = r.kind := h1
                                             rw [h2]; exact hr8)
  have hb48 := (ht8.foot.block _ (by omega) (by omega)).trans ((hb57.block _ (by omega)).trans HB5.out.2)
  have HZ := hid (And.intro (hz.keep hb7) (And.intro hzo hzl))
  have HCC := hid hcl8
  clear hn7 hcl7 hg7 hs7b c4 f4 hww hwi hcl8 hn8 hb6 hb7 hz hzo hzl
  go_wp2_with first | (refine wl_ld rt34 (range_of_heap hn78) (MsgM.len _) ?_) | (refine wl_st (xs := z.cells.toArray) rt34 hb48 hzs (by rw [List.size_toArray]; exact MsgM.len _) HZ.out.1.one ?_; intro W9 ht9 hn9 hs9)
  obtain ⟨k1, k2, k3, k4, k5, k6⟩ := HC5.out
  have hFg' : ¬ F' g := fun e => by rcases k4 g e with e | e; exact hF.1 e; omega
  have hF4 : ¬ F' (w.heap.size + 1) := fun e => by rcases k4 _ e with e | e; have := (hFB _ e).2; omega; omega
  have hF5 := HN4.out.2.2
  refine br2 _ hn9 ⟨z, c', F', rfl, ?_, k2, HCC.out.foot ht9.foot (by omega) (by omega), ⟨fun k hk => ?_, ?_, ?_⟩, ?_, HZ.out.2.1.mono (fun b hb => ⟨by omega, fun e => by have := (k6.bd b e).2; omega⟩)⟩ (hu := Tryz.underlying34) (hi := by rw [List.size_toArray, MsgM.len]; kernel_rfl)
  ·rw [HZ.out.2.2]; exact k1
  ·rcases k4 k hk with e | e
   ·exact .inl e
   ·exact .inr (by omega)
  ·exact ((((hF5.mono fun i _ e => .inr e).chain k5).then hb57).trans ht8.foot fun i _ e => .inr e).trans ht9.foot fun i hi e => by omega
  ·exact ((k6.below hb57).keep ht8.foot (fun k hk e => hFg' (e ▸ hk))).keep ht9.foot (fun k hk e => hF4 (e ▸ hk))
  ·exact (HZ.out.1.stay ht8.foot.size HZ.out.2.1 (fun k hk hl => ht8.foot.block k hl (by omega))).stay ht9.foot.size HZ.out.2.1 (fun k hk hl => ht9.foot.block k hl (by omega))
end Go.Proofs.YtlbipokkdiiaiaaGreatDoor
namespace Go.Proofs.YtlbipokkdiiaiaaGreatDoor
open Go.RowKit Go.Proofs.YtlbipokkdiiaiaaGreatDoor.Exec
set_option maxRecDepth 100000
structure CliSt (lo : World) (B g cb fb f n sent well : Nat) (F : Nat → Prop) (c : CaL) (w : World) : Prop where
 cl : CliIs g cb fb f n sent well w
 ff : f = 0 ∨ f = 2
 ca : CacheIs B F w cb c
 nf : ¬ F g ∧ ¬ F fb
 fl : fb < w.heap.size
 bw : B ≤ w.heap.size
 bg : B ≤ g
 gc : GoodC c
 pt : PowTab lo
 er : ErrsAt lo
 lw : Below lo.heap.size lo w
 lb : lo.heap.size ≤ B
theorem CliSt.keep {lo : World} {B g cb fb f n sent well : Nat} {F : Nat → Prop} {c : CaL} {w w' : World} (h : CliSt lo B g cb fb f n sent well F c w) (hb : Below w.heap.size w w') : CliSt lo B g cb fb f n sent well F c w' :=
 ⟨h.cl.keep hb, h.ff, h.ca.below hb, h.nf, Nat.lt_of_lt_of_le h.fl hb.size, Nat.le_trans h.bw hb.size, h.bg, h.gc, h.pt, h.er, h.lw.trans (hb.mono (Nat.le_trans h.lb h.bw)), h.lb⟩
def Called (lo : World) (B g cb fb f n sent well : Nat) (F : Nat → Prop) (c' : CaL) (w w' : World) : Prop := ∃ F' : Nat → Prop, CliSt lo B g cb fb f n sent well F' c' w' ∧ (∀ k, F' k → F k ∨ w.heap.size ≤ k) ∧ Foot (fun k => F k ∨ k = g) w w'
theorem call_stF {lo : World} {B g cb fb f n sent well : Nat} {F N : Nat → Prop} {c : CaL} {w : World} (h : CliSt lo B g cb fb f (n + 1) sent well F c w) (x : MsgM) (hx : OutM N w x) (hFN : ∀ k, F k ∨ k = g → N k) (k : Nat) (hk : x.kind = k) (hck : checkM x.l = 0) (hi0 : x.id < 18446744073709551616) (hs : sent ≤ 1000) (hw : well ≤ 1000)
  (hra : ∀ c' r, Carried f c { x.l with id := sent + 1 } c' r → RightA k x.sum r) :
  Calls Tryz.prog 48 #[.pointer (some ⟨g, 0, none⟩), x.val] w fun e w' => ∃ (z : MsgM) (c' : CaL) (F' : Nat → Prop), e = .returned (.tuple #[.agg z.cells.toArray, .int .i64 0]) ∧ Carried f c { x.l with id := sent + 1 } c' z.l ∧ (CliSt lo B g cb fb f n (sent + 1) (well + 1) F' c' w' ∧ (∀ k, F' k → F k ∨ w.heap.size ≤ k) ∧ Foot (fun k => F k ∨ k = g) w w') ∧ HeldM w' z ∧ OwnM (fun b => w.heap.size ≤ b ∧ ¬ F' b) z := by
 refine (call_any h.cl h.ff h.ca h.nf h.fl x hx hFN h.bw h.bg h.gc k hk hck hi0 h.pt h.er h.lw h.lb hs hw hra).mono ?_
 rintro e w' ⟨z, c', F', he, h1, h2, h3, ⟨g1, g2, g3⟩, h4, h5⟩
 have hFB : ∀ k, F k → B ≤ k ∧ k < w.heap.size := fun k hk => h.ca.bd k hk
 have hz := g2.size
 have hgl := h.cl.lt
 have hfl := h.fl
 have hbg := h.bg
 have hlb := h.lb
 have hbw := h.bw
 refine ⟨z, c', F', he, h1, ⟨⟨h3, h.ff, g3, ⟨fun e => ?_, fun e => ?_⟩, by omega, by omega, h.bg, h2, h.pt, h.er, h.lw.trans (g2.below (by omega) (fun k e => ?_)), h.lb⟩, g1, g2⟩, h4, h5⟩
 ·rcases g1 g e with e | e
  ·exact h.nf.1 e
  ·omega
 ·rcases g1 fb e with e | e
  ·exact h.nf.2 e
  ·omega
 ·rcases e with e | e
  ·have := (hFB k e).1; omega
  ·omega
theorem call_st {lo : World} {B g cb fb f n sent well : Nat} {F N : Nat → Prop} {c : CaL} {w : World} (h : CliSt lo B g cb fb f (n + 1) sent well F c w) (x : MsgM) (hx : OutM N w x) (hFN : ∀ k, F k ∨ k = g → N k) (k : Nat) (hk : x.kind = k) (hck : checkM x.l = 0) (hi0 : x.id < 18446744073709551616) (hs : sent ≤ 1000) (hw : well ≤ 1000)
  (hra : ∀ c' r, Carried f c { x.l with id := sent + 1 } c' r → RightA k x.sum r) :
  Calls Tryz.prog 48 #[.pointer (some ⟨g, 0, none⟩), x.val] w fun e w' => ∃ (z : MsgM) (c' : CaL), e = .returned (.tuple #[.agg z.cells.toArray, .int .i64 0]) ∧ Carried f c { x.l with id := sent + 1 } c' z.l ∧ Called lo B g cb fb f n (sent + 1) (well + 1) F c' w w' ∧ HeldM w' z ∧ OwnM (fun b => w.heap.size ≤ b) z :=
 (call_stF h x hx hFN k hk hck hi0 hs hw hra).mono fun _ _ ⟨z, c', F', h1, h2, h3, h4, h5⟩ => ⟨z, c', h1, h2, ⟨F', h3⟩, h4, h5.mono fun _ hb => hb.1⟩
def askM (k : Nat) (d : Dg) : MsgM := ⟨k, 0, d, [], nilS, [], 0⟩
theorem built_ask (k : Int) (s : Dg) : Tryz.prog.built 34 [(0, .int .i64 k), (2, .agg (dgc s).toArray)] = some (msgC k 0 s [] nilS 0).toArray := by rw [built34, fill0, fill2]; rfl
theorem ask_out {N : Nat → Prop} {w : World} {k : Nat} {d : Dg} (hk : k ≤ 8) : OutM N w (askM k d) :=
 ⟨heldN ⟨rfl, rfl⟩, by show (-9223372036854775808 : Int) ≤ (k : Int); omega, by show (k : Int) ≤ 9223372036854775807; omega, Nat.zero_le _, fun t h => (by cases h), fun t h => (by cases h), fun h => absurd rfl h⟩
theorem ask_check {k : Nat} {d : Dg} (hk : k = 1 ∨ k = 2) : checkM (askM k d).l = 0 := by
 rcases hk with rfl | rfl
 ·have e : hasL 1 = ⟨true, false, false, 0, 0⟩ := rfl
  have e1 : ((1 : Nat) : Int) = 1 := rfl
  have ha : argB (askM 1 d).l = false := by simp [argB, askM, MsgM.l, e1, e]
  unfold checkM
  rw [if_neg (by simp [askM, MsgM.l]), ha, if_neg (by simp), if_neg (by simp [askM, MsgM.l])]
  rfl
 ·have e : hasL 2 = ⟨true, false, false, 0, 0⟩ := rfl
  have e1 : ((2 : Nat) : Int) = 2 := rfl
  have ha : argB (askM 2 d).l = false := by simp [argB, askM, MsgM.l, e1, e]
  unfold checkM
  rw [if_neg (by simp [askM, MsgM.l]), ha, if_neg (by simp), if_neg (by simp [askM, MsgM.l])]
  rfl
set_option maxHeartbeats 2000000 in
theorem ctraces_any {lo : World} {B g cb fb f n sent well : Nat} {F : Nat → Prop} {c : CaL} {w : World} (h : CliSt lo B g cb fb f (n + 1) sent well F c w) (d : Dg) (hs : sent ≤ 1000) (hw : well ≤ 1000)
  (hra : ∀ c' r, Carried f c ⟨1, sent + 1, d, [], [], 0⟩ c' r → RightA 1 d r) :
  Calls Tryz.prog 18 #[.pointer (some ⟨g, 0, none⟩), dgv d] w fun e w' => ∃ (z : MsgM) (c' : CaL), e = .returned (.tuple #[z.tv, .int .i64 0]) ∧ Carried f c ⟨1, sent + 1, d, [], [], 0⟩ c' z.l ∧ (∃ F', CliSt lo B g cb fb f n (sent + 1) (well + 1) F' c' w' ∧ (∀ k, F' k → F k ∨ w.heap.size ≤ k) ∧ Foot (fun k => F k ∨ k = g) w w' ∧ OwnM (fun b => w.heap.size ≤ b ∧ ¬ F' b) z) ∧ HeldM w' z := by
 have HC := hid (fun (W : World) (hb : Below w.heap.size w W) => show Calls Tryz.prog 48 #[.pointer (some ⟨g, 0, none⟩), .agg (msgC 1 0 d [] nilS 0).toArray] W fun e w' => ∃ (z : MsgM) (c' : CaL) (F' : Nat → Prop), e = .returned (.tuple #[.agg z.cells.toArray, .int .i64 0]) ∧ Carried f c ⟨1, sent + 1, d, [], [], 0⟩ c' z.l ∧ (CliSt lo B g cb fb f n (sent + 1) (well + 1) F' c' w' ∧ (∀ k, F' k → F k ∨ W.heap.size ≤ k) ∧ Foot (fun k => F k ∨ k = g) W w') ∧ HeldM w' z ∧ OwnM (fun b => W.heap.size ≤ b ∧ ¬ F' b) z from call_stF (N := fun k => F k ∨ k = g) (h.keep hb) (askM 1 d) (ask_out (by omega)) (fun k e => e) 1 rfl (ask_check (.inl rfl)) (by show 0 < 18446744073709551616; omega) hs hw hra)
 have hgl := h.cl.lt
 unfold dgv
 clear h hra
 go_enter Tryz.func18, Tryz.ntmps18
 go_upto_region 4 with first | (refine wl_box rt31 ?_; intro W0 hb0 hn0 hs0) | (refine wl_ld rt31 (range_of_heap hn0) (dgc_len _) ?_) | (refine wl_run (r_build (built_ask _ _) rfl (by simp only [List.map_toArray, List.map_cons, List.map_nil]; rfl)) ?_) | (go_at_call 48; refine (HC.out _ hb0).mono ?_; rintro e W1 ⟨z, c', F', rfl, hcd, hcl, hz, hzo⟩) | (refine wl_new (xs := z.cells.toArray) rt34 (by rw [List.size_toArray]; exact MsgM.len _) hz.one ?_; intro W2 hb2 hn2 hs2)
 have m := (MsgM.parts hn2).2.2.2.2.1
 obtain ⟨za, zc, hzv, -⟩ := hz.1.out TcM.len (by omega)
 rw [hzv] at m
 have hzz := hz.keep hb2
 clear hz
 go_wp2_with fail
 go_ret2
 obtain ⟨g1, g2, g3⟩ := hcl
 exact ⟨z, c', by rw [hzv]; rfl, hcd, ⟨F', g1.keep hb2, fun k hk => by rcases g2 k hk with e | e; exact .inl e; exact .inr (Nat.le_trans hb0.size e), ((Foot.of_below hb0).chain g3).then hb2, hzo.mono (fun b hb => ⟨Nat.le_trans hb0.size hb.1, hb.2⟩)⟩, hzz⟩
set_option maxHeartbeats 2000000 in
theorem cblob_any {lo : World} {B g cb fb f n sent well : Nat} {F : Nat → Prop} {c : CaL} {w : World} (h : CliSt lo B g cb fb f (n + 1) sent well F c w) (d : Dg) (hs : sent ≤ 1000) (hw : well ≤ 1000)
  (hra : ∀ c' r, Carried f c ⟨2, sent + 1, d, [], [], 0⟩ c' r → RightA 2 d r) :
  Calls Tryz.prog 19 #[.pointer (some ⟨g, 0, none⟩), dgv d] w fun e w' => ∃ (z : MsgM) (c' : CaL), e = .returned (.tuple #[.string (bs z.data), .int .i64 0]) ∧ Carried f c ⟨2, sent + 1, d, [], [], 0⟩ c' z.l ∧ Called lo B g cb fb f n (sent + 1) (well + 1) F c' w w' ∧ HeldM w' z ∧ OwnM (fun b => w.heap.size ≤ b) z := by
 have HC := hid (fun (W : World) (hb : Below w.heap.size w W) => show Calls Tryz.prog 48 #[.pointer (some ⟨g, 0, none⟩), .agg (msgC 2 0 d [] nilS 0).toArray] W fun e w' => ∃ (z : MsgM) (c' : CaL), e = .returned (.tuple #[.agg z.cells.toArray, .int .i64 0]) ∧ Carried f c ⟨2, sent + 1, d, [], [], 0⟩ c' z.l ∧ Called lo B g cb fb f n (sent + 1) (well + 1) F c' W w' ∧ HeldM w' z ∧ OwnM (fun b => W.heap.size ≤ b) z from call_st (N := fun k => F k ∨ k = g) (h.keep hb) (askM 2 d) (ask_out (by omega)) (fun k e => e) 2 rfl (ask_check (.inr rfl)) (by show 0 < 18446744073709551616; omega) hs hw hra)
 have hgl := h.cl.lt
 unfold dgv
 clear h hra
 go_enter Tryz.func19, Tryz.ntmps19
 go_upto_region 4 with first | (refine wl_box rt31 ?_; intro W0 hb0 hn0 hs0) | (refine wl_ld rt31 (range_of_heap hn0) (dgc_len _) ?_) | (refine wl_run (r_build (built_ask _ _) rfl (by simp only [List.map_toArray, List.map_cons, List.map_nil]; rfl)) ?_) | (go_at_call 48; refine (HC.out _ hb0).mono ?_; rintro e W1 ⟨z, c', rfl, hcd, hcl, hz, hzo⟩) | (refine wl_new (xs := z.cells.toArray) rt34 (by rw [List.size_toArray]; exact MsgM.len _) hz.one ?_; intro W2 hb2 hn2 hs2)
 have m := (MsgM.parts hn2).2.2.2.1
 have hzz := hz.keep hb2
 clear hz
 go_wp2_with fail
 go_ret2
 obtain ⟨F', g1, g2, g3⟩ := hcl
 exact ⟨z, c', rfl, hcd, ⟨F', g1.keep hb2, fun k hk => by rcases g2 k hk with e | e; exact .inl e; exact .inr (Nat.le_trans hb0.size e), ((Foot.of_below hb0).chain g3).then hb2⟩, hzz, hzo.mono (fun b hb => Nat.le_trans hb0.size hb)⟩
end Go.Proofs.YtlbipokkdiiaiaaGreatDoor
namespace Go.Proofs.YtlbipokkdiiaiaaGreatDoor
open Go.RowKit Go.Proofs.YtlbipokkdiiaiaaGreatDoor.Exec
set_option maxRecDepth 100000
set_option maxHeartbeats 1000000 in
theorem told_any {g cb fb f n sent well : Nat} {w : World} (h : CliIs g cb fb f n sent well w) :
  Calls Tryz.prog 20 #[.pointer (some ⟨g, 0, none⟩)] w fun e w' => e = .returned (.tuple #[.int .i64 (well : Int), .int .i64 0, .int .i64 0]) ∧ Below w.heap.size w w' := by
 obtain ⟨fv, hg, -⟩ := h.out
 obtain ⟨-, -, -, -, c4, c5, c6⟩ := cli_cells hg
 clear h hg
 go_enter Tryz.func20, Tryz.ntmps20
 go_wp2_with fail
 refine wp_region_wq (by kernel_rfl) (by kernel_rfl) ?_
 repeat (refine WQ.step (fun K hK => ?_); go_simp; first | (refine hK _ ?_; clear hK K) | (apply Exists.intro; refine ⟨fun W hW => ?_, hK _ ?_⟩; (first | with_reducible rfl | (have zz0 := Below.keeps hW c4; have zz1 := Below.keeps hW c5; have zz2 := Below.keeps hW c6; go_simp; first | rfl | exact ⟨rfl, rfl⟩)); clear hK K))
 refine WQ.nil ?_
 intro wq hwq
 go_wp2_with fail
 go_ret3
 exact ⟨rfl, hwq⟩
set_option maxHeartbeats 1000000 in
theorem cloneI_any (v0 : Value) (f n : Nat) (w : World) (h0 : SliceAt w 1 v0 n (intC f n)) (hn : 0 < n) (hlen : n ≤ 1000000) :
  Calls Tryz.prog 44 #[v0] w fun e w' => ∃ v, e = .returned v ∧ w'.ownsRow w.heap.size 3 1 v n (intC f n) ∧ Below w.heap.size w w' := by
 obtain ⟨i0, z, hi, hz, hs, hby, hzs⟩ := infoOk_out (E := 3) (sz := 1) (by_ := 8) (by kernel_rfl)
 have h00 := h0
 obtain ⟨-, a0, c0, rfl, hc0, hm0, hnone, hx⟩ := h0
 obtain ⟨b, off, rfl, hb, -⟩ := hx (by simp [intC]; omega)
 have H1 : Hid (∀ u ∈ intC f n, u.oneCell' = true) := hid (fun u hu => by simp only [intC, List.mem_replicate] at hu; rw [hu.2]; rfl)
 have Hs := hid h00
 have q22 : ∀ (w : World) (a : Option Addr) (n c n' c' : Nat), (binOp .eql 57 (.slice a n c) (.slice none n' c')).run Tryz.prog w = .ok (.bool a.isNone) w := fun w a n c n' c' => Lib.run_eql_slice_nil w _ _ a n c n' c' Tryz.underlying57
 clear h00 hx hnone
 go_enter Tryz.func44, Tryz.ntmps44
 go_wp2_with (at_builtin; go_must (refine wpList_append_src rfl _ _ 57 rfl w.heap.size 3 i0 z 1 8 Tryz.underlying57 hi hz hs hby hzs (by decide) _ 0 [] rfl ?c1 _ n (intC f n) rfl ?c2 ?c3 ?c4 ?c5 ?c6 ?_))
 case c1 => exact World.ownsRow_made w #[] 0 (Nat.le_refl _) (Nat.zero_le _) (by simp)
 case c2 => exact SliceAt.below Hs.out ((Below.refl _ w).alloc (Nat.le_refl _) _) (Nat.le_refl _)
 case c3 => exact H1.out
 case c4 => unfold maxLen; omega
 case c5 => omega
 case c6 => simp
 intro v' w1 hown hgrow
 go_wp2_with fail
 go_ret
 exact ⟨v', rfl, by simpa using hown, ((Below.refl _ w).alloc (Nat.le_refl _) _).grown hgrow (by simp) (by intro k hk; simp [Value.ownBlock] at hk; omega)⟩
theorem info133 : builtInfo 133 = some (#[.pointer none, .slice none 0 0, .int .i64 0, .int .u64 0, .int .i64 0, .int .i64 0, .int .i64 0], [(0, 1), (1, 1), (2, 1), (3, 1), (4, 1), (5, 1), (6, 1)]) := by kernel_rfl
theorem built133 (cb : Nat) (a : Option Addr) (n c : Nat) : Tryz.prog.built 133 [(0, .pointer (some ⟨cb, 0, none⟩)), (1, .slice a n c), (2, .int .i64 1)] = some (cliC cb (.slice a n c) 0 0).toArray := by
 rw [built_of info133]
 rfl
set_option maxHeartbeats 1000000 in
theorem cnew_any (cb f n : Nat) (v0 : Value) (w : World) (h0 : SliceAt w 1 v0 n (intC f n)) (hn : 0 < n) (hlen : n ≤ 1000000) :
  Calls Tryz.prog 16 #[.pointer (some ⟨cb, 0, none⟩), v0, .int .i64 1] w fun e w' => ∃ g fb, e = .returned (.tuple #[.pointer (some ⟨g, 0, none⟩), .int .i64 0]) ∧ CliIs g cb fb f n 0 0 w' ∧ w.heap.size ≤ fb ∧ fb < w'.heap.size ∧ w.heap.size ≤ g ∧ Below w.heap.size w w' := by
 have HC := hid (cloneI_any v0 f n w h0 hn hlen)
 obtain ⟨-, a0, c0, rfl, -⟩ := h0
 go_enter Tryz.func16, Tryz.ntmps16
 go_upto_region 6 with first | (go_at_call 44; refine (HC.out).mono ?_; rintro e W1 ⟨v, rfl, hv, hb1⟩; obtain ⟨a1, c1, rfl⟩ := owns_form hv) | (refine wl_run (r_build (built133 _ _ _ _) rfl (by simp only [List.map_toArray, List.map_cons, List.map_nil]; rfl)) ?_) | (refine wl_box rt133 ?_; intro W2 hb2 hn2 hs2)
 go_ret2
 have hz := hb1.size
 obtain ⟨-, ⟨-, hx⟩ | ⟨fb, cap, cur, hx, hfb, -⟩⟩ := id hv
 ·omega
 ·have hl := hv.lt fb (by rw [hx]; rfl)
  refine ⟨W1.heap.size, fb, rfl, ⟨⟨_, hn2, slice_keep (SliceAt.of_owns hv (by unfold maxLen; omega)) hb2.size (fun k hk hl => hb2.block k hl), fun k hk => ?_⟩, by omega⟩, hfb, by omega, hz, Below.chain hb1 hb2⟩
  rw [hx] at hk
  exact (Option.some.inj hk).symm
end Go.Proofs.YtlbipokkdiiaiaaGreatDoor
