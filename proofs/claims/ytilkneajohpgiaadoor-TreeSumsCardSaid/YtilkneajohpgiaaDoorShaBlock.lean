/- The document's block: the schedule. -/
import Derived.Test.YtilkneajohpgiaaDoorShaWord
namespace Go.Proofs.YtilkneajohpgiaaDoor
set_option maxRecDepth 100000
open Go.RowKit

set_option maxHeartbeats 4000000 in
theorem rblock_any (hv bv : Value) (h : List Int) (b : List UInt8) (w : World) (hh : SliceAt w 1 hv 8 (wordCells h)) (hbb : SliceAt w 1 bv 64 (Lib.byteCells b)) :
    Calls Tryd.prog 28 #[hv, bv] w fun e w' => ∃ v, e = .returned v ∧ SliceAt w' 1 v 8 (wordCells (compressL shaK h b)) ∧ Below w.heap.size w w' := by
  obtain ⟨i0, hi, hz0, hz1, hz2⟩ := info_parts u32_info
  have hl8 : h.length = 8 := by have := hh.1; rw [wordCells_len] at this; omega
  have hl64 : b.length = 64 := by have := hbb.1; rw [byteCells_len] at this; omega
  obtain ⟨-, ha, ho, hc, rfl, hhc, hhm, hha, hhx⟩ := hh.words (by omega)
  obtain ⟨-, ba, bo, bc, rfl, hbc, hbm, hba, hbx⟩ := hbb.bytes (by omega)
  rw [hl64] at hbc hbx
  rw [hl8] at hhc hhx
  have HHX := hid hhx
  have HBX := hid hbx
  clear hhx hbx
  rw [hl8] at hh
  rw [hl8, hl64]
  unfold maxLen at hhm hbm
  have HL8 := hid hl8
  have HH := hid hh
  clear hl8 hl64 hh hbb
  go_enter Tryd.func28, Tryd.ntmps28
  go_wp2_with fail
  refine (rks_any _).mono ?_
  rintro e w1 ⟨kv, rfl, hk, hb1⟩
  obtain ⟨-, ka, ko, kc, rfl, hkc, hkm, hka, hkx⟩ := hk.words (by decide)
  rw [show shaK.length = 64 from rfl] at hkc hkx ⊢
  have HKX := hid hkx
  clear hkx hk
  unfold maxLen at hkm
  go_upto_region 4 with fail
  obtain ⟨W0, hW0⟩ : ∃ W0, W0 = w1.alloc (.cells #[] 58) := ⟨_, rfl⟩
  have hO0 : W0.ownsRow w1.heap.size 58 1 (.slice (some ⟨w1.heap.size, 0, none⟩) 0 0) 0 [] := by
    rw [hW0]; exact ⟨rfl, .inr ⟨_, 0, #[], rfl, Nat.le_refl _, heap_alloc_new w1 _, Nat.le_refl _, by simp, rfl, rfl⟩⟩
  have hb0 : Below w1.heap.size w1 W0 := by rw [hW0]; exact below_new _ _
  have HO0 := hid hO0
  rw [← hW0]
  clear hW0 hO0
  go_loopw [6, 7] (fun o i wr => ∃ (k : Nat), k ≤ 64 ∧ i = .int .i64 k ∧ wr.ownsRow w1.heap.size 58 1 o k (wordCells (schedTo b k)) ∧ Below w1.heap.size w1 wr) (fun _ i _ => 64 - (intOf i).toNat)
  case atStart => exact ⟨0, by omega, rfl, HO0.out, hb0⟩
  case round =>
    obtain ⟨k, hk, rfl, hown, hbr⟩ := hrel
    have hwr := hbr.size
    have HSL := hid (schedTo_len b k)
    clear HO0
    by_cases h64 : k < 64
    · by_cases h16 : k < 16
      · have HN : Hid (schedTo b (k + 1) = schedTo b k ++ [wordAt b k]) := hid (by rw [schedTo, if_pos h16])
        have a0 := keeps_of (Below.chain hb1 hbr) (HBX.out (4 * k) (by omega))
        have a1 := keeps_of (Below.chain hb1 hbr) (HBX.out (4 * k + 1) (by omega))
        have a2 := keeps_of (Below.chain hb1 hbr) (HBX.out (4 * k + 2) (by omega))
        have a3 := keeps_of (Below.chain hb1 hbr) (HBX.out (4 * k + 3) (by omega))
        have HA := hid (fun c => rword_any ba (bo + 4 * k) c _ _ _ _ wr a0 a1 a2 a3 (byteAt_in _ _) (byteAt_in _ _) (byteAt_in _ _) (byteAt_in _ _))
        clear a0 a1 a2 a3
        go_wp2_with first
          | (go_at_call 40; refine (HA.out _).mono ?_; rintro e w2 ⟨rfl, d, rfl⟩)
          | (at_builtin; go_must (refine wpList_append_own _ rfl _ _ 59 rfl w1.heap.size 58 i0 (.int .u32 0) 1 4 Tryd.underlying59 hi hz0 hz1 hz2 rfl (by decide) _ _ _ rfl (World.ownsRow.alloc (ownsRow_drewN hown d) _) ⟨wr.heap.size, 0, none⟩ 1 1 [.int .u32 (wordAt b k)] rfl rfl ?c1 ?c2 ?c3 ?c4 ?c5 ?_))
        case c1 => exact new_cells _ #[_] _ _
        case c2 => intro u hu; simp at hu; subst hu; rfl
        case c3 => unfold maxLen; omega
        case c4 => omega
        case c5 => simp; omega
        intro v1 w2 hown2 hgrow2 _
        have hb2 : Below w1.heap.size w1 w2 := ((hbr.trans ((Drawn.below (B := w1.heap.size) ⟨_, rfl⟩))).alloc (by simp; omega) _).grown hgrow2 (by simp; omega) (fun k hk => (hown.lt k hk).1)
        clear hgrow2
        go_wp2_with fail
        refine ⟨⟨k + 1, by omega, by go_num, by rw [HN.out, wordCells_app]; exact hown2, hb2⟩, by simp [intOf]; omega⟩
      · obtain ⟨p, hp⟩ : ∃ p, k = p + 16 := ⟨k - 16, by omega⟩
        obtain ⟨p1, hp1⟩ : ∃ q, q = p + 1 := ⟨_, rfl⟩
        obtain ⟨p9, hp9⟩ : ∃ q, q = p + 9 := ⟨_, rfl⟩
        obtain ⟨p14, hp14⟩ : ∃ q, q = p + 14 := ⟨_, rfl⟩
        have HN : Hid (schedTo b (k + 1) = schedTo b k ++ [nextI ((schedTo b k).getD p 0) ((schedTo b k).getD p1 0) ((schedTo b k).getD p9 0) ((schedTo b k).getD p14 0)]) := hid (by subst hp hp1 hp9 hp14; rw [schedTo, if_neg h16]; rfl)
        obtain ⟨g, cap, rfl, hgl, hgw⟩ := hown.form (by omega)
        have HC := hid (fun j (hj : j < k) => (hown.cellAt j (by omega)).trans (wordCells_get _ j (by rw [HSL.out]; exact hj)))
        have c0 := HC.out p (by omega)
        have c1 := HC.out p1 (by omega)
        have c9 := HC.out p9 (by omega)
        have c14 := HC.out p14 (by omega)
        have hcap := (hown.2.resolve_left (by simp))
        have hcap : k ≤ cap ∧ cap ≤ 9223372036854775807 := by obtain ⟨_, _, _, e, _, _, h1, h2, _⟩ := hcap; injection e with _ _ e; subst e; unfold maxLen at h2; exact ⟨h1, by omega⟩
        generalize (schedTo b k).getD p 0 = x0 at *
        generalize (schedTo b k).getD p1 0 = x1 at *
        generalize (schedTo b k).getD p9 0 = x9 at *
        generalize (schedTo b k).getD p14 0 = x14 at *
        have e0 : (k : Int) - 16 = (p : Int) := by omega
        have e1 : (k : Int) - 15 = (p1 : Int) := by omega
        have e9 : (k : Int) - 7 = (p9 : Int) := by omega
        have e14 : (k : Int) - 2 = (p14 : Int) := by omega
        have v0 : IntKind.i64.wrap (p : Int) = (p : Int) := IntWalk.i64_in _ (by omega)
        have v1 : IntKind.i64.wrap (p1 : Int) = (p1 : Int) := IntWalk.i64_in _ (by omega)
        have v9 : IntKind.i64.wrap (p9 : Int) = (p9 : Int) := IntWalk.i64_in _ (by omega)
        have v14 : IntKind.i64.wrap (p14 : Int) = (p14 : Int) := IntWalk.i64_in _ (by omega)
        have hpk0 : p < k := by omega
        have hpk1 : p1 < k := by omega
        have hpk9 : p9 < k := by omega
        have hpk14 : p14 < k := by omega
        clear hp hp1 hp9 hp14
        go_upto_region 8 with fail
        go_quiet (fail)
        go_upto_region 9 with fail
        obtain ⟨W1, hW1⟩ : ∃ W1, W1 = wr.drewN nq := ⟨_, rfl⟩
        have d0 : W1.cell? ⟨g, p, none⟩ = some (.int .u32 x0) := by rw [hW1]; exact c0
        have d9 : W1.cell? ⟨g, p9, none⟩ = some (.int .u32 x9) := by rw [hW1]; exact c9
        have hown1 : W1.ownsRow w1.heap.size 58 1 (.slice (some ⟨g, 0, none⟩) k cap) k (wordCells (schedTo b k)) := by rw [hW1]; exact ownsRow_drewN hown nq
        have hbr1 : Below w1.heap.size w1 W1 := by rw [hW1]; exact hbr.trans (Drawn.below ⟨nq, rfl⟩)
        have hbr2 := hbr1.size
        rw [← hW1]
        clear hW1 c0 c1 c9 c14 hown hbr hwr HC
        have HT := hid (fun n (h1 : 0 < n) (h2 : n < 32) x W => (rturn_any x n h1 h2 W).mono (fun _ _ h => (⟨h.1, h.2.below⟩ : _ ∧ Below W.heap.size W _)))
        refine wp_region_wq_tail1 (v := (.slice (some ⟨g, 0, none⟩) k cap)) 29 (by kernel_rfl) (by kernel_rfl) (by kernel_rfl) (by kernel_rfl) (fun _ _ _ _ h => h) (by kernel_rfl) (fun W => rfl) (by kernel_rfl) ?_
        simp only [List.take_succ_cons, List.take_zero, List.drop_succ_cons, List.drop_zero]
        repeat (refine WQ.step (fun K hK => ?_); go_simp; first | (refine hK _ ?_; clear hK K) | (apply Exists.intro; refine ⟨fun W hW => ?_, hK _ ?_⟩; (first | (go_at_call_of 41 (Value.int .i64 7); exact Calls.quiet_below hW (HT.out 7 (by decide) (by decide) _ _)) | (go_at_call_of 41 (Value.int .i64 18); exact Calls.quiet_below hW (HT.out 18 (by decide) (by decide) _ _)) | (go_at_call_of 41 (Value.int .i64 17); exact Calls.quiet_below hW (HT.out 17 (by decide) (by decide) _ _)) | (go_at_call_of 41 (Value.int .i64 19); exact Calls.quiet_below hW (HT.out 19 (by decide) (by decide) _ _)) | (first | with_reducible rfl | (have zz0 := Below.keeps hW d0; have zz1 := Below.keeps hW d9; go_simp; first | rfl | exact ⟨rfl, rfl⟩ | (rw [if_neg (by omega)]; exact ⟨rfl, rfl⟩)))); clear hK K))
        refine WQ.nil ?_
        intro wq hwq

        have hown2 := ownsRow_below hown1 hwq
        have hwq' : Below w1.heap.size w1 wq := hbr1.trans (hwq.mono hbr2)
        have hwqs := hwq.size
        go_wp2_with (at_builtin; go_must (refine wpList_append_own _ rfl _ _ 59 rfl w1.heap.size 58 i0 (.int .u32 0) 1 4 Tryd.underlying59 hi hz0 hz1 hz2 rfl (by decide) _ _ _ rfl (World.ownsRow.alloc hown2 _) ⟨wq.heap.size, 0, none⟩ 1 1 [.int .u32 (nextI x0 x1 x9 x14)] rfl rfl ?e1 ?e2 ?e3 ?e4 ?e5 ?_))
        case e1 => exact new_cells _ #[_] _ _
        case e2 => intro u hu; simp at hu; subst hu; rfl
        case e3 => unfold maxLen; omega
        case e4 => omega
        case e5 => simp; omega
        intro v1 w2 hown3 hgrow2 _
        have hb2 : Below w1.heap.size w1 w2 := (hwq'.alloc (by omega) _).grown hgrow2 (by simp; omega) (fun k hk => (hown2.lt k hk).1)
        clear hgrow2
        go_wp2_with fail
        refine ⟨⟨k + 1, by omega, by go_num, by rw [HN.out, wordCells_app]; exact hown3, hb2⟩, by simp [intOf]; omega⟩
    · obtain rfl : k = 64 := by omega
      obtain ⟨wo, rfl⟩ : ∃ wo : World, wo = wr := ⟨_, rfl⟩
      have HOWN := hid (SliceAt.of_owns hown (by unfold maxLen; omega))
      have hbw := Below.chain hb1 hbr
      obtain ⟨-, sa, so, sc, rfl, hsc, hsm, hsa, hsx⟩ := HOWN.out.words (by rw [HSL.out]; omega)
      rw [HSL.out] at hsc hsx ⊢
      have HSX : Hid (∀ j, j < 64 → wo.cell? ⟨sa, so + j, none⟩ = some (.int .u32 ((schedL b).getD j 0))) := hid hsx
      have HHX2 := hid (fun j (hj : j < 8) => keeps_of hbw (HHX.out j hj))
      have HKX2 := hid (fun j (hj : j < 64) => keeps_of hbr (HKX.out j hj))
      have HH2 := hid ((HH.out).below hbw (Nat.le_refl _))
      have hha2 : ha < wo.heap.size := by have := hbw.size; omega
      have hka2 : ka < wo.heap.size := by omega
      unfold maxLen at hsm
      clear hown HOWN h64 hsx HSL hba hbc hbm HBX HHX HKX HH hha hka
      have hown0 : (wo.alloc (.cells #[] 58)).ownsRow wo.heap.size 58 1 (.slice (some ⟨wo.heap.size, 0, none⟩) 0 0) 0 [] :=
        ⟨rfl, .inr ⟨_, 0, #[], rfl, Nat.le_refl _, heap_alloc_new wo _, Nat.le_refl _, by simp, rfl, rfl⟩⟩
      have HHS := hid ((HH2.out).below (below_new wo (.cells #[] 58)) (Nat.le_refl _))
      go_wp2_with (at_builtin; go_must (refine wpList_append_src rfl _ _ 59 rfl wo.heap.size 58 i0 (.int .u32 0) 1 4 Tryd.underlying59 hi hz0 hz1 hz2 rfl (by decide) _ _ _ rfl hown0 _ 8 _ rfl HHS.out ?s1 ?s2 ?s3 ?s4 ?_))
      case s1 => exact wordCells_one _
      case s2 => unfold maxLen; omega
      case s3 => omega
      case s4 => simp
      intro v2 w2 hown2 hgrow2
      have hb2 : Below wo.heap.size wo w2 := (below_new wo (.cells #[] 58)).grown hgrow2 (by simp) (fun k hk => by simp [Value.ownBlock] at hk; omega)
      have HS2 := hid (SliceAt.of_owns hown2 (by unfold maxLen; omega))
      clear hgrow2 hown0 hown2 HHS
      go_wp2_with fail
      go_loopw [10, 11] (fun l i wt => ∃ (k : Nat), k ≤ 64 ∧ i = .int .i64 k ∧ SliceAt wt 1 l 8 (wordCells (stepsTo shaK (schedL b) h k)) ∧ Below wo.heap.size wo wt) (fun _ i _ => 64 - (intOf i).toNat)
      case atStart => exact ⟨0, by omega, rfl, HS2.out, hb2⟩
      case round =>
        obtain ⟨k, hk, rfl, hl, hbt⟩ := hrel
        have HV8 := hid (stepsTo_len (ks := shaK) (ws := schedL b) HL8.out k)
        obtain ⟨-, la, lo, lc, rfl, hlc, hlm, hla, hlx⟩ := hl.words (by rw [HV8.out]; omega)
        rw [HV8.out] at hlc hlx ⊢
        unfold maxLen at hlm
        have HLX := hid hlx
        have HL := hid hl
        clear hlx hl HS2
        by_cases h64 : k < 64
        · have HN : Hid (stepsTo shaK (schedL b) h (k + 1) = shaStep (stepsTo shaK (schedL b) h k) (shaK.getD k 0) ((schedL b).getD k 0)) := hid rfl
          have ck := keeps_of hbt (HKX2.out k h64)
          have cs := keeps_of hbt (HSX.out k h64)
          have l0 := HLX.out 0 (by omega)
          rw [Nat.add_zero] at l0
          have l1 := HLX.out 1 (by omega)
          have l2 := HLX.out 2 (by omega)
          have l3 := HLX.out 3 (by omega)
          have l4 := HLX.out 4 (by omega)
          have l5 := HLX.out 5 (by omega)
          have l6 := HLX.out 6 (by omega)
          have l7 := HLX.out 7 (by omega)
          unfold shaStep at HN
          generalize (schedL b).getD k 0 = xs at *
          generalize shaK.getD k 0 = xk at *
          generalize (stepsTo shaK (schedL b) h k).getD 0 0 = x0 at *
          generalize (stepsTo shaK (schedL b) h k).getD 1 0 = x1 at *
          generalize (stepsTo shaK (schedL b) h k).getD 2 0 = x2 at *
          generalize (stepsTo shaK (schedL b) h k).getD 3 0 = x3 at *
          generalize (stepsTo shaK (schedL b) h k).getD 4 0 = x4 at *
          generalize (stepsTo shaK (schedL b) h k).getD 5 0 = x5 at *
          generalize (stepsTo shaK (schedL b) h k).getD 6 0 = x6 at *
          generalize (stepsTo shaK (schedL b) h k).getD 7 0 = x7 at *
          have HT := hid (fun n (h1 : 0 < n) (h2 : n < 32) x W => (rturn_any x n h1 h2 W).mono (fun _ _ h => (⟨h.1, h.2.below⟩ : _ ∧ Below W.heap.size W _)))
          go_upto_region 14 with fail
          go_quiet (fail)
          go_upto_region 15 with fail
          obtain ⟨W1, hW1⟩ : ∃ W1, W1 = wr.drewN nq := ⟨_, rfl⟩
          have hd1 : Below wr.heap.size wr W1 := by rw [hW1]; exact Drawn.below ⟨nq, rfl⟩
          have ck1 := keeps_of hd1 ck
          have cs1 := keeps_of hd1 cs
          have m1 := keeps_of hd1 l1
          have m2 := keeps_of hd1 l2
          have m3 := keeps_of hd1 l3
          have m5 := keeps_of hd1 l5
          have m6 := keeps_of hd1 l6
          have m7 := keeps_of hd1 l7
          have hbt1 := Below.chain hbt hd1
          rw [← hW1]
          clear hW1 ck cs l0 l1 l2 l3 l4 l5 l6 l7 hbt hd1
          refine wp_region_wq (by kernel_rfl) (by kernel_rfl) ?_
          repeat (refine WQ.step (fun K hK => ?_); go_simp; first | (refine hK _ ?_; clear hK K) | (apply Exists.intro; refine ⟨fun W hW => ?_, hK _ ?_⟩; (first | (go_at_call_of 41 (Value.int .i64 6); exact Calls.quiet_below hW (HT.out 6 (by decide) (by decide) _ _)) | (go_at_call_of 41 (Value.int .i64 11); exact Calls.quiet_below hW (HT.out 11 (by decide) (by decide) _ _)) | (go_at_call_of 41 (Value.int .i64 25); exact Calls.quiet_below hW (HT.out 25 (by decide) (by decide) _ _)) | (first | with_reducible rfl | (have zz0 := Below.keeps hW ck1; have zz1 := Below.keeps hW cs1; have zz2 := Below.keeps hW m5; have zz3 := Below.keeps hW m6; have zz4 := Below.keeps hW m7; go_simp; first | rfl | exact ⟨rfl, rfl⟩ | (rw [if_neg (by omega)]; exact ⟨rfl, rfl⟩)))); clear hK K))
          refine WQ.nil ?_
          intro wu hwu

          have n1 := keeps_of hwu m1
          have n2 := keeps_of hwu m2
          have n3 := keeps_of hwu m3
          have n5 := keeps_of hwu m5
          have n6 := keeps_of hwu m6
          have hbt2 := Below.chain hbt1 hwu
          clear ck1 cs1 m1 m2 m3 m5 m6 m7 hwu hbt1
          go_upto_region 16 with fail
          refine wp_region_wq (by kernel_rfl) (by kernel_rfl) ?_
          repeat (refine WQ.step (fun K hK => ?_); go_simp; first | (refine hK _ ?_; clear hK K) | (apply Exists.intro; refine ⟨fun W hW => ?_, hK _ ?_⟩; (first | (go_at_call_of 41 (Value.int .i64 2); exact Calls.quiet_below hW (HT.out 2 (by decide) (by decide) _ _)) | (go_at_call_of 41 (Value.int .i64 13); exact Calls.quiet_below hW (HT.out 13 (by decide) (by decide) _ _)) | (go_at_call_of 41 (Value.int .i64 22); exact Calls.quiet_below hW (HT.out 22 (by decide) (by decide) _ _)) | (first | with_reducible rfl | (have zz0 := Below.keeps hW n1; have zz1 := Below.keeps hW n2; go_simp; first | rfl | exact ⟨rfl, rfl⟩ | (rw [if_neg (by omega)]; exact ⟨rfl, rfl⟩)))); clear hK K))
          refine WQ.nil ?_
          intro wx hwx

          have p1 := keeps_of hwx n1
          have p2 := keeps_of hwx n2
          have p3 := keeps_of hwx n3
          have p5 := keeps_of hwx n5
          have p6 := keeps_of hwx n6
          have hbt3 := Below.chain hbt2 hwx
          clear n1 n2 n3 n5 n6 hwx hbt2
          go_upto_region 17 with fail
          refine wp_region_wq_tail 22 (by kernel_rfl) (by kernel_rfl) ?_
          simp only [List.take_succ_cons, List.take_zero, List.drop_succ_cons, List.drop_zero]
          repeat (refine WQ.step (fun K hK => ?_); go_simp; first | (refine hK _ ?_; clear hK K) | (apply Exists.intro; refine ⟨fun W hW => ?_, hK _ ?_⟩; (first | (first | with_reducible rfl | (have zz0 := Below.keeps hW p1; have zz1 := Below.keeps hW p2; have zz2 := Below.keeps hW p3; have zz3 := Below.keeps hW p5; have zz4 := Below.keeps hW p6; go_simp; first | rfl | exact ⟨rfl, rfl⟩ | (rw [if_neg (by omega)]; exact ⟨rfl, rfl⟩)))); clear hK K))
          refine WQ.nil ?_
          intro wz hwz

          have hbt4 := Below.chain hbt3 hwz
          clear p1 p2 p3 p5 p6 hwz hbt3
          go_wp2_with fail
          refine ⟨⟨k + 1, by omega, by go_num, ?_, hbt4.alloc hbt4.size _⟩, by simp [intOf]; omega⟩
          rw [HN.out]
          refine ⟨rfl, _, 8, rfl, Nat.le_refl _, by unfold maxLen; omega, fun h => (by cases h), fun _ => ⟨_, 0, rfl, by simp, fun j u hu => ?_⟩⟩
          rw [Nat.zero_add, World.cell?_alloc_mark, ← Array.getElem?_toList]
          exact hu
        · obtain rfl : k = 64 := by omega
          obtain ⟨wt, rfl⟩ : ∃ wt : World, wt = wr := ⟨_, rfl⟩
          have HHX3 := hid (fun j (hj : j < 8) => keeps_of hbt (HHX2.out j hj))
          have hown0 : (wt.alloc (.cells #[] 58)).ownsRow wt.heap.size 58 1 (.slice (some ⟨wt.heap.size, 0, none⟩) 0 0) 0 [] :=
            ⟨rfl, .inr ⟨_, 0, #[], rfl, Nat.le_refl _, heap_alloc_new wt _, Nat.le_refl _, by simp, rfl, rfl⟩⟩
          have HO0 := hid hown0
          have hbt0 := below_new wt (.cells #[] 58)
          clear HHX2 HKX2 HSX HH2 hsc hsm hsa hkc hkm h64 hown0
          go_wp2_with fail
          go_loopw [16, 17] (fun o i wr => ∃ (k : Nat), k ≤ 8 ∧ i = .int .i64 k ∧ wr.ownsRow wt.heap.size 58 1 o k (wordCells (sumsTo h (stepsTo shaK (schedL b) h 64) k)) ∧ Below wt.heap.size wt wr) (fun _ i _ => 8 - (intOf i).toNat)
          case atStart => exact ⟨0, by omega, rfl, HO0.out, hbt0⟩
          case round =>
            obtain ⟨k, hk, rfl, hown, hbr3⟩ := hrel
            clear HO0 hbt0
            have hbr4 := hbr3.size
            by_cases h8 : k < 8
            · have HN : Hid (sumsTo h (stepsTo shaK (schedL b) h 64) (k + 1) = sumsTo h (stepsTo shaK (schedL b) h 64) k ++ [(h.getD k 0 + (stepsTo shaK (schedL b) h 64).getD k 0) % 4294967296]) := hid (sumsTo_more _ _ _)
              have ch := keeps_of hbr3 (HHX3.out k h8)
              have cl := keeps_of hbr3 (HLX.out k h8)
              generalize h.getD k 0 = xh at *
              generalize (stepsTo shaK (schedL b) h 64).getD k 0 = xl at *
              obtain ⟨oa, on, oc, rfl⟩ := owns_slice hown
              go_upto_region 22 with fail
              refine wp_region_wq_tail1 (v := (.slice oa on oc)) 9 (by kernel_rfl) (by kernel_rfl) (by kernel_rfl) (by kernel_rfl) (fun _ _ _ _ h => h) (by kernel_rfl) (fun W => rfl) (by kernel_rfl) ?_
              simp only [List.take_succ_cons, List.take_zero, List.drop_succ_cons, List.drop_zero]
              repeat (refine WQ.step (fun K hK => ?_); go_simp; first | (refine hK _ ?_; clear hK K) | (apply Exists.intro; refine ⟨fun W hW => ?_, hK _ ?_⟩; (first | (first | with_reducible rfl | (have zz0 := Below.keeps hW ch; have zz1 := Below.keeps hW cl; go_simp; first | rfl | exact ⟨rfl, rfl⟩ | (rw [if_neg (by omega)]; exact ⟨rfl, rfl⟩)))); clear hK K))
              refine WQ.nil ?_
              intro wz hwz

              have hown2 := ownsRow_below hown hwz
              have hbt5 := hbr3.trans (hwz.mono hbr4)
              have hwzs := hwz.size
              go_wp2_with (at_builtin; go_must (refine wpList_append_own _ rfl _ _ 59 rfl wt.heap.size 58 i0 (.int .u32 0) 1 4 Tryd.underlying59 hi hz0 hz1 hz2 rfl (by decide) _ _ _ rfl (World.ownsRow.alloc hown2 _) ⟨wz.heap.size, 0, none⟩ 1 1 [.int .u32 ((xh + xl) % 4294967296)] rfl rfl ?g1 ?g2 ?g3 ?g4 ?g5 ?_))
              case g1 => exact new_cells _ #[_] _ _
              case g2 => intro u hu; simp at hu; subst hu; rfl
              case g3 => unfold maxLen; omega
              case g4 => omega
              case g5 => simp; omega
              intro v3 w3 hown3 hgrow3 _
              have hb3 : Below wt.heap.size wt w3 := (hbt5.alloc (by omega) _).grown hgrow3 (by simp; omega) (fun k hk => (hown2.lt k hk).1)
              clear hgrow3
              go_wp2_with fail
              refine ⟨?_, by simp [intOf]; omega⟩
              (repeat apply Exists.intro)
              exact ⟨⟨k + 1, by omega, by go_num, by rw [HN.out, wordCells_app]; exact hown3, hb3⟩, rfl⟩
            · obtain rfl : k = 8 := by omega
              go_wp2_with fail
              go_ret
              exact ⟨_, rfl, SliceAt.of_owns hown (by unfold maxLen; omega), Below.chain hbw (Below.chain hbt hbr3)⟩
end Go.Proofs.YtilkneajohpgiaaDoor
