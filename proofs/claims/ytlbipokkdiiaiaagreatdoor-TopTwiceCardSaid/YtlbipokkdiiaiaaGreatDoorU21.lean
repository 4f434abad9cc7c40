/- Lemmas for TopTwice: ShaSpread. -/
import Derived.Test.YtlbipokkdiiaiaaGreatDoorU20
namespace Go.Proofs.YtlbipokkdiiaiaaGreatDoor
set_option maxRecDepth 100000
open Go.RowKit
theorem schA_one (ws : List Int) : (schA ws).all (·.oneCell') = true := by
 rw [Array.all_eq_true_iff_forall_mem]
 intro x hx
 simp only [schA, List.mem_toArray, List.mem_map] at hx
 obtain ⟨i, _, rfl⟩ := hx
 rfl
set_option maxHeartbeats 4000000 in
theorem spread_any (bv : Value) (b : List UInt8) (w : World) (hbb : SliceAt w 1 bv 64 (Lib.byteCells b)) : Calls Tryz.prog 174 #[bv] w fun e w' => e = .returned (.agg (wordCells (schedL b)).toArray) ∧ Below w.heap.size w w' := by
 have hl64 : b.length = 64 := by have := hbb.1; rw [byteCells_len] at this; omega
 obtain ⟨-, ba, bo, bc, rfl, hbc, hbm, hba, hbx⟩ := hbb.bytes (by omega)
 rw [hl64] at hbc hbx
 have HBX := hid hbx
 unfold maxLen at hbm
 rw [hl64]
 clear hl64 hbb hbx
 go_enter Tryz.func174, Tryz.ntmps174
 go_upto_region 2 with fail
 obtain ⟨Z, hZ⟩ : ∃ Z : Obj, Z = (Obj.cells (accA [] 0) 298) := ⟨_, rfl⟩
 rw [show (Obj.cells #[Value.int IntKind.u32 0, Value.int IntKind.u32 0, Value.int IntKind.u32 0, Value.int IntKind.u32 0, Value.int IntKind.u32 0, Value.int IntKind.u32 0, Value.int IntKind.u32 0, Value.int IntKind.u32 0, Value.int IntKind.u32 0, Value.int IntKind.u32 0, Value.int IntKind.u32 0, Value.int IntKind.u32 0, Value.int IntKind.u32 0, Value.int IntKind.u32 0, Value.int IntKind.u32 0, Value.int IntKind.u32 0, Value.int IntKind.u32 0, Value.int IntKind.u32 0, Value.int IntKind.u32 0, Value.int IntKind.u32 0, Value.int IntKind.u32 0, Value.int IntKind.u32 0, Value.int IntKind.u32 0, Value.int IntKind.u32 0, Value.int IntKind.u32 0, Value.int IntKind.u32 0, Value.int IntKind.u32 0, Value.int IntKind.u32 0, Value.int IntKind.u32 0, Value.int IntKind.u32 0, Value.int IntKind.u32 0, Value.int IntKind.u32 0, Value.int IntKind.u32 0, Value.int IntKind.u32 0, Value.int IntKind.u32 0, Value.int IntKind.u32 0, Value.int IntKind.u32 0, Value.int IntKind.u32 0, Value.int IntKind.u32 0, Value.int IntKind.u32 0, Value.int IntKind.u32 0, Value.int IntKind.u32 0, Value.int IntKind.u32 0, Value.int IntKind.u32 0, Value.int IntKind.u32 0, Value.int IntKind.u32 0, Value.int IntKind.u32 0, Value.int IntKind.u32 0, Value.int IntKind.u32 0, Value.int IntKind.u32 0, Value.int IntKind.u32 0, Value.int IntKind.u32 0, Value.int IntKind.u32 0, Value.int IntKind.u32 0, Value.int IntKind.u32 0, Value.int IntKind.u32 0, Value.int IntKind.u32 0, Value.int IntKind.u32 0, Value.int IntKind.u32 0, Value.int IntKind.u32 0, Value.int IntKind.u32 0, Value.int IntKind.u32 0, Value.int IntKind.u32 0, Value.int IntKind.u32 0] 298) = Z by rw [hZ]; rfl]
 obtain ⟨W0, hW0⟩ : ∃ W0, W0 = (w.alloc Z).alloc Z := ⟨_, rfl⟩
 have hR0 : W0.heap[w.heap.size]? = some Z := by
  rw [hW0, Below.heap_alloc _ _ _ (by simp)]
  exact heap_alloc_new w Z
 have hR1 : W0.heap[w.heap.size + 1]? = some (.cells (accA b 0) 298 (0, 0)) := by
  have : (.cells (accA b 0) 298 (0, 0)) = Z := by rw [hZ]; unfold accA; rw [show ((List.range 64).map fun j => Value.int .u32 (accW b j (min 4 (0 - 4 * j)))) = ((List.range 64).map fun j => Value.int .u32 (accW [] j (min 4 (0 - 4 * j)))) from by simp [accW]]
  rw [this, hW0]
  have e : w.heap.size + 1 = (w.alloc Z).heap.size := by simp
  rw [e]
  exact heap_alloc_new _ Z
 have hb0 : Below w.heap.size w W0 := by rw [hW0]; exact ((below_new w Z).alloc (by simp) _)
 have hs0 : W0.heap.size = w.heap.size + 2 := by rw [hW0]; simp
 rw [← hW0]
 have HR0 := hid hR0
 have HR1 := hid hR1
 have HSZ := hid hs0
 clear hW0 hR0 hR1 hs0
 go_wp2_with fail
 go_loopw [13] (fun i wr => ∃ (k : Nat), k ≤ 64 ∧ i = .int .i64 k ∧ wr.heap[w.heap.size + 1]? = some (.cells (accA b k) 298 (0, 0)) ∧ Below (w.heap.size + 1) W0 wr) (fun i _ => 64 - (intOf i).toNat)
 case atStart => exact ⟨0, by omega, rfl, HR1.out, Below.refl _ _⟩
 case round =>
  obtain ⟨k, hk, rfl, hg, hbr⟩ := hrel
  by_cases h64 : k < 64
  ·obtain ⟨q, hq⟩ : ∃ q, q = k / 4 := ⟨_, rfl⟩
   have ck : wr.cell? ⟨w.heap.size + 1, q, none⟩ = (accA b k)[q]? := cell_of_row wr _ q _ _ _ hg
   rw [hq, accA_at b k h64, ← hq] at ck
   have fk : wr.frozen? ⟨w.heap.size + 1, q, none⟩ = false := frozen_of_row wr _ q _ _ hg
   have hbk := (hbr.cell (p := ⟨ba, bo + k, none⟩) (show ba < w.heap.size + 1 by omega)).trans (keeps_of hb0 (HBX.out k h64))
   have HD : Hid ((accA b k).setIfInBounds q (.int .u32 (bits .or .u32 (accW b q (k % 4) * 256 % 4294967296) (byteAt b k))) = accA b (k + 1)) := hid (by rw [hq]; exact accA_more b k)
   have HN := hid (heap_setCell_same wr (w.heap.size + 1) q (accA b k) 298 (.int .u32 (bits .or .u32 (accW b q (k % 4) * 256 % 4294967296) (byteAt b k))) hg)
   have q1 : Int.tdiv (k : Int) 4 = (q : Int) := by rw [Int.tdiv_eq_ediv_of_nonneg (by omega)]; omega
   have q3 : (k : Int) / 4 = (q : Int) := by omega
   have hq16 : q < 64 := by omega
   have hby := byteAt_in b k
   generalize accW b q (k % 4) = x at *
   generalize byteAt b k = y at *
   clear hq
   go_wp2_with fail
   refine ⟨⟨k + 1, by omega, by go_num, by rw [← HD.out]; exact HN.out, hbr.setCell (p := ⟨w.heap.size + 1, q, none⟩) (Nat.le_refl _) _⟩, by simp [intOf]; omega⟩
  ·obtain rfl : k = 64 := by omega
   obtain ⟨wo, rfl⟩ : ∃ wo : World, wo = wr := ⟨_, rfl⟩
   have hg' : wo.heap[w.heap.size + 1]? = some (.cells (schA (schedTo b 16)) 298 (0, 0)) := by rw [hg, accA_all]
   have HG := hid hg'
   have HBO := hid hbr
   clear hg hg' h64 HR1 hbr
   go_wp2_with fail
   go_loopw [6] (fun i wr => ∃ (k : Nat), 16 ≤ k ∧ k ≤ 64 ∧ i = .int .i64 k ∧ wr.heap[w.heap.size + 1]? = some (.cells (schA (schedTo b k)) 298 (0, 0)) ∧ Below (w.heap.size + 1) wo wr) (fun i _ => 64 - (intOf i).toNat)
   case atStart => exact ⟨16, by omega, by omega, rfl, HG.out, Below.refl _ _⟩
   case round =>
    obtain ⟨k, hk16, hk, rfl, hg, hbr⟩ := hrel
    have HSL := hid (schedTo_len b k)
    clear HG
    by_cases h64 : k < 64
    ·obtain ⟨p, hp⟩ : ∃ p, k = p + 16 := ⟨k - 16, by omega⟩
     obtain ⟨p1, hp1⟩ : ∃ q, q = p + 1 := ⟨_, rfl⟩
     obtain ⟨p9, hp9⟩ : ∃ q, q = p + 9 := ⟨_, rfl⟩
     obtain ⟨p14, hp14⟩ : ∃ q, q = p + 14 := ⟨_, rfl⟩
     have HX : Hid (schedTo b (k + 1) = schedTo b k ++ [nextI ((schedTo b k).getD p 0) ((schedTo b k).getD p1 0) ((schedTo b k).getD p9 0) ((schedTo b k).getD p14 0)]) := hid (by subst hp hp1 hp9 hp14; rw [schedTo, if_neg (by omega)]; rfl)
     have cell := fun j (hj : j < 64) => (cell_of_row wr (w.heap.size + 1) j _ _ _ hg).trans (schA_at (schedTo b k) j hj)
     have c0 := cell p (by omega)
     have c1 := cell p1 (by omega)
     have c9 := cell p9 (by omega)
     have c14 := cell p14 (by omega)
     have ck := cell k (by omega)
     clear cell
     have HN := hid (fun x => (heap_setCell_same wr (w.heap.size + 1) k (schA (schedTo b k)) 298 (.int .u32 x) hg).trans (by rw [schA_more (schedTo b k) x k HSL.out]))
     have fk : wr.frozen? ⟨w.heap.size + 1, k, none⟩ = false := frozen_of_row wr _ k _ _ hg
     generalize (schedTo b k).getD p 0 = x0 at *
     generalize (schedTo b k).getD p1 0 = x1 at *
     generalize (schedTo b k).getD p9 0 = x9 at *
     generalize (schedTo b k).getD p14 0 = x14 at *
     generalize (schedTo b k).getD k 0 = xk at *
     have e0 : (k : Int) - 16 = (p : Int) := by omega
     have e1 : (k : Int) - 15 = (p1 : Int) := by omega
     have e9 : (k : Int) - 7 = (p9 : Int) := by omega
     have e14 : (k : Int) - 2 = (p14 : Int) := by omega
     have v0 : IntKind.i64.wrap (p : Int) = (p : Int) := IntWalk.i64_in _ (by omega)
     have v1 : IntKind.i64.wrap (p1 : Int) = (p1 : Int) := IntWalk.i64_in _ (by omega)
     have v9 : IntKind.i64.wrap (p9 : Int) = (p9 : Int) := IntWalk.i64_in _ (by omega)
     have v14 : IntKind.i64.wrap (p14 : Int) = (p14 : Int) := IntWalk.i64_in _ (by omega)
     have hpk0 : p < 64 := by omega
     have hpk1 : p1 < 64 := by omega
     have hpk9 : p9 < 64 := by omega
     have hpk14 : p14 < 64 := by omega
     have hg2 : Hid (wr.heap[w.heap.size + 1]? = some (.cells (schA (schedTo b k)) 298 (0, 0))) := hid hg
     clear hp hp1 hp9 hp14 hg
     go_upto_region 10 with fail
     go_quiet (fail)
     have HT := hid (fun n (h1 : 0 < n) (h2 : n < 32) x W => turned_any x n h1 h2 W)
     go_upto_region 13 with first
      | (go_at_call_of 175 (Value.int .i64 7); refine (HT.out 7 ?n7 ?m7 _ _).mono ?_; (decide); (decide); rintro e w3 ⟨rfl, rfl⟩)
      | (go_at_call_of 175 (Value.int .i64 18); refine (HT.out 18 ?n18 ?m18 _ _).mono ?_; (decide); (decide); rintro e w3 ⟨rfl, rfl⟩)
      | (go_at_call_of 175 (Value.int .i64 17); refine (HT.out 17 ?n17 ?m17 _ _).mono ?_; (decide); (decide); rintro e w3 ⟨rfl, rfl⟩)
      | (go_at_call_of 175 (Value.int .i64 19); refine (HT.out 19 ?n19 ?m19 _ _).mono ?_; (decide); (decide); rintro e w3 ⟨rfl, rfl⟩)
     obtain ⟨W1, hW1⟩ : ∃ W1, W1 = wr.drewN nq := ⟨_, rfl⟩
     have d0 : W1.cell? ⟨w.heap.size + 1, p, none⟩ = some (.int .u32 x0) := by rw [hW1]; exact c0
     have d9 : W1.cell? ⟨w.heap.size + 1, p9, none⟩ = some (.int .u32 x9) := by rw [hW1]; exact c9
     have dk : W1.cell? ⟨w.heap.size + 1, k, none⟩ = some (.int .u32 xk) := by rw [hW1]; exact ck
     have hb1 : Below (w.heap.size + 1) wo W1 := by rw [hW1]; exact hbr.trans (Drawn.below ⟨nq, rfl⟩)
     have hz1 : w.heap.size + 1 < W1.heap.size := by have := hb1.size; have := HBO.out.size; have := HSZ.out; omega
     have HG1 : Hid (W1.heap[w.heap.size + 1]? = some (.cells (schA (schedTo b k)) 298 (0, 0))) := hid (by rw [hW1]; exact hg2.out)
     rw [← hW1]
     have i0 : (p : Int) < 64 := by omega
     have i9 : (p9 : Int) < 64 := by omega
     have ik : (k : Int) < 64 := by omega
     clear hW1 c0 c1 c9 c14 ck fk hbr hg2 HN HT
     refine wp_region_wq_tail 15 (by kernel_rfl) (by kernel_rfl) ?_
     simp only [List.take_succ_cons, List.take_zero, List.drop_succ_cons, List.drop_zero]
     repeat (refine WQ.step (fun K hK => ?_); go_simp; first | (refine hK _ ?_; clear hK K) | (apply Exists.intro; refine ⟨fun W hW => ?_, hK _ ?_⟩; (first | (first | with_reducible rfl | (have zz0 := Below.keeps hW d0; have zz1 := Below.keeps hW d9; go_simp; first | rfl | exact ⟨rfl, rfl⟩ | (rw [if_neg (by omega)]; exact ⟨rfl, rfl⟩)))); clear hK K))
     refine WQ.nil ?_
     intro wq hwq
     have hgq : wq.heap[w.heap.size + 1]? = some (.cells (schA (schedTo b k)) 298 (0, 0)) := by rw [hwq.block _ hz1]; exact HG1.out
     have ek : wq.cell? ⟨w.heap.size + 1, k, none⟩ = some (.int .u32 xk) := keeps_of hwq dk
     have fk : wq.frozen? ⟨w.heap.size + 1, k, none⟩ = false := frozen_of_row wq _ k _ _ hgq
     have HN := hid ((heap_setCell_same wq (w.heap.size + 1) k (schA (schedTo b k)) 298 (.int .u32 ((x0 + shaS0 x1 + x9 + shaS1 x14) % 4294967296)) hgq).trans (by rw [schA_more (schedTo b k) _ k HSL.out]))
     have hbq : Below (w.heap.size + 1) wo wq := hb1.trans (hwq.mono (by omega))
     clear hgq hwq hb1 hz1
     go_wp2_with fail
     refine ⟨?_, by simp [intOf]; omega⟩
     (repeat apply Exists.intro)
     exact ⟨⟨k + 1, by omega, by omega, by go_num, by rw [HX.out, nextI_flat]; exact HN.out, hbq.setCell (p := ⟨w.heap.size + 1, k, none⟩) (Nat.le_refl _) _⟩, rfl⟩
    ·obtain rfl : k = 64 := by omega
     have hz : w.heap.size + 1 ≠ w.heap.size := by omega
     have hgr : wr.heap[w.heap.size]? = some Z := by rw [hbr.block _ (by omega), HBO.out.block _ (by omega)]; exact HR0.out
     rw [hZ] at hgr
     have HBo := hid (hb0.trans ((HBO.out.trans hbr).mono (by omega)))
     have e64 : wordCells (schedL b) = (schedL b).map (.int .u32) := rfl
     go_wp2_with first
      | (refine wpList_load_row rfl 298 _ rfl (w.heap.size + 1) rfl _ _ _ _ hg Tryz.underlying298 rfl (by rw [schA_size]; exact words_info) ?_)
      | (refine wpList_store_row rfl 298 _ _ rfl w.heap.size (schA (schedTo b 64)) rfl rfl 298 _ hgr (by rw [schA_size]; exact words_info) (by rw [accA_size, schA_size]) (schA_one _) ?_)
     refine bodyPost_ret (results_cell_row rfl _ _ w.heap.size _ _ _ _ rfl (setRow_heap _ _ _ _ _ _ hgr) Tryz.underlying298 rfl (by rw [schA_size]; exact words_info)) rfl ⟨?_, ?_⟩
     ·rw [schA_all _ (schedTo_len b 64)]; rfl
     ·exact ⟨HBo.out.os, HBo.out.tape, HBo.out.output, by rw [setRow_size]; exact HBo.out.size, fun k hk => by rw [setRow_other _ _ _ _ (by omega)]; exact HBo.out.block k hk⟩
end Go.Proofs.YtlbipokkdiiaiaaGreatDoor
