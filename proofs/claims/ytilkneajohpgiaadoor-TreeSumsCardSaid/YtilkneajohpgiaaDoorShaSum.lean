/- The document's sum of a text. -/
import Derived.Test.YtilkneajohpgiaaDoorShaBlock
import Derived.Test.YtilkneajohpgiaaDoorShaWhole
import Derived.Test.YtilkneajohpgiaaDoorShaDig
import Derived.Laws.Tables
import Derived.Laws.Rows
namespace Go.Proofs.YtilkneajohpgiaaDoor
set_option maxRecDepth 100000
open Go.RowKit

theorem sub_bytes {w : World} {ba bo bc : Nat} {b : List UInt8} {m : Nat} (hlt : ba < w.heap.size) (hx : ∀ j, j < b.length → w.cell? ⟨ba, bo + j, none⟩ = some (.int .u8 (byteAt b j))) (hm : m + 64 ≤ b.length) (hc : b.length ≤ bc) (hcm : bc ≤ 9223372036854775807) :
    SliceAt w 1 (.slice (some ⟨ba, bo + m, none⟩) 64 (bc - m)) 64 (Lib.byteCells ((b.drop m).take 64)) := by
  have hl : ((b.drop m).take 64).length = 64 := by rw [List.length_take, List.length_drop]; omega
  refine ⟨by rw [byteCells_len, hl], _, bc - m, rfl, by omega, by unfold maxLen; omega, fun h => (by cases h), fun _ => ⟨ba, bo + m, rfl, hlt, fun j u hu => ?_⟩⟩
  have hj : j < 64 := by have := (List.getElem?_eq_some_iff.1 hu).1; rwa [byteCells_len, hl] at this
  rw [Nat.add_assoc, hx (m + j) (by omega), ← hu, byteCells_get _ j (by omega)]
  simp [byteAt, show m + j < b.length by omega]
set_option maxHeartbeats 4000000 in
theorem rsum_any (l : List UInt8) (hl : l.length ≤ 1000000000) (w : World) : Calls Tryd.prog 14 #[.string (bs l)] w fun e w' => e = .returned (.agg ((sumL l).map (Value.int .u8)).toArray) ∧ Below w.heap.size w w' := by
  go_enter Tryd.func14, Tryd.ntmps14
  go_upto_region 2 with fail
  obtain ⟨Z, hZ⟩ : ∃ Z : Obj, Z = (Obj.cells (digA [] 0) 26) := ⟨_, rfl⟩
  rw [show (Obj.cells #[Value.int IntKind.u8 0, Value.int IntKind.u8 0, Value.int IntKind.u8 0, Value.int IntKind.u8 0, Value.int IntKind.u8 0, Value.int IntKind.u8 0, Value.int IntKind.u8 0, Value.int IntKind.u8 0, Value.int IntKind.u8 0, Value.int IntKind.u8 0, Value.int IntKind.u8 0, Value.int IntKind.u8 0, Value.int IntKind.u8 0, Value.int IntKind.u8 0, Value.int IntKind.u8 0, Value.int IntKind.u8 0, Value.int IntKind.u8 0, Value.int IntKind.u8 0, Value.int IntKind.u8 0, Value.int IntKind.u8 0, Value.int IntKind.u8 0, Value.int IntKind.u8 0, Value.int IntKind.u8 0, Value.int IntKind.u8 0, Value.int IntKind.u8 0, Value.int IntKind.u8 0, Value.int IntKind.u8 0, Value.int IntKind.u8 0, Value.int IntKind.u8 0, Value.int IntKind.u8 0, Value.int IntKind.u8 0, Value.int IntKind.u8 0] 26) = Z by rw [hZ]; rfl]
  obtain ⟨W0, hW0⟩ : ∃ W0, W0 = (w.alloc Z).alloc (.cells (wordCells shaH).toArray 58) := ⟨_, rfl⟩
  have hS0 : SliceAt W0 1 (.slice (some ⟨w.heap.size + 1, 0, none⟩) 8 8) 8 (wordCells shaH) := by
    rw [hW0]
    refine ⟨rfl, _, 8, rfl, Nat.le_refl _, by unfold maxLen; omega, fun h => (by cases h), fun _ => ⟨_, 0, rfl, by simp, fun j u hu => ?_⟩⟩
    have e : w.heap.size + 1 = (w.alloc Z).heap.size := by simp
    rw [e, Nat.zero_add, World.cell?_alloc_mark]
    simpa using hu
  have hR0 : W0.heap[w.heap.size]? = some Z := by
    rw [hW0, Below.heap_alloc _ _ _ (by simp)]
    exact heap_alloc_new w Z
  have hb0 : Below w.heap.size w W0 := by rw [hW0]; exact ((below_new w Z).alloc (by simp) _)
  have hs0 : W0.heap.size = w.heap.size + 2 := by rw [hW0]; simp
  rw [show (Obj.cells #[Value.int IntKind.u32 1779033703, Value.int IntKind.u32 3144134277, Value.int IntKind.u32 1013904242, Value.int IntKind.u32 2773480762, Value.int IntKind.u32 1359893119, Value.int IntKind.u32 2600822924, Value.int IntKind.u32 528734635, Value.int IntKind.u32 1541459225] 58) = .cells (wordCells shaH).toArray 58 from rfl, ← hW0]
  have HS0 := hid hS0
  have HR0 := hid hR0
  have HSZ := hid hs0
  clear hW0 hS0 hR0 hs0
  go_wp2_with (refine (rwhole_any l hl _).mono ?_; rintro e w1 ⟨bv, rfl, hbs, hb1⟩)
  have hpl := padL_len l
  have hpos : 0 < (padL l).length := by unfold padL; simp; omega
  obtain ⟨-, ba, bo, bc, rfl, hbc, hbm, hba, hbx⟩ := hbs.bytes hpos
  have HBX := hid hbx
  clear hbs hbx
  obtain ⟨L, hL⟩ : ∃ L, L = (padL l).length := ⟨_, rfl⟩
  rw [← hL] at hbc hpl hpos ⊢
  have HL := hid hL
  clear hL
  unfold maxLen at hbm
  have HS1 := hid (HS0.out.below hb1 (Nat.le_refl _))
  obtain ⟨K, hK⟩ : ∃ K, L = 64 * K := ⟨L / 64, by omega⟩
  have hL9 : L ≤ 2000000000 := by rw [HL.out]; unfold padL zerosL lenL; simp [lenTo_len]; omega
  have HK := hid hK
  clear hpos hpl hK
  go_wp2_with fail
  go_loopw [3, 5] (fun h i wr => ∃ (k m : Nat), k ≤ K ∧ m = 64 * k ∧ i = .int .i64 m ∧ SliceAt wr 1 h 8 (wordCells (foldB shaK shaH ((padL l).take (64 * k)))) ∧ Below w1.heap.size w1 wr) (fun _ i _ => L - (intOf i).toNat)
  case atStart => exact ⟨0, 0, by omega, rfl, rfl, by rw [Nat.mul_zero, List.take_zero, foldB_short (by simp)]; exact HS1.out, Below.refl _ _⟩
  case round =>
    obtain ⟨k, m, hk, hm, rfl, hh, hbr⟩ := hrel
    clear HS1
    have hK := HK.out
    by_cases hlt : k < K
    · have HB := hid (sub_bytes (b := padL l) (m := m) (w := wr) (ba := ba) (bo := bo) (bc := bc) (by have := hbr.size; omega) (fun j hj => keeps_of hbr (HBX.out j hj)) (by rw [← HL.out]; omega) (by rw [← HL.out]; exact hbc) (by omega))
      have HN : Hid (foldB shaK shaH ((padL l).take (64 * (k + 1))) = compressL shaK (foldB shaK shaH ((padL l).take (64 * k))) (((padL l).drop m).take 64)) := hid (by rw [hm]; exact foldB_next shaK shaH (padL l) k (by rw [← HL.out]; omega))
      have hml : m + 64 ≤ L := by omega
      have HM := hid hm
      clear hm hK
      go_wp2_with (refine (rblock_any _ _ _ _ _ hh HB.out).mono ?_; rintro e w2 ⟨hv2, rfl, hh2, hb2⟩)
      refine ⟨?_, by simp [intOf]; omega⟩
      (first | exact ⟨k + 1, m + 64, by omega, by have := HM.out; omega, by go_num, by rw [HN.out]; exact hh2, Below.chain hbr hb2⟩ | ((repeat apply Exists.intro); exact ⟨⟨k + 1, m + 64, by omega, by have := HM.out; omega, by go_num, by rw [HN.out]; exact hh2, Below.chain hbr hb2⟩, rfl⟩))
    · obtain rfl : K = k := by omega
      have hmL : m = L := by omega
      subst hmL
      have HF : Hid (foldB shaK shaH ((padL l).take (64 * K)) = foldB shaK shaH (padL l)) := hid (by rw [List.take_of_length_le (by rw [← HL.out]; omega)])
      rw [HF.out] at hh
      obtain ⟨wo, rfl⟩ : ∃ wo : World, wo = wr := ⟨_, rfl⟩
      have hfl : (foldB shaK shaH (padL l)).length = 8 := by have := hh.1; rw [wordCells_len] at this; omega
      obtain ⟨-, ha, ho, hc, rfl, hhc, hhm, hha, hhx⟩ := hh.words (by omega)
      rw [hfl] at hhc hhx ⊢
      unfold maxLen at hhm
      have HHX := hid hhx
      have hbo := Below.chain hb1 hbr
      have HR1 : Hid (wo.heap[w.heap.size]? = some Z) := hid (by rw [hbo.block _ (by have := HSZ.out; omega)]; exact HR0.out)
      clear hhx hh hK
      go_upto_region 8 with first
        | (refine wpList_build_dig rfl rfl ?_)
        | (refine wpList_store_dig rfl _ _ rfl wo.heap.size [] 0 rfl rfl _ (heap_alloc_new wo _) rfl ?_; intro w2 hg2 hs2 ho2 z1 z2 z3)
      have hw2 : Below wo.heap.size wo w2 := ⟨z1, z2, z3, by rw [hs2]; simp, fun k hk => by rw [ho2 k (by omega), Below.heap_alloc _ _ _ hk]⟩
      have HG2 := hid hg2
      have hs2' : wo.heap.size < w2.heap.size := by rw [hs2]; simp
      have HSum : Hid (sumL l = digestL (foldB shaK shaH (padL l))) := hid rfl
      generalize foldB shaK shaH (padL l) = F at *
      clear z1 z2 z3 ho2 hg2 hs2
      go_wp2_with fail
      go_loopw [7] (fun i wr => ∃ (k : Nat), k ≤ 32 ∧ i = .int .i64 k ∧ wr.heap[wo.heap.size]? = some (.cells (digA F k) 26 (0, 0)) ∧ Below wo.heap.size wo wr) (fun i _ => 32 - (intOf i).toNat)
      case atStart => exact ⟨0, by omega, rfl, HG2.out, hw2⟩
      case round =>
        obtain ⟨k, hk, rfl, hg, hbr2⟩ := hrel
        clear hw2
        by_cases h32 : k < 32
        · obtain ⟨q, hq⟩ : ∃ q, q = k / 4 := ⟨_, rfl⟩
          obtain ⟨r, hr⟩ : ∃ r, r = k % 4 := ⟨_, rfl⟩
          have HN := hid (heap_setCell_same wr wo.heap.size k (digA F k) 26 (.int .u8 (F.getD q 0 / 2 ^ (24 - 8 * r) % 256)) hg)
          have ck : wr.cell? ⟨wo.heap.size, k, none⟩ = (digA F k)[k]? := cell_of_row wr _ k _ _ _ hg
          rw [Array.getElem?_eq_getElem (by rw [digA_size]; exact h32)] at ck
          have fk : wr.frozen? ⟨wo.heap.size, k, none⟩ = false := frozen_of_row wr _ k _ _ hg
          have cq := keeps_of hbr2 (HHX.out q (by omega))
          have HD : Hid ((digA F k).setIfInBounds k (.int .u8 (F.getD q 0 / 2 ^ (24 - 8 * r) % 256)) = digA F (k + 1)) := hid (by rw [hq, hr]; exact digA_more F k)
          have q1 : Int.tdiv (k : Int) 4 = (q : Int) := by rw [Int.tdiv_eq_ediv_of_nonneg (by omega)]; omega
          have q2 : Int.tmod (k : Int) 4 = (r : Int) := by rw [Int.tmod_eq_emod_of_nonneg (by omega)]; omega
          have q3 : (k : Int) / 4 = (q : Int) := by omega
          have q4 : (k : Int) % 4 = (r : Int) := by omega
          have hr4 : r < 4 := by omega
          have hq8 : q < 8 := by omega
          clear hq hr
          generalize F.getD q 0 = x at *
          generalize (digA F k)[k]'_ = y at ck
          go_wp2_with fail
          refine ⟨⟨k + 1, by omega, by go_num, by rw [← HD.out]; exact HN.out, hbr2.setCell (p := ⟨wo.heap.size, k, none⟩) (Nat.le_refl _) _⟩, by simp [intOf]; omega⟩
        · obtain rfl : k = 32 := by omega
          have hgr : wr.heap[w.heap.size]? = some (.cells (digA [] 0) 26 (0, 0)) := by rw [hbr2.block _ (by have := HSZ.out; have := hb1.size; have := hbr.size; omega), HR1.out, hZ]
          have hne : wo.heap.size ≠ w.heap.size := by have := hbo.size; have := HSZ.out; have := hb1.size; have := hbr.size; omega
          have HBo := hid (Below.chain hb0 (Below.chain hbo hbr2))
          go_wp2_with first
            | (refine wpList_load_row rfl 26 _ rfl wo.heap.size rfl _ _ _ _ hg Tryd.underlying26 rfl (by rw [digA_size]; exact dig_info) ?_)
            | (refine wpList_store_dig rfl _ _ rfl w.heap.size F 32 rfl rfl _ hgr rfl ?_; intro w3 hg3 hs3 ho3 z1 z2 z3)
          refine bodyPost_ret (results_cell_row rfl _ _ w.heap.size _ _ _ _ rfl hg3 Tryd.underlying26 rfl (by rw [digA_size]; exact dig_info)) rfl ⟨?_, ?_⟩
          · rw [digA_all, HSum.out]
          · exact ⟨z1.trans HBo.out.os, z2.trans HBo.out.tape, z3.trans HBo.out.output, by rw [hs3]; exact HBo.out.size, fun k hk => by rw [ho3 k (by omega)]; exact HBo.out.block k hk⟩
end Go.Proofs.YtilkneajohpgiaaDoor
