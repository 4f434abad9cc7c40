/- Lemmas for TopTwice: ShaHSum, ShaTop, W29, W39, W10. -/
import Derived.Test.YtlbipokkdiiaiaaGreatDoorU23
import Derived.Test.YtlbipokkdiiaiaaGreatDoorU20
import Derived.Test.YtlbipokkdiiaiaaGreatDoorU12
open List renaming setIfInBounds_toArray → sA, set_cons_zero → sB, set_cons_succ → sC
namespace Go.Proofs.YtlbipokkdiiaiaaGreatDoor
set_option maxRecDepth 100000
open Go.RowKit
def lenOf : Value → Nat
 | .slice _ n _ => n
 | _ => 0
set_option maxHeartbeats 2000000 in
theorem hsum_any (base b : Nat) (T : List UInt8) (hT : T.length ≤ 140737488351232) (w : World) (hh : HashIs w base b T) :
  Calls Tryz.prog 83 #[.pointer (some ⟨b, 0, none⟩)] w fun e w' => e = .returned (.agg ((sumL T).map (Value.int .u8)).toArray) ∧ Below w.heap.size w w' := by
 obtain ⟨hbase, v, hb, hown⟩ := hh
 obtain ⟨i0, hi, hz0, hz1, hz2⟩ := info_parts u8_info
 have hF8 := hid (foldH_len T)
 have hOT := openB_lt T
 have hblt := (Array.getElem?_eq_some_iff.1 hb).1
 have HR : Hid (∀ W : World, Below w.heap.size w W → W.rangeAt b 0 (wordCells (foldB shaK shaH T))) := hid (fun W hW j u hu => by
  have hj : j < 8 := by have := (List.getElem?_eq_some_iff.1 hu).1; rw [wordCells_len, hF8.out] at this; omega
  rw [Nat.zero_add, cell_of_row W b j _ _ _ ((hW.block b hblt).trans hb)]
  unfold hashC
  rw [List.getElem?_toArray, List.getElem?_append_left (by rw [wordCells_len, hF8.out]; omega)]
  exact hu)
 have HC8 : Hid (∀ W : World, Below w.heap.size w W → W.cell? ⟨b, 8, none⟩ = some v) := hid (fun W hW => (cell_of_row W b 8 _ _ _ ((hW.block b hblt).trans hb)).trans (hashC_8 hF8.out))
 have HC9 : Hid (∀ W : World, Below w.heap.size w W → W.cell? ⟨b, 9, none⟩ = some (.int .u64 (T.length : Int))) := hid (fun W hW => (cell_of_row W b 9 _ _ _ ((hW.block b hblt).trans hb)).trans (hashC_9 hF8.out))
 have HOW := hid hown
 have HZF : Hid ((wordCells (foldB shaK shaH T)).length = 8) := hid (by rw [wordCells_len, hF8.out])
 generalize hF : foldB shaK shaH T = F at *
 have HF := hid hF
 clear hb hown hF
 have HI : Hid ((Tryz.prog.info? 252).map (·.size) = some (wordCells F).toArray.size ∧ (#[Value.int IntKind.u32 0, Value.int IntKind.u32 0, Value.int IntKind.u32 0, Value.int IntKind.u32 0, Value.int IntKind.u32 0, Value.int IntKind.u32 0, Value.int IntKind.u32 0, Value.int IntKind.u32 0] : Array Value).size = (wordCells F).toArray.size ∧ (wordCells F).toArray.all (·.oneCell') = true ∧ (Tryz.prog.info? 252).map (·.size) = some (wordCells F).length) := hid (by
  have e : (wordCells F).toArray.size = 8 := by rw [List.size_toArray, HZF.out]
  exact ⟨by rw [e]; kernel_rfl, by rw [e]; rfl, all_oneCell_toArray (wordCells_one F), by rw [HZF.out]; kernel_rfl⟩)
 go_enter Tryz.func83, Tryz.ntmps83
 go_upto_region 4 with first
  | (refine wpList_load_mid rfl 252 _ rfl b 0 rfl (wordCells F) _ (HR.out _ (below_new _ _)) Tryz.underlying252 rfl HI.out.2.2.2 ?_)
  | (refine wpList_store_row rfl 252 _ _ rfl (w.heap.size + 1) (wordCells F).toArray rfl rfl 252 _ (heap_alloc2_new w _ _) HI.out.1 HI.out.2.1 HI.out.2.2.1 ?_)
 obtain ⟨Z, hZ⟩ : ∃ Z : Obj, Z = (Obj.cells (digA [] 0) 31) := ⟨_, rfl⟩
 rw [show (Obj.cells #[Value.int IntKind.u8 0, Value.int IntKind.u8 0, Value.int IntKind.u8 0, Value.int IntKind.u8 0, Value.int IntKind.u8 0, Value.int IntKind.u8 0, Value.int IntKind.u8 0, Value.int IntKind.u8 0, Value.int IntKind.u8 0, Value.int IntKind.u8 0, Value.int IntKind.u8 0, Value.int IntKind.u8 0, Value.int IntKind.u8 0, Value.int IntKind.u8 0, Value.int IntKind.u8 0, Value.int IntKind.u8 0, Value.int IntKind.u8 0, Value.int IntKind.u8 0, Value.int IntKind.u8 0, Value.int IntKind.u8 0, Value.int IntKind.u8 0, Value.int IntKind.u8 0, Value.int IntKind.u8 0, Value.int IntKind.u8 0, Value.int IntKind.u8 0, Value.int IntKind.u8 0, Value.int IntKind.u8 0, Value.int IntKind.u8 0, Value.int IntKind.u8 0, Value.int IntKind.u8 0, Value.int IntKind.u8 0, Value.int IntKind.u8 0] 31) = Z by rw [hZ]; rfl]
 obtain ⟨Y, hY⟩ : ∃ Y : Obj, Y = (Obj.cells #[Value.int IntKind.u32 0, Value.int IntKind.u32 0, Value.int IntKind.u32 0, Value.int IntKind.u32 0, Value.int IntKind.u32 0, Value.int IntKind.u32 0, Value.int IntKind.u32 0, Value.int IntKind.u32 0] 252) := ⟨_, rfl⟩
 rw [← hY]
 obtain ⟨W1, hW1⟩ : ∃ x, x = ((w.alloc Z).alloc Y).setRow (w.heap.size + 1) (wordCells F).toArray := ⟨_, rfl⟩
 have hb1 : Below w.heap.size w W1 := by
  rw [hW1]
  have h := ((below_new w Z).alloc (by simp) Y)
  exact ⟨h.os, h.tape, h.output, by rw [setRow_size]; exact h.size, fun k hk => by rw [setRow_other _ _ _ _ (by omega)]; exact h.block k hk⟩
 have hR26 : W1.heap[w.heap.size]? = some (.cells (digA [] 0) 31 (0, 0)) := by rw [hW1, setRow_other _ _ _ _ (by omega), ← hZ]; exact heap_alloc2_old w Z Y
 have hR63 : W1.heap[w.heap.size + 1]? = some (.cells (wordCells F).toArray 252 (0, 0)) := by rw [hW1]; exact setRow_heap _ _ _ _ _ _ (by rw [hY]; exact heap_alloc2_new w Z _)
 have hs1 : W1.heap.size = w.heap.size + 2 := by rw [hW1, setRow_size]; simp
 rw [← hW1]
 have HB1 := hid hb1
 have HR26 := hid hR26
 have HR63 := hid hR63
 have HS1 := hid hs1
 have c8 := HC8.out W1 hb1
 have hcv := run_conv_at ((HOW.out.sliceAt).below hb1 (Nat.le_refl _))
 have hOl : (openB T).length ≤ 1000000000000000 := by omega
 clear hW1 hZ hY hb1 hR26 hR63 hs1 HI HR HC8
 go_wp2_with first
  | (refine wpList_conv_own rfl _ rfl (openB T) hOl rfl ?_; intro v1 w1 hown1 hb1 hlt1; have hs1 := hb1.size; clear hlt1)
  | (at_builtin; go_must (refine wpList_append_at _ rfl _ _ 49 rfl W1.heap.size 5 i0 (.int .u8 0) 1 Tryz.underlying49 hi hz0 hz1 hz2 rfl _ _ _ rfl (OwnAt.alloc hown1 _) ⟨w1.heap.size, 0, none⟩ 1 1 [.int .u8 (128)] rfl rfl ?c1 ?c2 ?c3 ?c4 ?c5 ?_))
 case c1 => exact new_cells _ #[_] _ _
 case c2 => intro u hu; simp at hu; subst hu; rfl
 case c3 => unfold maxLen; omega
 case c4 => omega
 case c5 => simp; omega
 intro v2 w2 hown2 hgrow2
 have hb2 : Below W1.heap.size W1 w2 := (hb1.alloc (by omega) _).grown hgrow2 (by simp; omega) (fun k hk => (hown1.lt k hk).1)
 have hOm : (openB T).length = T.length % 64 := by unfold openB; rw [List.length_drop]; omega
 generalize hO : openB T = O at *
 have HO := hid hO
 have HO2 : Hid (OwnAt w2 W1.heap.size 5 v2 (O.length + 1) (Lib.byteCells (O ++ 128 :: List.replicate 0 0))) := hid (by simpa [Lib.byteCells] using hown2)
 clear hown1 hown2 hgrow2 hb1 hs1 hcv c8 hO hOl
 obtain ⟨Z2, hZ2⟩ : ∃ Z2, Z2 = (119 - T.length % 64) % 64 := ⟨_, rfl⟩
 have HZ := hid hZ2
 have HOM := hid hOm
 have hZ64 : Z2 < 64 := by omega
 clear hZ2 hOm
 go_wp2_with fail
 go_loopw [4] (fun o wr => ∃ (k N : Nat), k ≤ Z2 ∧ N ≤ O.length + 1 + k ∧ O.length + 1 + k ≤ N ∧ OwnAt wr W1.heap.size 5 o N (Lib.byteCells (O ++ 128 :: List.replicate k 0)) ∧ Below W1.heap.size W1 wr) (fun o _ => Z2 + O.length + 1 - (match o with | .slice _ n _ => n | _ => 0))
 case atStart => exact ⟨0, O.length + 1, by omega, by omega, by omega, HO2.out, hb2⟩
 case round =>
  obtain ⟨k, N, hk, hN1, hN2, hown, hbr⟩ := hrel
  obtain ⟨oa, oc, rfl, hnc, hcm⟩ := hown.form
  have hwr := hbr.size
  clear HO2
  unfold maxLen at hcm
  by_cases hkz : k < Z2
  ·have q1 : (((N : Int) % 64) != 56) = true := neT (by have := HZ.out; have := HOM.out; omega)
   have q2 : ((Int.tmod (N : Int) 64) != 56) = true := neT (by have := HZ.out; have := HOM.out; rw [Int.tmod_eq_emod_of_nonneg (by omega)]; omega)
   go_wp2_with (at_builtin; go_must (refine wpList_append_at _ rfl _ _ 49 rfl W1.heap.size 5 i0 (.int .u8 0) 1 Tryz.underlying49 hi hz0 hz1 hz2 rfl _ _ _ rfl (OwnAt.alloc hown _) ⟨wr.heap.size, 0, none⟩ 1 1 [.int .u8 (0)] rfl rfl ?d1 ?d2 ?d3 ?d4 ?d5 ?_))
   case d1 => exact new_cells _ #[_] _ _
   case d2 => intro u hu; simp at hu; subst hu; rfl
   case d3 => unfold maxLen; omega
   case d4 => omega
   case d5 => simp; omega
   intro v3 w3 hown3 hgrow3
   have hb3 : Below W1.heap.size W1 w3 := (hbr.alloc (by omega) _).grown hgrow3 (by simp; omega) (fun k hk => (hown.lt k hk).1)
   clear hgrow3
   obtain ⟨a3, c3, rfl, -, -⟩ := hown3.form
   go_wp2_with fail
   refine ⟨?_, by simp; omega⟩
   (first | exact ⟨k + 1, N + 1, by omega, by omega, by omega, by rw [pad_more, byteCells_snoc]; exact hown3, hb3⟩ | ((repeat apply Exists.intro); exact ⟨⟨k + 1, N + 1, by omega, by omega, by omega, by rw [pad_more, byteCells_snoc]; exact hown3, hb3⟩, rfl⟩))
  ·obtain rfl : Z2 = k := by omega
   have q1 : (((N : Int) % 64) != 56) = false := neF (by have := HZ.out; have := HOM.out; omega)
   have q2 : ((Int.tmod (N : Int) 64) != 56) = false := neF (by have := HZ.out; have := HOM.out; rw [Int.tmod_eq_emod_of_nonneg (by omega)]; omega)
   have HOw := hid hown
   have HQ := hid hnc
   have q3 : (8 * (T.length : Int)) % 18446744073709551616 = 8 * (T.length : Int) := by omega
   go_wp2_with fail
   obtain ⟨wo, rfl⟩ : ∃ wo : World, wo = wr := ⟨_, rfl⟩
   clear hown hnc q1 q2
   go_loopw [4, 5] (fun o i wr => ∃ (k M : Nat), k ≤ 8 ∧ i = .int .i64 (56 - 8 * (k : Int)) ∧ M ≤ N + k ∧ N + k ≤ M ∧ OwnAt wr W1.heap.size 5 o M (Lib.byteCells (O ++ 128 :: (List.replicate Z2 0 ++ lenTo T.length k))) ∧ Below W1.heap.size W1 wr) (fun _ i _ => (intOf i + 8).toNat)
   case atStart => exact ⟨0, N, by omega, rfl, by omega, by omega, by rw [lenTo, List.append_nil]; exact HOw.out, hbr⟩
   case round =>
    obtain ⟨k, M, hk, rfl, hM1, hM2, hown, hbr2⟩ := hrel
    obtain ⟨oa2, oc2, rfl, hnc, hcm2⟩ := hown.form
    have hwr2 := hbr2.size
    unfold maxLen at hcm2
    clear HOw
    by_cases h8 : k < 8
    ·obtain ⟨j, hj⟩ : ∃ j, j = 7 - k := ⟨_, rfl⟩
     have hij : 56 - 8 * (k : Int) = 8 * (j : Int) := by omega
     have hij2 : 8 * (j : Int) - 8 = 56 - 8 * ((k + 1 : Nat) : Int) := by omega
     have hj7 : j ≤ 7 := by omega
     have HN : Hid (Lib.byteCells (O ++ 128 :: (List.replicate Z2 0 ++ lenTo T.length (k + 1))) = Lib.byteCells (O ++ 128 :: (List.replicate Z2 0 ++ lenTo T.length k)) ++ [.int .u8 ((8 * (T.length : Int)) / 2 ^ (8 * j) % 256)]) := hid (by rw [lenTo, ← List.append_assoc, ← List.cons_append, ← List.append_assoc, byteCells_snoc, byte_of, ← hj, show (((8 * T.length / 2 ^ (8 * j) : Nat)) : Int) = 8 * (T.length : Int) / 2 ^ (8 * j) by rw [Int.natCast_ediv]; simp])
     rw [hij]
     have HJ := hid hij2
     have c9 := HC9.out wr (HB1.out.trans (hbr2.mono HB1.out.size))
     clear hij hij2 hj
     go_wp2_with (at_builtin; go_must (refine wpList_append_at _ rfl _ _ 49 rfl W1.heap.size 5 i0 (.int .u8 0) 1 Tryz.underlying49 hi hz0 hz1 hz2 rfl _ _ _ rfl (OwnAt.alloc hown _) ⟨wr.heap.size, 0, none⟩ 1 1 [.int .u8 (8 * (T.length : Int) / 2 ^ (8 * j) % 256)] rfl rfl ?e1 ?e2 ?e3 ?e4 ?e5 ?_))
     case e1 => exact new_cells _ #[_] _ _
     case e2 => intro u hu; simp at hu; subst hu; rfl
     case e3 => unfold maxLen; omega
     case e4 => omega
     case e5 => simp; omega
     intro v3 w3 hown3 hgrow3
     have hb3 : Below W1.heap.size W1 w3 := (hbr2.alloc (by omega) _).grown hgrow3 (by simp; omega) (fun k hk => (hown.lt k hk).1)
     clear hgrow3 c9
     go_wp2_with fail
     refine ⟨?_, by simp [intOf]; omega⟩
     (first | exact ⟨k + 1, M + 1, by omega, by rw [← HJ.out], by omega, by omega, by rw [HN.out]; exact hown3, hb3⟩ | ((repeat apply Exists.intro); exact ⟨⟨k + 1, M + 1, by omega, by rw [← HJ.out], by omega, by omega, by rw [HN.out]; exact hown3, hb3⟩, rfl⟩))
    ·obtain rfl : k = 8 := by omega
     obtain ⟨i5, hi5⟩ : ∃ x : Int, x = 56 - 8 * ((8 : Nat) : Int) := ⟨_, rfl⟩
     rw [← hi5]
     have hi50 : ¬ (0 ≤ i5) := by omega
     have hi51 : i5 < 0 := by omega
     clear hi5
     obtain ⟨wp, rfl⟩ : ∃ wp : World, wp = wr := ⟨_, rfl⟩
     obtain ⟨P, hP⟩ : ∃ P, P = O ++ 128 :: (List.replicate Z2 0 ++ lenTo T.length 8) := ⟨_, rfl⟩
     have hMl : M = P.length := by have := hown.1; rw [byteCells_len, ← hP] at this; omega
     have hPm : P.length % 64 = 0 := by rw [← hMl]; have := HZ.out; have := HOM.out; omega
     have HPF : Hid (foldB shaK F P = foldB shaK shaH (padL T)) := hid (by
      rw [hP, ← HF.out, ← HO.out, ← sumL_open]
      unfold zerosL lenL
      rw [← HZ.out]; rfl)
     rw [← hP] at hown
     have HOP := hid hown
     have hPl : P.length ≤ 2000000000 := by rw [← hMl]; omega
     have HPM := hid hPm
     subst hMl
     have R63 := hid ((hbr2.block (w.heap.size + 1) (by have := HS1.out; omega)).trans HR63.out)
     have R26 := hid ((hbr2.block w.heap.size (by have := HS1.out; omega)).trans HR26.out)
     have HBP := hid (HB1.out.trans (hbr2.mono HB1.out.size))
     have hF8' : Hid (F.length = 8) := hid (by have := HZF.out; rwa [wordCells_len] at this)
     have hwps : w.heap.size + 2 ≤ wp.heap.size := by have := HS1.out; have := hbr2.size; omega
     clear hown hP hnc hcm2 hPm HQ HR63 HR26 HC9 h8 hk hM1 hM2 hbr hbr2 hwr2 hwr hN1 hN2 hkz q3
     go_wp2_with fail
     go_loopw [4] (fun ov wr => ∃ (k N : Nat) (a : Option Addr) (c : Nat), 64 * k ≤ P.length ∧ N + 64 * k ≤ P.length ∧ P.length ≤ N + 64 * k ∧ ov = .slice a N c ∧ wr.heap[w.heap.size + 1]? = some (.cells (wordCells (foldB shaK F (P.take (64 * k)))).toArray 252 (0, 0)) ∧ OwnAt wr W1.heap.size 5 (.slice a N c) N (Lib.byteCells (P.drop (64 * k))) ∧ Below (w.heap.size + 1) wp wr) (fun ov _ => lenOf ov)
     case atStart => exact ⟨0, P.length, oa2, oc2, by omega, by omega, by omega, rfl, by rw [Nat.mul_zero, List.take_zero, foldB_short (by simp)]; exact R63.out, HOP.out, Below.refl _ _⟩
     case round =>
      obtain ⟨k, N3, a, c, hk, hN1, hN2, rfl, hb, hown, hbr⟩ := hrel
      clear HOP
      have hPm := HPM.out
      have hwrs := hbr.size
      by_cases h0 : 0 < N3
      ·have h64 : 64 ≤ N3 := by omega
       have hF9 := hid (foldB_len hF8'.out P.length F (P.take (64 * k)) hF8'.out (by rw [List.length_take]; omega))
       obtain ⟨-, a', c', hv, hNc, hcm3, -, hx⟩ := hown.sliceAt
       injection hv with e1 e2 e3
       subst e1 e3
       obtain ⟨g, o, rfl, hgl, hcl⟩ := hx (by intro e; have := byteCells_len (P.drop (64 * k)); rw [e, List.length_drop] at this; simp at this; omega)
       unfold maxLen at hcm3
       have hg2 : w.heap.size + 2 ≤ g := by have := (hown.lt g rfl).1; have := HS1.out; omega
       have HNext := hid (foldB_next shaK F P k (by omega))
       have hbb : SliceAt wr 1 (.slice (some ⟨g, o, none⟩) 64 c) 64 (Lib.byteCells ((P.drop (64 * k)).take 64)) := by
        have hl : ((P.drop (64 * k)).take 64).length = 64 := by rw [List.length_take, List.length_drop]; omega
        refine ⟨by rw [byteCells_len, hl], _, c, rfl, by omega, by unfold maxLen; omega, fun h => (by cases h), fun _ => ⟨g, o, rfl, hgl, fun j u hu => ?_⟩⟩
        have hj : j < 64 := by have := (List.getElem?_eq_some_iff.1 hu).1; rwa [byteCells_len, hl] at this
        refine hown.cells j u ?_
        rw [← hu]
        simp [Lib.byteCells, hj]
       generalize foldB shaK F (P.take (64 * k)) = F3 at *
       have h64i : (64 : Int) ≤ (N3 : Int) := by omega
       have h64c : (64 : Int) ≤ (c : Int) := by omega
       have h64n : 64 ≤ c := by omega
       have HTK := hid (take_any (w.heap.size + 1) F3 hF9.out [] 252 _ _ wr (by rw [List.append_nil]; exact hb) hbb)
       have HOW := hid hown
       have HBR := hid hbr
       clear hb hown hbr hx hcl hbb hPm
       go_upto_region 12 with (go_at_call 124; refine (HTK.out).mono ?_; rintro e w4 ⟨rfl, g4, hbut⟩)
       rw [List.append_nil] at g4
       have HG4 := hid g4
       have HOX := hid (HOW.out.same (w' := w4) (fun k hk => by have h1 := HOW.out.lt k hk; have h2 := HS1.out; exact hbut.block k h1.2 (by omega)))
       have HBX : Hid (Below (w.heap.size + 1) wp w4) := hid ⟨hbut.os.trans HBR.out.os, hbut.tape.trans HBR.out.tape, hbut.output.trans HBR.out.output, Nat.le_trans HBR.out.size hbut.size, fun j hj => (hbut.block j (by omega) (by omega)).trans (HBR.out.block j hj)⟩
       obtain ⟨sa, hsa⟩ : ∃ x, x = (if c = 64 then some (⟨g, o, none⟩ : Addr) else some ⟨g, o + 64, none⟩) := ⟨_, rfl⟩
       have HOC : Hid (OwnAt w4 W1.heap.size 5 (.slice sa (N3 - 64) (c - 64)) (N3 - 64) (Lib.byteCells (P.drop (64 * (k + 1))))) := hid (by
        have h := HOX.out.cut h64
        have e1 : (if c = 64 then some (⟨g, o, none⟩ : Addr) else (some ⟨g, o, none⟩ : Option Addr).map (·.add 64)) = sa := by rw [hsa]; simp [Addr.add]
        have e2 : (Lib.byteCells (P.drop (64 * k))).drop 64 = Lib.byteCells (P.drop (64 * (k + 1))) := by
         simp only [Lib.byteCells, ← List.map_drop, List.drop_drop, show 64 * (k + 1) = 64 * k + 64 by omega]
        rw [e1, e2] at h
        exact h)
       have HN9 : Hid (foldB shaK F (P.take (64 * (k + 1))) = compressL shaK F3 ((P.drop (64 * k)).take 64)) := hid (by rw [show 64 * (k + 1) = 64 * k + 64 by omega]; exact HNext.out)
       clear g4 hbut HOX HOW
       by_cases hc64 : c = 64
       ·subst hc64
        obtain rfl : N3 = 64 := by omega
        rw [if_pos rfl] at hsa
        subst hsa
        go_wp2_with fail
        refine ⟨?_, by show 0 < 64; omega⟩
        (first | exact ⟨k + 1, 0, _, _, by omega, by omega, by omega, rfl, by rw [HN9.out]; exact HG4.out, HOC.out, HBX.out⟩ | ((repeat apply Exists.intro); exact ⟨⟨k + 1, 0, _, _, by omega, by omega, by omega, rfl, by rw [HN9.out]; exact HG4.out, HOC.out, HBX.out⟩, rfl⟩))
       ·rw [if_neg hc64] at hsa
        subst hsa
        go_wp2_with fail
        refine ⟨?_, by show N3 - 64 < N3; omega⟩
        (first | exact ⟨k + 1, N3 - 64, _, _, by omega, by omega, by omega, rfl, by rw [HN9.out]; exact HG4.out, HOC.out, HBX.out⟩ | ((repeat apply Exists.intro); exact ⟨⟨k + 1, N3 - 64, _, _, by omega, by omega, by omega, rfl, by rw [HN9.out]; exact HG4.out, HOC.out, HBX.out⟩, rfl⟩))
      ·obtain rfl : N3 = 0 := by omega
       have HFP : Hid (foldB shaK F (P.take (64 * k)) = foldB shaK shaH (padL T)) := hid (by rw [List.take_of_length_le (by omega)]; exact HPF.out)
       rw [HFP.out] at hb
       obtain ⟨wo, rfl⟩ : ∃ wo : World, wo = wr := ⟨_, rfl⟩
       have hfl := foldB_len (h := shaH) rfl (padL T).length shaH (padL T) rfl (Nat.le_refl _)
       have HSum : Hid (sumL T = digestL (foldB shaK shaH (padL T))) := hid rfl
       generalize foldB shaK shaH (padL T) = G at *
       have HFL := hid hfl
       have HGW : Hid (∀ W : World, Below wo.heap.size wo W → ∀ q, q < 8 → W.cell? ⟨w.heap.size + 1, q, none⟩ = some (.int .u32 (G.getD q 0))) := hid (fun W hW q hq => (cell_of_row W _ q _ _ _ ((hW.block _ (Array.getElem?_eq_some_iff.1 hb).1).trans hb)).trans (List.getElem?_toArray.trans (wordCells_get G q (by rw [HFL.out]; exact hq))))
       have HBO := hid hbr
       have R26o := hid ((hbr.block w.heap.size (by omega)).trans R26.out)
       have HB0 := hid (HBP.out.trans (hbr.mono (by omega)))
       clear hb hown hbr hPm hfl HFP R26 R63
       go_upto_region 15 with fail
       obtain ⟨Z9, hZ9⟩ : ∃ Z : Obj, Z = (Obj.cells (digA G 0) 31) := ⟨_, rfl⟩
       rw [show (Obj.cells #[Value.int IntKind.u8 0, Value.int IntKind.u8 0, Value.int IntKind.u8 0, Value.int IntKind.u8 0, Value.int IntKind.u8 0, Value.int IntKind.u8 0, Value.int IntKind.u8 0, Value.int IntKind.u8 0, Value.int IntKind.u8 0, Value.int IntKind.u8 0, Value.int IntKind.u8 0, Value.int IntKind.u8 0, Value.int IntKind.u8 0, Value.int IntKind.u8 0, Value.int IntKind.u8 0, Value.int IntKind.u8 0, Value.int IntKind.u8 0, Value.int IntKind.u8 0, Value.int IntKind.u8 0, Value.int IntKind.u8 0, Value.int IntKind.u8 0, Value.int IntKind.u8 0, Value.int IntKind.u8 0, Value.int IntKind.u8 0, Value.int IntKind.u8 0, Value.int IntKind.u8 0, Value.int IntKind.u8 0, Value.int IntKind.u8 0, Value.int IntKind.u8 0, Value.int IntKind.u8 0, Value.int IntKind.u8 0, Value.int IntKind.u8 0] 31) = Z9 by rw [hZ9]; rfl]
       obtain ⟨w5, hw5⟩ : ∃ x, x = wo.alloc Z9 := ⟨_, rfl⟩
       have hg5 : w5.heap[wo.heap.size]? = some (.cells (digA G 0) 31 (0, 0)) := by rw [hw5, ← hZ9]; exact heap_alloc_new wo Z9
       have hb5 : Below wo.heap.size wo w5 := by rw [hw5]; exact below_new wo Z9
       rw [← hw5]
       have HG5 := hid hg5
       have HB5 := hid hb5
       clear hw5 hZ9 hg5 hb5
       go_wp2_with fail
       go_loopw [54] (fun i wr => ∃ (k : Nat), k ≤ 32 ∧ i = .int .i64 k ∧ wr.heap[wo.heap.size]? = some (.cells (digA G k) 31 (0, 0)) ∧ Below wo.heap.size wo wr) (fun i _ => 32 - (intOf i).toNat)
       case atStart => exact ⟨0, by omega, rfl, HG5.out, HB5.out⟩
       case round =>
        obtain ⟨k5, hk5, rfl, hg, hbr2⟩ := hrel
        clear HG5 HB5
        by_cases h32 : k5 < 32
        ·obtain ⟨q, hq⟩ : ∃ q, q = k5 / 4 := ⟨_, rfl⟩
         obtain ⟨r, hr⟩ : ∃ r, r = k5 % 4 := ⟨_, rfl⟩
         have HN := hid (heap_setCell_same wr wo.heap.size k5 (digA G k5) 31 (.int .u8 (G.getD q 0 / 2 ^ (24 - 8 * r) % 256)) hg)
         have ck : wr.cell? ⟨wo.heap.size, k5, none⟩ = (digA G k5)[k5]? := cell_of_row wr _ k5 _ _ _ hg
         rw [Array.getElem?_eq_getElem (by rw [digA_size]; exact h32)] at ck
         have fk : wr.frozen? ⟨wo.heap.size, k5, none⟩ = false := frozen_of_row wr _ k5 _ _ hg
         have cq := HGW.out wr hbr2 q (by omega)
         have HD : Hid ((digA G k5).setIfInBounds k5 (.int .u8 (G.getD q 0 / 2 ^ (24 - 8 * r) % 256)) = digA G (k5 + 1)) := hid (by rw [hq, hr]; exact digA_more G k5)
         have q1 : Int.tdiv (k5 : Int) 4 = (q : Int) := by rw [Int.tdiv_eq_ediv_of_nonneg (by omega)]; omega
         have q2 : Int.tmod (k5 : Int) 4 = (r : Int) := by rw [Int.tmod_eq_emod_of_nonneg (by omega)]; omega
         have q3 : (k5 : Int) / 4 = (q : Int) := by omega
         have q4 : (k5 : Int) % 4 = (r : Int) := by omega
         have hr4 : r < 4 := by omega
         have hq8 : q < 8 := by omega
         clear hq hr
         generalize G.getD q 0 = x at *
         generalize (digA G k5)[k5]'_ = y at ck
         go_wp2_with fail
         refine ⟨?_, by simp [intOf]; omega⟩
         (first | exact ⟨k5 + 1, by omega, by go_num, by rw [← HD.out]; exact HN.out, hbr2.setCell (p := ⟨wo.heap.size, k5, none⟩) (Nat.le_refl _) _⟩ | ((repeat apply Exists.intro); exact ⟨⟨k5 + 1, by omega, by go_num, by rw [← HD.out]; exact HN.out, hbr2.setCell (p := ⟨wo.heap.size, k5, none⟩) (Nat.le_refl _) _⟩, rfl⟩))
        ·obtain rfl : k5 = 32 := by omega
         have hgr : wr.heap[w.heap.size]? = some (.cells (digA [] 0) 31 (0, 0)) := (hbr2.block _ (by omega)).trans R26o.out
         have hne : wo.heap.size ≠ w.heap.size := by omega
         have HBo := hid (HB0.out.trans (hbr2.mono (by omega)))
         go_wp2_with first
          | (refine wpList_load_row rfl 31 _ rfl wo.heap.size rfl _ _ _ _ hg Tryz.underlying31 rfl (by rw [digA_size]; exact dig_info) ?_)
          | (refine wpList_store_dig rfl _ _ rfl w.heap.size G 32 rfl rfl _ hgr rfl ?_; intro w3 hg3 hs3 ho3 z1 z2 z3)
         refine bodyPost_ret (results_cell_row rfl _ _ w.heap.size _ _ _ _ rfl hg3 Tryz.underlying31 rfl (by rw [digA_size]; exact dig_info)) rfl ⟨?_, ?_⟩
         ·rw [digA_all, HSum.out]
         ·exact ⟨z1.trans HBo.out.os, z2.trans HBo.out.tape, z3.trans HBo.out.output, by rw [hs3]; exact HBo.out.size, fun k hk => by rw [ho3 k (by omega)]; exact HBo.out.block k hk⟩
end Go.Proofs.YtlbipokkdiiaiaaGreatDoor
namespace Go.Proofs.YtlbipokkdiiaiaaGreatDoor
set_option maxRecDepth 100000
open Go.RowKit
theorem joinTo (ss : List (List UInt8)) (k : Nat) (h : k < ss.length) : (ss.take (k + 1)).flatten = (ss.take k).flatten ++ ss[k] := by
 rw [List.take_succ_eq_append_getElem h, List.flatten_append]; simp
theorem join_le (ss : List (List UInt8)) (k : Nat) : (ss.take k).flatten.length ≤ ss.flatten.length := by
 have : ss.flatten = (ss.take k).flatten ++ (ss.drop k).flatten := by rw [← List.flatten_append, List.take_append_drop]
 rw [this, List.length_append]; omega
set_option maxHeartbeats 1000000 in
theorem psum_any (vs : Value) (n0 : Nat) (ss : List (List UInt8)) (w : World) (hs : SliceAt w 1 vs n0 (strCells ss)) (hn : ss.flatten.length ≤ 140737488351232) :
  Calls Tryz.prog 36 #[vs] w fun e w' => e = .returned (.agg (digA (foldB shaK shaH (padL ss.flatten)) 32)) ∧ Below w.heap.size w w' := by
 obtain ⟨rfl, va, vc, rfl, hvc, hvm, hx⟩ := hs.str
 have HX := hid hx
 unfold maxLen at hvm
 clear hs hx
 go_enter Tryz.func36, Tryz.ntmps36
 go_upto_region 1 with fail
 obtain ⟨Z, hZ⟩ : ∃ Z : Obj, Z = (Obj.cells (digA [] 0) 31) := ⟨_, rfl⟩
 rw [show (Obj.cells #[Value.int IntKind.u8 0, Value.int IntKind.u8 0, Value.int IntKind.u8 0, Value.int IntKind.u8 0, Value.int IntKind.u8 0, Value.int IntKind.u8 0, Value.int IntKind.u8 0, Value.int IntKind.u8 0, Value.int IntKind.u8 0, Value.int IntKind.u8 0, Value.int IntKind.u8 0, Value.int IntKind.u8 0, Value.int IntKind.u8 0, Value.int IntKind.u8 0, Value.int IntKind.u8 0, Value.int IntKind.u8 0, Value.int IntKind.u8 0, Value.int IntKind.u8 0, Value.int IntKind.u8 0, Value.int IntKind.u8 0, Value.int IntKind.u8 0, Value.int IntKind.u8 0, Value.int IntKind.u8 0, Value.int IntKind.u8 0, Value.int IntKind.u8 0, Value.int IntKind.u8 0, Value.int IntKind.u8 0, Value.int IntKind.u8 0, Value.int IntKind.u8 0, Value.int IntKind.u8 0, Value.int IntKind.u8 0, Value.int IntKind.u8 0] 31) = Z by rw [hZ]; rfl]
 obtain ⟨W0, hW0⟩ : ∃ x, x = w.alloc Z := ⟨_, rfl⟩
 have hb0 : Below w.heap.size w W0 := by rw [hW0]; exact below_new w Z
 have hR0 : W0.heap[w.heap.size]? = some (.cells (digA [] 0) 31 (0, 0)) := by rw [hW0, ← hZ]; exact heap_alloc_new w Z
 have hs0 : W0.heap.size = w.heap.size + 1 := by rw [hW0]; simp
 rw [← hW0]
 have HB0 := hid hb0
 have HR0 := hid hR0
 have HS0 := hid hs0
 clear hW0 hZ hb0 hR0 hs0
 go_wp2_with (go_at_call 81; refine (new_hash _).mono ?_; rintro e w1 ⟨hb, rfl, hh, hb1⟩)
 have HH := hid hh
 have HB1 := hid hb1
 clear hh hb1
 go_loopw [9] (fun i wr => ∃ (k : Nat), k ≤ ss.length ∧ i = .int .i64 k ∧ HashIs wr W0.heap.size hb (ss.take k).flatten ∧ Below W0.heap.size W0 wr) (fun i _ => ss.length - (intOf i).toNat)
 case atStart => exact ⟨0, by omega, rfl, HH.out, HB1.out⟩
 case round =>
  obtain ⟨k, hk, rfl, hh, hbr⟩ := hrel
  have HHr := hid hh
  have HBr := hid hbr
  clear HH hh hbr
  by_cases hlt : k < ss.length
  ·obtain ⟨g, o, rfl, hgl, hcl⟩ := HX.out k hlt
   have ck := keeps_of HBr.out (keeps_of HB0.out (hcl k hlt)) |> fun h => h
   have HJ := hid (joinTo ss k hlt)
   have hle := join_le ss (k + 1)
   have HA := hid (add_any W0.heap.size hb (ss.take k).flatten ss[k] (by rw [← HJ.out]; omega) wr HHr.out)
   rw [← HJ.out] at HA
   generalize ss[k] = s at *
   clear hcl
   go_wp2_with (go_at_call 82; refine (HA.out).mono ?_; rintro e w2 ⟨rfl, hh2, hb2⟩)
   refine ⟨?_, by simp [intOf]; omega⟩
   (first | exact ⟨k + 1, by omega, by go_num, hh2, HBr.out.trans hb2⟩ | ((repeat apply Exists.intro); exact ⟨⟨k + 1, by omega, by go_num, hh2, HBr.out.trans hb2⟩, rfl⟩))
  ·obtain rfl : k = ss.length := by omega
   rw [List.take_length] at HHr
   have HF := hid (hsum_any W0.heap.size hb ss.flatten hn wr HHr.out)
   have e9 : ((sumL ss.flatten).map (Value.int .u8)).toArray = digA (foldB shaK shaH (padL ss.flatten)) 32 := (digA_all _).symm
   rw [e9] at HF
   generalize hG : foldB shaK shaH (padL ss.flatten) = G at *
   have HGq := hid hG
   clear e9 hG
   obtain ⟨wo, rfl⟩ : ∃ wo : World, wo = wr := ⟨_, rfl⟩
   go_wp2_with first
    | (go_at_call 83; refine (HF.out).mono ?_; rintro e w5 ⟨rfl, hb5⟩; have hg5 := ((Below.chain HBr.out hb5).block w.heap.size (by have := HS0.out; omega)).trans HR0.out)
    | (refine wpList_store_dig rfl _ _ rfl w.heap.size G 32 rfl rfl _ hg5 rfl ?_; intro w6 hg6 hs6 ho6 z1 z2 z3)
   have hB : Below w.heap.size w w5 := HB0.out.trans ((Below.chain HBr.out hb5).mono (by have := HS0.out; omega))
   refine bodyPost_ret (results_cell_row rfl _ _ w.heap.size _ _ _ _ rfl hg6 Tryz.underlying31 rfl (by rw [digA_size]; exact dig_info)) rfl ⟨by rw [HGq.out], ?_⟩
   exact ⟨z1.trans hB.os, z2.trans hB.tape, z3.trans hB.output, by rw [hs6]; exact hB.size, fun k hk => by rw [ho6 k (by omega)]; exact hB.block k hk⟩
end Go.Proofs.YtlbipokkdiiaiaaGreatDoor
namespace Go.Proofs.YtlbipokkdiiaiaaGreatDoor
open Go.RowKit Go.Proofs.YtlbipokkdiiaiaaGreatDoor.Exec
set_option maxRecDepth 100000
def shaD (s : List UInt8) : Dg := ⟨(List.range 32).map fun i => UInt8.ofNat (digAt (foldB shaK shaH (padL s)) i).toNat, by simp⟩
theorem shaD_cells (s : List UInt8) : digA (foldB shaK shaH (padL s)) 32 = (dgc (shaD s)).toArray := by
 unfold digA dgc shaD Lib.byteCells
 congr 1
 rw [List.map_map]
 refine List.map_congr_left fun i hi => ?_
 have hlt : i < 32 := List.mem_range.1 hi
 simp only [if_pos hlt, Function.comp, Value.int.injEq, true_and]
 have h0 : 0 ≤ digAt (foldB shaK shaH (padL s)) i ∧ digAt (foldB shaK shaH (padL s)) i < 256 := by
  unfold digAt
  exact ⟨Int.emod_nonneg _ (by omega), Int.emod_lt_of_pos _ (by omega)⟩
 rw [toNat_ofNat (by omega)]
 omega
theorem sha_any (s : List UInt8) (vs : Value) (n0 : Nat) (w : World) (hs : SliceAt w 1 vs n0 (strCells [s])) (hn : s.length ≤ 140737488351232) :
  Calls Tryz.prog 36 #[vs] w fun e w' => e = .returned (.agg (dgc (shaD s)).toArray) ∧ Below w.heap.size w w' := by
 have := psum_any vs n0 [s] w hs (by simpa using hn)
 simp only [List.flatten_cons, List.flatten_nil, List.append_nil] at this
 rw [shaD_cells] at this
 exact this
theorem one_text {w : World} {b : Nat} {s : List UInt8} {t : TypeId} {fr : Nat × Nat} (h : w.heap[b]? = some (.cells #[.string (bs s)] t fr)) : SliceAt w 1 (.slice (some ⟨b, 0, none⟩) 1 1) 1 (strCells [s]) :=
 ⟨rfl, _, 1, rfl, Nat.le_refl _, by unfold maxLen; omega, fun e => (by cases e), fun _ => ⟨b, 0, rfl, (Array.getElem?_eq_some_iff.1 h).1, fun j u hu => by
  rw [cell_of_row _ _ _ _ _ _ h, Nat.zero_add]; simpa [strCells] using hu⟩⟩
set_option maxHeartbeats 2000000 in
theorem bcheck_any (d : Dg) (s : List UInt8) (w : World) (hs : s.length ≤ 140737488351232) :
  Calls Tryz.prog 47 #[dgv d, .string (bs s)] w fun e w' => e = .returned (.bool (decide (shaD s = d))) ∧ Below w.heap.size w w' := by
 unfold dgv
 go_enter Tryz.func47, Tryz.ntmps47
 go_wp2_with first | (refine wl_box rt31 ?_; intro W0 hb0 hn0 hs0)
 refine wp_region_wl (fun W => W.rangeAt w.heap.size 0 (dgc d)) 5 (by kernel_rfl) ?_
 intro Wd hbd
 have hS := range_keeps hbd (range_of_heap hn0)
 refine WL.tp 0 (some 5) (hi := rfl) (.inr hS) ?_
 apply Exists.intro
 refine ⟨fun W => ?_, ?_⟩
 ·go_simp
  try rfl
 try simp only [Act.put, sA, sB, sC]
 refine WL.ld 3 (some 8) rt31 (fun W hW => hW) (dgc_len _) (hi := rfl) hS ?_
 try simp only [Act.put, sA, sB, sC]
 refine WL.o 1 (hi := rfl) ?_
 intro K hK
 go_simp
 obtain ⟨W1, hW1, hb1, hn1⟩ := an0 Wd (.cells #[.string (bs s)] 9)
 rw [← hW1.out]
 have hS1 := range_keeps hb1 hS
 refine hK.out _ _ (.inr hS1) ?_
 clear hK K
 try simp only [Act.put, sA, sB, sC]
 refine WL.o 2 (hi := rfl) ?_
 intro K hK
 go_simp
 refine (sha_any s _ 1 W1 (one_text hn1) hs).mono ?_
 rintro e W2 ⟨rfl, hb2⟩
 have hS2 := range_keeps hb2 hS1
 refine hK.out _ _ (.inr hS2) ?_
 clear hK K
 try simp only [Act.put, sA, sB, sC]
 refine WL.tp 4 (some 9) (hi := rfl) (.inr hS2) ⟨_, fun W => r_eql (eqt31 (shaD s) d) rfl rfl rfl, ?_⟩
 try simp only [Act.put, sA, sB, sC]
 refine WL.o 5 (hi := rfl) ?_
 intro K hK
 go_simp
 refine hK.out _ _ (.inl (by kernel_rfl)) ?_
 clear hK K
 try simp only [Act.put, sA, sB, sC]
 refine WL.d ?_
 go_wp2_with fail
 go_ret
 exact ⟨rfl, Below.chain hb0 (Below.chain hbd (Below.chain hb1 hb2))⟩
theorem bcheck_is (d : Dg) (s : List UInt8) (w : World) (hs : s.length ≤ 140737488351232) (b : Bool) (hb : decide (shaD s = d) = b) :
  Calls Tryz.prog 47 #[dgv d, .string (bs s)] w fun e w' => e = .returned (.bool b) ∧ Below w.heap.size w w' := hb ▸ bcheck_any d s w hs
end Go.Proofs.YtlbipokkdiiaiaaGreatDoor
namespace Go.Proofs.YtlbipokkdiiaiaaGreatDoor
open Go.RowKit Go.Proofs.YtlbipokkdiiaiaaGreatDoor.Exec
set_option maxRecDepth 100000
theorem sum4 {W : World} {b : Nat} {d : Dg} {t : TypeId} {fr : Nat × Nat} (h : W.heap[b]? = some (.cells (dgc d).toArray t fr)) (cap : Nat) : (convert 49 9 (.slice (some ⟨b, 0, none⟩) 4 cap)).run Tryz.prog W = .ok (.string (bs (d.1.take 4))) W := by
 have h4 : (d.1.take 4).length = 4 := by rw [List.length_take, d.2]; rfl
 have := conv_range (W := W) (b := b) (off := 0) (cap := cap) (l := d.1.take 4) (fun j u hu => range_of_heap h j u (by
  have hj : j < 4 := by
   have := (List.getElem?_eq_some_iff.1 hu).1
   rw [Lib.byteCells_length, h4] at this
   exact this
  unfold dgc
  simp only [Lib.byteCells, List.getElem?_map, List.getElem?_take, if_pos hj] at hu ⊢
  exact hu))
 rw [h4] at this
 exact this
def frameB (b : List UInt8) : List UInt8 := numB b.length 4 ++ (shaD b).1.take 4 ++ b
def putB (m : MsgL) : List UInt8 := frameB (bodyB m)
set_option maxHeartbeats 4000000 in
theorem wput_any (x : MsgM) (w : World) (hx : HeldM w x) (ht : PowTab w) (hid_ : x.id < 18446744073709551616) (hc : checkM x.l = 0) :
  Calls Tryz.prog 10 #[x.val] w fun e w' => e = .returned (.tuple #[.string (bs (putB x.l)), .int .i64 0]) ∧ Below w.heap.size w w' := by
 have hg := goodM hc
 have HLB := hid (bodyB_len hg)
 have HC := hid (fun (W : World) (hb : Below w.heap.size w W) => show Calls Tryz.prog 34 #[.agg x.cells.toArray] W fun e w' => e = .returned (.int .i64 0) ∧ Below W.heap.size W w' from hc ▸ checkM_any x W (hx.keep hb) (by have := hg.k1; unfold MsgM.l at this; simp only at this; omega) (by have := hg.k8; unfold MsgM.l at this; simp only at this; omega) (by have := hg.nd; unfold MsgM.l at this; simp only at this; omega) (fun t h => smallT (hg.tr _ (List.mem_map.2 ⟨t, h, rfl⟩))))
 have HBD := hid (fun (W : World) (hb : Below w.heap.size w W) => show Calls Tryz.prog 35 #[.agg x.cells.toArray] W fun e w' => e = .returned (.string (bs (bodyB x.l))) ∧ Below W.heap.size W w' from body_any x W (hx.keep hb) (ht.below hb) hid_ hc)
 obtain ⟨b, hb⟩ : ∃ b, bodyB x.l = b := ⟨_, rfl⟩
 have HPB := hid (show putB x.l = frameB b by unfold putB; rw [hb])
 rw [hb] at HLB HBD
 have E1 : decide ((16777216 : Int) < (b.length : Int)) = false := decide_eq_false (by have := HLB.out; omega)
 have hbl : b.length ≤ 13100000 := HLB.out
 unfold MsgM.val
 clear hx ht hid_ hc hg hb
 go_enter Tryz.func10, Tryz.ntmps10
 go_upto_region 7 with first | (refine wl_box rt34 ?_; intro W0 hb0 hn0 hs0) | (refine wl_ld rt34 (range_of_heap hn0) (MsgM.len _) ?_) | (go_at_call 34; refine (HC.out _ hb0).mono ?_; rintro e W1 ⟨rfl, hb1⟩; have hn0 := (hb1.block _ (by omega)).trans hn0) | (go_at_call 35; refine (HBD.out _ (Below.chain hb0 hb1)).mono ?_; rintro e W2 ⟨rfl, hb2⟩)
 have hb02 := Below.chain hb0 (Below.chain hb1 hb2)
 clear hn0 hs0 hb0 hb1 hb2
 have hal := below_new W2 (.cells #[.string (bs b)] 9)
 go_upto_region 8 with first | (go_at_call 36; refine (sha_any b _ 1 _ (one_text (heap_alloc_new W2 _)) (by omega)).mono ?_; rintro e W3 ⟨rfl, hb3⟩) | (refine wl_new (xs := (dgc (shaD b)).toArray) rt31 (by rw [List.size_toArray]; exact dgc_len _) (dgc_one _) ?_; intro W4 hb4 hn4 hs4)
 have hb24 := Below.chain hal (Below.chain hb3 hb4)
 have HB4 := hid (Below.chain hb02 hb24)
 have HN4 := hid hn4
 have hsl : W3.heap.size < W4.heap.size := by omega
 clear hal hb3 hb4 hn4 hs4 hb24 hb02
 obtain ⟨d, hd⟩ : ∃ d, shaD b = d := ⟨_, rfl⟩
 rw [hd] at HN4 ⊢
 have HD := hid hd
 clear hd
 have HBL := hid hbl
 have hwr : IntKind.u64.wrap (b.length : Int) = (b.length : Int) := by rw [IntKind.wrap_u64]; omega
 have e7 : (numB b.length 4).length + min 4 d.val.length = 8 := by rw [numB_len, d.2]; rfl
 have e9 : (9223372036854775807 < 8 + b.length) = False := by rw [eq_iff_iff, iff_false]; omega
 clear hbl E1
 refine wp_region_wl (fun W => W.heap[W3.heap.size]? = some (.cells (dgc d).toArray 31 (0, 0))) 10 (by kernel_rfl) ?_
 intro Wd hbd
 have hS := (hbd.block _ hsl).trans HN4.out
 refine WL.tp 0 (some 20) (hi := rfl) (.inr hS) ?_
 apply Exists.intro
 refine ⟨fun W => ?_, ?_⟩
 ·go_simp
  try rfl
 try simp only [Act.put, sA, sB, sC]
 refine WL.tp 1 (some 21) (hi := rfl) (.inr hS) ?_
 apply Exists.intro
 refine ⟨fun W => ?_, ?_⟩
 ·go_simp
  try rfl
 try simp only [Act.put, sA, sB, sC]
 refine WL.tp 2 (some 22) (hi := rfl) (.inr hS) ?_
 apply Exists.intro
 refine ⟨fun W => ?_, ?_⟩
 ·go_simp
  try rfl
 try simp only [Act.put, sA, sB, sC]
 refine WL.tp 5 (some 25) (hi := rfl) (.inr hS) ?_
 apply Exists.intro
 refine ⟨fun W => ?_, ?_⟩
 ·go_simp
  try rfl
 try simp only [Act.put, sA, sB, sC]
 refine WL.te 6 (some 26) (hi := rfl) hS ?_
 apply Exists.intro
 refine ⟨fun W hW => ?_, ?_⟩
 ·have e1 := sum4 hW 32
  go_simp
  try rfl
 try simp only [Act.put, sA, sB, sC]
 refine WL.tp 8 (some 28) (hi := rfl) (.inr hS) ?_
 apply Exists.intro
 refine ⟨fun W => ?_, ?_⟩
 ·go_simp
  try rfl
 try simp only [Act.put, sA, sB, sC]
 refine WL.o 3 (hi := rfl) ?_
 intro K hK
 go_simp
 refine (number_any b.length 4 (by have := HBL.out; omega) (by omega) Wd).mono ?_
 rintro e W5 ⟨v5, rfl, hv5, hb5⟩
 have hS5 := (hb5.block _ (lx (hid hS))).trans hS
 have hcv := conv_slice hv5
 refine hK.out _ _ (.inr hS5) ?_
 clear hK K
 try simp only [Act.put, sA, sB, sC]
 refine WL.o 4 (hi := rfl) ?_
 intro K hK
 go_simp
 refine hK.out _ _ (.inr hS5) ?_
 clear hK K
 try simp only [Act.put, sA, sB, sC]
 refine WL.o 7 (hi := rfl) ?_
 intro K hK
 go_simp
 refine hK.out _ _ (.inr hS5) ?_
 clear hK K
 try simp only [Act.put, sA, sB, sC]
 refine WL.o 9 (hi := rfl) ?_
 intro K hK
 go_simp
 refine hK.out _ _ (.inr hS5) ?_
 clear hK K
 try simp only [Act.put, sA, sB, sC]
 refine WL.o 10 (hi := rfl) ?_
 intro K hK
 go_simp
 refine hK.out _ _ (.inl (by kernel_rfl)) ?_
 clear hK K
 try simp only [Act.put, sA, sB, sC]
 refine WL.o 11 (hi := rfl) ?_
 intro K hK
 go_simp
 refine hK.out _ _ (.inl (by kernel_rfl)) ?_
 clear hK K
 try simp only [Act.put, sA, sB, sC]
 refine WL.d ?_
 go_wp2_with fail
 go_ret2
 exact ⟨by rw [HPB.out]; unfold frameB; rw [HD.out, List.append_assoc]; rfl, Below.chain HB4.out (Below.chain hbd hb5)⟩
end Go.Proofs.YtlbipokkdiiaiaaGreatDoor
namespace Go.Proofs.YtlbipokkdiiaiaaGreatDoor
open Go.RowKit Go.Proofs.YtlbipokkdiiaiaaGreatDoor.Exec
set_option maxRecDepth 100000
theorem slice_tail {w : World} {tb off n c : Nat} {s : List UInt8} {rest : List (List UInt8)} (h : SliceAt w 1 (.slice (some ⟨tb, off, none⟩) n c) (rest.length + 1) (strCells (s :: rest))) (_ : c ≠ 1) :
  SliceAt w 1 (.slice (some ⟨tb, off + 1, none⟩) rest.length (c - 1)) rest.length (strCells rest) := by
 obtain ⟨hl, a, c', he, hc, hm, hn, hx⟩ := h
 simp only [Value.slice.injEq] at he
 obtain ⟨rfl, rfl, rfl⟩ := he
 refine ⟨by simp [strCells], _, _, rfl, by omega, by omega, fun e => (by cases e), fun _ => ?_⟩
 obtain ⟨b', off', e, hb, hcl⟩ := hx (by simp [strCells])
 simp only [Option.some.injEq, Addr.mk.injEq, and_true] at e
 obtain ⟨rfl, rfl⟩ := e
 exact ⟨tb, off + 1, rfl, hb, fun j u hu => by rw [show off + 1 + j = off + (j + 1) by omega]; exact hcl (j + 1) u (by simpa [strCells] using hu)⟩
theorem SliceAt.empty (w : World) (x : Addr) {c : Nat} (hc : c ≤ 1) : SliceAt w 1 (.slice (some x) 0 c) 0 (strCells []) :=
 ⟨rfl, _, _, rfl, Nat.zero_le _, by unfold maxLen; omega, fun e => (by cases e), fun h => absurd rfl h⟩
set_option maxHeartbeats 1000000 in
theorem ctext_any (g : Nat) (v : Value) (b : Bool) (s : List UInt8) (rest : List (List UInt8)) (w0 w : World) (hs : SliceAt w0 1 v (rest.length + 1) (strCells (s :: rest))) (hb : Below w0.heap.size w0 w) (hg : w.heap[g]? = some (.cells #[v, .bool b] 263 (0, 0))) :
  Calls Tryz.prog 130 #[.pointer (some ⟨g, 0, none⟩)] w fun e w' => ∃ v', e = .returned (.string (bs s)) ∧ SliceAt w0 1 v' rest.length (strCells rest) ∧ w'.heap[g]? = some (.cells #[v', .bool b] 263 (0, 0)) ∧ Turned g w w' ∧ v'.ownBlock = v.ownBlock := by
 obtain ⟨-, a, c, rfl, hc, hm, hx⟩ := hs.str
 obtain ⟨tb, off, rfl, htb, hcl⟩ := hx 0 (by simp)
 have HS := hid hs
 have k0 : w.cell? ⟨tb, off, none⟩ = some (.string (bs s)) := Below.keeps hb (hcl 0 (by simp))
 have c0 : w.cell? ⟨g, 0, none⟩ = some (.slice (some ⟨tb, off, none⟩) (rest.length + 1) c) := by rw [cell_of_row w g 0 _ _ _ hg]; rfl
 have c1 : w.cell? ⟨g, 1, none⟩ = some (.bool b) := by rw [cell_of_row w g 1 _ _ _ hg]; rfl
 have fz : w.frozen? ⟨g, 0, none⟩ = false := Lib.frozen_of_heap hg 0
 have HG := hid hg
 have hn : ((rest.length : Int) + 1 == 0) = false := eqF (by omega)
 simp only [List.length_cons] at hc hm
 unfold maxLen at hm
 clear hs hx hcl hg hb
 have HT := hid (fun k2 => slice_tail HS.out k2)
 by_cases h1 : c = 1
 ·subst h1
  obtain rfl : rest = [] := List.eq_nil_of_length_eq_zero (by omega)
  go_enter Tryz.func130, Tryz.ntmps130
  go_wp2
  go_ret
  exact ⟨_, rfl, SliceAt.empty _ _ (by omega), (heap_setCell_same w g 0 _ _ _ HG.out).trans rfl, turned_cell _ _ (lx HG), rfl⟩
 ·go_enter Tryz.func130, Tryz.ntmps130
  go_wp2
  go_ret
  exact ⟨_, rfl, HT.out h1, (heap_setCell_same w g 0 _ _ _ HG.out).trans rfl, turned_cell _ _ (lx HG), rfl⟩
set_option maxHeartbeats 1000000 in
theorem ttext_any (g : Nat) (v : Value) (b : Bool) (s : List UInt8) (rest : List (List UInt8)) (w0 w : World) (hs : SliceAt w0 1 v (rest.length + 1) (strCells (s :: rest))) (hb : Below w0.heap.size w0 w) (hg : w.heap[g]? = some (.cells #[v, .bool b] 189 (0, 0))) :
  Calls Tryz.prog 87 #[.pointer (some ⟨g, 0, none⟩)] w fun e w' => ∃ v', e = .returned (.string (bs s)) ∧ SliceAt w0 1 v' rest.length (strCells rest) ∧ w'.heap[g]? = some (.cells #[v', .bool b] 189 (0, 0)) ∧ Turned g w w' ∧ v'.ownBlock = v.ownBlock := by
 obtain ⟨-, a, c, rfl, hc, hm, hx⟩ := hs.str
 obtain ⟨tb, off, rfl, htb, hcl⟩ := hx 0 (by simp)
 have HS := hid hs
 have k0 : w.cell? ⟨tb, off, none⟩ = some (.string (bs s)) := Below.keeps hb (hcl 0 (by simp))
 have c0 : w.cell? ⟨g, 0, none⟩ = some (.slice (some ⟨tb, off, none⟩) (rest.length + 1) c) := by rw [cell_of_row w g 0 _ _ _ hg]; rfl
 have c1 : w.cell? ⟨g, 1, none⟩ = some (.bool b) := by rw [cell_of_row w g 1 _ _ _ hg]; rfl
 have fz : w.frozen? ⟨g, 0, none⟩ = false := Lib.frozen_of_heap hg 0
 have HG := hid hg
 have hn : ((rest.length : Int) + 1 == 0) = false := eqF (by omega)
 simp only [List.length_cons] at hc hm
 unfold maxLen at hm
 clear hs hx hcl hg hb
 have HT := hid (fun k2 => slice_tail HS.out k2)
 by_cases h1 : c = 1
 ·subst h1
  obtain rfl : rest = [] := List.eq_nil_of_length_eq_zero (by omega)
  go_enter Tryz.func87, Tryz.ntmps87
  go_wp2
  go_ret
  exact ⟨_, rfl, SliceAt.empty _ _ (by omega), (heap_setCell_same w g 0 _ _ _ HG.out).trans rfl, turned_cell _ _ (lx HG), rfl⟩
 ·go_enter Tryz.func87, Tryz.ntmps87
  go_wp2
  go_ret
  exact ⟨_, rfl, HT.out h1, (heap_setCell_same w g 0 _ _ _ HG.out).trans rfl, turned_cell _ _ (lx HG), rfl⟩
end Go.Proofs.YtlbipokkdiiaiaaGreatDoor
