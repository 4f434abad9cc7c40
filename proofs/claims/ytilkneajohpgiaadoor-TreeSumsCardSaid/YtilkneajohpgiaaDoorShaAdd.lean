/- The program's hash: New, Add. -/
import Derived.Test.YtilkneajohpgiaaDoorShaTake
import Derived.Test.YtilkneajohpgiaaDoorShaWhole
namespace Go.Proofs.YtilkneajohpgiaaDoor
set_option maxRecDepth 100000
open Go.RowKit

def hashC (H : List Int) (v n : Value) : Array Value := (wordCells H ++ [v, n]).toArray
section
variable {H : List Int} {v n : Value}
theorem hashC_8 (hl : H.length = 8) : (hashC H v n)[8]? = some v := by
  unfold hashC; rw [List.getElem?_toArray, List.getElem?_append_right (by rw [wordCells_len]; omega), wordCells_len, hl]; rfl
theorem hashC_9 (hl : H.length = 8) : (hashC H v n)[9]? = some n := by
  unfold hashC; rw [List.getElem?_toArray, List.getElem?_append_right (by rw [wordCells_len]; omega), wordCells_len, hl]; rfl
theorem hashC_set8 (hl : H.length = 8) (u : Value) : (hashC H v n).setIfInBounds 8 u = hashC H u n := by
  simp [hashC, List.set_append, wordCells_len, hl]
theorem hashC_set9 (hl : H.length = 8) (u : Value) : (hashC H v n).setIfInBounds 9 u = hashC H v u := by
  simp [hashC, List.set_append, wordCells_len, hl]
end
theorem foldB_len {h : List Int} (hl : h.length = 8) (k : Nat) : ∀ (h : List Int) (b : List UInt8), h.length = 8 → b.length ≤ k → (foldB shaK h b).length = 8 := by
  induction k with
  | zero => intro h b hl hb; rw [foldB_short (by omega)]; exact hl
  | succ k ih =>
    intro h b hl hb
    by_cases hs : b.length < 64
    · rw [foldB_short hs]; exact hl
    · rw [foldB_more (by omega)]
      exact ih _ _ (compressL_len _ _ _) (by rw [List.length_drop]; omega)
theorem foldH_len (b : List UInt8) : (foldB shaK shaH b).length = 8 := foldB_len (h := shaH) rfl b.length shaH b rfl (Nat.le_refl _)
/-- A hash of a text. -/
def HashIs (w : World) (base b : Nat) (T : List UInt8) : Prop :=
  base ≤ b ∧ ∃ v, w.heap[b]? = some (.cells (hashC (foldB shaK shaH T) v (.int .u64 (T.length : Int))) 67 (0, 0)) ∧ OwnAt w (b + 1) 5 v (openB T).length (Lib.byteCells (openB T))
set_option maxHeartbeats 1000000 in
theorem begin_any (w : World) : Calls Tryd.prog 32 #[] w fun e w' => e = .returned (.agg (wordCells shaH).toArray) ∧ Below w.heap.size w w' := by
  go_enter Tryd.func32, Tryd.ntmps32
  go_wp2_with (refine wpList_store_row rfl 63 _ _ rfl w.heap.size (wordCells shaH).toArray rfl rfl 63 _ (heap_alloc_new w _) (by kernel_rfl) rfl (by kernel_rfl) ?_)
  refine bodyPost_ret (results_cell_row rfl _ _ w.heap.size _ _ _ _ rfl (setRow_heap _ _ _ _ _ _ (heap_alloc_new w _)) Tryd.underlying63 rfl (by kernel_rfl)) rfl ⟨rfl, ?_⟩
  exact ⟨rfl, rfl, rfl, by simp, fun k hk => by rw [setRow_other _ _ _ _ (by omega), Below.heap_alloc _ _ _ hk]⟩
set_option maxHeartbeats 1000000 in
theorem new_hash (w : World) : Calls Tryd.prog 18 #[] w fun e w' => ∃ b, e = .returned (.pointer (some ⟨b, 0, none⟩)) ∧ HashIs w' w.heap.size b [] ∧ Below w.heap.size w w' := by
  go_enter Tryd.func18, Tryd.ntmps18
  go_wp2_with (refine (begin_any _).mono ?_; rintro e w1 ⟨rfl, hb1⟩)
  go_ret
  refine ⟨_, rfl, ⟨hb1.size, .slice none 0 0, ?_, OwnAt.nil _ _ _⟩, hb1.alloc hb1.size _⟩
  rw [foldB_short (by decide)]
  exact heap_alloc_new w1 _
theorem open_foldB (T l : List UInt8) (k : Nat) (hk : (openB T ++ l).length / 64 = k) : foldB shaK (foldB shaK shaH T) ((openB T ++ l).take (64 * k)) = foldB shaK shaH (T ++ l) ∧ (openB T ++ l).drop (64 * k) = openB (T ++ l) := by
  subst hk
  rw [Nat.mul_comm, foldB_whole, foldB_add]
  refine ⟨rfl, ?_⟩
  rw [← openB_add]; rfl
set_option maxHeartbeats 4000000 in
theorem add_any (base b : Nat) (T l : List UInt8) (hT : (T ++ l).length ≤ 1000000000) (w : World) (hh : HashIs w base b T) :
    Calls Tryd.prog 19 #[.pointer (some ⟨b, 0, none⟩), .string (bs l)] w fun e w' => e = .returned (.tuple #[]) ∧ HashIs w' base b (T ++ l) ∧ Below base w w' := by
  obtain ⟨hbase, v, hb, hown⟩ := hh
  obtain ⟨i0, hi, hz0, hz1, hz2⟩ := info_parts u8_info
  have hTl : T.length + l.length ≤ 1000000000 := by rw [List.length_append] at hT; exact hT
  have hF8 := hid (foldH_len T)
  have hOT := openB_lt T
  have c8 : w.cell? ⟨b, 8, none⟩ = some v := (cell_of_row w b 8 _ _ _ hb).trans (hashC_8 hF8.out)
  have c9 : w.cell? ⟨b, 9, none⟩ = some (.int .u64 (T.length : Int)) := (cell_of_row w b 9 _ _ _ hb).trans (hashC_9 hF8.out)
  have f9 : w.frozen? ⟨b, 9, none⟩ = false := frozen_of_row w b 9 _ _ hb
  have q1 : ((T.length : Int) + (l.length : Int)) % 18446744073709551616 = (T.length : Int) + (l.length : Int) := by omega
  have q2 : (l.length : Int) % 18446744073709551616 = (l.length : Int) := by omega
  have hblt := (Array.getElem?_eq_some_iff.1 hb).1
  have G1 := hid ((heap_setCell_same w b 9 _ _ (.int .u64 ((T.length : Int) + (l.length : Int))) hb).trans (by rw [hashC_set9 hF8.out]))
  have HO := hid hown
  clear hb hown hT
  go_enter Tryd.func19, Tryd.ntmps19
  go_upto_region 2 with fail
  clear c8 c9 f9 q1 q2
  obtain ⟨W1, hW1⟩ : ∃ x, x = w.setCell ⟨b, 9, none⟩ (.int .u64 ((T.length : Int) + (l.length : Int))) := ⟨_, rfl⟩
  have hz1w : W1.heap.size = w.heap.size := by rw [hW1]; simp [World.setCell]
  have HO1 := hid ((HO.out.same (w' := W1) (fun k hk => by rw [hW1]; exact heap_setCell_other w ⟨b, 9, none⟩ k _ (by have := (HO.out.lt k hk).1; show k ≠ b; omega))))
  have G2 : W1.heap[b]? = some (.cells (hashC (foldB shaK shaH T) v (.int .u64 ((T.length : Int) + (l.length : Int)))) 67 (0, 0)) := by rw [hW1]; exact G1.out
  have hB1 : Below base w W1 := by rw [hW1]; exact (Below.refl base w).setCell (p := ⟨b, 9, none⟩) hbase _
  rw [← hW1]
  have c8 : W1.cell? ⟨b, 8, none⟩ = some v := (cell_of_row W1 b 8 _ _ _ G2).trans (hashC_8 hF8.out)
  have HG2 := hid G2
  have HB1 := hid hB1
  have hbW : b + 1 ≤ W1.heap.size := by omega
  clear hW1 G1 HO G2 hB1
  go_wp2_with (at_builtin; go_must (refine wpList_append_at_string _ rfl _ _ 47 9 rfl (b + 1) 5 i0 Tryd.underlying47 Tryd.underlying9 hi hz0 hz1 hz2 _ _ _ rfl HO1.out (bs l) rfl ?c1 ?c2 hbW ?_))
  case c1 => unfold maxLen; rw [bs_size]; omega
  case c2 => rw [bs_size]; omega
  intro v2 w2 hown2 hgrow2
  have HO2 : Hid (OwnAt w2 (b + 1) 5 v2 (openB T ++ l).length (Lib.byteCells (openB T ++ l))) := hid (by rw [byteCells_app, List.length_append]; exact hown2)
  have hbk : ∀ k, v.ownBlock = some k → b + 1 ≤ k := fun k hk => (HO1.out.lt k hk).1
  have G3 : w2.heap[b]? = some (.cells (hashC (foldB shaK shaH T) v (.int .u64 ((T.length : Int) + (l.length : Int)))) 67 (0, 0)) := by
    rw [hgrow2.block b (by omega) (fun e => by have := hbk b e.symm; omega)]; exact HG2.out
  have hB2 : Below base w w2 := HB1.out.grown hgrow2 (by omega) (fun k hk => by have := hbk k hk; omega)
  have f8 : w2.frozen? ⟨b, 8, none⟩ = false := frozen_of_row w2 b 8 _ _ G3
  have d8 : w2.cell? ⟨b, 8, none⟩ = some v := (cell_of_row w2 b 8 _ _ _ G3).trans (hashC_8 hF8.out)
  have G4 := hid ((heap_setCell_same w2 b 8 _ _ v2 G3).trans (by rw [hashC_set8 hF8.out]))
  have HO3 := hid ((HO2.out.same (w' := w2.setCell ⟨b, 8, none⟩ v2) (fun k hk => heap_setCell_other w2 ⟨b, 8, none⟩ k _ (by have := (HO2.out.lt k hk).1; show k ≠ b; omega))))
  have HB3 := hid (hB2.setCell (p := ⟨b, 8, none⟩) hbase v2)
  have hz2w : b < w2.heap.size := (Array.getElem?_eq_some_iff.1 G3).1
  obtain ⟨va, vc, hv2, hvc, hvm⟩ := HO2.out.form
  subst hv2
  obtain ⟨A, hA⟩ : ∃ A, A = openB T ++ l := ⟨_, rfl⟩
  have HA := hid hA
  rw [← hA] at HO3 hvc G4 HB3 ⊢
  have hAl : A.length ≤ 1000000100 := by rw [hA, List.length_append]; omega
  clear hA hgrow2 hown2 HO2 HO1 hB2 G3 HG2 HB1 hbk c8
  go_wp2_with fail
  obtain ⟨W3, hW3⟩ : ∃ x, x = w2.setCell ⟨b, 8, none⟩ (.slice va A.length vc) := ⟨_, rfl⟩
  rw [← hW3] at G4 HO3 HB3 ⊢
  have HF : Hid ((foldB shaK shaH T).length = 8) := hF8
  generalize hH0 : foldB shaK shaH T = H0 at *
  have HH0 := hid hH0
  clear hW3 d8 f8 hz2w hH0 hF8
  obtain ⟨NN, hNN⟩ : ∃ x, x = (T.length : Int) + (l.length : Int) := ⟨_, rfl⟩
  rw [← hNN] at G4
  have HNN := hid hNN
  clear hNN
  go_loopw [] (fun wr => ∃ (k N : Nat) (a : Option Addr) (c : Nat), 64 * k ≤ A.length ∧ N + 64 * k ≤ A.length ∧ A.length ≤ N + 64 * k ∧ wr.heap[b]? = some (.cells (hashC (foldB shaK H0 (A.take (64 * k))) (.slice a N c) (.int .u64 NN)) 67 (0, 0)) ∧ OwnAt wr (b + 1) 5 (.slice a N c) N (Lib.byteCells (A.drop (64 * k))) ∧ Below base w wr) (fun wr => match wr.cell? ⟨b, 8, none⟩ with | some (.slice _ n _) => n | _ => 0)
  case atStart => exact ⟨0, A.length, va, vc, by omega, by omega, by omega, by rw [Nat.mul_zero, List.take_zero, foldB_short (by simp)]; exact G4.out, HO3.out, HB3.out⟩
  case round =>
    obtain ⟨k, N, a, c, hk, hN1, hN2, hb, hown, hbr⟩ := hrel
    clear G4 HO3 HB3
    have hF8 := hid (foldB_len HF.out A.length H0 (A.take (64 * k)) HF.out (by rw [List.length_take]; omega))
    have c8 : wr.cell? ⟨b, 8, none⟩ = some (.slice a N c) := (cell_of_row wr b 8 _ _ _ hb).trans (hashC_8 hF8.out)
    have hblr := (Array.getElem?_eq_some_iff.1 hb).1
    by_cases h64 : 64 ≤ N
    · obtain ⟨-, a', c', hv, hNc, hcm, -, hx⟩ := hown.sliceAt
      injection hv with e1 e2 e3
      subst e1 e3
      obtain ⟨g, o, rfl, hgl, hcl⟩ := hx (by intro e; have := byteCells_len (A.drop (64 * k)); rw [e, List.length_drop] at this; simp at this; omega)
      unfold maxLen at hcm
      have HNext := hid (foldB_next shaK H0 A k (by omega))
      generalize foldB shaK H0 (A.take (64 * k)) = F at *
      have h64i : (64 : Int) ≤ (N : Int) := by omega
      have h64c : (64 : Int) ≤ (c : Int) := by omega
      have h64n : 64 ≤ c := by omega
      have HB := hid hb
      have HOW := hid hown
      have HBR := hid hbr
      clear hb hown hbr hx hcl
      go_upto_region 4 with fail
      refine wp_region_wq_tail 8 (by kernel_rfl) (by kernel_rfl) ?_
      simp only [List.take_succ_cons, List.take_zero, List.drop_succ_cons, List.drop_zero]
      repeat (refine WQ.step (fun K hK => ?_); go_simp; first | (refine hK _ ?_; clear hK K) | (apply Exists.intro; refine ⟨fun W hW => ?_, hK _ ?_⟩; (first | (first | with_reducible rfl | (have zz0 := Below.keeps hW c8; go_simp; first | rfl | exact ⟨rfl, rfl⟩ | (rw [if_neg (by omega)]; exact ⟨rfl, rfl⟩)))); clear hK K))
      refine WQ.nil ?_
      intro wz hwz

      have hbz : wz.heap[b]? = some (.cells (wordCells F ++ [Value.slice (some ⟨g, o, none⟩) N c, Value.int .u64 NN]).toArray 67 (0, 0)) := (hwz.block _ hblr).trans HB.out
      have hbb : SliceAt wz 1 (.slice (some ⟨g, o, none⟩) 64 c) 64 (Lib.byteCells ((A.drop (64 * k)).take 64)) := by
        have hl : ((A.drop (64 * k)).take 64).length = 64 := by rw [List.length_take, List.length_drop]; omega
        refine ⟨by rw [byteCells_len, hl], _, c, rfl, h64n, by unfold maxLen; omega, fun h => (by cases h), fun _ => ⟨g, o, rfl, by have := hwz.size; omega, fun j u hu => ?_⟩⟩
        have hj : j < 64 := by have := (List.getElem?_eq_some_iff.1 hu).1; rwa [byteCells_len, hl] at this
        refine keeps_of hwz (HOW.out.cells j u ?_)
        rw [← hu]
        simp [Lib.byteCells, hj]
      have HOZ := hid (HOW.out.below hwz)
      have HBZ := hid (HBR.out.trans (hwz.mono (by have := (HOW.out.lt g rfl).1; omega)))
      have hblz : b < wz.heap.size := (Array.getElem?_eq_some_iff.1 hbz).1
      have HTK := hid (take_any b F hF8.out _ 67 _ _ wz hbz hbb)
      have HC8 := hid c8
      clear hbz hbb hwz c8
      go_upto_region 5 with (go_at_call 33; refine (HTK.out).mono ?_; rintro e w4 ⟨rfl, g4, hbut⟩)
      have g4' : w4.heap[b]? = some (.cells (hashC (compressL shaK F ((A.drop (64 * k)).take 64)) (.slice (some ⟨g, o, none⟩) N c) (.int .u64 NN)) 67 (0, 0)) := g4
      have hF9 := compressL_len shaK F ((A.drop (64 * k)).take 64)
      have e8 : w4.cell? ⟨b, 8, none⟩ = some (.slice (some ⟨g, o, none⟩) N c) := (cell_of_row w4 b 8 _ _ _ g4').trans (hashC_8 hF9)
      have x8 : w4.frozen? ⟨b, 8, none⟩ = false := frozen_of_row w4 b 8 _ _ g4'
      have HOX := hid (HOZ.out.same (w' := w4) (fun k hk => by have := HOZ.out.lt k hk; exact hbut.block k this.2 (by omega)))
      have HBX : Hid (Below base w w4) := hid ⟨hbut.os.trans HBZ.out.os, hbut.tape.trans HBZ.out.tape, hbut.output.trans HBZ.out.output, Nat.le_trans HBZ.out.size hbut.size, fun j hj => (hbut.block j (by omega) (by omega)).trans (HBZ.out.block j hj)⟩
      obtain ⟨sa, hsa⟩ : ∃ x, x = (if c = 64 then some (⟨g, o, none⟩ : Addr) else some ⟨g, o + 64, none⟩) := ⟨_, rfl⟩
      have HOC : Hid (OwnAt w4 (b + 1) 5 (.slice sa (N - 64) (c - 64)) (N - 64) (Lib.byteCells (A.drop (64 * (k + 1))))) := hid (by
        have h := HOX.out.cut h64
        have e1 : (if c = 64 then some (⟨g, o, none⟩ : Addr) else (some ⟨g, o, none⟩ : Option Addr).map (·.add 64)) = sa := by rw [hsa]; simp [Addr.add]
        have e2 : (Lib.byteCells (A.drop (64 * k))).drop 64 = Lib.byteCells (A.drop (64 * (k + 1))) := by
          simp only [Lib.byteCells, ← List.map_drop, List.drop_drop, show 64 * (k + 1) = 64 * k + 64 by omega]
        rw [e1, e2] at h
        exact h)
      have G8 := hid (fun u => (heap_setCell_same w4 b 8 _ _ u g4').trans (by rw [hashC_set8 hF9]))
      have HN9 : Hid (foldB shaK H0 (A.take (64 * (k + 1))) = compressL shaK F ((A.drop (64 * k)).take 64)) := hid (by rw [show 64 * (k + 1) = 64 * k + 64 by omega]; exact HNext.out)
      clear g4 g4' hF9 hbut HOX HOZ
      go_wp2_with fail
      rw [← hsa]
      refine ⟨⟨k + 1, N - 64, sa, c - 64, by omega, by omega, by omega, by rw [HN9.out]; exact G8.out _, HOC.out.same (fun j hj => heap_setCell_other w4 ⟨b, 8, none⟩ j _ (by have := (HOC.out.lt j hj).1; show j ≠ b; omega)), HBX.out.setCell (p := ⟨b, 8, none⟩) hbase _⟩, ?_⟩
      rw [World.cell?_setCell_same' _ _ _ (by rw [e8]; rfl), HC8.out]
      show N - 64 < N
      omega
    · have hkA : A.length / 64 = k := by omega
      have hEnd := open_foldB T l k (by rw [← HA.out]; exact hkA)
      rw [← HA.out, HH0.out] at hEnd
      rw [hEnd.1, HNN.out] at hb
      rw [hEnd.2] at hown
      have hlT : (((T ++ l).length : Nat) : Int) = (T.length : Int) + (l.length : Int) := by rw [List.length_append]; omega
      have hNl : N = (openB (T ++ l)).length := by rw [← hEnd.2, List.length_drop]; omega
      have HFin : Hid (HashIs wr base b (T ++ l) ∧ Below base w wr) := hid ⟨⟨hbase, .slice a N c, by rw [hlT]; exact hb, by rw [← hNl]; exact hown⟩, hbr⟩
      clear hb hown hbr hEnd hlT hNl hkA
      go_wp2_with fail
      (first | go_end0 | (simp only [Exit.inBlock, Exit.then]; refine bodyPost_ret (results_none rfl _ _ _) rfl ?_) | refine bodyPost_ret (results_none rfl _ _ _) rfl ?_)
      exact ⟨rfl, HFin.out⟩
end Go.Proofs.YtilkneajohpgiaaDoor
