/- Lemmas for TopTwice: ShaTake. -/
import Derived.Test.YtlbipokkdiiaiaaGreatDoorU21
import Derived.ChangeKeysEq
open List renaming setIfInBounds_toArray → sA, set_cons_zero → sB, set_cons_succ → sC
namespace Go.Proofs.YtlbipokkdiiaiaaGreatDoor
set_option maxRecDepth 100000
open Go.RowKit
structure ButAt (g : Nat) (w w' : World) : Prop where
 os : w'.os = w.os
 tape : w'.tape = w.tape
 output : w'.output = w.output
 size : w.heap.size ≤ w'.heap.size
 block : ∀ k, k < w.heap.size → k ≠ g → w'.heap[k]? = w.heap[k]?
theorem ButAt.of_below {g : Nat} {w w' : World} (h : Below w.heap.size w w') : ButAt g w w' := ⟨h.os, h.tape, h.output, h.size, fun k hk _ => h.block k hk⟩
theorem ButAt.below {g : Nat} {w w1 w2 : World} (h : ButAt g w w1) (hb : Below w1.heap.size w1 w2) : ButAt g w w2 :=
 ⟨hb.os.trans h.os, hb.tape.trans h.tape, hb.output.trans h.output, Nat.le_trans h.size hb.size, fun k hk hne => (hb.block k (Nat.lt_of_lt_of_le hk h.size)).trans (h.block k hk hne)⟩
theorem ButAt.set {g : Nat} {w w1 : World} (h : ButAt g w w1) (j : Nat) (v : Value) : ButAt g w (w1.setCell ⟨g, j, none⟩ v) :=
 ⟨h.os, h.tape, h.output, Nat.le_trans h.size (by simp [World.setCell]), fun k hk hne => (heap_setCell_other w1 ⟨g, j, none⟩ k v hne).trans (h.block k hk hne)⟩
theorem turned_below (x n : Int) (h1 : 0 < n) (h2 : n < 32) (w : World) : Calls Tryz.prog 175 #[.int .u32 x, .int .i64 n] w fun e w' => e = .returned (.int .u32 (rotI x n)) ∧ Below w.heap.size w w' :=
 (turned_any x n h1 h2 w).mono (fun _ _ h => ⟨h.1, by rw [h.2]; exact Below.refl _ _⟩)
theorem index_word (c : Array Value) (k : Nat) (x : Int) (hk : k < 64) (hx : c[k]? = some (.int .u32 x)) (w : World) : (Instr.index 298 (.agg c) (.int .i64 (k : Int))).run Tryz.prog w = .ok (.int .u32 x) w := by
 have hp := run_part_plain (P := Tryz.prog) (e := 250) w (by kernel_rfl) hx
 have hsz : (sizeOf 250).run Tryz.prog w = .ok 1 w := by kernel_rfl
 simp [Instr.index, asIntOf, run_underlying Tryz.underlying298, hk, hsz, hp]
theorem index_state (c : Array Value) (k : Nat) (x : Int) (hk : k < 8) (hx : c[k]? = some (.int .u32 x)) (w : World) : (Instr.index 252 (.agg c) (.int .i64 (k : Int))).run Tryz.prog w = .ok (.int .u32 x) w := by
 have hp := run_part_plain (P := Tryz.prog) (e := 250) w (by kernel_rfl) hx
 have hsz : (sizeOf 250).run Tryz.prog w = .ok 1 w := by kernel_rfl
 simp [Instr.index, asIntOf, run_underlying Tryz.underlying252, hk, hsz, hp]
theorem keep_row {W : World} {b c : Nat} {o o' : Array Value} {t t' : TypeId} (x : Array Value) (_ : W.heap[b]? = some (.cells o t (0, 0))) (h : W.heap[c]? = some (.cells o' t' (0, 0))) (hne : c ≠ b) : (W.setRow b x).heap[c]? = some (.cells o' t' (0, 0)) := (setRow_other W b c x hne).trans h
theorem below_row {w W : World} {b : Nat} {o : Array Value} {t : TypeId} (x : Array Value) (_ : W.heap[b]? = some (.cells o t (0, 0))) (h : Below w.heap.size w W) (hb : w.heap.size ≤ b) : Below w.heap.size w (W.setRow b x) :=
 ⟨h.os, h.tape, h.output, by rw [setRow_size]; exact h.size, fun k hk => by rw [setRow_other _ _ _ _ (by omega)]; exact h.block k hk⟩
set_option maxHeartbeats 4000000 in
theorem take_any (g : Nat) (h : List Int) (hl8 : h.length = 8) (rest : List Value) (t : TypeId) (bv : Value) (b : List UInt8) (w : World) (hg : w.heap[g]? = some (.cells (wordCells h ++ rest).toArray t (0, 0))) (hbb : SliceAt w 1 bv 64 (Lib.byteCells b)) :
  Calls Tryz.prog 124 #[.pointer (some ⟨g, 0, none⟩), bv] w fun e w' => e = .returned (.tuple #[]) ∧ w'.heap[g]? = some (.cells (wordCells (compressL shaK h b) ++ rest).toArray t (0, 0)) ∧ ButAt g w w' := by
 go_enter Tryz.func124, Tryz.ntmps124
 have hgl : g < w.heap.size := (Array.getElem?_eq_some_iff.1 hg).1
 have HR : Hid (∀ W : World, Below w.heap.size w W → W.rangeAt g 0 (wordCells h)) := hid (fun W hW j u hu => by
  have hj : j < 8 := by have := (List.getElem?_eq_some_iff.1 hu).1; rw [wordCells_len] at this; omega
  rw [Nat.zero_add, cell_of_row W g j _ _ _ ((hW.block g hgl).trans hg)]
  rw [List.getElem?_toArray, List.getElem?_append_left (by rw [wordCells_len]; omega)]
  exact hu)
 have HI : Hid ((Tryz.prog.info? 252).map (·.size) = some (wordCells h).toArray.size ∧ (#[Value.int IntKind.u32 0, Value.int IntKind.u32 0, Value.int IntKind.u32 0, Value.int IntKind.u32 0, Value.int IntKind.u32 0, Value.int IntKind.u32 0, Value.int IntKind.u32 0, Value.int IntKind.u32 0] : Array Value).size = (wordCells h).toArray.size ∧ (wordCells h).toArray.all (·.oneCell') = true) := hid (by
  have e : (wordCells h).toArray.size = 8 := by simp [wordCells_len, hl8]
  exact ⟨by rw [e]; kernel_rfl, by rw [e]; rfl, all_oneCell_toArray (wordCells_one h)⟩)
 go_upto_region 0 with fail
 go_cut [4, 5] from 14 (fun p q wx => ∃ b4 b5, p = .pointer (some ⟨b4, 0, none⟩) ∧ q = .pointer (some ⟨b5, 0, none⟩) ∧ b4 ≠ b5 ∧ w.heap.size ≤ b4 ∧ w.heap.size ≤ b5 ∧ wx.heap[b4]? = some (.cells (wordCells h).toArray 252 (0, 0)) ∧ wx.heap[b5]? = some (.cells kA 298 (0, 0)) ∧ Below w.heap.size w wx)
 case first =>
  refine wp_region_wh (S := fun W => Below w.heap.size w W) (by kernel_rfl) ?_
  have hS : Below w.heap.size w w.drew := Drawn.below ⟨1, rfl⟩
  refine WH.take 0 (some 14) rfl rfl (by kernel_rfl) (by kernel_rfl) (by kernel_rfl) (fun _ _ _ _ h => h) hS ⟨.pointer (some ⟨g, 0, none⟩), ⟨by kernel_rfl, fun W _ => rfl⟩, ?_⟩
  try simp only [Act.put, sA, sB, sC]
  refine WH.take 1 (some 15) rfl rfl (by kernel_rfl) (by kernel_rfl) (by kernel_rfl) (fun _ _ _ _ h => h) hS ⟨.pointer (some ⟨g, 0, none⟩), ⟨by kernel_rfl, fun W _ => rfl⟩, ?_⟩
  try simp only [Act.put, sA, sB, sC]
  refine WH.take_load 2 (some 16) rfl rfl (by kernel_rfl) (by kernel_rfl) (by kernel_rfl) (fun _ _ _ _ h => h) hS (by kernel_rfl) 252 _ rfl g 0 rfl (wordCells h) _ HR.out Tryz.underlying252 rfl (by rw [wordCells_len, hl8]; kernel_rfl) ?_
  try simp only [Act.put, sA, sB, sC]
  obtain ⟨W0, hW0⟩ : ∃ x, x = w.drew := ⟨_, rfl⟩
  rw [← hW0] at hS ⊢
  have hS0 := hS
  have hz0 : Hid (W0.heap.size = w.heap.size) := hid (by rw [hW0]; rfl)
  clear hS hW0
  refine WH.three 3 4 5 (by kernel_rfl) rfl rfl rfl (by kernel_rfl) (by kernel_rfl) (by kernel_rfl) ?_ ?_ ?_
  ·intro K hK
   go_simp
   refine (consts_any _).mono ?_
   rintro e W1 ⟨rfl, hbc⟩
   go_wp2_with fail
   have hS1 := Below.chain hS0 hbc
   have hz1 := hid hbc.size
   refine hK.out _ _ hS1 ?_
   clear hK K hbc
   try simp only [Act.put, sA, sB, sC]
   refine WH.two 4 5 (by kernel_rfl) rfl (by kernel_rfl) rfl (by kernel_rfl) ?_ ?_
   ·intro K hK
    go_simp
    obtain ⟨W2, hW2⟩ : ∃ x, x = W1.alloc (.cells #[Value.int IntKind.u32 0, Value.int IntKind.u32 0, Value.int IntKind.u32 0, Value.int IntKind.u32 0, Value.int IntKind.u32 0, Value.int IntKind.u32 0, Value.int IntKind.u32 0, Value.int IntKind.u32 0] 252) := ⟨_, rfl⟩
    rw [← hW2]
    have hS2 : Below w.heap.size w W2 := by rw [hW2]; exact hS1.alloc hS1.size _
    have hz2 : Hid (W2.heap.size = W1.heap.size + 1) := hid (by rw [hW2]; simp)
    have f4 : W2.heap[W1.heap.size]? = some (.cells #[Value.int IntKind.u32 0, Value.int IntKind.u32 0, Value.int IntKind.u32 0, Value.int IntKind.u32 0, Value.int IntKind.u32 0, Value.int IntKind.u32 0, Value.int IntKind.u32 0, Value.int IntKind.u32 0] 252 (0, 0)) := by rw [hW2]; exact heap_alloc_new _ _
    refine hK.out _ _ hS2 ?_
    clear hK K hW2
    try simp only [Act.put, sA, sB, sC]
    refine WH.one 5 (by kernel_rfl) rfl (by kernel_rfl) ?_
    intro K hK
    go_simp
    obtain ⟨W3, hW3⟩ : ∃ x, x = W2.alloc (.cells #[Value.int IntKind.u32 0, Value.int IntKind.u32 0, Value.int IntKind.u32 0, Value.int IntKind.u32 0, Value.int IntKind.u32 0, Value.int IntKind.u32 0, Value.int IntKind.u32 0, Value.int IntKind.u32 0, Value.int IntKind.u32 0, Value.int IntKind.u32 0, Value.int IntKind.u32 0, Value.int IntKind.u32 0, Value.int IntKind.u32 0, Value.int IntKind.u32 0, Value.int IntKind.u32 0, Value.int IntKind.u32 0, Value.int IntKind.u32 0, Value.int IntKind.u32 0, Value.int IntKind.u32 0, Value.int IntKind.u32 0, Value.int IntKind.u32 0, Value.int IntKind.u32 0, Value.int IntKind.u32 0, Value.int IntKind.u32 0, Value.int IntKind.u32 0, Value.int IntKind.u32 0, Value.int IntKind.u32 0, Value.int IntKind.u32 0, Value.int IntKind.u32 0, Value.int IntKind.u32 0, Value.int IntKind.u32 0, Value.int IntKind.u32 0, Value.int IntKind.u32 0, Value.int IntKind.u32 0, Value.int IntKind.u32 0, Value.int IntKind.u32 0, Value.int IntKind.u32 0, Value.int IntKind.u32 0, Value.int IntKind.u32 0, Value.int IntKind.u32 0, Value.int IntKind.u32 0, Value.int IntKind.u32 0, Value.int IntKind.u32 0, Value.int IntKind.u32 0, Value.int IntKind.u32 0, Value.int IntKind.u32 0, Value.int IntKind.u32 0, Value.int IntKind.u32 0, Value.int IntKind.u32 0, Value.int IntKind.u32 0, Value.int IntKind.u32 0, Value.int IntKind.u32 0, Value.int IntKind.u32 0, Value.int IntKind.u32 0, Value.int IntKind.u32 0, Value.int IntKind.u32 0, Value.int IntKind.u32 0, Value.int IntKind.u32 0, Value.int IntKind.u32 0, Value.int IntKind.u32 0, Value.int IntKind.u32 0, Value.int IntKind.u32 0, Value.int IntKind.u32 0, Value.int IntKind.u32 0] 298) := ⟨_, rfl⟩
    rw [← hW3]
    have hS3 : Below w.heap.size w W3 := by rw [hW3]; exact hS2.alloc hS2.size _
    have hz3 : Hid (W3.heap.size = W2.heap.size + 1) := hid (by rw [hW3]; simp)
    have f4 := (show W3.heap[W1.heap.size]? = W2.heap[W1.heap.size]? by rw [hW3]; exact Below.heap_alloc _ _ _ (Array.getElem?_eq_some_iff.1 f4).1).trans f4
    have f5 : W3.heap[W2.heap.size]? = some (.cells #[Value.int IntKind.u32 0, Value.int IntKind.u32 0, Value.int IntKind.u32 0, Value.int IntKind.u32 0, Value.int IntKind.u32 0, Value.int IntKind.u32 0, Value.int IntKind.u32 0, Value.int IntKind.u32 0, Value.int IntKind.u32 0, Value.int IntKind.u32 0, Value.int IntKind.u32 0, Value.int IntKind.u32 0, Value.int IntKind.u32 0, Value.int IntKind.u32 0, Value.int IntKind.u32 0, Value.int IntKind.u32 0, Value.int IntKind.u32 0, Value.int IntKind.u32 0, Value.int IntKind.u32 0, Value.int IntKind.u32 0, Value.int IntKind.u32 0, Value.int IntKind.u32 0, Value.int IntKind.u32 0, Value.int IntKind.u32 0, Value.int IntKind.u32 0, Value.int IntKind.u32 0, Value.int IntKind.u32 0, Value.int IntKind.u32 0, Value.int IntKind.u32 0, Value.int IntKind.u32 0, Value.int IntKind.u32 0, Value.int IntKind.u32 0, Value.int IntKind.u32 0, Value.int IntKind.u32 0, Value.int IntKind.u32 0, Value.int IntKind.u32 0, Value.int IntKind.u32 0, Value.int IntKind.u32 0, Value.int IntKind.u32 0, Value.int IntKind.u32 0, Value.int IntKind.u32 0, Value.int IntKind.u32 0, Value.int IntKind.u32 0, Value.int IntKind.u32 0, Value.int IntKind.u32 0, Value.int IntKind.u32 0, Value.int IntKind.u32 0, Value.int IntKind.u32 0, Value.int IntKind.u32 0, Value.int IntKind.u32 0, Value.int IntKind.u32 0, Value.int IntKind.u32 0, Value.int IntKind.u32 0, Value.int IntKind.u32 0, Value.int IntKind.u32 0, Value.int IntKind.u32 0, Value.int IntKind.u32 0, Value.int IntKind.u32 0, Value.int IntKind.u32 0, Value.int IntKind.u32 0, Value.int IntKind.u32 0, Value.int IntKind.u32 0, Value.int IntKind.u32 0, Value.int IntKind.u32 0] 298 (0, 0)) := by rw [hW3]; exact heap_alloc_new _ _
    refine hK.out _ _ hS3 ?_
    clear hK K hW3
    try simp only [Act.put, sA, sB, sC]
    have hh : W1.heap.size ≠ W2.heap.size ∧ w.heap.size ≤ W1.heap.size ∧ w.heap.size ≤ W2.heap.size := by have z0 := hz0.out; have z1 := hz1.out; have z2 := hz2.out; have z3 := hz3.out; exact ⟨by omega, by omega, by omega⟩
    obtain ⟨hne, h4, h5⟩ := hh
    refine WH.one 6 (by kernel_rfl) rfl (by kernel_rfl) ?_
    intro K hK
    refine wp_store_row 252 _ _ rfl _ (wordCells h).toArray rfl rfl 252 _ f4 HI.out.1 HI.out.2.1 HI.out.2.2 ?_
    refine hK.out _ _ (below_row _ f4 hS3 h4) ?_
    try simp only [Act.put, sA]
    have g4 := setRow_heap _ _ _ (wordCells h).toArray _ _ f4
    have g5 := keep_row (wordCells h).toArray f4 f5 hne.symm
    have hSr := below_row (wordCells h).toArray f4 hS3 h4
    clear hK K f4 f5
    refine WH.one 7 (by kernel_rfl) rfl (by kernel_rfl) ?_
    intro K hK
    refine wp_store_row 298 _ _ rfl _ kA rfl rfl 298 _ g5 (by rw [kA_size]; exact words_info) rfl kA_one ?_
    refine hK.out _ _ (below_row _ g5 hSr h5) ?_
    try simp only [Act.put]
    have r5 := setRow_heap _ _ _ kA _ _ g5
    have r4 := keep_row kA g5 g4 hne
    have hSq := below_row kA g5 hSr h5
    clear hK K g4 g5 hSr
    refine WH.done (by kernel_rfl) ?_
    go_wp2_with fail
    go_meet
    case rel => exact ⟨_, _, rfl, rfl, hne, h4, h5, r4, r5, hSq⟩
   ·intro K hK
    go_simp
    obtain ⟨W2, hW2⟩ : ∃ x, x = W1.alloc (.cells #[Value.int IntKind.u32 0, Value.int IntKind.u32 0, Value.int IntKind.u32 0, Value.int IntKind.u32 0, Value.int IntKind.u32 0, Value.int IntKind.u32 0, Value.int IntKind.u32 0, Value.int IntKind.u32 0, Value.int IntKind.u32 0, Value.int IntKind.u32 0, Value.int IntKind.u32 0, Value.int IntKind.u32 0, Value.int IntKind.u32 0, Value.int IntKind.u32 0, Value.int IntKind.u32 0, Value.int IntKind.u32 0, Value.int IntKind.u32 0, Value.int IntKind.u32 0, Value.int IntKind.u32 0, Value.int IntKind.u32 0, Value.int IntKind.u32 0, Value.int IntKind.u32 0, Value.int IntKind.u32 0, Value.int IntKind.u32 0, Value.int IntKind.u32 0, Value.int IntKind.u32 0, Value.int IntKind.u32 0, Value.int IntKind.u32 0, Value.int IntKind.u32 0, Value.int IntKind.u32 0, Value.int IntKind.u32 0, Value.int IntKind.u32 0, Value.int IntKind.u32 0, Value.int IntKind.u32 0, Value.int IntKind.u32 0, Value.int IntKind.u32 0, Value.int IntKind.u32 0, Value.int IntKind.u32 0, Value.int IntKind.u32 0, Value.int IntKind.u32 0, Value.int IntKind.u32 0, Value.int IntKind.u32 0, Value.int IntKind.u32 0, Value.int IntKind.u32 0, Value.int IntKind.u32 0, Value.int IntKind.u32 0, Value.int IntKind.u32 0, Value.int IntKind.u32 0, Value.int IntKind.u32 0, Value.int IntKind.u32 0, Value.int IntKind.u32 0, Value.int IntKind.u32 0, Value.int IntKind.u32 0, Value.int IntKind.u32 0, Value.int IntKind.u32 0, Value.int IntKind.u32 0, Value.int IntKind.u32 0, Value.int IntKind.u32 0, Value.int IntKind.u32 0, Value.int IntKind.u32 0, Value.int IntKind.u32 0, Value.int IntKind.u32 0, Value.int IntKind.u32 0, Value.int IntKind.u32 0] 298) := ⟨_, rfl⟩
    rw [← hW2]
    have hS2 : Below w.heap.size w W2 := by rw [hW2]; exact hS1.alloc hS1.size _
    have hz2 : Hid (W2.heap.size = W1.heap.size + 1) := hid (by rw [hW2]; simp)
    have f5 : W2.heap[W1.heap.size]? = some (.cells #[Value.int IntKind.u32 0, Value.int IntKind.u32 0, Value.int IntKind.u32 0, Value.int IntKind.u32 0, Value.int IntKind.u32 0, Value.int IntKind.u32 0, Value.int IntKind.u32 0, Value.int IntKind.u32 0, Value.int IntKind.u32 0, Value.int IntKind.u32 0, Value.int IntKind.u32 0, Value.int IntKind.u32 0, Value.int IntKind.u32 0, Value.int IntKind.u32 0, Value.int IntKind.u32 0, Value.int IntKind.u32 0, Value.int IntKind.u32 0, Value.int IntKind.u32 0, Value.int IntKind.u32 0, Value.int IntKind.u32 0, Value.int IntKind.u32 0, Value.int IntKind.u32 0, Value.int IntKind.u32 0, Value.int IntKind.u32 0, Value.int IntKind.u32 0, Value.int IntKind.u32 0, Value.int IntKind.u32 0, Value.int IntKind.u32 0, Value.int IntKind.u32 0, Value.int IntKind.u32 0, Value.int IntKind.u32 0, Value.int IntKind.u32 0, Value.int IntKind.u32 0, Value.int IntKind.u32 0, Value.int IntKind.u32 0, Value.int IntKind.u32 0, Value.int IntKind.u32 0, Value.int IntKind.u32 0, Value.int IntKind.u32 0, Value.int IntKind.u32 0, Value.int IntKind.u32 0, Value.int IntKind.u32 0, Value.int IntKind.u32 0, Value.int IntKind.u32 0, Value.int IntKind.u32 0, Value.int IntKind.u32 0, Value.int IntKind.u32 0, Value.int IntKind.u32 0, Value.int IntKind.u32 0, Value.int IntKind.u32 0, Value.int IntKind.u32 0, Value.int IntKind.u32 0, Value.int IntKind.u32 0, Value.int IntKind.u32 0, Value.int IntKind.u32 0, Value.int IntKind.u32 0, Value.int IntKind.u32 0, Value.int IntKind.u32 0, Value.int IntKind.u32 0, Value.int IntKind.u32 0, Value.int IntKind.u32 0, Value.int IntKind.u32 0, Value.int IntKind.u32 0, Value.int IntKind.u32 0] 298 (0, 0)) := by rw [hW2]; exact heap_alloc_new _ _
    refine hK.out _ _ hS2 ?_
    clear hK K hW2
    try simp only [Act.put, sA, sB, sC]
    refine WH.one 4 (by kernel_rfl) rfl (by kernel_rfl) ?_
    intro K hK
    go_simp
    obtain ⟨W3, hW3⟩ : ∃ x, x = W2.alloc (.cells #[Value.int IntKind.u32 0, Value.int IntKind.u32 0, Value.int IntKind.u32 0, Value.int IntKind.u32 0, Value.int IntKind.u32 0, Value.int IntKind.u32 0, Value.int IntKind.u32 0, Value.int IntKind.u32 0] 252) := ⟨_, rfl⟩
    rw [← hW3]
    have hS3 : Below w.heap.size w W3 := by rw [hW3]; exact hS2.alloc hS2.size _
    have hz3 : Hid (W3.heap.size = W2.heap.size + 1) := hid (by rw [hW3]; simp)
    have f5 := (show W3.heap[W1.heap.size]? = W2.heap[W1.heap.size]? by rw [hW3]; exact Below.heap_alloc _ _ _ (Array.getElem?_eq_some_iff.1 f5).1).trans f5
    have f4 : W3.heap[W2.heap.size]? = some (.cells #[Value.int IntKind.u32 0, Value.int IntKind.u32 0, Value.int IntKind.u32 0, Value.int IntKind.u32 0, Value.int IntKind.u32 0, Value.int IntKind.u32 0, Value.int IntKind.u32 0, Value.int IntKind.u32 0] 252 (0, 0)) := by rw [hW3]; exact heap_alloc_new _ _
    refine hK.out _ _ hS3 ?_
    clear hK K hW3
    try simp only [Act.put, sA, sB, sC]
    have hh : W2.heap.size ≠ W1.heap.size ∧ w.heap.size ≤ W2.heap.size ∧ w.heap.size ≤ W1.heap.size := by have z0 := hz0.out; have z1 := hz1.out; have z2 := hz2.out; have z3 := hz3.out; exact ⟨by omega, by omega, by omega⟩
    obtain ⟨hne, h4, h5⟩ := hh
    refine WH.one 6 (by kernel_rfl) rfl (by kernel_rfl) ?_
    intro K hK
    refine wp_store_row 252 _ _ rfl _ (wordCells h).toArray rfl rfl 252 _ f4 HI.out.1 HI.out.2.1 HI.out.2.2 ?_
    refine hK.out _ _ (below_row _ f4 hS3 h4) ?_
    try simp only [Act.put, sA]
    have g4 := setRow_heap _ _ _ (wordCells h).toArray _ _ f4
    have g5 := keep_row (wordCells h).toArray f4 f5 hne.symm
    have hSr := below_row (wordCells h).toArray f4 hS3 h4
    clear hK K f4 f5
    refine WH.one 7 (by kernel_rfl) rfl (by kernel_rfl) ?_
    intro K hK
    refine wp_store_row 298 _ _ rfl _ kA rfl rfl 298 _ g5 (by rw [kA_size]; exact words_info) rfl kA_one ?_
    refine hK.out _ _ (below_row _ g5 hSr h5) ?_
    try simp only [Act.put]
    have r5 := setRow_heap _ _ _ kA _ _ g5
    have r4 := keep_row kA g5 g4 hne
    have hSq := below_row kA g5 hSr h5
    clear hK K g4 g5 hSr
    refine WH.done (by kernel_rfl) ?_
    go_wp2_with fail
    go_meet
    case rel => exact ⟨_, _, rfl, rfl, hne, h4, h5, r4, r5, hSq⟩
  ·intro K hK
   go_simp
   obtain ⟨W1, hW1⟩ : ∃ x, x = W0.alloc (.cells #[Value.int IntKind.u32 0, Value.int IntKind.u32 0, Value.int IntKind.u32 0, Value.int IntKind.u32 0, Value.int IntKind.u32 0, Value.int IntKind.u32 0, Value.int IntKind.u32 0, Value.int IntKind.u32 0] 252) := ⟨_, rfl⟩
   rw [← hW1]
   have hS1 : Below w.heap.size w W1 := by rw [hW1]; exact hS0.alloc hS0.size _
   have hz1 : Hid (W1.heap.size = W0.heap.size + 1) := hid (by rw [hW1]; simp)
   have f4 : W1.heap[W0.heap.size]? = some (.cells #[Value.int IntKind.u32 0, Value.int IntKind.u32 0, Value.int IntKind.u32 0, Value.int IntKind.u32 0, Value.int IntKind.u32 0, Value.int IntKind.u32 0, Value.int IntKind.u32 0, Value.int IntKind.u32 0] 252 (0, 0)) := by rw [hW1]; exact heap_alloc_new _ _
   refine hK.out _ _ hS1 ?_
   clear hK K hW1
   try simp only [Act.put, sA, sB, sC]
   refine WH.two 3 5 (by kernel_rfl) rfl (by kernel_rfl) rfl (by kernel_rfl) ?_ ?_
   ·intro K hK
    go_simp
    refine (consts_any _).mono ?_
    rintro e W2 ⟨rfl, hbc⟩
    go_wp2_with fail
    have hS2 := Below.chain hS1 hbc
    have hz2 := hid hbc.size
    have f4 := (hbc.block _ (Array.getElem?_eq_some_iff.1 f4).1).trans f4
    refine hK.out _ _ hS2 ?_
    clear hK K hbc
    try simp only [Act.put, sA, sB, sC]
    refine WH.one 5 (by kernel_rfl) rfl (by kernel_rfl) ?_
    intro K hK
    go_simp
    obtain ⟨W3, hW3⟩ : ∃ x, x = W2.alloc (.cells #[Value.int IntKind.u32 0, Value.int IntKind.u32 0, Value.int IntKind.u32 0, Value.int IntKind.u32 0, Value.int IntKind.u32 0, Value.int IntKind.u32 0, Value.int IntKind.u32 0, Value.int IntKind.u32 0, Value.int IntKind.u32 0, Value.int IntKind.u32 0, Value.int IntKind.u32 0, Value.int IntKind.u32 0, Value.int IntKind.u32 0, Value.int IntKind.u32 0, Value.int IntKind.u32 0, Value.int IntKind.u32 0, Value.int IntKind.u32 0, Value.int IntKind.u32 0, Value.int IntKind.u32 0, Value.int IntKind.u32 0, Value.int IntKind.u32 0, Value.int IntKind.u32 0, Value.int IntKind.u32 0, Value.int IntKind.u32 0, Value.int IntKind.u32 0, Value.int IntKind.u32 0, Value.int IntKind.u32 0, Value.int IntKind.u32 0, Value.int IntKind.u32 0, Value.int IntKind.u32 0, Value.int IntKind.u32 0, Value.int IntKind.u32 0, Value.int IntKind.u32 0, Value.int IntKind.u32 0, Value.int IntKind.u32 0, Value.int IntKind.u32 0, Value.int IntKind.u32 0, Value.int IntKind.u32 0, Value.int IntKind.u32 0, Value.int IntKind.u32 0, Value.int IntKind.u32 0, Value.int IntKind.u32 0, Value.int IntKind.u32 0, Value.int IntKind.u32 0, Value.int IntKind.u32 0, Value.int IntKind.u32 0, Value.int IntKind.u32 0, Value.int IntKind.u32 0, Value.int IntKind.u32 0, Value.int IntKind.u32 0, Value.int IntKind.u32 0, Value.int IntKind.u32 0, Value.int IntKind.u32 0, Value.int IntKind.u32 0, Value.int IntKind.u32 0, Value.int IntKind.u32 0, Value.int IntKind.u32 0, Value.int IntKind.u32 0, Value.int IntKind.u32 0, Value.int IntKind.u32 0, Value.int IntKind.u32 0, Value.int IntKind.u32 0, Value.int IntKind.u32 0, Value.int IntKind.u32 0] 298) := ⟨_, rfl⟩
    rw [← hW3]
    have hS3 : Below w.heap.size w W3 := by rw [hW3]; exact hS2.alloc hS2.size _
    have hz3 : Hid (W3.heap.size = W2.heap.size + 1) := hid (by rw [hW3]; simp)
    have f4 := (show W3.heap[W0.heap.size]? = W2.heap[W0.heap.size]? by rw [hW3]; exact Below.heap_alloc _ _ _ (Array.getElem?_eq_some_iff.1 f4).1).trans f4
    have f5 : W3.heap[W2.heap.size]? = some (.cells #[Value.int IntKind.u32 0, Value.int IntKind.u32 0, Value.int IntKind.u32 0, Value.int IntKind.u32 0, Value.int IntKind.u32 0, Value.int IntKind.u32 0, Value.int IntKind.u32 0, Value.int IntKind.u32 0, Value.int IntKind.u32 0, Value.int IntKind.u32 0, Value.int IntKind.u32 0, Value.int IntKind.u32 0, Value.int IntKind.u32 0, Value.int IntKind.u32 0, Value.int IntKind.u32 0, Value.int IntKind.u32 0, Value.int IntKind.u32 0, Value.int IntKind.u32 0, Value.int IntKind.u32 0, Value.int IntKind.u32 0, Value.int IntKind.u32 0, Value.int IntKind.u32 0, Value.int IntKind.u32 0, Value.int IntKind.u32 0, Value.int IntKind.u32 0, Value.int IntKind.u32 0, Value.int IntKind.u32 0, Value.int IntKind.u32 0, Value.int IntKind.u32 0, Value.int IntKind.u32 0, Value.int IntKind.u32 0, Value.int IntKind.u32 0, Value.int IntKind.u32 0, Value.int IntKind.u32 0, Value.int IntKind.u32 0, Value.int IntKind.u32 0, Value.int IntKind.u32 0, Value.int IntKind.u32 0, Value.int IntKind.u32 0, Value.int IntKind.u32 0, Value.int IntKind.u32 0, Value.int IntKind.u32 0, Value.int IntKind.u32 0, Value.int IntKind.u32 0, Value.int IntKind.u32 0, Value.int IntKind.u32 0, Value.int IntKind.u32 0, Value.int IntKind.u32 0, Value.int IntKind.u32 0, Value.int IntKind.u32 0, Value.int IntKind.u32 0, Value.int IntKind.u32 0, Value.int IntKind.u32 0, Value.int IntKind.u32 0, Value.int IntKind.u32 0, Value.int IntKind.u32 0, Value.int IntKind.u32 0, Value.int IntKind.u32 0, Value.int IntKind.u32 0, Value.int IntKind.u32 0, Value.int IntKind.u32 0, Value.int IntKind.u32 0, Value.int IntKind.u32 0, Value.int IntKind.u32 0] 298 (0, 0)) := by rw [hW3]; exact heap_alloc_new _ _
    refine hK.out _ _ hS3 ?_
    clear hK K hW3
    try simp only [Act.put, sA, sB, sC]
    have hh : W0.heap.size ≠ W2.heap.size ∧ w.heap.size ≤ W0.heap.size ∧ w.heap.size ≤ W2.heap.size := by have z0 := hz0.out; have z1 := hz1.out; have z2 := hz2.out; have z3 := hz3.out; exact ⟨by omega, by omega, by omega⟩
    obtain ⟨hne, h4, h5⟩ := hh
    refine WH.one 6 (by kernel_rfl) rfl (by kernel_rfl) ?_
    intro K hK
    refine wp_store_row 252 _ _ rfl _ (wordCells h).toArray rfl rfl 252 _ f4 HI.out.1 HI.out.2.1 HI.out.2.2 ?_
    refine hK.out _ _ (below_row _ f4 hS3 h4) ?_
    try simp only [Act.put, sA]
    have g4 := setRow_heap _ _ _ (wordCells h).toArray _ _ f4
    have g5 := keep_row (wordCells h).toArray f4 f5 hne.symm
    have hSr := below_row (wordCells h).toArray f4 hS3 h4
    clear hK K f4 f5
    refine WH.one 7 (by kernel_rfl) rfl (by kernel_rfl) ?_
    intro K hK
    refine wp_store_row 298 _ _ rfl _ kA rfl rfl 298 _ g5 (by rw [kA_size]; exact words_info) rfl kA_one ?_
    refine hK.out _ _ (below_row _ g5 hSr h5) ?_
    try simp only [Act.put]
    have r5 := setRow_heap _ _ _ kA _ _ g5
    have r4 := keep_row kA g5 g4 hne
    have hSq := below_row kA g5 hSr h5
    clear hK K g4 g5 hSr
    refine WH.done (by kernel_rfl) ?_
    go_wp2_with fail
    go_meet
    case rel => exact ⟨_, _, rfl, rfl, hne, h4, h5, r4, r5, hSq⟩
   ·intro K hK
    go_simp
    obtain ⟨W2, hW2⟩ : ∃ x, x = W1.alloc (.cells #[Value.int IntKind.u32 0, Value.int IntKind.u32 0, Value.int IntKind.u32 0, Value.int IntKind.u32 0, Value.int IntKind.u32 0, Value.int IntKind.u32 0, Value.int IntKind.u32 0, Value.int IntKind.u32 0, Value.int IntKind.u32 0, Value.int IntKind.u32 0, Value.int IntKind.u32 0, Value.int IntKind.u32 0, Value.int IntKind.u32 0, Value.int IntKind.u32 0, Value.int IntKind.u32 0, Value.int IntKind.u32 0, Value.int IntKind.u32 0, Value.int IntKind.u32 0, Value.int IntKind.u32 0, Value.int IntKind.u32 0, Value.int IntKind.u32 0, Value.int IntKind.u32 0, Value.int IntKind.u32 0, Value.int IntKind.u32 0, Value.int IntKind.u32 0, Value.int IntKind.u32 0, Value.int IntKind.u32 0, Value.int IntKind.u32 0, Value.int IntKind.u32 0, Value.int IntKind.u32 0, Value.int IntKind.u32 0, Value.int IntKind.u32 0, Value.int IntKind.u32 0, Value.int IntKind.u32 0, Value.int IntKind.u32 0, Value.int IntKind.u32 0, Value.int IntKind.u32 0, Value.int IntKind.u32 0, Value.int IntKind.u32 0, Value.int IntKind.u32 0, Value.int IntKind.u32 0, Value.int IntKind.u32 0, Value.int IntKind.u32 0, Value.int IntKind.u32 0, Value.int IntKind.u32 0, Value.int IntKind.u32 0, Value.int IntKind.u32 0, Value.int IntKind.u32 0, Value.int IntKind.u32 0, Value.int IntKind.u32 0, Value.int IntKind.u32 0, Value.int IntKind.u32 0, Value.int IntKind.u32 0, Value.int IntKind.u32 0, Value.int IntKind.u32 0, Value.int IntKind.u32 0, Value.int IntKind.u32 0, Value.int IntKind.u32 0, Value.int IntKind.u32 0, Value.int IntKind.u32 0, Value.int IntKind.u32 0, Value.int IntKind.u32 0, Value.int IntKind.u32 0, Value.int IntKind.u32 0] 298) := ⟨_, rfl⟩
    rw [← hW2]
    have hS2 : Below w.heap.size w W2 := by rw [hW2]; exact hS1.alloc hS1.size _
    have hz2 : Hid (W2.heap.size = W1.heap.size + 1) := hid (by rw [hW2]; simp)
    have f4 := (show W2.heap[W0.heap.size]? = W1.heap[W0.heap.size]? by rw [hW2]; exact Below.heap_alloc _ _ _ (Array.getElem?_eq_some_iff.1 f4).1).trans f4
    have f5 : W2.heap[W1.heap.size]? = some (.cells #[Value.int IntKind.u32 0, Value.int IntKind.u32 0, Value.int IntKind.u32 0, Value.int IntKind.u32 0, Value.int IntKind.u32 0, Value.int IntKind.u32 0, Value.int IntKind.u32 0, Value.int IntKind.u32 0, Value.int IntKind.u32 0, Value.int IntKind.u32 0, Value.int IntKind.u32 0, Value.int IntKind.u32 0, Value.int IntKind.u32 0, Value.int IntKind.u32 0, Value.int IntKind.u32 0, Value.int IntKind.u32 0, Value.int IntKind.u32 0, Value.int IntKind.u32 0, Value.int IntKind.u32 0, Value.int IntKind.u32 0, Value.int IntKind.u32 0, Value.int IntKind.u32 0, Value.int IntKind.u32 0, Value.int IntKind.u32 0, Value.int IntKind.u32 0, Value.int IntKind.u32 0, Value.int IntKind.u32 0, Value.int IntKind.u32 0, Value.int IntKind.u32 0, Value.int IntKind.u32 0, Value.int IntKind.u32 0, Value.int IntKind.u32 0, Value.int IntKind.u32 0, Value.int IntKind.u32 0, Value.int IntKind.u32 0, Value.int IntKind.u32 0, Value.int IntKind.u32 0, Value.int IntKind.u32 0, Value.int IntKind.u32 0, Value.int IntKind.u32 0, Value.int IntKind.u32 0, Value.int IntKind.u32 0, Value.int IntKind.u32 0, Value.int IntKind.u32 0, Value.int IntKind.u32 0, Value.int IntKind.u32 0, Value.int IntKind.u32 0, Value.int IntKind.u32 0, Value.int IntKind.u32 0, Value.int IntKind.u32 0, Value.int IntKind.u32 0, Value.int IntKind.u32 0, Value.int IntKind.u32 0, Value.int IntKind.u32 0, Value.int IntKind.u32 0, Value.int IntKind.u32 0, Value.int IntKind.u32 0, Value.int IntKind.u32 0, Value.int IntKind.u32 0, Value.int IntKind.u32 0, Value.int IntKind.u32 0, Value.int IntKind.u32 0, Value.int IntKind.u32 0, Value.int IntKind.u32 0] 298 (0, 0)) := by rw [hW2]; exact heap_alloc_new _ _
    refine hK.out _ _ hS2 ?_
    clear hK K hW2
    try simp only [Act.put, sA, sB, sC]
    refine WH.one 3 (by kernel_rfl) rfl (by kernel_rfl) ?_
    intro K hK
    go_simp
    refine (consts_any _).mono ?_
    rintro e W3 ⟨rfl, hbc⟩
    go_wp2_with fail
    have hS3 := Below.chain hS2 hbc
    have hz3 := hid hbc.size
    have f4 := (hbc.block _ (Array.getElem?_eq_some_iff.1 f4).1).trans f4
    have f5 := (hbc.block _ (Array.getElem?_eq_some_iff.1 f5).1).trans f5
    refine hK.out _ _ hS3 ?_
    clear hK K hbc
    try simp only [Act.put, sA, sB, sC]
    have hh : W0.heap.size ≠ W1.heap.size ∧ w.heap.size ≤ W0.heap.size ∧ w.heap.size ≤ W1.heap.size := by have z0 := hz0.out; have z1 := hz1.out; have z2 := hz2.out; have z3 := hz3.out; exact ⟨by omega, by omega, by omega⟩
    obtain ⟨hne, h4, h5⟩ := hh
    refine WH.one 6 (by kernel_rfl) rfl (by kernel_rfl) ?_
    intro K hK
    refine wp_store_row 252 _ _ rfl _ (wordCells h).toArray rfl rfl 252 _ f4 HI.out.1 HI.out.2.1 HI.out.2.2 ?_
    refine hK.out _ _ (below_row _ f4 hS3 h4) ?_
    try simp only [Act.put, sA]
    have g4 := setRow_heap _ _ _ (wordCells h).toArray _ _ f4
    have g5 := keep_row (wordCells h).toArray f4 f5 hne.symm
    have hSr := below_row (wordCells h).toArray f4 hS3 h4
    clear hK K f4 f5
    refine WH.one 7 (by kernel_rfl) rfl (by kernel_rfl) ?_
    intro K hK
    refine wp_store_row 298 _ _ rfl _ kA rfl rfl 298 _ g5 (by rw [kA_size]; exact words_info) rfl kA_one ?_
    refine hK.out _ _ (below_row _ g5 hSr h5) ?_
    try simp only [Act.put]
    have r5 := setRow_heap _ _ _ kA _ _ g5
    have r4 := keep_row kA g5 g4 hne
    have hSq := below_row kA g5 hSr h5
    clear hK K g4 g5 hSr
    refine WH.done (by kernel_rfl) ?_
    go_wp2_with fail
    go_meet
    case rel => exact ⟨_, _, rfl, rfl, hne, h4, h5, r4, r5, hSq⟩
  ·intro K hK
   go_simp
   obtain ⟨W1, hW1⟩ : ∃ x, x = W0.alloc (.cells #[Value.int IntKind.u32 0, Value.int IntKind.u32 0, Value.int IntKind.u32 0, Value.int IntKind.u32 0, Value.int IntKind.u32 0, Value.int IntKind.u32 0, Value.int IntKind.u32 0, Value.int IntKind.u32 0, Value.int IntKind.u32 0, Value.int IntKind.u32 0, Value.int IntKind.u32 0, Value.int IntKind.u32 0, Value.int IntKind.u32 0, Value.int IntKind.u32 0, Value.int IntKind.u32 0, Value.int IntKind.u32 0, Value.int IntKind.u32 0, Value.int IntKind.u32 0, Value.int IntKind.u32 0, Value.int IntKind.u32 0, Value.int IntKind.u32 0, Value.int IntKind.u32 0, Value.int IntKind.u32 0, Value.int IntKind.u32 0, Value.int IntKind.u32 0, Value.int IntKind.u32 0, Value.int IntKind.u32 0, Value.int IntKind.u32 0, Value.int IntKind.u32 0, Value.int IntKind.u32 0, Value.int IntKind.u32 0, Value.int IntKind.u32 0, Value.int IntKind.u32 0, Value.int IntKind.u32 0, Value.int IntKind.u32 0, Value.int IntKind.u32 0, Value.int IntKind.u32 0, Value.int IntKind.u32 0, Value.int IntKind.u32 0, Value.int IntKind.u32 0, Value.int IntKind.u32 0, Value.int IntKind.u32 0, Value.int IntKind.u32 0, Value.int IntKind.u32 0, Value.int IntKind.u32 0, Value.int IntKind.u32 0, Value.int IntKind.u32 0, Value.int IntKind.u32 0, Value.int IntKind.u32 0, Value.int IntKind.u32 0, Value.int IntKind.u32 0, Value.int IntKind.u32 0, Value.int IntKind.u32 0, Value.int IntKind.u32 0, Value.int IntKind.u32 0, Value.int IntKind.u32 0, Value.int IntKind.u32 0, Value.int IntKind.u32 0, Value.int IntKind.u32 0, Value.int IntKind.u32 0, Value.int IntKind.u32 0, Value.int IntKind.u32 0, Value.int IntKind.u32 0, Value.int IntKind.u32 0] 298) := ⟨_, rfl⟩
   rw [← hW1]
   have hS1 : Below w.heap.size w W1 := by rw [hW1]; exact hS0.alloc hS0.size _
   have hz1 : Hid (W1.heap.size = W0.heap.size + 1) := hid (by rw [hW1]; simp)
   have f5 : W1.heap[W0.heap.size]? = some (.cells #[Value.int IntKind.u32 0, Value.int IntKind.u32 0, Value.int IntKind.u32 0, Value.int IntKind.u32 0, Value.int IntKind.u32 0, Value.int IntKind.u32 0, Value.int IntKind.u32 0, Value.int IntKind.u32 0, Value.int IntKind.u32 0, Value.int IntKind.u32 0, Value.int IntKind.u32 0, Value.int IntKind.u32 0, Value.int IntKind.u32 0, Value.int IntKind.u32 0, Value.int IntKind.u32 0, Value.int IntKind.u32 0, Value.int IntKind.u32 0, Value.int IntKind.u32 0, Value.int IntKind.u32 0, Value.int IntKind.u32 0, Value.int IntKind.u32 0, Value.int IntKind.u32 0, Value.int IntKind.u32 0, Value.int IntKind.u32 0, Value.int IntKind.u32 0, Value.int IntKind.u32 0, Value.int IntKind.u32 0, Value.int IntKind.u32 0, Value.int IntKind.u32 0, Value.int IntKind.u32 0, Value.int IntKind.u32 0, Value.int IntKind.u32 0, Value.int IntKind.u32 0, Value.int IntKind.u32 0, Value.int IntKind.u32 0, Value.int IntKind.u32 0, Value.int IntKind.u32 0, Value.int IntKind.u32 0, Value.int IntKind.u32 0, Value.int IntKind.u32 0, Value.int IntKind.u32 0, Value.int IntKind.u32 0, Value.int IntKind.u32 0, Value.int IntKind.u32 0, Value.int IntKind.u32 0, Value.int IntKind.u32 0, Value.int IntKind.u32 0, Value.int IntKind.u32 0, Value.int IntKind.u32 0, Value.int IntKind.u32 0, Value.int IntKind.u32 0, Value.int IntKind.u32 0, Value.int IntKind.u32 0, Value.int IntKind.u32 0, Value.int IntKind.u32 0, Value.int IntKind.u32 0, Value.int IntKind.u32 0, Value.int IntKind.u32 0, Value.int IntKind.u32 0, Value.int IntKind.u32 0, Value.int IntKind.u32 0, Value.int IntKind.u32 0, Value.int IntKind.u32 0, Value.int IntKind.u32 0] 298 (0, 0)) := by rw [hW1]; exact heap_alloc_new _ _
   refine hK.out _ _ hS1 ?_
   clear hK K hW1
   try simp only [Act.put, sA, sB, sC]
   refine WH.two 3 4 (by kernel_rfl) rfl (by kernel_rfl) rfl (by kernel_rfl) ?_ ?_
   ·intro K hK
    go_simp
    refine (consts_any _).mono ?_
    rintro e W2 ⟨rfl, hbc⟩
    go_wp2_with fail
    have hS2 := Below.chain hS1 hbc
    have hz2 := hid hbc.size
    have f5 := (hbc.block _ (Array.getElem?_eq_some_iff.1 f5).1).trans f5
    refine hK.out _ _ hS2 ?_
    clear hK K hbc
    try simp only [Act.put, sA, sB, sC]
    refine WH.one 4 (by kernel_rfl) rfl (by kernel_rfl) ?_
    intro K hK
    go_simp
    obtain ⟨W3, hW3⟩ : ∃ x, x = W2.alloc (.cells #[Value.int IntKind.u32 0, Value.int IntKind.u32 0, Value.int IntKind.u32 0, Value.int IntKind.u32 0, Value.int IntKind.u32 0, Value.int IntKind.u32 0, Value.int IntKind.u32 0, Value.int IntKind.u32 0] 252) := ⟨_, rfl⟩
    rw [← hW3]
    have hS3 : Below w.heap.size w W3 := by rw [hW3]; exact hS2.alloc hS2.size _
    have hz3 : Hid (W3.heap.size = W2.heap.size + 1) := hid (by rw [hW3]; simp)
    have f5 := (show W3.heap[W0.heap.size]? = W2.heap[W0.heap.size]? by rw [hW3]; exact Below.heap_alloc _ _ _ (Array.getElem?_eq_some_iff.1 f5).1).trans f5
    have f4 : W3.heap[W2.heap.size]? = some (.cells #[Value.int IntKind.u32 0, Value.int IntKind.u32 0, Value.int IntKind.u32 0, Value.int IntKind.u32 0, Value.int IntKind.u32 0, Value.int IntKind.u32 0, Value.int IntKind.u32 0, Value.int IntKind.u32 0] 252 (0, 0)) := by rw [hW3]; exact heap_alloc_new _ _
    refine hK.out _ _ hS3 ?_
    clear hK K hW3
    try simp only [Act.put, sA, sB, sC]
    have hh : W2.heap.size ≠ W0.heap.size ∧ w.heap.size ≤ W2.heap.size ∧ w.heap.size ≤ W0.heap.size := by have z0 := hz0.out; have z1 := hz1.out; have z2 := hz2.out; have z3 := hz3.out; exact ⟨by omega, by omega, by omega⟩
    obtain ⟨hne, h4, h5⟩ := hh
    refine WH.one 6 (by kernel_rfl) rfl (by kernel_rfl) ?_
    intro K hK
    refine wp_store_row 252 _ _ rfl _ (wordCells h).toArray rfl rfl 252 _ f4 HI.out.1 HI.out.2.1 HI.out.2.2 ?_
    refine hK.out _ _ (below_row _ f4 hS3 h4) ?_
    try simp only [Act.put, sA]
    have g4 := setRow_heap _ _ _ (wordCells h).toArray _ _ f4
    have g5 := keep_row (wordCells h).toArray f4 f5 hne.symm
    have hSr := below_row (wordCells h).toArray f4 hS3 h4
    clear hK K f4 f5
    refine WH.one 7 (by kernel_rfl) rfl (by kernel_rfl) ?_
    intro K hK
    refine wp_store_row 298 _ _ rfl _ kA rfl rfl 298 _ g5 (by rw [kA_size]; exact words_info) rfl kA_one ?_
    refine hK.out _ _ (below_row _ g5 hSr h5) ?_
    try simp only [Act.put]
    have r5 := setRow_heap _ _ _ kA _ _ g5
    have r4 := keep_row kA g5 g4 hne
    have hSq := below_row kA g5 hSr h5
    clear hK K g4 g5 hSr
    refine WH.done (by kernel_rfl) ?_
    go_wp2_with fail
    go_meet
    case rel => exact ⟨_, _, rfl, rfl, hne, h4, h5, r4, r5, hSq⟩
   ·intro K hK
    go_simp
    obtain ⟨W2, hW2⟩ : ∃ x, x = W1.alloc (.cells #[Value.int IntKind.u32 0, Value.int IntKind.u32 0, Value.int IntKind.u32 0, Value.int IntKind.u32 0, Value.int IntKind.u32 0, Value.int IntKind.u32 0, Value.int IntKind.u32 0, Value.int IntKind.u32 0] 252) := ⟨_, rfl⟩
    rw [← hW2]
    have hS2 : Below w.heap.size w W2 := by rw [hW2]; exact hS1.alloc hS1.size _
    have hz2 : Hid (W2.heap.size = W1.heap.size + 1) := hid (by rw [hW2]; simp)
    have f5 := (show W2.heap[W0.heap.size]? = W1.heap[W0.heap.size]? by rw [hW2]; exact Below.heap_alloc _ _ _ (Array.getElem?_eq_some_iff.1 f5).1).trans f5
    have f4 : W2.heap[W1.heap.size]? = some (.cells #[Value.int IntKind.u32 0, Value.int IntKind.u32 0, Value.int IntKind.u32 0, Value.int IntKind.u32 0, Value.int IntKind.u32 0, Value.int IntKind.u32 0, Value.int IntKind.u32 0, Value.int IntKind.u32 0] 252 (0, 0)) := by rw [hW2]; exact heap_alloc_new _ _
    refine hK.out _ _ hS2 ?_
    clear hK K hW2
    try simp only [Act.put, sA, sB, sC]
    refine WH.one 3 (by kernel_rfl) rfl (by kernel_rfl) ?_
    intro K hK
    go_simp
    refine (consts_any _).mono ?_
    rintro e W3 ⟨rfl, hbc⟩
    go_wp2_with fail
    have hS3 := Below.chain hS2 hbc
    have hz3 := hid hbc.size
    have f5 := (hbc.block _ (Array.getElem?_eq_some_iff.1 f5).1).trans f5
    have f4 := (hbc.block _ (Array.getElem?_eq_some_iff.1 f4).1).trans f4
    refine hK.out _ _ hS3 ?_
    clear hK K hbc
    try simp only [Act.put, sA, sB, sC]
    have hh : W1.heap.size ≠ W0.heap.size ∧ w.heap.size ≤ W1.heap.size ∧ w.heap.size ≤ W0.heap.size := by have z0 := hz0.out; have z1 := hz1.out; have z2 := hz2.out; have z3 := hz3.out; exact ⟨by omega, by omega, by omega⟩
    obtain ⟨hne, h4, h5⟩ := hh
    refine WH.one 6 (by kernel_rfl) rfl (by kernel_rfl) ?_
    intro K hK
    refine wp_store_row 252 _ _ rfl _ (wordCells h).toArray rfl rfl 252 _ f4 HI.out.1 HI.out.2.1 HI.out.2.2 ?_
    refine hK.out _ _ (below_row _ f4 hS3 h4) ?_
    try simp only [Act.put, sA]
    have g4 := setRow_heap _ _ _ (wordCells h).toArray _ _ f4
    have g5 := keep_row (wordCells h).toArray f4 f5 hne.symm
    have hSr := below_row (wordCells h).toArray f4 hS3 h4
    clear hK K f4 f5
    refine WH.one 7 (by kernel_rfl) rfl (by kernel_rfl) ?_
    intro K hK
    refine wp_store_row 298 _ _ rfl _ kA rfl rfl 298 _ g5 (by rw [kA_size]; exact words_info) rfl kA_one ?_
    refine hK.out _ _ (below_row _ g5 hSr h5) ?_
    try simp only [Act.put]
    have r5 := setRow_heap _ _ _ kA _ _ g5
    have r4 := keep_row kA g5 g4 hne
    have hSq := below_row kA g5 hSr h5
    clear hK K g4 g5 hSr
    refine WH.done (by kernel_rfl) ?_
    go_wp2_with fail
    go_meet
    case rel => exact ⟨_, _, rfl, rfl, hne, h4, h5, r4, r5, hSq⟩
 case rest =>
  obtain ⟨b4, b5, rfl, rfl, hne, h4, h5, f4, f5, hb1⟩ := hcut
  have HSl := hid (hbb.below hb1 (Nat.le_refl _))
  have hl4 := (Array.getElem?_eq_some_iff.1 f4).1
  have hl5 := (Array.getElem?_eq_some_iff.1 f5).1
  have HF4 := hid f4
  have HF5 := hid f5
  have HB1 := hid hb1
  have HN := hid (show b4 ≠ b5 ∧ w.heap.size ≤ b4 ∧ w.heap.size ≤ b5 ∧ b4 < wc.heap.size ∧ b5 < wc.heap.size from ⟨hne, h4, h5, hl4, hl5⟩)
  have HG := hid hg
  have HL8 := hid hl8
  clear hbb hne h4 h5 f4 f5 hb1 hl4 hl5 hg hl8 HI HR
  go_wp2_with (go_at_call 174; refine (spread_any _ b _ HSl.out).mono ?_; rintro e w2 ⟨rfl, hb2⟩)
  have HB2 := hid (Below.chain HB1.out hb2)
  have HG4 := hid ((hb2.block _ HN.out.2.2.2.1).trans HF4.out)
  have HG5 := hid ((hb2.block _ HN.out.2.2.2.2).trans HF5.out)
  have HZ2 := hid hb2.size
  clear hb2 HSl
  generalize hsch : schedL b = ws at *
  have HWS : Hid (ws.length = 64) := hid (by rw [← hsch]; exact schedTo_len b 64)
  have HCP : Hid (compressL shaK h b = sumsTo h (stepsTo shaK ws h 64) 8) := hid (by rw [← hsch]; rfl)
  clear hsch
  go_loopw [20] (fun i wr => ∃ (k : Nat), k ≤ 64 ∧ i = .int .i64 k ∧ wr.heap[b4]? = some (.cells (wordCells (stepsTo shaK ws h k)).toArray 252 (0, 0)) ∧ wr.heap[b5]? = some (.cells kA 298 (0, 0)) ∧ Below w.heap.size w wr) (fun i _ => 64 - (intOf i).toNat)
  case atStart => exact ⟨0, by omega, rfl, HG4.out, HG5.out, HB2.out⟩
  case round =>
   obtain ⟨k, hk, rfl, g4, g5, hbr⟩ := hrel
   clear HG4 HG5 HB2 HF4 HF5 HB1
   have HV8 := hid (stepsTo_len (ks := shaK) (ws := ws) HL8.out k)
   by_cases h64 : k < 64
   ·have HS : Hid (stepsTo shaK ws h (k + 1) = shaStep (stepsTo shaK ws h k) (shaK.getD k 0) (ws.getD k 0)) := hid rfl
    have cell := fun j (hj : j < 8) => (cell_of_row wr b4 j _ _ _ g4).trans (List.getElem?_toArray.trans (wordCells_get (stepsTo shaK ws h k) j (by rw [HV8.out]; exact hj)))
    have l0 := cell 0 (by omega)
    have l1 := cell 1 (by omega)
    have l2 := cell 2 (by omega)
    have l3 := cell 3 (by omega)
    have l4 := cell 4 (by omega)
    have l5 := cell 5 (by omega)
    have l6 := cell 6 (by omega)
    have l7 := cell 7 (by omega)
    have ck : wr.cell? ⟨b5, k, none⟩ = some (.int .u32 (shaK.getD k 0)) := (cell_of_row wr b5 k _ _ _ g5).trans (show kA[k]? = _ from List.getElem?_toArray.trans (wordCells_get shaK k h64))
    have HW := hid (wordCells_get ws k (by rw [HWS.out]; exact h64))
    have HWA : Hid ((wordCells ws).toArray.size = 64) := hid (by simp [wordCells_len, HWS.out])
    have HWG : Hid ((wordCells ws).toArray[k]? = some (.int .u32 (ws.getD k 0))) := hid (by rw [List.getElem?_toArray]; exact HW.out)
    have HRG4 := hid g4
    have HRG5 := hid g5
    generalize hWA : (wordCells ws).toArray = WA at *
    unfold shaStep at HS
    generalize ws.getD k 0 = xs at *
    generalize shaK.getD k 0 = xk at *
    generalize (stepsTo shaK ws h k).getD 0 0 = x0 at *
    generalize (stepsTo shaK ws h k).getD 1 0 = x1 at *
    generalize (stepsTo shaK ws h k).getD 2 0 = x2 at *
    generalize (stepsTo shaK ws h k).getD 3 0 = x3 at *
    generalize (stepsTo shaK ws h k).getD 4 0 = x4 at *
    generalize (stepsTo shaK ws h k).getD 5 0 = x5 at *
    generalize (stepsTo shaK ws h k).getD 6 0 = x6 at *
    generalize (stepsTo shaK ws h k).getD 7 0 = x7 at *
    have hix := index_word WA k xs h64 HWG.out
    clear cell g4 g5 HW
    have HT := hid turned_below
    have k64 : (k : Int) < 64 := by omega
    go_upto_region 4 with fail
    go_quiet (fail)
    go_upto_region 5 with fail
    obtain ⟨W1, hW1⟩ : ∃ W1, W1 = wr.drewN nq := ⟨_, rfl⟩
    have hd1 : Below wr.heap.size wr W1 := by rw [hW1]; exact Drawn.below ⟨nq, rfl⟩
    have ck1 := keeps_of hd1 ck
    have m1 := keeps_of hd1 l1
    have m2 := keeps_of hd1 l2
    have m3 := keeps_of hd1 l3
    have m5 := keeps_of hd1 l5
    have m6 := keeps_of hd1 l6
    have m7 := keeps_of hd1 l7
    rw [← hW1]
    clear hW1 ck l0 l1 l2 l3 l4 l5 l6 l7 hix
    refine wp_region_wq (by kernel_rfl) (by kernel_rfl) ?_
    repeat (refine WQ.step (fun K hK => ?_); go_simp; first | (refine hK _ ?_; clear hK K) | (apply Exists.intro; refine ⟨fun W hW => ?_, hK _ ?_⟩; (first | (go_at_call_of 175 (Value.int .i64 6); exact Calls.quiet_below hW (HT.out _ 6 (by decide) (by decide) _)) | (go_at_call_of 175 (Value.int .i64 11); exact Calls.quiet_below hW (HT.out _ 11 (by decide) (by decide) _)) | (go_at_call_of 175 (Value.int .i64 25); exact Calls.quiet_below hW (HT.out _ 25 (by decide) (by decide) _)) | (first | with_reducible rfl | (have zz0 := Below.keeps hW ck1; have zz1 := Below.keeps hW m5; have zz2 := Below.keeps hW m6; have zz3 := Below.keeps hW m7; go_simp; first | rfl | exact ⟨rfl, rfl⟩ | (rw [if_neg (by omega)]; exact ⟨rfl, rfl⟩)))); clear hK K))
    refine WQ.nil ?_
    intro wu hwu
    have n1 := keeps_of hwu m1
    have n2 := keeps_of hwu m2
    have n3 := keeps_of hwu m3
    have n5 := keeps_of hwu m5
    have n6 := keeps_of hwu m6
    have hd2 := Below.chain hd1 hwu
    clear ck1 m1 m2 m3 m5 m6 m7 hwu hd1
    go_upto_region 6 with fail
    refine wp_region_wq (by kernel_rfl) (by kernel_rfl) ?_
    repeat (refine WQ.step (fun K hK => ?_); go_simp; first | (refine hK _ ?_; clear hK K) | (apply Exists.intro; refine ⟨fun W hW => ?_, hK _ ?_⟩; (first | (go_at_call_of 175 (Value.int .i64 2); exact Calls.quiet_below hW (HT.out _ 2 (by decide) (by decide) _)) | (go_at_call_of 175 (Value.int .i64 13); exact Calls.quiet_below hW (HT.out _ 13 (by decide) (by decide) _)) | (go_at_call_of 175 (Value.int .i64 22); exact Calls.quiet_below hW (HT.out _ 22 (by decide) (by decide) _)) | (first | with_reducible rfl | (have zz0 := Below.keeps hW n1; have zz1 := Below.keeps hW n2; go_simp; first | rfl | exact ⟨rfl, rfl⟩ | (rw [if_neg (by omega)]; exact ⟨rfl, rfl⟩)))); clear hK K))
    refine WQ.nil ?_
    intro wx hwx
    have p1 := keeps_of hwx n1
    have p2 := keeps_of hwx n2
    have p3 := keeps_of hwx n3
    have p5 := keeps_of hwx n5
    have p6 := keeps_of hwx n6
    have hd3 := Below.chain hd2 hwx
    have l4w := (Array.getElem?_eq_some_iff.1 HRG4.out).1
    have l5w := (Array.getElem?_eq_some_iff.1 HRG5.out).1
    have q4 := (hd3.block _ l4w).trans HRG4.out
    have q5 := (hd3.block _ l5w).trans HRG5.out
    have hq := Below.chain hbr hd3
    clear n1 n2 n3 n5 n6 hwx hd2 hd3 l4w l5w
    have hZ8 : (wordCells (stepsTo shaK ws h k)).toArray.size = 8 := by simp [wordCells_len, HV8.out]
    have HQ4 := hid q4
    have HQ5 := hid q5
    have HQ := hid hq
    have HZ8 := hid hZ8
    clear q4 q5 hq hZ8
    go_wp2_with (refine wpList_store_row rfl 252 _ _ rfl b4 _ rfl rfl 252 _ HQ4.out (by kernel_rfl) HZ8.out (by kernel_rfl) ?_)
    refine ⟨?_, by simp [intOf]; omega⟩
    (first | exact ⟨k + 1, by omega, by go_num, by rw [HS.out]; exact setRow_heap _ _ _ _ _ _ HQ4.out, keep_row _ HQ4.out HQ5.out HN.out.1.symm, below_row _ HQ4.out HQ.out HN.out.2.1⟩ | ((repeat apply Exists.intro); exact ⟨⟨k + 1, by omega, by go_num, by rw [HS.out]; exact setRow_heap _ _ _ _ _ _ HQ4.out, keep_row _ HQ4.out HQ5.out HN.out.1.symm, below_row _ HQ4.out HQ.out HN.out.2.1⟩, rfl⟩))
   ·obtain rfl : k = 64 := by omega
    obtain ⟨wo, rfl⟩ : ∃ wo : World, wo = wr := ⟨_, rfl⟩
    have HBR := hid hbr
    have G4 := hid g4
    have HG0 : Hid (wo.heap[g]? = some (.cells (((mixL h (stepsTo shaK ws h 64) 0).map (Value.int .u32)) ++ rest).toArray t (0, 0))) := hid (by rw [mixL_zero _ HL8.out, hbr.block _ hgl]; exact HG.out)
    have HV : Hid (∀ k, k < 8 → (wordCells (stepsTo shaK ws h 64)).toArray[k]? = some (.int .u32 ((stepsTo shaK ws h 64).getD k 0))) := hid (fun k hk => List.getElem?_toArray.trans (wordCells_get _ k (by rw [HV8.out]; exact hk)))
    have HZ8 : Hid ((wordCells (stepsTo shaK ws h 64)).toArray.size = 8) := hid (by simp [wordCells_len, HV8.out])
    generalize hV : stepsTo shaK ws h 64 = v at *
    clear g4 g5 hbr h64 hV
    go_wp2_with (refine wpList_load_row rfl 252 _ rfl b4 rfl _ _ _ _ G4.out Tryz.underlying252 rfl (by rw [HZ8.out]; kernel_rfl) ?_)
    generalize (wordCells v).toArray = VA at *
    go_loopw [100] (fun i wr => ∃ (k : Nat), k ≤ 8 ∧ i = .int .i64 k ∧ wr.heap[g]? = some (.cells (((mixL h v k).map (Value.int .u32)) ++ rest).toArray t (0, 0)) ∧ ButAt g w wr) (fun i _ => 8 - (intOf i).toNat)
    case atStart => exact ⟨0, by omega, rfl, HG0.out, ButAt.of_below HBR.out⟩
    case round =>
     obtain ⟨k, hk, rfl, hg, hbr⟩ := hrel
     have hgr : g < wr.heap.size := (Array.getElem?_eq_some_iff.1 hg).1
     clear HG0
     by_cases h8 : k < 8
     ·have hix := index_state VA k _ h8 (HV.out k h8)
      have cg : wr.cell? ⟨g, k, none⟩ = some (.int .u32 (h.getD k 0)) := (cell_of_row wr g k _ _ _ hg).trans (List.getElem?_toArray.trans ((List.getElem?_append_left (by simp [mixL_len, h8])).trans (by rw [show ((mixL h v k).map (Value.int .u32))[k]? = some (.int .u32 ((mixL h v k).getD k 0)) from wordCells_get _ k (by rw [mixL_len]; exact h8), mixL_get h v k h8])))
      have HM := hid (mixL_more h v rest k h8)
      have HGR := hid hg
      have HBT := hid hbr
      have k8 : (k : Int) < 8 := by omega
      generalize h.getD k 0 = xh at *
      generalize v.getD k 0 = xv at *
      clear hg hbr
      go_upto_region 12 with fail
      refine wp_region_wq_tail 9 (by kernel_rfl) (by kernel_rfl) ?_
      simp only [List.take_succ_cons, List.take_zero, List.drop_succ_cons, List.drop_zero]
      repeat (refine WQ.step (fun K hK => ?_); go_simp; first | (refine hK _ ?_; clear hK K) | (apply Exists.intro; refine ⟨fun W hW => ?_, hK _ ?_⟩; (first | (first | with_reducible rfl | (have zz0 := Below.keeps hW cg; go_simp; first | rfl | exact ⟨rfl, rfl⟩ | (rw [if_neg (by omega)]; exact ⟨rfl, rfl⟩)))); clear hK K))
      refine WQ.nil ?_
      intro wz hwz
      have hgz := (hwz.block _ hgr).trans HGR.out
      have cz := keeps_of hwz cg
      have fz : wz.frozen? ⟨g, k, none⟩ = false := frozen_of_row wz _ k _ _ hgz
      have HNZ := hid ((heap_setCell_same wz g k _ t (.int .u32 ((xh + xv) % 4294967296)) hgz).trans (by rw [HM.out]))
      have HBZ := hid (ButAt.below HBT.out hwz)
      clear hgz hwz
      go_wp2_with fail
      refine ⟨?_, by simp [intOf]; omega⟩
      (first | exact ⟨k + 1, by omega, by go_num, HNZ.out, HBZ.out.set _ _⟩ | ((repeat apply Exists.intro); exact ⟨⟨k + 1, by omega, by go_num, HNZ.out, HBZ.out.set _ _⟩, rfl⟩))
     ·obtain rfl : k = 8 := by omega
      go_wp2_with fail
      (first | go_end0 | (simp only [Exit.inBlock, Exit.then]; refine bodyPost_ret (results_none rfl _ _ _) rfl ?_) | refine bodyPost_ret (results_none rfl _ _ _) rfl ?_)
      refine ⟨rfl, ?_, hbr⟩
      rw [HCP.out, ← mixL_all]
      exact hg
end Go.Proofs.YtlbipokkdiiaiaaGreatDoor
