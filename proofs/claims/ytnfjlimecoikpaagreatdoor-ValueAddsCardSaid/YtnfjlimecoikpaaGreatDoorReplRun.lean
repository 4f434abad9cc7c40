/- byteStringReplacer's Replace: how long the new text is. -/
import Derived.Test.YtnfjlimecoikpaaGreatDoorMRepl
import Derived.Test.YtnfjlimecoikpaaGreatDoorShelf
namespace Go.Proofs.YtnfjlimecoikpaaGreatDoor
set_option maxRecDepth 100000
open Go.RowKit

theorem count_any (s : List UInt8) (x : UInt8) (w : World) :
    Calls Tryz.prog 174 #[.string (bs s), .string (bs [x])] w fun e w' => e = .returned (.int .i64 (s.count x : Nat)) ∧ w' = w := by
  refine (Tryz.strings_Count_one (bs s) x w).mono ?_
  rintro e w' ⟨rfl, rfl⟩
  exact ⟨rfl, rfl⟩
theorem nil_ne (a : Option Addr) (k : Nat) (W : World) (h : a ≠ none) : (binOp .neq 68 (.slice a 2 k) (.slice none 0 0)).run Tryz.prog W = .ok (.bool true) W := by
  cases a with
  | none => exact absurd rfl h
  | some a => kernel_rfl
theorem nil_eq (W : World) : (binOp .neq 68 (.slice none 0 0) (.slice none 0 0)).run Tryz.prog W = .ok (.bool false) W := by kernel_rfl

theorem ones_at (k : Nat) (h : k < 3) : (strCells (ones (takenB 3)))[k]? = some (.string (bs [takes k])) ∧ takes k ∈ takenB 3 := by
  obtain rfl | rfl | rfl : k = 0 ∨ k = 1 ∨ k = 2 := by omega
  · exact ⟨rfl, by decide⟩
  · exact ⟨rfl, by decide⟩
  · exact ⟨rfl, by decide⟩
set_option maxHeartbeats 4000000 in
theorem run_any (s : List UInt8) (hs : s.length ≤ 1000000000) (lo r : Nat) (w : World) (hB : Built w lo r) :
    Calls Tryz.prog 172 #[.pointer (some ⟨r, 0, none⟩), .string (bs s)] w fun e w' => e = .returned (.string (bs (s.flatMap escB))) ∧ Below w.heap.size w w' := by
  obtain ⟨htab, hlo, n0, cp, h256, hcp, hcm, hln, hn0, hreps⟩ := hB
  have HTab := hid htab
  have Hreps := hid hreps
  clear htab hreps
  obtain ⟨i8, hj, hj0, hj1, hj2⟩ := info_parts u8_info
  have hNle : (s.flatMap escB).length ≤ 2 * s.length := by
    have := sizeB_le s s.length
    rwa [sizeB_end] at this
  unfold maxLen at hcm
  by_cases h24 : 24 ≤ s.length
  · have h24' : (24 : Int) ≤ (s.length : Int) := by omega
    go_enter Tryz.func172, Tryz.ntmps172
    go_wp2_with fail
    go_loopw [5, 6, 32] (fun n c i wr => ∃ k : Nat, k ≤ 3 ∧ i = .int .i64 k ∧ n = .int .i64 (sizeC s k) ∧ c = .bool (anyC s k) ∧ Drawn w wr) (fun _ _ i _ => 3 - (intOf i).toNat)
    case atStart => exact ⟨0, by omega, rfl, by simp [sizeC, takenB], by simp [anyC, takenB], Drawn.refl _⟩
    case round =>
      obtain ⟨k, hk, rfl, rfl, rfl, d, rfl⟩ := hrel
      by_cases hlt : k < 3
      · obtain ⟨hs1, ha1⟩ := sizeC_step s k hlt
        obtain ⟨ho1, hmem⟩ := ones_at k hlt
        have hcell := Hreps.out k _ ho1
        have hcl := count_le s (takes k)
        have hsz := sizeC_le s k hk
        obtain ⟨g, k', ht, hk1, hk2, -, -, -⟩ := HTab.out.has _ hmem
        have hx256 := (takes k).toNat_lt
        have Hs1 := hid hs1
        have Ha1 := hid ha1
        clear hs1 ha1 ho1 hmem
        generalize takes k = x at *
        by_cases hcz : s.count x = 0
        · have q1 : ((s.count x : Int) != 0) = false := neF (by omega)
          go_wp2_with (go_at_call 174; refine (count_any s x _).mono ?_; rintro e w' ⟨rfl, rfl⟩)
          refine ⟨⟨k + 1, by omega, by go_num, ?_, ?_, ⟨d, rfl⟩⟩, by simp [intOf]; omega⟩
          · rw [Hs1.out, hcz]; rfl
          · rw [Ha1.out, hcz]; simp
        · have q1 : ((s.count x : Int) != 0) = true := neT (by omega)
          go_wp2_with (go_at_call 174; refine (count_any s x _).mono ?_; rintro e w' ⟨rfl, rfl⟩)
          any_goals go_quiet (fail)
          any_goals go_wp2_with fail
          refine ⟨⟨k + 1, by omega, by go_num, ?_, ?_, ⟨_, rfl⟩⟩, by simp [intOf]; omega⟩
          · rw [Hs1.out]; go_num
          · have hb : (s.count x != 0) = true := by simp [hcz]
            rw [Ha1.out, hb]; simp
      · obtain rfl : k = 3 := by omega
        rw [sizeC_end s, anyC_end s]
        obtain ⟨N, hN⟩ : ∃ N, (s.flatMap escB).length = N := ⟨_, rfl⟩
        rw [hN] at hNle ⊢
        have HN := hid hN
        clear hN
        have hfl : s.any hit = false → s.flatMap escB = s := flat_same
        cases ha : s.any hit with
        | false =>
          have HE := hid (hfl ha)
          clear hfl
          go_wp2_with fail
          go_ret
          exact ⟨by rw [HE.out]; rfl, Drawn.below ⟨d, rfl⟩⟩
        | true =>
          clear hfl ha
          go_wp2_with (at_make; go_must (refine wpList_make_full _ rfl _ _ 68 rfl w.heap.size 5 i8 (.int .u8 0) 1 Tryz.underlying68 hj hj0 hj1 .i64 .i64 _ _ N rfl rfl rfl rfl (by rw [hj2]; omega) (by unfold maxLen; omega) (Nat.le_refl _) ?_); intro w0 hown0 hgrow0)
          have hBw0 : Below w.heap.size w w0 := (Drawn.below ⟨d, rfl⟩).trans (((Below.refl w.heap.size (w.drewN d)).grown hgrow0 (by simp) (by intro k hk; cases hk)))
          obtain ⟨L0, hL0, hLn⟩ := own_list hown0
          have HL0 := hid (show _ ∧ _ ∧ List.take 0 L0 = Lib.byteCells [] from ⟨hL0, hLn, rfl⟩)
          have HB0 := hid hBw0
          clear hown0 hgrow0 hL0 hLn hBw0
          go_loopw [13, 14] (fun j i wr => ∃ (k : Nat) (L : List Value), k ≤ s.length ∧ i = .int .i64 k ∧ j = .int .i64 ((s.take k).flatMap escB).length ∧ Hid (wr.heap[w.heap.size]? = some (.cells L.toArray 5 (0, 0)) ∧ L.length = N ∧ L.take ((s.take k).flatMap escB).length = Lib.byteCells ((s.take k).flatMap escB)) ∧ Hid (Below w.heap.size w wr)) (fun _ i _ => s.length - (intOf i).toNat)
          case atStart => exact ⟨0, L0, by omega, rfl, rfl, HL0, HB0⟩
          case round =>
            obtain ⟨k, L, hk, rfl, rfl, HL, HB⟩ := hrel
            by_cases hlt : k < s.length
            · have hx256 := s[k].toNat_lt
              have HF := hid (flat_step hlt)
              have hfit := flat_fit hlt
              rw [HN.out] at hfit
              have hrl : r < w.heap.size := HTab.out.lt
              have hTr := HTab.out.past HB.out (Nat.le_refl _)
              obtain ⟨hrow, hLn, hLt⟩ := HL.out
              cases hh : hit s[k] with
              | true =>
                obtain ⟨g, k', ht, hk1, hk2, hg1, -, hgc⟩ := hTr.has _ (mem_of_hit hh)
                have hnn := fun W => nil_ne (some ⟨g, 0, none⟩) k' W (by simp)
                have he1 := esc_hit hh
                rw [he1] at hfit
                obtain ⟨J, hJ⟩ : ∃ J, ((s.take k).flatMap escB).length = J := ⟨_, rfl⟩
                rw [hJ] at hfit hLt
                have hJ1 : J + 2 ≤ N := hfit
                have hJle : J ≤ N := by omega
                have hJne : ¬ N = J := by omega
                have hJne' : ¬ J = N := by omega
                have hadd : ∀ j : Nat, (⟨g, 0, none⟩ : Addr).add j = ⟨g, j, none⟩ := fun j => by unfold Addr.add; split <;> simp_all
                have hxi : (s[k].toNat : Int) < 256 := by omega
                have hJi : (J : Int) ≤ (N : Int) := by omega
                have HJ := hid hJ
                rw [hJ]
                have HLt := hid hLt
                have Hrow := hid hrow
                have He1 := hid he1
                have Hgc := hid hgc
                clear hh he1 hJ hLt hrow hTr hfit hgc
                go_wp2_with fail
                go_region_law (refine step_copy_splice rfl _ _ 68 68 rfl 5 Tryz.underlying68 (by kernel_rfl) (some ⟨w.heap.size, J, none⟩) (some ⟨g, 0, none⟩) (N - J) (N - J) 2 k' rfl rfl w.heap.size J L 5 Hrow.out (Lib.byteCells (escB s[k])) (by rw [byteCells_len, He1.out]; simp only [Nat.min_def]; split <;> omega) (fun _ => ⟨rfl, _, rfl, fun j v hj => by rw [hadd]; exact Hgc.out j v hj⟩) (by rw [byteCells_len, He1.out]; omega) (fun v hv => byteCells_one _ v hv) w.heap.size w (by first | exact HB.out | exact HB.out.drew | exact HB.out.drew.drew | exact HB.out.drew.drew.drew) (Nat.le_refl _) ?_; intro w4 hg4 hb4)
                all_goals try go_wp2_with fail
                all_goals
                  refine ⟨⟨k + 1, splice L J (Lib.byteCells (escB s[k])), by omega, by go_num, ?_, ?_, hid hb4⟩, by simp [intOf]; omega⟩
                  · rw [HF.out, List.length_append, HJ.out, He1.out]; rw [byteCells_len, He1.out]; congr 1; unfold wrap64; omega
                  · rw [HF.out, List.length_append, HJ.out, He1.out]
                    have hlc : (Lib.byteCells (escB s[k])).length = 2 := by rw [byteCells_len, He1.out]
                    refine hid ⟨hg4.out, by rw [length_splice _ _ _ (by rw [hlc]; omega)]; omega, ?_⟩
                    have hl2 : (L.take J ++ Lib.byteCells (escB s[k])).length = J + 2 := by rw [List.length_append, hlc, List.length_take]; omega
                    unfold splice
                    rw [← List.append_assoc, List.take_append_of_le_length (by rw [hl2]; exact Nat.le_refl _), List.take_of_length_le (by rw [hl2]; exact Nat.le_refl _), HLt.out, byteCells_app]
              | false =>
                have ht := hTr.non _ (not_of_hit hh)
                have hnn := nil_eq
                have he1 := esc_not hh
                rw [he1] at hfit
                have Hh := hid he1
                obtain ⟨J, hJ⟩ : ∃ J, ((s.take k).flatMap escB).length = J := ⟨_, rfl⟩
                rw [hJ] at hfit hLt
                have hJ1 : J + 1 ≤ N := hfit
                have HJ := hid hJ
                rw [hJ]
                have hJL : J < L.length := by omega
                have hcJ : wr.cell? ⟨w.heap.size, J, none⟩ = some L[J] := by simp [World.cell?, hrow, hJL]
                have hzJ : wr.frozen? ⟨w.heap.size, J, none⟩ = false := by simp [World.frozen?, hrow]
                have HLt := hid hLt
                have Hrow := hid hrow
                clear hh he1 hJ hLt hrow hTr hfit
                go_wp2_with fail
                refine ⟨⟨k + 1, L.set J (.int .u8 s[k].toNat), by omega, by go_num, ?_, ?_, ?_⟩, by simp [intOf]; omega⟩
                · rw [HF.out, Hh.out, List.length_append, HJ.out]; rfl
                · rw [HF.out, Hh.out, List.length_append, HJ.out]
                  refine hid ⟨?_, by rw [List.length_set]; exact hLn, ?_⟩
                  · rw [setCell_eq_setRow wr _ J L.toArray _ _ _ Hrow.out, setRow_heap wr _ _ _ _ _ Hrow.out]; simp
                  · rw [show J + [s[k]].length = J + 1 from rfl, List.take_succ_eq_append_getElem (by rw [List.length_set]; exact hJL), List.take_set_of_le (Nat.le_refl J), HLt.out, List.getElem_set_self]
                    simp [Lib.byteCells]
                · exact hid (HB.out.setCell (p := ⟨w.heap.size, J, none⟩) (Nat.le_refl _) _)
            · obtain rfl : k = s.length := by omega
              obtain ⟨hrow, hLn, hLt⟩ := HL.out
              rw [List.take_length] at hLt
              have hcv : (convert 68 9 (.slice (some ⟨w.heap.size, 0, none⟩) N N)).run Tryz.prog wr = .ok (.string (bs (s.flatMap escB))) wr := by
                refine run_conv_at (n := N) ⟨by rw [byteCells_len, HN.out]; omega, _, N, rfl, Nat.le_refl _, by unfold maxLen; omega, fun e => (by cases e), fun _ => ⟨w.heap.size, 0, rfl, (Array.getElem?_eq_some_iff.1 hrow).1, fun j u hj => ?_⟩⟩
                have hjl := (List.getElem?_eq_some_iff.1 hj).1
                rw [byteCells_len, HN.out] at hjl
                rw [← hLt, List.getElem?_take, if_pos (by rw [HN.out]; exact hjl)] at hj
                simpa [World.cell?, hrow] using hj
              clear hrow hLn hLt
              go_wp2_with fail
              go_ret
              exact ⟨rfl, HB.out⟩
  · have h24' : ¬ (24 : Int) ≤ (s.length : Int) := by omega
    go_enter Tryz.func172, Tryz.ntmps172
    go_wp2_with fail
    go_loopw [5, 6, 10] (fun n c i wr => ∃ k : Nat, k ≤ s.length ∧ i = .int .i64 k ∧ n = .int .i64 (sizeB s k) ∧ c = .bool ((s.take k).any hit) ∧ Drawn w wr) (fun _ _ i _ => s.length - (intOf i).toNat)
    case atStart => exact ⟨0, by omega, rfl, by simp [sizeB], by simp, Drawn.refl _⟩
    case round =>
      obtain ⟨k, hk, rfl, rfl, rfl, d, rfl⟩ := hrel
      by_cases hlt : k < s.length
      · have Hs1 := hid (sizeB_step hlt)
        have Ha1 := hid (any_step hlt)
        have hsz := sizeB_le s k
        have hx256 := s[k].toNat_lt
        cases hh : hit s[k] with
        | true =>
          obtain ⟨g, k', ht, hk1, hk2, -, -, -⟩ := HTab.out.has _ (mem_of_hit hh)
          have hnn := fun W => nil_ne (some ⟨g, 0, none⟩) k' W (by simp)
          have Hh := hid hh
          clear hh
          go_wp2_with fail
          refine ⟨⟨k + 1, by omega, by go_num, ?_, ?_, ⟨_, rfl⟩⟩, by simp [intOf]; omega⟩
          · rw [Hs1.out, Hh.out]; go_num
          · rw [Ha1.out, Hh.out]; simp
        | false =>
          have ht := HTab.out.non _ (not_of_hit hh)
          have hnn := nil_eq
          have Hh := hid hh
          clear hh
          go_wp2_with fail
          refine ⟨⟨k + 1, by omega, by go_num, ?_, ?_, ⟨_, rfl⟩⟩, by simp [intOf]; omega⟩
          · rw [Hs1.out, Hh.out]; rfl
          · rw [Ha1.out, Hh.out]; simp
      · obtain rfl : k = s.length := by omega
        rw [sizeB_end s, List.take_length]
        obtain ⟨N, hN⟩ : ∃ N, (s.flatMap escB).length = N := ⟨_, rfl⟩
        rw [hN] at hNle ⊢
        have HN := hid hN
        clear hN
        have hfl : s.any hit = false → s.flatMap escB = s := flat_same
        cases ha : s.any hit with
        | false =>
          have HE := hid (hfl ha)
          clear hfl
          go_wp2_with fail
          go_ret
          exact ⟨by rw [HE.out]; rfl, Drawn.below ⟨d, rfl⟩⟩
        | true =>
          clear hfl ha
          go_wp2_with (at_make; go_must (refine wpList_make_full _ rfl _ _ 68 rfl w.heap.size 5 i8 (.int .u8 0) 1 Tryz.underlying68 hj hj0 hj1 .i64 .i64 _ _ N rfl rfl rfl rfl (by rw [hj2]; omega) (by unfold maxLen; omega) (Nat.le_refl _) ?_); intro w0 hown0 hgrow0)
          have hBw0 : Below w.heap.size w w0 := (Drawn.below ⟨d, rfl⟩).trans (((Below.refl w.heap.size (w.drewN d)).grown hgrow0 (by simp) (by intro k hk; cases hk)))
          obtain ⟨L0, hL0, hLn⟩ := own_list hown0
          have HL0 := hid (show _ ∧ _ ∧ List.take 0 L0 = Lib.byteCells [] from ⟨hL0, hLn, rfl⟩)
          have HB0 := hid hBw0
          clear hown0 hgrow0 hL0 hLn hBw0
          go_loopw [13, 14] (fun j i wr => ∃ (k : Nat) (L : List Value), k ≤ s.length ∧ i = .int .i64 k ∧ j = .int .i64 ((s.take k).flatMap escB).length ∧ Hid (wr.heap[w.heap.size]? = some (.cells L.toArray 5 (0, 0)) ∧ L.length = N ∧ L.take ((s.take k).flatMap escB).length = Lib.byteCells ((s.take k).flatMap escB)) ∧ Hid (Below w.heap.size w wr)) (fun _ i _ => s.length - (intOf i).toNat)
          case atStart => exact ⟨0, L0, by omega, rfl, rfl, HL0, HB0⟩
          case round =>
            obtain ⟨k, L, hk, rfl, rfl, HL, HB⟩ := hrel
            by_cases hlt : k < s.length
            · have hx256 := s[k].toNat_lt
              have HF := hid (flat_step hlt)
              have hfit := flat_fit hlt
              rw [HN.out] at hfit
              have hrl : r < w.heap.size := HTab.out.lt
              have hTr := HTab.out.past HB.out (Nat.le_refl _)
              obtain ⟨hrow, hLn, hLt⟩ := HL.out
              cases hh : hit s[k] with
              | true =>
                obtain ⟨g, k', ht, hk1, hk2, hg1, -, hgc⟩ := hTr.has _ (mem_of_hit hh)
                have hnn := fun W => nil_ne (some ⟨g, 0, none⟩) k' W (by simp)
                have he1 := esc_hit hh
                rw [he1] at hfit
                obtain ⟨J, hJ⟩ : ∃ J, ((s.take k).flatMap escB).length = J := ⟨_, rfl⟩
                rw [hJ] at hfit hLt
                have hJ1 : J + 2 ≤ N := hfit
                have hJle : J ≤ N := by omega
                have hJne : ¬ N = J := by omega
                have hJne' : ¬ J = N := by omega
                have hadd : ∀ j : Nat, (⟨g, 0, none⟩ : Addr).add j = ⟨g, j, none⟩ := fun j => by unfold Addr.add; split <;> simp_all
                have hxi : (s[k].toNat : Int) < 256 := by omega
                have hJi : (J : Int) ≤ (N : Int) := by omega
                have HJ := hid hJ
                rw [hJ]
                have HLt := hid hLt
                have Hrow := hid hrow
                have He1 := hid he1
                have Hgc := hid hgc
                clear hh he1 hJ hLt hrow hTr hfit hgc
                go_wp2_with fail
                go_region_law (refine step_copy_splice rfl _ _ 68 68 rfl 5 Tryz.underlying68 (by kernel_rfl) (some ⟨w.heap.size, J, none⟩) (some ⟨g, 0, none⟩) (N - J) (N - J) 2 k' rfl rfl w.heap.size J L 5 Hrow.out (Lib.byteCells (escB s[k])) (by rw [byteCells_len, He1.out]; simp only [Nat.min_def]; split <;> omega) (fun _ => ⟨rfl, _, rfl, fun j v hj => by rw [hadd]; exact Hgc.out j v hj⟩) (by rw [byteCells_len, He1.out]; omega) (fun v hv => byteCells_one _ v hv) w.heap.size w (by first | exact HB.out | exact HB.out.drew | exact HB.out.drew.drew | exact HB.out.drew.drew.drew) (Nat.le_refl _) ?_; intro w4 hg4 hb4)
                all_goals try go_wp2_with fail
                all_goals
                  refine ⟨⟨k + 1, splice L J (Lib.byteCells (escB s[k])), by omega, by go_num, ?_, ?_, hid hb4⟩, by simp [intOf]; omega⟩
                  · rw [HF.out, List.length_append, HJ.out, He1.out]; rw [byteCells_len, He1.out]; congr 1; unfold wrap64; omega
                  · rw [HF.out, List.length_append, HJ.out, He1.out]
                    have hlc : (Lib.byteCells (escB s[k])).length = 2 := by rw [byteCells_len, He1.out]
                    refine hid ⟨hg4.out, by rw [length_splice _ _ _ (by rw [hlc]; omega)]; omega, ?_⟩
                    have hl2 : (L.take J ++ Lib.byteCells (escB s[k])).length = J + 2 := by rw [List.length_append, hlc, List.length_take]; omega
                    unfold splice
                    rw [← List.append_assoc, List.take_append_of_le_length (by rw [hl2]; exact Nat.le_refl _), List.take_of_length_le (by rw [hl2]; exact Nat.le_refl _), HLt.out, byteCells_app]
              | false =>
                have ht := hTr.non _ (not_of_hit hh)
                have hnn := nil_eq
                have he1 := esc_not hh
                rw [he1] at hfit
                have Hh := hid he1
                obtain ⟨J, hJ⟩ : ∃ J, ((s.take k).flatMap escB).length = J := ⟨_, rfl⟩
                rw [hJ] at hfit hLt
                have hJ1 : J + 1 ≤ N := hfit
                have HJ := hid hJ
                rw [hJ]
                have hJL : J < L.length := by omega
                have hcJ : wr.cell? ⟨w.heap.size, J, none⟩ = some L[J] := by simp [World.cell?, hrow, hJL]
                have hzJ : wr.frozen? ⟨w.heap.size, J, none⟩ = false := by simp [World.frozen?, hrow]
                have HLt := hid hLt
                have Hrow := hid hrow
                clear hh he1 hJ hLt hrow hTr hfit
                go_wp2_with fail
                refine ⟨⟨k + 1, L.set J (.int .u8 s[k].toNat), by omega, by go_num, ?_, ?_, ?_⟩, by simp [intOf]; omega⟩
                · rw [HF.out, Hh.out, List.length_append, HJ.out]; rfl
                · rw [HF.out, Hh.out, List.length_append, HJ.out]
                  refine hid ⟨?_, by rw [List.length_set]; exact hLn, ?_⟩
                  · rw [setCell_eq_setRow wr _ J L.toArray _ _ _ Hrow.out, setRow_heap wr _ _ _ _ _ Hrow.out]; simp
                  · rw [show J + [s[k]].length = J + 1 from rfl, List.take_succ_eq_append_getElem (by rw [List.length_set]; exact hJL), List.take_set_of_le (Nat.le_refl J), HLt.out, List.getElem_set_self]
                    simp [Lib.byteCells]
                · exact hid (HB.out.setCell (p := ⟨w.heap.size, J, none⟩) (Nat.le_refl _) _)
            · obtain rfl : k = s.length := by omega
              obtain ⟨hrow, hLn, hLt⟩ := HL.out
              rw [List.take_length] at hLt
              have hcv : (convert 68 9 (.slice (some ⟨w.heap.size, 0, none⟩) N N)).run Tryz.prog wr = .ok (.string (bs (s.flatMap escB))) wr := by
                refine run_conv_at (n := N) ⟨by rw [byteCells_len, HN.out]; omega, _, N, rfl, Nat.le_refl _, by unfold maxLen; omega, fun e => (by cases e), fun _ => ⟨w.heap.size, 0, rfl, (Array.getElem?_eq_some_iff.1 hrow).1, fun j u hj => ?_⟩⟩
                have hjl := (List.getElem?_eq_some_iff.1 hj).1
                rw [byteCells_len, HN.out] at hjl
                rw [← hLt, List.getElem?_take, if_pos (by rw [HN.out]; exact hjl)] at hj
                simpa [World.cell?, hrow] using hj
              clear hrow hLn hLt
              go_wp2_with fail
              go_ret
              exact ⟨rfl, HB.out⟩
end Go.Proofs.YtnfjlimecoikpaaGreatDoor
