/- A text's bytes, and what stands behind them: the document's whole. -/
import Derived.Test.YtilkneajohpgiaaDoorShaWord
import Derived.Test.YtilkneajohpgiaaDoorOwnAt
namespace Go.Proofs.YtilkneajohpgiaaDoor
set_option maxRecDepth 100000
open Go.RowKit

/-- '[]byte(s)'. -/
theorem wpList_conv_own {w : World} {ops : Array Oper} {rest : List Oper} {o : Oper} {a : Act} {Q : Exit → Act → World → Prop} (hg : o.guard = none) (x : Operand)
    (ho : o.op = .convert 9 47 x) (l : List UInt8) (hl : l.length ≤ 1000000000000) (hx : a.eval x = .string (bs l))
    (h : ∀ (v : Value) (w' : World), OwnAt w' w.heap.size 5 v l.length (Lib.byteCells l) → Below w.heap.size w w' → w.heap.size < w'.heap.size → wpList Tryd.prog ops Q rest (a.put o.dst v) w') : wpList Tryd.prog ops Q (o :: rest) a w := by
  refine wpList_plain hg fun K hK => ?_
  have hrun := run_bytes_of_string (P := Tryd.prog) w 9 47 5 (bs l) Tryd.underlying9 Tryd.underlying47 Tryd.underlying5
  have hk1 := grownCap_ge w (bs l).size 0 5
  have hk2 := grownCap_le_maxLen w (bs l).size 0 5 (by rw [bs_size]; unfold maxLen; omega)
  generalize hk : grownCap w (bs l).size 0 5 = k at hrun hk1 hk2
  rw [bs_size] at hk1
  have hsz : (bytesRow (bs l) k).size = k := by
    have e : (bs l).data.size = l.length := rfl
    simp [bytesRow, e, bs_size]; omega
  have hown : OwnAt (w.drew.alloc (.cells (bytesRow (bs l) k) 5 ((bytesRow (bs l) k).size, (bytesRow (bs l) k).size + 1))) w.heap.size 5 (.slice (some ⟨w.heap.size, 0, none⟩) l.length k) l.length (Lib.byteCells l) := by
    refine ⟨byteCells_len l, .inr ⟨w.heap.size, 0, k, _, _, rfl, Nat.le_refl _, heap_alloc_new w.drew _, fun j hj h => ?_, hk1, hk2, by omega, ?_⟩⟩
    · have := h.1; simp only at this; omega
    · rw [List.drop_zero]
      have e : (bytesRow (bs l) k).toList = Lib.byteCells l ++ List.replicate (k - l.length) (.int .u8 0) := by
        simp [bytesRow, Lib.byteCells, bs_size]; rfl
      rw [e]
      exact List.take_left' (byteCells_len l)
  unfold Oper.wp
  simp only [execOp, ho, hx, Sem.run_bind, hrun, Result.andThen_ok]
  refine hK _ _ (h _ _ hown ((Below.refl _ w).drew.alloc (Nat.le_refl _) _) ?_)
  show w.heap.size < (w.heap.push _).size
  simp
theorem pad_more (l : List UInt8) (k : Nat) : l ++ 128 :: List.replicate (k + 1) 0 = (l ++ 128 :: List.replicate k 0) ++ [0] := by
  rw [List.replicate_succ', List.append_assoc, List.cons_append]
theorem byteCells_snoc (l : List UInt8) (c : UInt8) : Lib.byteCells (l ++ [c]) = Lib.byteCells l ++ [.int .u8 c.toNat] := by simp [Lib.byteCells]

set_option maxHeartbeats 4000000 in
theorem rwhole_any (l : List UInt8) (hl : l.length ≤ 1000000000) (w : World) : Calls Tryd.prog 27 #[.string (bs l)] w fun e w' => ∃ v, e = .returned v ∧ SliceAt w' 1 v (padL l).length (Lib.byteCells (padL l)) ∧ Below w.heap.size w w' := by
  obtain ⟨i0, hi, hz0, hz1, hz2⟩ := info_parts u8_info
  go_enter Tryd.func27, Tryd.ntmps27
  go_upto_region 1 with fail
  go_wp2_with first
    | (refine wpList_conv_own rfl _ rfl l (by omega) rfl ?_; intro v1 w1 hown1 hb1 hlt1; have hs1 := hb1.size; clear hlt1)
    | (at_builtin; go_must (refine wpList_append_at _ rfl _ _ 47 rfl w.heap.size 5 i0 (.int .u8 0) 1 Tryd.underlying47 hi hz0 hz1 hz2 rfl _ _ _ rfl (OwnAt.alloc hown1 _) ⟨w1.heap.size, 0, none⟩ 1 1 [.int .u8 (128)] rfl rfl ?c1 ?c2 ?c3 ?c4 ?c5 ?_))
  case c1 => exact new_cells _ #[_] _ _
  case c2 => intro u hu; simp at hu; subst hu; rfl
  case c3 => unfold maxLen; omega
  case c4 => omega
  case c5 => simp; omega
  intro v2 w2 hown2 hgrow2
  have hb2 : Below w.heap.size w w2 := (hb1.alloc (by omega) _).grown hgrow2 (by simp; omega) (fun k hk => (hown1.lt k hk).1)
  have HO2 : Hid (OwnAt w2 w.heap.size 5 v2 (l.length + 1) (Lib.byteCells (l ++ 128 :: List.replicate 0 0))) := hid (by simpa [Lib.byteCells] using hown2)
  clear hown1 hown2 hgrow2 hb1 hs1
  obtain ⟨Z, hZ⟩ : ∃ Z, Z = (119 - l.length % 64) % 64 := ⟨_, rfl⟩
  have HZ := hid hZ
  have hZ64 : Z < 64 := by omega
  clear hZ
  go_wp2_with fail
  go_loopw [3] (fun o wr => ∃ (k N : Nat), k ≤ Z ∧ N ≤ l.length + 1 + k ∧ l.length + 1 + k ≤ N ∧ OwnAt wr w.heap.size 5 o N (Lib.byteCells (l ++ 128 :: List.replicate k 0)) ∧ Below w.heap.size w wr) (fun o _ => Z + l.length + 1 - (match o with | .slice _ n _ => n | _ => 0))
  case atStart => exact ⟨0, l.length + 1, by omega, by omega, by omega, HO2.out, hb2⟩
  case round =>
    obtain ⟨k, N, hk, hN1, hN2, hown, hbr⟩ := hrel
    obtain ⟨oa, oc, rfl, hnc, hcm⟩ := hown.form
    have hwr := hbr.size
    clear HO2
    unfold maxLen at hcm
    by_cases hkz : k < Z
    · have q1 : (((N : Int) % 64) != 56) = true := neT (by have := HZ.out; omega)
      have q2 : ((Int.tmod (N : Int) 64) != 56) = true := neT (by have := HZ.out; rw [Int.tmod_eq_emod_of_nonneg (by omega)]; omega)
      go_wp2_with (at_builtin; go_must (refine wpList_append_at _ rfl _ _ 47 rfl w.heap.size 5 i0 (.int .u8 0) 1 Tryd.underlying47 hi hz0 hz1 hz2 rfl _ _ _ rfl (OwnAt.alloc hown _) ⟨wr.heap.size, 0, none⟩ 1 1 [.int .u8 (0)] rfl rfl ?d1 ?d2 ?d3 ?d4 ?d5 ?_))
      case d1 => exact new_cells _ #[_] _ _
      case d2 => intro u hu; simp at hu; subst hu; rfl
      case d3 => unfold maxLen; omega
      case d4 => omega
      case d5 => simp; omega
      intro v3 w3 hown3 hgrow3
      have hb3 : Below w.heap.size w w3 := (hbr.alloc (by omega) _).grown hgrow3 (by simp; omega) (fun k hk => (hown.lt k hk).1)
      clear hgrow3
      obtain ⟨a3, c3, rfl, -, -⟩ := hown3.form
      go_wp2_with fail
      refine ⟨⟨k + 1, N + 1, by omega, by omega, by omega, ?_, hb3⟩, by simp; omega⟩
      rw [pad_more, byteCells_snoc]; exact hown3
    · obtain rfl : Z = k := by omega
      have q1 : (((N : Int) % 64) != 56) = false := neF (by have := HZ.out; omega)
      have q2 : ((Int.tmod (N : Int) 64) != 56) = false := neF (by have := HZ.out; rw [Int.tmod_eq_emod_of_nonneg (by omega)]; omega)
      have HOw := hid hown
      have HQ := hid hnc
      have q3 : ((l.length : Int) * 8) % 18446744073709551616 = (l.length : Int) * 8 := by omega
      go_wp2_with fail
      obtain ⟨wo, rfl⟩ : ∃ wo : World, wo = wr := ⟨_, rfl⟩
      clear hown hnc q1 q2
      go_loopw [3, 5] (fun o i wr => ∃ (k M : Nat), k ≤ 8 ∧ i = .int .i64 (7 - (k : Int)) ∧ M ≤ N + k ∧ N + k ≤ M ∧ OwnAt wr w.heap.size 5 o M (Lib.byteCells (l ++ 128 :: (List.replicate Z 0 ++ lenTo l.length k))) ∧ Below w.heap.size w wr) (fun _ i _ => (intOf i + 1).toNat)
      case atStart => exact ⟨0, N, by omega, rfl, by omega, by omega, by rw [lenTo, List.append_nil]; exact HOw.out, hbr⟩
      case round =>
        obtain ⟨k, M, hk, rfl, hM1, hM2, hown, hbr2⟩ := hrel
        obtain ⟨oa2, oc2, rfl, hnc, hcm2⟩ := hown.form
        have hwr2 := hbr2.size
        unfold maxLen at hcm2
        clear HOw
        by_cases h8 : k < 8
        · obtain ⟨j, hj⟩ : ∃ j, j = 7 - k := ⟨_, rfl⟩
          have hij : 7 - (k : Int) = (j : Int) := by omega
          have hij2 : (j : Int) - 1 = 7 - ((k + 1 : Nat) : Int) := by omega
          have hj7 : j ≤ 7 := by omega
          have HN : Hid (Lib.byteCells (l ++ 128 :: (List.replicate Z 0 ++ lenTo l.length (k + 1))) = Lib.byteCells (l ++ 128 :: (List.replicate Z 0 ++ lenTo l.length k)) ++ [.int .u8 (((l.length : Int) * 8) / 2 ^ (8 * j) % 256)]) := hid (by rw [lenTo, ← List.append_assoc, ← List.cons_append, ← List.append_assoc, byteCells_snoc, byte_of, ← hj]; congr 2; rw [Int.natCast_ediv, Nat.mul_comm]; simp)
          rw [hij]
          have HJ := hid hij2
          clear hij hij2 hj
          go_wp2_with (at_builtin; go_must (refine wpList_append_at _ rfl _ _ 47 rfl w.heap.size 5 i0 (.int .u8 0) 1 Tryd.underlying47 hi hz0 hz1 hz2 rfl _ _ _ rfl (OwnAt.alloc hown _) ⟨wr.heap.size, 0, none⟩ 1 1 [.int .u8 ((l.length : Int) * 8 / 2 ^ (8 * j) % 256)] rfl rfl ?e1 ?e2 ?e3 ?e4 ?e5 ?_))
          case e1 => exact new_cells _ #[_] _ _
          case e2 => intro u hu; simp at hu; subst hu; rfl
          case e3 => unfold maxLen; omega
          case e4 => omega
          case e5 => simp; omega
          intro v3 w3 hown3 hgrow3
          have hb3 : Below w.heap.size w w3 := (hbr2.alloc (by omega) _).grown hgrow3 (by simp; omega) (fun k hk => (hown.lt k hk).1)
          clear hgrow3
          go_wp2_with fail
          exact ⟨⟨k + 1, M + 1, by omega, by rw [← HJ.out], by omega, by omega, by rw [HN.out]; exact hown3, hb3⟩, by simp [intOf]⟩
        · obtain rfl : k = 8 := by omega
          go_wp2_with fail
          go_ret
          refine ⟨_, rfl, ?_, hbr2⟩
          have hs := hown.sliceAt
          have e : l ++ 128 :: (List.replicate Z 0 ++ lenTo l.length 8) = padL l := by unfold padL zerosL lenL; rw [HZ.out, List.append_assoc, List.cons_append]
          rw [e] at hs
          have hl2 := hs.1
          rw [byteCells_len] at hl2
          rw [show (padL l).length = M by omega]
          exact hs
end Go.Proofs.YtilkneajohpgiaaDoor
