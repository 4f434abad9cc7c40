/- The program's sum of texts. -/
import Derived.Test.YtilkneajohpgiaaDoorShaHSum
namespace Go.Proofs.YtilkneajohpgiaaDoor
set_option maxRecDepth 100000
open Go.RowKit

theorem joinTo (ss : List (List UInt8)) (k : Nat) (h : k < ss.length) : (ss.take (k + 1)).flatten = (ss.take k).flatten ++ ss[k] := by
  rw [List.take_succ_eq_append_getElem h, List.flatten_append]; simp
theorem join_le (ss : List (List UInt8)) (k : Nat) : (ss.take k).flatten.length ≤ ss.flatten.length := by
  have : ss.flatten = (ss.take k).flatten ++ (ss.drop k).flatten := by rw [← List.flatten_append, List.take_append_drop]
  rw [this, List.length_append]; omega
set_option maxHeartbeats 1000000 in
theorem psum_any (vs : Value) (n0 : Nat) (ss : List (List UInt8)) (w : World) (hs : SliceAt w 1 vs n0 (strCells ss)) (hn : ss.flatten.length ≤ 1000000000) :
    Calls Tryd.prog 11 #[vs] w fun e w' => e = .returned (.agg (digA (foldB shaK shaH (padL ss.flatten)) 32)) ∧ Below w.heap.size w w' := by
  obtain ⟨rfl, va, vc, rfl, hvc, hvm, hx⟩ := hs.str
  have HX := hid hx
  unfold maxLen at hvm
  clear hs hx
  go_enter Tryd.func11, Tryd.ntmps11
  go_upto_region 1 with fail
  obtain ⟨Z, hZ⟩ : ∃ Z : Obj, Z = (Obj.cells (digA [] 0) 26) := ⟨_, rfl⟩
  rw [show (Obj.cells #[Value.int IntKind.u8 0, Value.int IntKind.u8 0, Value.int IntKind.u8 0, Value.int IntKind.u8 0, Value.int IntKind.u8 0, Value.int IntKind.u8 0, Value.int IntKind.u8 0, Value.int IntKind.u8 0, Value.int IntKind.u8 0, Value.int IntKind.u8 0, Value.int IntKind.u8 0, Value.int IntKind.u8 0, Value.int IntKind.u8 0, Value.int IntKind.u8 0, Value.int IntKind.u8 0, Value.int IntKind.u8 0, Value.int IntKind.u8 0, Value.int IntKind.u8 0, Value.int IntKind.u8 0, Value.int IntKind.u8 0, Value.int IntKind.u8 0, Value.int IntKind.u8 0, Value.int IntKind.u8 0, Value.int IntKind.u8 0, Value.int IntKind.u8 0, Value.int IntKind.u8 0, Value.int IntKind.u8 0, Value.int IntKind.u8 0, Value.int IntKind.u8 0, Value.int IntKind.u8 0, Value.int IntKind.u8 0, Value.int IntKind.u8 0] 26) = Z by rw [hZ]; rfl]
  obtain ⟨W0, hW0⟩ : ∃ x, x = w.alloc Z := ⟨_, rfl⟩
  have hb0 : Below w.heap.size w W0 := by rw [hW0]; exact below_new w Z
  have hR0 : W0.heap[w.heap.size]? = some (.cells (digA [] 0) 26 (0, 0)) := by rw [hW0, ← hZ]; exact heap_alloc_new w Z
  have hs0 : W0.heap.size = w.heap.size + 1 := by rw [hW0]; simp
  rw [← hW0]
  have HB0 := hid hb0
  have HR0 := hid hR0
  have HS0 := hid hs0
  clear hW0 hZ hb0 hR0 hs0
  go_wp2_with (go_at_call 18; refine (new_hash _).mono ?_; rintro e w1 ⟨hb, rfl, hh, hb1⟩)
  have HH := hid hh
  have HB1 := hid hb1
  clear hh hb1
  go_loopw [9] (fun i wr => ∃ (k : Nat), k ≤ ss.length ∧ i = .int .i64 k ∧ HashIs wr W0.heap.size hb (ss.take k).flatten ∧ Below W0.heap.size W0 wr) (fun i _ => ss.length - (intOf i).toNat)
  case atStart => exact ⟨0, by omega, rfl, HH.out, HB1.out⟩
  case round =>
    obtain ⟨k, hk, rfl, hh, hbr⟩ := hrel
    have HHr := hid hh
    have HBr := hid hbr
    clear HH hh hbr
    by_cases hlt : k < ss.length
    · obtain ⟨g, o, rfl, hgl, hcl⟩ := HX.out k hlt
      have ck := keeps_of HBr.out (keeps_of HB0.out (hcl k hlt)) |> fun h => h
      have HJ := hid (joinTo ss k hlt)
      have hle := join_le ss (k + 1)
      have HA := hid (add_any W0.heap.size hb (ss.take k).flatten ss[k] (by rw [← HJ.out]; omega) wr HHr.out)
      rw [← HJ.out] at HA
      generalize ss[k] = s at *
      clear hcl
      go_wp2_with (go_at_call 19; refine (HA.out).mono ?_; rintro e w2 ⟨rfl, hh2, hb2⟩)
      refine ⟨?_, by simp [intOf]; omega⟩
      (first | exact ⟨k + 1, by omega, by go_num, hh2, HBr.out.trans hb2⟩ | ((repeat apply Exists.intro); exact ⟨⟨k + 1, by omega, by go_num, hh2, HBr.out.trans hb2⟩, rfl⟩))
    · obtain rfl : k = ss.length := by omega
      rw [List.take_length] at HHr
      have HF := hid (hsum_any W0.heap.size hb ss.flatten hn wr HHr.out)
      have e9 : ((sumL ss.flatten).map (Value.int .u8)).toArray = digA (foldB shaK shaH (padL ss.flatten)) 32 := (digA_all _).symm
      rw [e9] at HF
      generalize hG : foldB shaK shaH (padL ss.flatten) = G at *
      have HGq := hid hG
      clear e9 hG
      obtain ⟨wo, rfl⟩ : ∃ wo : World, wo = wr := ⟨_, rfl⟩
      go_wp2_with first
        | (go_at_call 20; refine (HF.out).mono ?_; rintro e w5 ⟨rfl, hb5⟩; have hg5 := ((Below.chain HBr.out hb5).block w.heap.size (by have := HS0.out; omega)).trans HR0.out)
        | (refine wpList_store_dig rfl _ _ rfl w.heap.size G 32 rfl rfl _ hg5 rfl ?_; intro w6 hg6 hs6 ho6 z1 z2 z3)
      have hB : Below w.heap.size w w5 := HB0.out.trans ((Below.chain HBr.out hb5).mono (by have := HS0.out; omega))
      refine bodyPost_ret (results_cell_row rfl _ _ w.heap.size _ _ _ _ rfl hg6 Tryd.underlying26 rfl (by rw [digA_size]; exact dig_info)) rfl ⟨by rw [HGq.out], ?_⟩
      exact ⟨z1.trans hB.os, z2.trans hB.tape, z3.trans hB.output, by rw [hs6]; exact hB.size, fun k hk => by rw [ho6 k (by omega)]; exact hB.block k hk⟩
end Go.Proofs.YtilkneajohpgiaaDoor
