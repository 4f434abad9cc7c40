/- The walk of pack.Row. -/
import Derived.Test.YtilkneajohpgiaaDoorRowRef
namespace Go.Proofs.YtilkneajohpgiaaDoor
open Go.RowKit

theorem itoa_any (n : Nat) (w : World) (hn : n ≤ 9223372036854775807) (ht : PowTab w) :
    Calls Tryd.prog 22 #[.int .i64 n] w fun e w' => e = .returned (.string (bs (dig n))) ∧ Below w.heap.size w w' := by
  refine (Tryd.strconv_Itoa n (by omega) (by omega) w ht).mono ?_
  rintro e w' ⟨rfl, k, os, rfl⟩
  exact ⟨by rw [itoa_nat]; rfl, grow_below w k os⟩

set_option maxHeartbeats 400000 in
theorem row_any (v0 : Value) (n0 : Nat) (ss : List (List UInt8)) (w : World) (h0 : SliceAt w 1 v0 n0 (strCells ss)) (ht : PowTab w) (hbig : (rowL ss).length ≤ 1000000000000) :
    Calls Tryd.prog 12 #[v0] w fun e w' => e = .returned (.string (bs (rowL ss))) ∧ Below w.heap.size w w' := by
  have h00 := h0
  obtain ⟨rfl, a0, c0, rfl, hc0, hm0, hx0⟩ := h0.str
  clear h0 hx0
  unfold maxLen at hm0
  go_enter Tryd.func12, Tryd.ntmps12
  go_wp2
  go_loopw [8] (fun i wr => ∃ k : Nat, k ≤ ss.length ∧ i = .int .i64 k ∧ Lib.IsBuilderF 49 5 w.heap.size w.heap.size (Lib.byteCells (rowL (ss.take k))) wr ∧ Below w.heap.size w wr) (fun i _ => ss.length - (intOf i).toNat)
  case atStart => exact ⟨0, by omega, rfl, isBuilder_fresh w _ (Nat.le_refl _), (Below.refl _ _).alloc (Nat.le_refl _) _⟩
  case round =>
    obtain ⟨k, hk, rfl, hbd, hbw⟩ := hrel
    obtain ⟨-, a1, c1, hv, -, -, hx1⟩ := (h00.below hbw (Nat.le_refl _)).str
    have hsz := hbw.size
    by_cases hlt : k < ss.length
    · obtain ⟨b0, o0, rfl, hb0, hcl0⟩ := hx1 k hlt
      have e0 := hcl0 k hlt
      obtain ⟨rfl, rfl⟩ : a0 = some ⟨b0, o0, none⟩ ∧ c0 = c1 := by simpa using hv
      clear hcl0 hx1 hv
      have hr1 : (rowL (ss.take (k + 1))).length ≤ (rowL ss).length := rowL_take_le _ _
      have Hr := hid (rowL_take_succ ss k hlt)
      have hr2 : (rowL (ss.take k)).length + ((dig ss[k].length).length + 1 + ss[k].length) ≤ (rowL ss).length := by rw [Hr.out] at hr1; simp at hr1; omega
      go_wp2_with (go_at_call 22; refine (itoa_any _ _ (by omega) (ht.below hbw)).mono ?_; rintro e w1 ⟨rfl, hb1⟩)
      have s1 := hb1.size
      refine (writeString_l _ _ _ _ _ (isBuilder_below hbd hb1) (by omega) (by omega)).mono ?_
      rintro e w2 ⟨rfl, hd2, hb2, -⟩
      have s2 := hb2.size
      go_wp2_with fail
      refine (writeByte_l _ _ _ 58 _ hd2 (by simp; omega) (by omega)).mono ?_
      rintro e w3 ⟨rfl, hd3, hb3, -⟩
      have s3 := hb3.size
      go_wp2_with fail
      refine (writeString_l _ _ _ _ _ hd3 (by simp; omega) (by omega)).mono ?_
      rintro e w4 ⟨rfl, hd4, hb4, -⟩
      go_wp2
      refine ⟨⟨k + 1, by omega, by go_num, ?_, ((hbw.trans (hb1.mono hsz)).trans hb2).trans (hb3.trans hb4)⟩, by simp [intOf]; omega⟩
      rw [Hr.out]; simpa using hd4
    · go_wp2_with fail
      refine (string_l _ _ _ _ hbd hsz).mono ?_
      rintro e w1 ⟨rfl, -, hb1⟩
      go_wp2
      go_ret
      exact ⟨by rw [List.take_of_length_le (by omega)]; rfl, hbw.trans hb1⟩
end Go.Proofs.YtilkneajohpgiaaDoor
