/- The document's row of texts, walked. -/
import Derived.Test.YtilkneajohpgiaaDoorPackPlain
import Derived.Test.YtilkneajohpgiaaDoorBuilder
namespace Go.Proofs.YtilkneajohpgiaaDoor
open Go.RowKit

set_option maxHeartbeats 400000 in
theorem digits_small (n : Nat) (w : World) (hn : n < 10) :
    Calls Tryd.prog 29 #[.int .i64 n] w fun e w' => e = .returned (.string (bs (dig n))) ∧ Below w.heap.size w w' := by
  go_enter Tryd.func29, Tryd.ntmps29
  have hcv := run_conv_one 47 9 5 5 Tryd.underlying47 Tryd.underlying5 Tryd.underlying9
  go_wp2
  go_ret
  exact ⟨by rw [dig_lt hn]; rfl, (Below.refl _ _).alloc (Nat.le_refl _) _⟩
set_option maxHeartbeats 400000 in
theorem digits_any (k : Nat) : ∀ (n : Int) (w : World), n ≤ k → 0 ≤ n → n ≤ 9223372036854775807 →
    Calls Tryd.prog 29 #[.int .i64 n] w fun e w' => e = .returned (.string (bs (dig n.toNat))) ∧ Below w.heap.size w w' := by
  induction k with
  | zero =>
    intro n w hk h0 hm
    obtain rfl : n = 0 := by omega
    exact digits_small 0 w (by omega)
  | succ k ih =>
    intro n w hk h0 hm
    by_cases hn : n < 10
    · obtain ⟨m, rfl⟩ := Int.eq_ofNat_of_zero_le h0
      exact digits_small m w (by omega)
    · have Ih := hid ih; clear ih
      go_enter Tryd.func29, Tryd.ntmps29
      go_wp2_with (go_at_call 29; refine (Ih.out _ _ (by omega) (by omega) (by omega)).mono ?_; rintro e w' ⟨rfl, hb⟩)
      · have h1 := dig_len (n / 10).toNat
        have h2 := dig_len (n % 10).toNat
        omega
      · go_ret
        refine ⟨?_, ?_⟩
        · rw [show n.toNat = n.toNat from rfl, dig_ge' (n := n.toNat) (by omega), show (n / 10).toNat = n.toNat / 10 by omega, show (n % 10).toNat = n.toNat % 10 by omega]; rfl
        · exact Below.chain (by assumption) (by assumption)

set_option maxHeartbeats 400000 in
theorem refRow_any (v0 : Value) (n0 : Nat) (ss : List (List UInt8)) (w : World) (h0 : SliceAt w 1 v0 n0 (strCells ss)) (hbig : (rowL ss).length ≤ 4611686018427387904) :
    Calls Tryd.prog 15 #[v0] w fun e w' => e = .returned (.string (bs (rowL ss))) ∧ Below w.heap.size w w' := by
  have h00 := h0
  obtain ⟨rfl, a0, c0, rfl, hc0, hm0, hx0⟩ := h0.str
  clear h0
  unfold maxLen at hm0
  go_enter Tryd.func15, Tryd.ntmps15
  go_wp2
  go_loopw [3, 8] (fun o i wr => ∃ k : Nat, k ≤ ss.length ∧ i = .int .i64 k ∧ o = .string (bs (rowL (ss.take k))) ∧ Below w.heap.size w wr) (fun _ i _ => ss.length - (intOf i).toNat)
  case atStart => exact ⟨0, by omega, rfl, rfl, Below.refl _ _⟩
  case round =>
    obtain ⟨k, hk, rfl, rfl, hbw⟩ := hrel
    obtain ⟨-, a1, c1, hv, -, -, hx1⟩ := (h00.below hbw (Nat.le_refl _)).str
    by_cases hlt : k < ss.length
    · obtain ⟨b0, o0, rfl, hb0, hcl0⟩ := hx1 k hlt
      have e0 := hcl0 k hlt
      obtain ⟨rfl, rfl⟩ : a0 = some ⟨b0, o0, none⟩ ∧ c0 = c1 := by simpa using hv
      clear hcl0 hx1 hx0 hv
      have hr1 : (rowL (ss.take (k + 1))).length ≤ (rowL ss).length := rowL_take_le _ _
      have Hr := hid (rowL_take_succ ss k hlt)
      have hr2 : (rowL (ss.take k)).length + ((dig ss[k].length).length + 1 + ss[k].length) ≤ (rowL ss).length := by rw [Hr.out] at hr1; simp at hr1; omega
      go_wp2_with (go_at_call 29; refine (digits_any ss[k].length _ _ (Int.le_refl _) (by omega) (by omega)).mono ?_; rintro e w' ⟨rfl, hb⟩)
      exact ⟨⟨k + 1, by omega, by go_num, by rw [Hr.out], hbw.trans (hb.mono hbw.size)⟩, by simp [intOf]; omega⟩
    · go_wp2
      go_ret
      exact ⟨by rw [List.take_of_length_le (by omega)]; rfl, hbw⟩

theorem pstr_info : (Tryd.prog.info? 9).map (fun i => (i.zero, i.size, i.bytes)) = some (some (.string ⟨#[]⟩), 1, 16) := by kernel_rfl

end Go.Proofs.YtilkneajohpgiaaDoor
