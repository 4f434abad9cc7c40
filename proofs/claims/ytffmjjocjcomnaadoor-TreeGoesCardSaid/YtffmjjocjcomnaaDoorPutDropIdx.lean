/- The walks of tree.Drop's function and of slices.IndexFunc with it. -/
import Derived.Test.YtffmjjocjcomnaaDoorPutRefDrop
namespace Go.Proofs.YtffmjjocjcomnaaDoor
open Go.RowKit

theorem dclo_any (f : FileL) (p : List UInt8) (q : Nat) (w : World) (hq : w.cell? ⟨q, 0, none⟩ = some (.string (bs p))) (hqs : q < w.heap.size) (b : Bool) (h : (f.1 == p) = b) :
    Calls Tryd.prog 40 #[.agg #[.string (bs f.1), .string (bs f.2)], .pointer (some ⟨q, 0, none⟩)] w fun e w' => e = .returned (.bool b) ∧ Below w.heap.size w w' := by
  have hq2 : ∀ o, (w.alloc o).cell? ⟨q, 0, none⟩ = some (.string (bs p)) := fun o => (((Below.refl w.heap.size w).alloc (Nat.le_refl _) o).cell hqs).trans hq
  clear hq
  go_enter Tryd.func40, Tryd.ntmps40
  go_wp2_with fail
  go_ret
  exact ⟨rfl, (Below.refl _ _).alloc (Nat.le_refl _) _⟩

set_option maxHeartbeats 1000000 in
theorem didx_any (fs : List FileL) (p : List UInt8) (q : Nat) (v0 : Value) (n0 : Nat) (w : World) (hq : w.cell? ⟨q, 0, none⟩ = some (.string (bs p))) (hqs : q < w.heap.size) (h0 : SliceAt w 2 v0 n0 (fileCells fs)) :
    Calls Tryd.prog 30 #[v0, .func (.func 40) #[] #[.pointer (some ⟨q, 0, none⟩)]] w fun e w' => e = .returned (.int .i64 (idxFrom p 0 fs)) ∧ Below w.heap.size w w' := by
  have h00 := h0
  have Hq := hid (fun W (hW : Below w.heap.size w W) => (hW.cell hqs).trans hq)
  clear hq
  obtain ⟨rfl, a0, c0, rfl, hc0, hm0, -⟩ := h0.files
  clear h0
  unfold maxLen at hm0
  go_enter Tryd.func30, Tryd.ntmps30
  go_wp2_with fail
  go_loopw [8] (fun i wr => ∃ (k : Nat), k ≤ fs.length ∧ i = .int .i64 k ∧ idxFrom p 0 fs = idxFrom p k (fs.drop k) ∧ Below w.heap.size w wr) (fun i _ => fs.length - (intOf i).toNat)
  case atStart => exact ⟨0, by omega, rfl, rfl, Below.refl _ _⟩
  case round =>
    obtain ⟨k, hk, rfl, hg, hbw⟩ := hrel
    have hsz := hbw.size
    have Hg := hid hg; clear hg
    by_cases hlt : k < fs.length
    · obtain ⟨-, a1, c1, hv, -, -, hx1⟩ := (h00.below hbw (Nat.le_refl _)).files
      obtain ⟨b0, o0, rfl, hb0, hcl0⟩ := hx1 k hlt
      obtain ⟨rfl, rfl⟩ : a0 = some ⟨b0, o0, none⟩ ∧ c0 = c1 := by simpa using hv
      have e0 := (hcl0 k hlt).1
      have e1 := (hcl0 k hlt).2
      clear hcl0 hx1 hv
      have Hd := hid (drop_at fs k hlt)
      obtain ⟨b, hb⟩ : ∃ b, (fs[k].1 == p) = b := ⟨_, rfl⟩
      have Hc := hid (dclo_any fs[k] p q wr (Hq.out wr hbw) (by omega) b hb)
      have Hb := hid hb; clear hb
      go_wp2_with fail
      refine Hc.out.mono ?_
      rintro e w1 ⟨rfl, hb1⟩
      have hb2 := hbw.trans (hb1.mono hsz)
      cases b with
      | true =>
        go_wp2_with fail
        go_ret
        exact ⟨by rw [Hg.out, Hd.out, idxFrom, if_pos Hb.out]; rfl, hb2⟩
      | false =>
        go_wp2_with fail
        refine ⟨⟨k + 1, by omega, by go_num, ?_, hb2⟩, by simp [intOf]; omega⟩
        rw [Hg.out, Hd.out, idxFrom, if_neg (by rw [Hb.out]; decide)]
    · go_wp2_with fail
      go_ret
      exact ⟨by rw [Hg.out, List.drop_eq_nil_of_le (by omega)]; rfl, hbw⟩
end Go.Proofs.YtffmjjocjcomnaaDoor
