/- The chapter's example. -/
import Derived.Test.YtijgcoedohhlnaaGreatDoorLabelSees
namespace Go.Proofs.YtijgcoedohhlnaaGreatDoor
open Go.RowKit

theorem SliceAt.fresh (w : World) (xs : Array Value) (e : TypeId) (fr : Nat × Nat) (n size : Nat) (hl : xs.size = n * size) (hn : n ≤ maxLen) :
    SliceAt (w.alloc (.cells xs e fr)) size (.slice (some ⟨w.heap.size, 0, none⟩) n n) n xs.toList := by
  refine ⟨by simpa using hl, _, n, rfl, Nat.le_refl _, hn, fun h => (by cases h), fun _ => ⟨_, 0, rfl, by rw [World.size_alloc]; omega, fun j u hj => ?_⟩⟩
  have h : (⟨w.heap.size, 0 + j, none⟩ : Addr) = (⟨w.heap.size, 0, none⟩ : Addr).add j := by
    unfold Addr.add
    cases j with
    | zero => rfl
    | succ j => rfl
  rw [h]
  exact new_cells w xs e fr j u hj

set_option maxRecDepth 100000
theorem ex_read : readL [58, 120] [97, 47, 98] = ([97, 47, 98], [120], 0) := by rfl
theorem ex_read2 : readL [97, 58, 120] [98] = ([], [], 3) := by rfl
theorem ex_text : textL [97, 47, 98] [120] = [47, 47, 97, 47, 98, 58, 120] := by rfl
set_option maxHeartbeats 1000000 in
theorem alive_any (w : World) : Calls Tryz.prog 4 #[] w fun e w' => e = .returned (.bool true) ∧ Below w.heap.size w w' := by
  have H1 := hid (read_is [58, 120] [97, 47, 98] (by decide) (by decide) _ _ _ ex_read)
  have H2 := hid (read_is [97, 58, 120] [98] (by decide) (by decide) _ _ _ ex_read2)
  have H3 := hid (text_is [97, 47, 98] [120] (by decide) (by decide) _ ex_text)
  have H4 := hid (fun v0 n0 w h0 => sees_one [47, 47, 97, 47, 46, 46, 46] [97, 47, 98] (by decide) (by rfl) true v0 n0 w h0 (fun q W hq hqs => clo_dir [97, 47, 98] [97] (by decide) (by decide) (by rfl) true (by rfl) q W hq hqs))
  have H5 := hid (fun v0 n0 w h0 => sees_one [47, 47, 97] [97, 47, 98] (by decide) (by rfl) false v0 n0 w h0 (fun q W hq hqs => clo_own [97, 47, 98] [97] (by decide) (by rfl) (by rfl) false (by rfl) q W hq hqs))
  go_enter Tryz.func4, Tryz.ntmps4
  go_wp2_with fail
  refine (H1.out _).mono ?_
  rintro e w1 ⟨rfl, hb1⟩
  go_wp2_with fail
  refine (H2.out _).mono ?_
  rintro e w2 ⟨rfl, hb2⟩
  obtain ⟨k0, k1, hbx2⟩ := box_cells hb2
  have hz2 : w1.heap.size < w2.heap.size := by have := hb2.size; rw [World.size_alloc] at this; omega
  have j0 : ∀ o, (w2.alloc o).cell? ⟨w1.heap.size, 0, none⟩ = some (.string (bs [97, 47, 98])) := fun o => (World.cell?_of_block (w := w2) (Below.heap_alloc w2 o _ hz2)).trans k0
  have j1 : ∀ o, (w2.alloc o).cell? ⟨w1.heap.size, 1, none⟩ = some (.string (bs [120])) := fun o => (World.cell?_of_block (w := w2) (Below.heap_alloc w2 o _ hz2)).trans k1
  have hby2 := Below.chain hb1 hbx2
  go_wp2_with fail
  refine (H3.out _).mono ?_
  rintro e w3 ⟨rfl, hb3⟩
  go_wp2_with fail
  refine (H4.out _ _ _ (SliceAt.fresh w3 #[.string (bs [47, 47, 97, 47, 46, 46, 46])] 9 (0, 0) 1 1 rfl (by decide))).mono ?_
  rintro e w4 ⟨rfl, hb4⟩
  go_wp2_with fail
  refine (H5.out _ _ _ (SliceAt.fresh w4 #[.string (bs [47, 47, 97])] 9 (0, 0) 1 1 rfl (by decide))).mono ?_
  rintro e w5 ⟨rfl, hb5⟩
  go_wp2_with fail
  go_ret
  refine ⟨rfl, ?_⟩
  have a1 := hb1
  have a2 : Below w.heap.size w w2 := Below.chain hb1 hbx2
  have a3 : Below w.heap.size w w3 := (a2.alloc a2.size _).trans (hb3.mono (by rw [World.size_alloc]; have := a2.size; omega))
  have a4 : Below w.heap.size w w4 := (a3.alloc a3.size _).trans (hb4.mono (by rw [World.size_alloc]; have := a3.size; omega))
  exact (a4.alloc a4.size _).trans (hb5.mono (by rw [World.size_alloc]; have := a4.size; omega))

end Go.Proofs.YtijgcoedohhlnaaGreatDoor
