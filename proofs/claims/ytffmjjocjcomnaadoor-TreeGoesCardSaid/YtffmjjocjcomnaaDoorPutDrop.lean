/- The walk of tree.Drop. -/
import Derived.Test.YtffmjjocjcomnaaDoorPutDelete
namespace Go.Proofs.YtffmjjocjcomnaaDoor
set_option maxRecDepth 100000
open Go.RowKit

set_option maxHeartbeats 1000000 in
theorem drop_any (v0 : Value) (n0 : Nat) (fs : List FileL) (p : List UInt8) (w : World) (h0 : SliceAt w 2 v0 n0 (fileCells fs)) (hlen : fs.length ≤ 1000)
    (hbig : ∀ g ∈ fs, g.1.length ≤ 1000000000000 ∧ g.2.length ≤ 1000000000000) :
    Calls Tryd.prog 21 #[v0, .string (bs p)] w (FilesAt (dropT fs p) w) := by
  obtain ⟨c, hc⟩ : ∃ c, checkL fs = c := ⟨_, rfl⟩
  have Hc := hid (fun W (hW : Below w.heap.size w W) => check_any v0 n0 fs W (h0.below hW (Nat.le_refl _)) hbig)
  rw [hc] at Hc
  have hW1 : Below w.heap.size w (w.alloc (.cells #[.string (bs p)] 9)) := (Below.refl _ _).alloc (Nat.le_refl _) _
  have hq0 := (cell_new w (.string (bs p)) 9).1
  by_cases h1 : c = 0
  · subst h1
    have Hd : Hid (dropT fs p = dropL fs p) := by apply hid; rw [dropT, if_pos hc]
    have Hcl := hid (fun W (hW : Below w.heap.size w W) => clone_any fs v0 n0 W (h0.below hW (Nat.le_refl _)) (by omega))
    unfold FilesPost at Hcl
    clear hc
    go_enter Tryd.func21, Tryd.ntmps21
    go_wp2_with fail
    refine (Hc.out _ hW1).mono ?_
    rintro e w1 ⟨rfl, hb1⟩
    have hq1 := Below.keeps' hb1 hq0
    have hz1 : w.heap.size < w1.heap.size := World.block_lt_of_cell? w1 _ hq1
    have hB1 := hW1.trans (hb1.mono (by simp))
    clear hb1
    go_wp2_with fail
    refine (Hcl.out _ hB1).mono ?_
    rintro e w2 ⟨v2, rfl, hown, hb2⟩
    have hq2 := Below.keeps' hb2 hq1
    have Hdel := hid (delete_any fs p w.heap.size w1.heap.size v2 w2 hq2 hz1 hown hlen hb2.size)
    unfold DropAt at Hdel
    go_wp2_with fail
    refine Hdel.out.mono ?_
    rintro e w3 ⟨v3, rfl, hs3, hb3⟩
    go_wp2_with fail
    go_ret
    exact ⟨_, rfl, by rw [Hd.out]; exact hs3, hB1.trans ((hb2.trans hb3).mono hB1.size)⟩
  · have Hd : Hid (dropT fs p = []) := by apply hid; rw [dropT, if_neg (by rw [hc]; exact h1)]
    have q0 : ((c : Int) != 0) = true := neT (by omega)
    clear h1 hc
    go_enter Tryd.func21, Tryd.ntmps21
    go_wp2_with fail
    refine (Hc.out _ hW1).mono ?_
    rintro e w1 ⟨rfl, hb1⟩
    go_wp2_with fail
    go_ret
    exact ⟨_, rfl, by rw [Hd.out]; exact SliceAt.nil _ _, hW1.trans (hb1.mono (by simp))⟩
end Go.Proofs.YtffmjjocjcomnaaDoor
