/- The walk of tree.Put, where a file is at the path. -/
import Derived.Test.YtffmjjocjcomnaaDoorPutInsert
namespace Go.Proofs.YtffmjjocjcomnaaDoor
set_option maxRecDepth 100000
open Go.RowKit

theorem file_box1 {w w1 : World} {e : TypeId} {f : FileL} (hb : Below (w.alloc (.cells #[.string (bs f.1), .string (bs f.2)] e)).heap.size (w.alloc (.cells #[.string (bs f.1), .string (bs f.2)] e)) w1) :
    w1.cell? ⟨w.heap.size, 0, none⟩ = some (.string (bs f.1)) ∧ w1.cell? ⟨w.heap.size, 1, none⟩ = some (.string (bs f.2)) ∧ Below w.heap.size w w1 := by
  refine ⟨?_, ?_, ((Below.refl w.heap.size w).alloc (Nat.le_refl _) _).trans (hb.mono (by simp))⟩
  · rw [hb.cell (p := ⟨w.heap.size, 0, none⟩) (by simp), World.cell?_alloc_mark]; rfl
  · rw [hb.cell (p := ⟨w.heap.size, 1, none⟩) (by simp), World.cell?_alloc_mark]; rfl

set_option maxHeartbeats 1000000 in
theorem put_there_any (v0 : Value) (n0 : Nat) (fs : List FileL) (f : FileL) (w : World) (h0 : SliceAt w 2 v0 n0 (fileCells fs)) (hlen : fs.length ≤ 1000)
    (hbig : ∀ g ∈ fs, g.1.length ≤ 1000000000000 ∧ g.2.length ≤ 1000000000000) (hf : f.1.length ≤ 1000000000000 ∧ f.2.length ≤ 1000000000000) (hc : checkL fs = 0) (hth : thereB f.1 fs = true) (c : Nat) (hc2 : checkL (withL fs f) = c) :
    Calls Tryd.prog 20 #[v0, .agg #[.string (bs f.1), .string (bs f.2)]] w (FilesAt (if c = 0 then withL fs f else []) w) := by
  have hr := check_rises hc
  have Hc := hid (fun W (hW : Below w.heap.size w W) => check_any v0 n0 fs W (h0.below hW (Nat.le_refl _)) hbig)
  rw [hc] at Hc
  have Hcl := hid (fun W (hW : Below w.heap.size w W) => clone_any fs v0 n0 W (h0.below hW (Nat.le_refl _)) (by omega))
  unfold FilesPost at Hcl
  have Hse := hid (fun v n W (h : SliceAt W 2 v n (fileCells fs)) => search_any fs hr f.1 v n W h)
  rw [hth] at Hse
  have hwb := with_big hr hbig hf
  have Hc2 := hid (fun v n W (h : SliceAt W 2 v n (fileCells (withL fs f))) => check_any v n (withL fs f) W h hwb)
  rw [hc2] at Hc2
  have hset := put_there hr hth
  have hlow : lowL f.1 fs < fs.length := by
    rcases Nat.lt_or_ge (lowL f.1 fs) fs.length with h | h
    · exact h
    · unfold thereB at hth; rw [List.getElem?_eq_none h] at hth; cases hth
  generalize withL fs f = res at *
  generalize lowL f.1 fs = i at *
  have hW1 : Below w.heap.size w (w.alloc (.cells #[.string (bs f.1), .string (bs f.2)] 40)) := (Below.refl _ _).alloc (Nat.le_refl _) _
  obtain ⟨out, hout⟩ : ∃ out, (if c = 0 then res else []) = out := ⟨_, rfl⟩
  rw [hout]
  have Hout := hid hout
  clear hr hwb hth hc hc2 hout
  obtain ⟨fp, fd⟩ := f
  go_enter Tryd.func20, Tryd.ntmps20
  go_wp2_with fail
  refine (Hc.out _ hW1).mono ?_
  rintro e w1 ⟨rfl, hb1⟩
  obtain ⟨k0, k1, hB1⟩ := file_box1 (f := (fp, fd)) hb1
  clear hb1
  go_wp2_with fail
  refine (Hcl.out _ hB1).mono ?_
  rintro e w2 ⟨v2, rfl, hown, hb2⟩
  have hs2 := SliceAt.of_owns hown (by unfold maxLen; omega)
  have j0 := Below.keeps' hb2 k0
  have j1 := Below.keeps' hb2 k1
  have hz := World.block_lt_of_cell? w1 _ k0
  have hB2 := Below.chain hB1 hb2
  clear k0 k1 hb2
  go_wp2_with fail
  refine (Hse.out _ _ _ hs2).mono ?_
  rintro e w3 ⟨rfl, hb3⟩
  have l0 := Below.keeps' hb3 j0
  have l1 := Below.keeps' hb3 j1
  have hown3 := ownsRow_below hown hb3
  have hB3 := Below.chain hB2 hb3
  clear j0 j1 hs2 hown hb3
  obtain ⟨hl, hcs⟩ := hown3
  rcases hcs with ⟨-, h0'⟩ | ⟨g, cap, cur, rfl, hrest⟩
  · omega
  have hown4 : w3.ownsRow w1.heap.size 40 2 (.slice (some ⟨g, 0, none⟩) fs.length cap) fs.length (fileCells fs) := ⟨hl, .inr ⟨g, cap, cur, rfl, hrest⟩⟩
  obtain ⟨hgb, -, hnc, hcm, -⟩ := hrest
  unfold maxLen at hcm
  obtain ⟨⟨g0, g1⟩, g2, g3⟩ := own_file hown4 i hlow
  have hst := own_set hown4 i hlow (fp, fd)
  rw [← hset] at hst
  have hs4 := SliceAt.of_owns hst (by unfold maxLen; omega)
  have hrl : res.length = fs.length := by rw [hset]; simp
  have hB4 := (hB3.setCell (p := ⟨g, i * 2, none⟩) (Nat.le_trans hB1.size hgb) (.string (bs fp))).setCell (p := ⟨g, i * 2 + 1, none⟩) (Nat.le_trans hB1.size hgb) (.string (bs fd))
  clear hl hown4 hst hset
  by_cases hcz : c = 0
  · subst hcz
    go_wp2_with fail
    refine (Hc2.out _ _ _ hs4).mono ?_
    rintro e w5 ⟨rfl, hb5⟩
    go_wp2_with fail
    go_ret
    have ho : out = res := by rw [← Hout.out]; simp
    exact ⟨_, rfl, by rw [ho, hrl]; exact hs4.below hb5 (Nat.le_refl _), Below.chain hB4 hb5⟩
  · have q0 : ((c : Int) != 0) = true := neT (by omega)
    have H := hid hcz
    clear hcz
    go_wp2_with fail
    refine (Hc2.out _ _ _ hs4).mono ?_
    rintro e w5 ⟨rfl, hb5⟩
    go_wp2_with fail
    go_ret
    exact ⟨_, rfl, by rw [← Hout.out, if_neg H.out]; exact SliceAt.nil _ _, Below.chain hB4 hb5⟩
end Go.Proofs.YtffmjjocjcomnaaDoor
