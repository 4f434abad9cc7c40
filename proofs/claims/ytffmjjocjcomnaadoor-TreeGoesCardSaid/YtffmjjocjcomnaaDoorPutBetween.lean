/- The walk of tree.Put, where no file is at the path; both ways in one. -/
import Derived.Test.YtffmjjocjcomnaaDoorPutThere
import Derived.Test.YtffmjjocjcomnaaDoorPutMid
namespace Go.Proofs.YtffmjjocjcomnaaDoor
set_option maxRecDepth 100000
open Go.RowKit

set_option maxHeartbeats 1000000 in
theorem put_between_any (v0 : Value) (n0 : Nat) (fs : List FileL) (f : FileL) (w : World) (h0 : SliceAt w 2 v0 n0 (fileCells fs)) (hlen : fs.length ≤ 1000)
    (hbig : ∀ g ∈ fs, g.1.length ≤ 1000000000000 ∧ g.2.length ≤ 1000000000000) (hf : f.1.length ≤ 1000000000000 ∧ f.2.length ≤ 1000000000000) (hc : checkL fs = 0) (hth : thereB f.1 fs = false) (c : Nat) (hc2 : checkL (withL fs f) = c) :
    Calls Tryd.prog 20 #[v0, .agg #[.string (bs f.1), .string (bs f.2)]] w (FilesAt (if c = 0 then withL fs f else []) w) := by
  have hr := check_rises hc
  have Hc := hid (fun W (hW : Below w.heap.size w W) => check_any v0 n0 fs W (h0.below hW (Nat.le_refl _)) hbig)
  rw [hc] at Hc
  have Hcl := hid (fun W (hW : Below w.heap.size w W) => clone_any fs v0 n0 W (h0.below hW (Nat.le_refl _)) (by omega))
  unfold FilesPost at Hcl
  have Hse := hid (fun v n W (h : SliceAt W 2 v n (fileCells fs)) => search_any fs hr f.1 v n W h)
  rw [hth] at Hse
  have hwb := with_big hr hbig hf
  have Hc2 := hid (fun v n W (h : SliceAt W 2 v n (fileCells (withL fs f))) => check_any v n (withL fs f) W h hwb)
  rw [hc2] at Hc2
  have hset := put_between hr hth
  have hwl : Hid ((withL fs f).length ≤ 1001) := hid (by rw [hset]; simp; omega)
  have hlow : lowL f.1 fs ≤ fs.length := low_le f.1 fs
  generalize withL fs f = res at *
  generalize lowL f.1 fs = i at *
  have hW1 : Below w.heap.size w (w.alloc (.cells #[.string (bs f.1), .string (bs f.2)] 40)) := (Below.refl _ _).alloc (Nat.le_refl _) _
  obtain ⟨out, hout⟩ : ∃ out, (if c = 0 then res else []) = out := ⟨_, rfl⟩
  rw [hout]
  have Hout := hid hout
  clear hr hwb hth hc hc2 hout
  obtain ⟨fp, fd⟩ := f
  go_enter Tryd.func20, Tryd.ntmps20
  go_wp2_with fail
  refine (Hc.out _ hW1).mono ?_
  rintro e w1 ⟨rfl, hb1⟩
  obtain ⟨k0, k1, hB1⟩ := file_box1 (f := (fp, fd)) hb1
  clear hb1
  go_wp2_with fail
  refine (Hcl.out _ hB1).mono ?_
  rintro e w2 ⟨v2, rfl, hown, hb2⟩
  have hs2 := SliceAt.of_owns hown (by unfold maxLen; omega)
  have j0 := Below.keeps' hb2 k0
  have j1 := Below.keeps' hb2 k1
  have hz := World.block_lt_of_cell? w1 _ k0
  have hB2 := Below.chain hB1 hb2
  have hz12 := hb2.size
  clear k0 k1 hb2
  go_wp2_with fail
  refine (Hse.out _ _ _ hs2).mono ?_
  rintro e w3 ⟨rfl, hb3⟩
  have l0 := Below.keeps' hb3 j0
  have l1 := Below.keeps' hb3 j1
  have hown3 := ownsRow_below hown hb3
  have hB3 := Below.chain hB2 hb3
  have hz13 := Nat.le_trans hz12 hb3.size
  clear j0 j1 hs2 hown hb3
  have hne3 : ∀ g, v2.ownBlock = some g → w3.heap.size ≠ g := by
    intro g hg e
    obtain ⟨-, ⟨h, -⟩ | ⟨g', cap, cur, h, -, hh, -⟩⟩ := hown3
    · rw [h] at hg; cases hg
    · rw [h] at hg
      have e2 : g' = g := by simpa [Value.ownBlock] using hg
      have := (Array.getElem?_eq_some_iff.1 hh).1
      omega
  have Hin := hid (insert_any fs (fp, fd) i w3.heap.size w1.heap.size v2 (w3.alloc (.cells #[.string (bs fp), .string (bs fd)] 40)) hlow (hown3.alloc _) hne3 Array.getElem?_push_size hlen (by rw [World.size_alloc]; exact Nat.le_trans hz13 (Nat.le_succ _)))
  unfold InsertAt at Hin
  rw [← hset] at Hin
  clear hset hown3
  go_wp2_with fail
  refine Hin.out.mono ?_
  rintro e w4 ⟨v4, rfl, hown4, hb4⟩
  have hs4 := SliceAt.of_owns hown4 (by unfold maxLen; have := hwl.out; omega)
  have hB4 := (hB3.alloc hB3.size _).trans (hb4.mono hB1.size)
  clear hown4
  by_cases hcz : c = 0
  · subst hcz
    go_wp2_with fail
    refine (Hc2.out _ _ _ hs4).mono ?_
    rintro e w5 ⟨rfl, hb5⟩
    go_wp2_with fail
    go_ret
    have ho : out = res := by rw [← Hout.out]; simp
    exact ⟨_, rfl, by rw [ho]; exact hs4.below hb5 (Nat.le_refl _), Below.chain hB4 hb5⟩
  · have q0 : ((c : Int) != 0) = true := neT (by omega)
    have H := hid hcz
    clear hcz
    go_wp2_with fail
    refine (Hc2.out _ _ _ hs4).mono ?_
    rintro e w5 ⟨rfl, hb5⟩
    go_wp2_with fail
    go_ret
    exact ⟨_, rfl, by rw [← Hout.out, if_neg H.out]; exact SliceAt.nil _ _, Below.chain hB4 hb5⟩

set_option maxHeartbeats 1000000 in
theorem put_any (v0 : Value) (n0 : Nat) (fs : List FileL) (f : FileL) (w : World) (h0 : SliceAt w 2 v0 n0 (fileCells fs)) (hlen : fs.length ≤ 1000)
    (hbig : ∀ g ∈ fs, g.1.length ≤ 1000000000000 ∧ g.2.length ≤ 1000000000000) (hf : f.1.length ≤ 1000000000000 ∧ f.2.length ≤ 1000000000000) :
    Calls Tryd.prog 20 #[v0, .agg #[.string (bs f.1), .string (bs f.2)]] w (FilesAt (putT fs f) w) := by
  by_cases hc : checkL fs = 0
  · have e : putT fs f = if checkL (withL fs f) = 0 then withL fs f else [] := by unfold putT; rw [if_pos hc]
    rw [e]
    cases hth : thereB f.1 fs with
    | true => exact put_there_any v0 n0 fs f w h0 hlen hbig hf hc hth _ rfl
    | false => exact put_between_any v0 n0 fs f w h0 hlen hbig hf hc hth _ rfl
  · have e : putT fs f = [] := by unfold putT; rw [if_neg hc]
    rw [e]
    obtain ⟨c, hcc⟩ : ∃ c, checkL fs = c := ⟨_, rfl⟩
    have Hc := hid (fun W (hW : Below w.heap.size w W) => check_any v0 n0 fs W (h0.below hW (Nat.le_refl _)) hbig)
    rw [hcc] at Hc hc
    have q0 : ((c : Int) != 0) = true := neT (by omega)
    have hW1 : Below w.heap.size w (w.alloc (.cells #[.string (bs f.1), .string (bs f.2)] 40)) := (Below.refl _ _).alloc (Nat.le_refl _) _
    clear hc hcc e
    go_enter Tryd.func20, Tryd.ntmps20
    go_wp2_with fail
    refine (Hc.out _ hW1).mono ?_
    rintro e w1 ⟨rfl, hb1⟩
    go_wp2_with fail
    go_ret
    exact ⟨_, rfl, SliceAt.nil _ _, hW1.trans (hb1.mono hW1.size)⟩
end Go.Proofs.YtffmjjocjcomnaaDoor
