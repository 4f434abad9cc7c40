/- The law LabelPaths: a path's directory and last part are a label. -/
import Derived.Test.YtemfmheimblboaaDoorLabelPathsNo0
import Derived.Test.YtemfmheimblboaaDoorLabelPathsNo1
import Derived.Test.YtemfmheimblboaaDoorLabelPathsAll0
import Derived.Test.YtemfmheimblboaaDoorLabelPathsAll1
import Derived.Test.YtemfmheimblboaaDoorLabelPathsDir0
import Derived.Test.YtemfmheimblboaaDoorLabelPathsDir1
namespace Go.Proofs.YtemfmheimblboaaDoor
open Go.RowKit

set_option maxHeartbeats 1000000 in
theorem law_paths (p pkg : List UInt8) (hp : p.length ≤ 140737488351232) (hk : pkg.length ≤ 140737488351232) (w : World) :
    Calls Tryd.prog 5 #[.string (bs p), .string (bs pkg)] w fun e w' => e = .returned (.bool true) ∧ Below w.heap.size w w' := by
  have Ha := hid alive_any
  by_cases h1 : 1500 < p.length
  · go_enter Tryd.func5, Tryd.ntmps5
    go_wp2_with fail
    refine (Ha.out _).mono ?_
    rintro e w1 ⟨rfl, hb1⟩
    go_wp2_with fail
    go_ret
    exact ⟨rfl, hb1⟩
  by_cases h2 : 1500 < pkg.length
  · go_enter Tryd.func5, Tryd.ntmps5
    go_wp2_with fail
    refine (Ha.out _).mono ?_
    rintro e w1 ⟨rfl, hb1⟩
    go_wp2_with fail
    go_ret
    exact ⟨rfl, hb1⟩
  cases hm : mayB p with
  | false =>
    have Hm := hid (may_is p (by omega) false hm)
    clear hm
    go_enter Tryd.func5, Tryd.ntmps5
    go_wp2_with fail
    refine (Ha.out _).mono ?_
    rintro e w1 ⟨rfl, hb1⟩
    go_wp2_with fail
    refine (Hm.out _).mono ?_
    rintro e w2 ⟨rfl, hb2⟩
    go_wp2_with fail
    go_ret
    exact ⟨rfl, Below.chain hb1 hb2⟩
  | true =>
    have Hm := hid (may_is p (by omega) true hm)
    obtain ⟨d, b, hl, hcut⟩ := path_parts hm
    have hl2 : pkgB d = true ∧ partB b = true := by unfold labB at hl; simpa using hl
    have hpar : Parted p d b := ⟨hm, part_free hl2.2 rfl, hcut⟩
    have hlen : d.length ≤ 1500 ∧ b.length ≤ 1500 := by
      rcases hcut with ⟨rfl, rfl⟩ | ⟨-, -, rfl⟩
      · simp; omega
      · simp at h1; omega
    have Hd := hid (pdir_any p d b (by omega) hpar)
    have Hb := hid (pbase_any p d b (by omega) hpar)
    have Ht := hid (text_is d b (by omega) (by omega) (47 :: 47 :: (d ++ 58 :: b)) (by unfold textL; rw [if_pos hl]; rfl))
    have Hs := hid (short_is d b d (by omega) (by omega) (58 :: b) (by unfold shortL; rw [if_pos ⟨hl, rfl⟩]))
    have Hr := hid (read_is (47 :: 47 :: (d ++ 58 :: b)) pkg (by simp; omega) (by omega) d b 0 (readL_long pkg hl))
    obtain ⟨k, hkp⟩ : ∃ k, pkgB pkg = k := ⟨_, rfl⟩
    have Hk := hid (rPkg_is pkg (by omega) k hkp)
    have hdd : d = [] ∨ (d ≠ [] ∧ mayB d = true) := by
      rcases hcut with ⟨h, -⟩ | ⟨h, h', -⟩
      · exact .inl h
      · exact .inr ⟨h, h'⟩
    clear hm hcut hpar hl hl2
    have h1' : p.length ≤ 1500 := by omega
    have h2' : pkg.length ≤ 1500 := by omega
    cases k with
    | false =>
      rcases hdd with hd0 | ⟨hd0, -⟩
      · exact paths_no0 p pkg d b h1' h2' hlen.1 hlen.2 Ha Hm Hd Hb Ht Hs Hr Hk (by simpa using hd0) (by simpa using hd0) w
      · exact paths_no1 p pkg d b h1' h2' hlen.1 hlen.2 Ha Hm Hd Hb Ht Hs Hr Hk (by simpa using hd0) (by simpa using hd0) w
    | true =>
      rcases hdd with hd0 | ⟨hd0, hmd⟩
      · have HS := hid (sees_allC pkg (by omega) hkp)
        cases hk0 : (pkg == d) with
        | true => exact paths_all0 p pkg d b h1' h2' hlen.1 hlen.2 Ha Hm Hd Hb Ht Hs Hr Hk (by simpa using hd0) (by simpa using hd0) HS hk0 w
        | false =>
          have hu : underB pkg d = true := by
            have hk1 : pkg ≠ [] := by rw [← hd0]; exact beq_eq_false_iff_ne.1 hk0
            rw [hd0]
            unfold pkgB at hkp
            rw [decide_eq_false hk1] at hkp
            have hkm : mayB pkg = true := by simpa using hkp
            simp [underB, hkm]
          have Hu := hid (under_is pkg d (by omega) (by omega) true hu)
          exact paths_all1 p pkg d b h1' h2' hlen.1 hlen.2 Ha Hm Hd Hb Ht Hs Hr Hk (by simpa using hd0) (by simpa using hd0) HS hk0 Hu w
      · cases he : (pkg == d) with
        | true =>
          have HS := hid (sees_dirC d pkg (by omega) (by omega) hkp hmd true (by rw [he]; rfl))
          exact paths_dir0 p pkg d b h1' h2' hlen.1 hlen.2 Ha Hm Hd Hb Ht Hs Hr Hk (by simpa using hd0) (by simpa using hd0) HS he w
        | false =>
          obtain ⟨u, hu⟩ : ∃ u, underB pkg d = u := ⟨_, rfl⟩
          have HS := hid (sees_dirC d pkg (by omega) (by omega) hkp hmd u (by rw [he, hu]; rfl))
          have Hu := hid (under_is pkg d (by omega) (by omega) u hu)
          exact paths_dir1 p pkg d b h1' h2' hlen.1 hlen.2 Ha Hm Hd Hb Ht Hs Hr Hk (by simpa using hd0) (by simpa using hd0) u HS he Hu w
end Go.Proofs.YtemfmheimblboaaDoor
