/- The law TreeDiffs: its walk. -/
import Derived.Test.YtffmjjocjcomnaaDoorDiffsLaw
namespace Go.Proofs.YtffmjjocjcomnaaDoor
open Go.RowKit

theorem chgCells_get (fs : List (List UInt8 × Nat)) : ∀ k (h : k < fs.length), (chgCells fs)[k * 2]? = some (.string (bs fs[k].1)) ∧ (chgCells fs)[k * 2 + 1]? = some (.int .i64 fs[k].2) := by
  induction fs with
  | nil => intro k h; simp at h
  | cons f fs ih =>
    intro k h
    have e : chgCells (f :: fs) = .string (bs f.1) :: .int .i64 f.2 :: chgCells fs := rfl
    cases k with
    | zero => rw [e]; exact ⟨rfl, rfl⟩
    | succ k =>
      have := ih k (by simpa using h)
      rw [e, show (k + 1) * 2 = k * 2 + 1 + 1 by omega]
      simpa using this
theorem SliceAt.chg {w : World} {v : Value} {n : Nat} {fs : List (List UInt8 × Nat)} (h : SliceAt w 2 v n (chgCells fs)) : n = fs.length ∧ ∃ a c, v = .slice a fs.length c ∧ fs.length ≤ c ∧ c ≤ maxLen ∧
    (∀ k, k < fs.length → ∃ b off, a = some ⟨b, off, none⟩ ∧ b < w.heap.size ∧ ∀ j (hj : j < fs.length), w.cell? ⟨b, off + j * 2, none⟩ = some (.string (bs fs[j].1)) ∧ w.cell? ⟨b, off + j * 2 + 1, none⟩ = some (.int .i64 fs[j].2)) := by
  obtain ⟨hl, a, c, rfl, hc, hm, -, hx⟩ := h
  have hn : n = fs.length := by rw [chgCells_len] at hl; omega
  subst hn
  refine ⟨rfl, a, c, rfl, hc, hm, fun k hk => ?_⟩
  obtain ⟨b, off, rfl, hlt, hcell⟩ := hx (by intro e; have := chgCells_len fs; rw [e] at this; simp at this; omega)
  refine ⟨b, off, rfl, hlt, fun j hj => ?_⟩
  have hg := chgCells_get fs j hj
  exact ⟨hcell _ _ hg.1, by rw [Nat.add_assoc]; exact hcell _ _ hg.2⟩

set_option maxHeartbeats 1000000 in
theorem law_diffs (va vb : Value) (na nb : Nat) (a b : List FileL) (w : World) (ha : SliceAt w 2 va na (fileCells a)) (hb : SliceAt w 2 vb nb (fileCells b)) :
    Calls Tryd.prog 5 #[va, vb] w fun e w' => e = .returned (.bool true) ∧ Below w.heap.size w w' := by
  obtain ⟨ga, hga⟩ : ∃ g, greatB a = g := ⟨_, rfl⟩
  obtain ⟨gb, hgb⟩ : ∃ g, greatB b = g := ⟨_, rfl⟩
  have Hga := hid (great_is va na a ga hga)
  have Hgb := hid (great_is vb nb b gb hgb)
  cases ga with
  | true =>
    clear hga hgb
    go_enter Tryd.func5, Tryd.ntmps5
    go_wp2_with fail
    refine (Hga.out _ ha).mono ?_
    rintro e w1 ⟨rfl, rfl⟩
    go_wp2_with fail
    refine (fixed_any _).mono ?_
    rintro e w2 ⟨rfl, hb2⟩
    go_wp2_with fail
    go_ret
    exact ⟨rfl, hb2⟩
  | false =>
    cases gb with
    | true =>
      clear hga hgb
      go_enter Tryd.func5, Tryd.ntmps5
      go_wp2_with fail
      refine (Hga.out _ ha).mono ?_
      rintro e w1 ⟨rfl, rfl⟩
      go_wp2_with fail
      refine (Hgb.out _ hb).mono ?_
      rintro e w1 ⟨rfl, rfl⟩
      go_wp2_with fail
      refine (fixed_any _).mono ?_
      rintro e w2 ⟨rfl, hb2⟩
      go_wp2_with fail
      go_ret
      exact ⟨rfl, hb2⟩
    | false =>
      have ra := reach_ok hga
      have rb := reach_ok hgb
      have la := (great_no hga).1
      have lb := (great_no hgb).1
      unfold reachOk at ra rb
      have Hd := hid (fun W (hW : Below w.heap.size w W) => diffT_any va vb na nb a b W (ha.below hW (Nat.le_refl _)) (hb.below hW (Nat.le_refl _)) ra rb (by omega) (by omega))
      have Hrd := hid (fun W (hW : Below w.heap.size w W) => refDiffT_any va vb na nb a b W (ha.below hW (Nat.le_refl _)) (hb.below hW (Nat.le_refl _)) ra rb (by omega) (by omega))
      have Hdd := hid (fun W (hW : Below w.heap.size w W) => diffT_any va va na na a a W (ha.below hW (Nat.le_refl _)) (ha.below hW (Nat.le_refl _)) ra ra (by omega) (by omega))
      rw [diffT_self] at Hdd
      clear hga hgb ra rb
      generalize diffT a b = ds at Hd Hrd
      go_enter Tryd.func5, Tryd.ntmps5
      go_wp2_with fail
      refine (Hga.out _ ha).mono ?_
      rintro e w1 ⟨rfl, rfl⟩
      go_wp2_with fail
      refine (Hgb.out _ hb).mono ?_
      rintro e w1 ⟨rfl, rfl⟩
      go_wp2_with fail
      refine (Hd.out _ (Below.refl _ _)).mono ?_
      rintro e w1 ⟨v1, rfl, hs1, hb1⟩
      obtain ⟨-, x1, c1, hv1, -⟩ := hs1.chg
      subst hv1
      go_wp2_with fail
      refine (Hrd.out _ hb1).mono ?_
      rintro e w2 ⟨v2, rfl, hs2, hb2'⟩
      have hb2 := Below.chain hb1 hb2'
      obtain ⟨-, x2, c2, hv2, -⟩ := hs2.chg
      subst hv2
      have hll : ((ds.length : Int) != (ds.length : Int)) = false := neF rfl
      go_wp2_with fail
      refine (Hdd.out _ hb2).mono ?_
      rintro e w3 ⟨v3, rfl, hs3, hb3'⟩
      obtain ⟨-, x3, c3, hv3, -⟩ := hs3.chg
      subst hv3
      have hb3 := Below.chain hb2 hb3'
      have HS1 := hid (fun W (hW : Below w3.heap.size w3 W) => ((hs1.below hb2' (Nat.le_refl _)).below hb3' (Nat.le_refl _)).below hW (Nat.le_refl _))
      have HS2 := hid (fun W (hW : Below w3.heap.size w3 W) => (hs2.below hb3' (Nat.le_refl _)).below hW (Nat.le_refl _))
      have hlm : ds.length ≤ maxLen := by
        obtain ⟨-, _, _, _, h1, h2, -⟩ := hs1.chg
        omega
      unfold maxLen at hlm
      clear hs1 hs2 hs3 hb1 hb2 hb2' hb3'
      go_wp2_with fail
      go_loopw [7] (fun i wr => ∃ k : Nat, k ≤ ds.length ∧ i = .int .i64 k ∧ Below w3.heap.size w3 wr) (fun i _ => ds.length - (intOf i).toNat)
      case atStart => exact ⟨0, by omega, rfl, Below.refl _ _⟩
      case round =>
        obtain ⟨k, hk, rfl, hbw⟩ := hrel
        by_cases hlt : k < ds.length
        · obtain ⟨-, a1, d1, hv1, -, -, hx1⟩ := (HS1.out _ hbw).chg
          obtain ⟨q1, o1, rfl, hq1, hcl1⟩ := hx1 k hlt
          obtain ⟨rfl, rfl⟩ : x1 = some ⟨q1, o1, none⟩ ∧ c1 = d1 := by simpa using hv1
          obtain ⟨-, a2, d2, hv2, -, -, hx2⟩ := (HS2.out _ hbw).chg
          obtain ⟨q2, o2, rfl, hq2, hcl2⟩ := hx2 k hlt
          obtain ⟨rfl, rfl⟩ : x2 = some ⟨q2, o2, none⟩ ∧ c2 = d2 := by simpa using hv2
          obtain ⟨e1, e2⟩ := hcl1 k hlt
          obtain ⟨f1, f2⟩ := hcl2 k hlt
          clear hcl1 hcl2 hx1 hx2 hv1 hv2
          go_wp2_with fail
          any_goals go_quiet (fail)
          any_goals go_wp2_with fail
          exact ⟨⟨k + 1, by omega, by go_num, hbw.trans (Drawn.below ⟨_, rfl⟩)⟩, by simp [intOf]; omega⟩
        · go_wp2_with fail
          refine (fixed_any _).mono ?_
          rintro e w4 ⟨rfl, hb4⟩
          go_wp2_with fail
          go_ret
          exact ⟨rfl, Below.chain (Below.chain hb3 hbw) hb4⟩
end Go.Proofs.YtffmjjocjcomnaaDoor
