/- The document's walks over values: one node. -/
import Derived.Test.YtnfjlimecoikpaaGreatDoorValRef1
import Derived.IntWalk
namespace Go.Proofs.YtnfjlimecoikpaaGreatDoor
set_option maxRecDepth 100000
open Go.RowKit

theorem ret_bool' {a b : Bool} (h : a = b) : Ending.returned (.bool a) = .returned (.bool b) := by rw [h]
set_option maxHeartbeats 2000000 in
theorem rnode_any (k n : Int) (s : List UInt8) (lv kv : Value) (m : Nat) (cs : List VM) (hm : cs.length = m) (ks : List (List UInt8)) (b : Bool) (hb : nodeB k n s m ks = b) (w : World) (hl : SliceAt w 5 lv m (vmCells cs)) (hk : SliceAt w 1 kv ks.length (strCells ks)) :
    Calls Tryz.prog 44 #[valA k n s lv kv] w fun e w' => e = .returned (.bool b) ∧ Below w.heap.size w w' := by
  subst hm
  have HKeys := hid (fun b0 (hb0 : (cs.length == ks.length && riseB ks) = b0) W (hW : Below w.heap.size w W) => rkeys_any k n s lv kv cs.length cs rfl ks b0 hb0 W (hl.below hW (Nat.le_refl _)) (hk.below hW (Nat.le_refl _)))
  obtain ⟨-, la, lc, rfl, hlc, hlm, -⟩ := hl.vms
  obtain ⟨-, ka, kc, rfl, hkc, hkm, -⟩ := hk.str
  unfold maxLen at hlm hkm
  have HR := hid hb
  clear hb hl hk
  by_cases g0 : k = 0
  · subst g0
    clear HKeys
    go_enter Tryz.func44, Tryz.ntmps44
    go_wp2_with fail
    all_goals
      go_ret
      refine ⟨?_, below_new w _⟩
      rw [← HR.out]
      refine ret_bool' ?_
      rw [Bool.eq_iff_iff]
      simp [nodeB, *]
      try (intros; omega)
  by_cases g1 : k = 1
  · subst g1
    clear HKeys
    go_enter Tryz.func44, Tryz.ntmps44
    go_wp2_with fail
    all_goals
      go_ret
      refine ⟨?_, below_new w _⟩
      rw [← HR.out]
      refine ret_bool' ?_
      rw [Bool.eq_iff_iff]
      simp [nodeB, *]
      try (intros; omega)
  by_cases g2 : k = 2
  · subst g2
    clear HKeys
    go_enter Tryz.func44, Tryz.ntmps44
    go_wp2_with fail
    all_goals
      go_ret
      refine ⟨?_, below_new w _⟩
      rw [← HR.out]
      refine ret_bool' ?_
      rw [Bool.eq_iff_iff]
      simp [nodeB, *]
      try (intros; omega)
  by_cases g3 : k = 3
  · subst g3
    clear HKeys
    go_enter Tryz.func44, Tryz.ntmps44
    go_wp2_with fail
    all_goals
      go_ret
      refine ⟨?_, below_new w _⟩
      rw [← HR.out]
      refine ret_bool' ?_
      rw [Bool.eq_iff_iff]
      simp [nodeB, *]
      try (intros; omega)
  by_cases g4 : k = 4
  · subst g4
    clear HKeys
    go_enter Tryz.func44, Tryz.ntmps44
    go_wp2_with fail
    all_goals
      go_ret
      refine ⟨?_, below_new w _⟩
      rw [← HR.out]
      refine ret_bool' ?_
      rw [Bool.eq_iff_iff]
      simp [nodeB, *]
      try (intros; omega)
  by_cases g5 : k = 5
  · subst g5
    by_cases hc : n = 0 ∧ s = [] ∧ cs.length ≤ 1000
    · obtain ⟨rfl, rfl, h3⟩ := hc
      have HE : Hid ((cs.length == ks.length && riseB ks) = b) := hid (by rw [← HR.out]; simp [nodeB, h3])
      have h3' : (cs.length : Int) ≤ 1000 := by omega
      have HK5 := hid (fun W hW => HKeys.out b HE.out W hW)
      clear HKeys
      go_enter Tryz.func44, Tryz.ntmps44
      go_wp2_with fail
      refine (HK5.out _ (below_new w _)).mono ?_
      rintro e w1 ⟨rfl, hb1⟩
      go_wp2_with fail
      go_ret
      exact ⟨rfl, below_call hb1⟩
    · have HE : Hid (b = false) := hid (by rw [← HR.out, ← Bool.not_eq_true]; intro h; simp [nodeB] at h; exact hc ⟨h.1.1.1, h.1.1.2, h.1.2⟩)
      clear HKeys
      have hd : n ≠ 0 ∨ (n = 0 ∧ s ≠ []) ∨ (n = 0 ∧ s = [] ∧ 1000 < cs.length) := by
        by_cases a1 : n = 0
        · by_cases a2 : s = []
          · exact .inr (.inr ⟨a1, a2, by rcases Nat.lt_or_ge 1000 cs.length with h | h; exact h; exact absurd ⟨a1, a2, h⟩ hc⟩)
          · exact .inr (.inl ⟨a1, a2⟩)
        · exact .inl a1
      clear hc
      rcases hd with hd | ⟨rfl, hd⟩ | ⟨rfl, rfl, hd⟩
      · have q : (n == 0) = false := eqF hd
        clear hd
        go_enter Tryz.func44, Tryz.ntmps44
        go_wp2_with fail
        go_ret
        exact ⟨by rw [HE.out]; rfl, below_new w _⟩
      · have q : (s == []) = false := by simpa using hd
        have q1 : s.isEmpty = false := by simpa using hd
        clear hd
        go_enter Tryz.func44, Tryz.ntmps44
        go_wp2_with fail
        go_ret
        exact ⟨by rw [HE.out]; rfl, below_new w _⟩
      · have h3' : (1000 : Int) < (cs.length : Int) := by omega
        go_enter Tryz.func44, Tryz.ntmps44
        go_wp2_with fail
        go_ret
        exact ⟨by rw [HE.out]; rfl, below_new w _⟩
  have HE : Hid (b = false) := hid (by rw [← HR.out]; unfold nodeB; rw [if_neg g0, if_neg g1, if_neg g2, if_neg g3, if_neg g4, if_neg g5])
  have q0 : (k == 0) = false := eqF g0
  have q1 : (k == 1) = false := eqF g1
  have q2 : (k == 2) = false := eqF g2
  have q3 : (k == 3) = false := eqF g3
  have q4 : (k == 4) = false := eqF g4
  have q5 : (k == 5) = false := eqF g5
  clear g0 g1 g2 g3 g4 g5 HKeys
  go_enter Tryz.func44, Tryz.ntmps44
  go_wp2_with fail
  go_ret
  exact ⟨by rw [HE.out]; rfl, below_new w _⟩
end Go.Proofs.YtnfjlimecoikpaaGreatDoor
