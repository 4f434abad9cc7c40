/- The law TreeDiffs. -/
import Derived.Test.YtffmjjocjcomnaaDoorTreeDiff
import Derived.Test.YtffmjjocjcomnaaDoorTreeGetsLaw
namespace Go.Proofs.YtffmjjocjcomnaaDoor
open Go.RowKit

def diffT (a b : List FileL) : List (List UInt8 × Nat) := if checkL a = 0 ∧ checkL b = 0 then diffL a b else []
theorem chg_fresh (w : World) (v : Value) (hv : v = .slice none 0 0) : SliceAt w 2 v 0 (chgCells []) := by subst hv; exact SliceAt.nil _ _

set_option maxHeartbeats 1000000 in
theorem diffT_any (va vb : Value) (na nb : Nat) (a b : List FileL) (w : World) (ha : SliceAt w 2 va na (fileCells a)) (hb : SliceAt w 2 vb nb (fileCells b)) (bigA : ∀ f ∈ a, f.1.length ≤ 1000000000000 ∧ f.2.length ≤ 1000000000000) (bigB : ∀ f ∈ b, f.1.length ≤ 1000000000000 ∧ f.2.length ≤ 1000000000000) (la : a.length ≤ 2000) (lb : b.length ≤ 2000) :
    Calls Tryd.prog 18 #[va, vb] w (ChgPost (diffT a b) w) := by
  have Ha := hid (fun W hW => check_any va na a W (ha.below hW (Nat.le_refl _)) bigA)
  have Hb := hid (fun W hW => check_any vb nb b W (hb.below hW (Nat.le_refl _)) bigB)
  by_cases h1 : checkL a = 0
  · by_cases h2 : checkL b = 0
    · rw [diffT, if_pos ⟨h1, h2⟩]; exact diff_any va vb na nb a b w ha hb bigA bigB la lb h1 h2
    · rw [diffT, if_neg (fun h => h2 h.2)]
      rw [h1] at Ha
      obtain ⟨r, hr⟩ : ∃ r, checkL b = r := ⟨_, rfl⟩
      rw [hr] at Hb h2
      have hne : ((r : Int) != 0) = true := neT (by omega)
      clear h1 hr
      go_enter Tryd.func18, Tryd.ntmps18
      go_wp2_with fail
      refine (Ha.out _ (Below.refl _ _)).mono ?_
      rintro e w1 ⟨rfl, hb1⟩
      go_wp2_with fail
      refine (Hb.out _ hb1).mono ?_
      rintro e w2 ⟨rfl, hb2⟩
      go_wp2_with fail
      go_ret
      exact ⟨_, rfl, SliceAt.nil _ _, Below.chain hb1 hb2⟩
  · rw [diffT, if_neg (fun h => h1 h.1)]
    obtain ⟨r, hr⟩ : ∃ r, checkL a = r := ⟨_, rfl⟩
    rw [hr] at Ha h1
    have hne : ((r : Int) != 0) = true := neT (by omega)
    clear hr
    go_enter Tryd.func18, Tryd.ntmps18
    go_wp2_with fail
    refine (Ha.out _ (Below.refl _ _)).mono ?_
    rintro e w1 ⟨rfl, hb1⟩
    go_wp2_with fail
    go_ret
    exact ⟨_, rfl, SliceAt.nil _ _, hb1⟩

set_option maxHeartbeats 1000000 in
theorem refDiffT_any (va vb : Value) (na nb : Nat) (a b : List FileL) (w : World) (ha : SliceAt w 2 va na (fileCells a)) (hb : SliceAt w 2 vb nb (fileCells b)) (bigA : ∀ f ∈ a, f.1.length ≤ 1000000000000 ∧ f.2.length ≤ 1000000000000) (bigB : ∀ f ∈ b, f.1.length ≤ 1000000000000 ∧ f.2.length ≤ 1000000000000) (la : a.length ≤ 2000) (lb : b.length ≤ 2000) :
    Calls Tryd.prog 19 #[va, vb] w (ChgPost (diffT a b) w) := by
  have hb0 : Below w.heap.size w (w.alloc (.cells #[] 37)) := (Below.refl _ _).alloc (Nat.le_refl _) _
  have hs0 := SliceAt.fresh w #[] 37 (0, 0) 0 2 rfl (Nat.zero_le _)
  have Ha := hid (fun W hW => refCheck_any va na a W (ha.below hW (Nat.le_refl _)) bigA)
  have Hb := hid (fun W hW => refCheck_any vb nb b W (hb.below hW (Nat.le_refl _)) bigB)
  by_cases h1 : checkL a = 0
  · by_cases h2 : checkL b = 0
    · rw [diffT, if_pos ⟨h1, h2⟩, ← refDiff_eq (check_rises h1) (check_rises h2)]; exact refDiff_any va vb na nb a b w ha hb bigA bigB la lb h1 h2
    · rw [diffT, if_neg (fun h => h2 h.2)]
      rw [h1] at Ha
      obtain ⟨r, hr⟩ : ∃ r, checkL b = r := ⟨_, rfl⟩
      rw [hr] at Hb h2
      have hne : ((r : Int) != 0) = true := neT (by omega)
      clear h1 hr
      go_enter Tryd.func19, Tryd.ntmps19
      go_wp2_with fail
      refine (Ha.out _ hb0).mono ?_
      rintro e w1 ⟨rfl, hb1⟩
      have hs1 := hs0.below hb1 (Nat.le_refl _)
      have hb1' := hb0.trans (hb1.mono (by rw [World.size_alloc]; omega))
      go_wp2_with fail
      refine (Hb.out _ hb1').mono ?_
      rintro e w2 ⟨rfl, hb2⟩
      have hs2 := hs1.below hb2 (Nat.le_refl _)
      go_wp2_with fail
      go_ret
      exact ⟨_, rfl, hs2, Below.chain hb1' hb2⟩
  · rw [diffT, if_neg (fun h => h1 h.1)]
    obtain ⟨r, hr⟩ : ∃ r, checkL a = r := ⟨_, rfl⟩
    rw [hr] at Ha h1
    have hne : ((r : Int) != 0) = true := neT (by omega)
    clear hr
    go_enter Tryd.func19, Tryd.ntmps19
    go_wp2_with fail
    refine (Ha.out _ hb0).mono ?_
    rintro e w1 ⟨rfl, hb1⟩
    have hs1 := hs0.below hb1 (Nat.le_refl _)
    go_wp2_with fail
    go_ret
    exact ⟨_, rfl, hs1, hb0.trans (hb1.mono (by rw [World.size_alloc]; omega))⟩
theorem diffT_self (a : List FileL) : diffT a a = [] := by
  unfold diffT; split
  · exact diff_self a
  · rfl
end Go.Proofs.YtffmjjocjcomnaaDoor
