/- The law TreeChecks: its example, its texts, its walk. -/
import Derived.Test.YtffmjjocjcomnaaDoorTreeRefs
namespace Go.Proofs.YtffmjjocjcomnaaDoor
open Go.RowKit

theorem SliceAt.fresh (w : World) (xs : Array Value) (e : TypeId) (fr : Nat × Nat) (n size : Nat) (hl : xs.size = n * size) (hn : n ≤ maxLen) :
    SliceAt (w.alloc (.cells xs e fr)) size (.slice (some ⟨w.heap.size, 0, none⟩) n n) n xs.toList := by
  refine ⟨by simpa using hl, _, n, rfl, Nat.le_refl _, hn, fun h => (by cases h), fun _ => ⟨_, 0, rfl, by rw [World.size_alloc]; omega, fun j u hj => ?_⟩⟩
  have h : (⟨w.heap.size, 0 + j, none⟩ : Addr) = (⟨w.heap.size, 0, none⟩ : Addr).add j := by
    unfold Addr.add
    cases j with
    | zero => rfl
    | succ j => rfl
  rw [h]
  exact new_cells w xs e fr j u hj

set_option maxHeartbeats 1000000 in
set_option maxRecDepth 100000 in
theorem fixed_any (w : World) :
    Calls Tryd.prog 10 #[] w fun e w' => e = .returned (.bool true) ∧ Below w.heap.size w w' := by
  have hpl : pathsL [([97, 47, 98], []), ([99], [])] [97] = [[97, 47, 98]] := by rfl
  go_enter Tryd.func10, Tryd.ntmps10
  go_wp2_with fail
  refine (paths_any _ 2 [([97, 47, 98], []), ([99], [])] [97] (by decide) _ (SliceAt.fresh _ _ _ _ 2 2 rfl (by decide)) (by decide)).mono ?_
  rintro e w1 ⟨v, rfl, hs, hb1⟩
  rw [hpl] at hs
  rw [World.size_alloc] at hb1
  have hb := ((Below.refl w.heap.size w).alloc (Nat.le_refl _) _).trans (hb1.mono (by omega))
  obtain ⟨-, a, c, rfl, hc, hm, hx⟩ := hs.str
  obtain ⟨b0, o0, rfl, hb0, hcl0⟩ := hx 0 (by decide)
  have e0 : w1.cell? ⟨b0, o0, none⟩ = some (.string (bs [97, 47, 98])) := hcl0 0 (by decide)
  have q1 : (((1 : Nat) : Int) == 1) = true := rfl
  clear hx hcl0
  go_wp2_with fail
  go_ret
  exact ⟨rfl, hb⟩

def reachOk (fs : List FileL) : Prop := ∀ f ∈ fs, f.1.length ≤ 1000000000000 ∧ f.2.length ≤ 1000000000000
theorem reach_ok {fs : List FileL} (h : greatB fs = false) : reachOk fs := fun f hf => by have := (great_no h).2 f hf; omega

set_option maxHeartbeats 1000000 in
theorem law_checks (v0 : Value) (n0 : Nat) (fs : List FileL) (w : World) (h0 : SliceAt w 2 v0 n0 (fileCells fs)) :
    Calls Tryd.prog 3 #[v0] w fun e w' => e = .returned (.bool true) ∧ Below w.heap.size w w' := by
  obtain ⟨g, hg⟩ : ∃ g, greatB fs = g := ⟨_, rfl⟩
  have Hg := hid (great_is v0 n0 fs g hg)
  cases g with
  | true =>
    clear hg
    go_enter Tryd.func3, Tryd.ntmps3
    go_wp2_with fail
    refine (Hg.out _ h0).mono ?_
    rintro e w1 ⟨rfl, rfl⟩
    go_wp2_with fail
    refine (fixed_any _).mono ?_
    rintro e w2 ⟨rfl, hb2⟩
    go_wp2_with fail
    go_ret
    exact ⟨rfl, hb2⟩
  | false =>
    have hr := reach_ok hg
    unfold reachOk at hr
    have Hc := hid (fun W hW => check_any v0 n0 fs W (h0.below hW (Nat.le_refl _)) hr)
    have Hrc := hid (fun W hW => refCheck_any v0 n0 fs W (h0.below hW (Nat.le_refl _)) hr)
    clear hg hr
    obtain ⟨x, hx⟩ : ∃ x, checkL fs = x := ⟨_, rfl⟩
    rw [hx] at Hc Hrc
    clear hx
    go_enter Tryd.func3, Tryd.ntmps3
    go_wp2_with fail
    refine (Hg.out _ h0).mono ?_
    rintro e w1 ⟨rfl, rfl⟩
    go_wp2_with fail
    refine (Hc.out _ (Below.refl _ _)).mono ?_
    rintro e w2 ⟨rfl, hb2⟩
    go_wp2_with fail
    refine (Hrc.out _ hb2).mono ?_
    rintro e w3 ⟨rfl, hb3⟩
    have hb23 := Below.chain hb2 hb3
    go_wp2_with fail
    refine (fixed_any _).mono ?_
    rintro e w4 ⟨rfl, hb4⟩
    go_wp2_with fail
    go_ret
    exact ⟨rfl, Below.chain hb23 hb4⟩
end Go.Proofs.YtffmjjocjcomnaaDoor
