/- The trees' example; what is within reach. -/
import Derived.Test.YtilkneajohpgiaaDoorTreeRefs
namespace Go.Proofs.YtilkneajohpgiaaDoor
open Go.RowKit

theorem SliceAt.fresh (w : World) (xs : Array Value) (e : TypeId) (fr : Nat × Nat) (n size : Nat) (hl : xs.size = n * size) (hn : n ≤ maxLen) :
    SliceAt (w.alloc (.cells xs e fr)) size (.slice (some ⟨w.heap.size, 0, none⟩) n n) n xs.toList := by
  refine ⟨by simpa using hl, _, n, rfl, Nat.le_refl _, hn, fun h => (by cases h), fun _ => ⟨_, 0, rfl, by rw [World.size_alloc]; omega, fun j u hj => ?_⟩⟩
  have h : (⟨w.heap.size, 0 + j, none⟩ : Addr) = (⟨w.heap.size, 0, none⟩ : Addr).add j := by
    unfold Addr.add
    cases j with
    | zero => rfl
    | succ j => rfl
  rw [h]
  exact new_cells w xs e fr j u hj

set_option maxHeartbeats 1000000 in
set_option maxRecDepth 100000 in
theorem fixed_any (w : World) :
    Calls Tryd.prog 5 #[] w fun e w' => e = .returned (.bool true) ∧ Below w.heap.size w w' := by
  have hpl : pathsL [([97, 47, 98], []), ([99], [])] [97] = [[97, 47, 98]] := by rfl
  go_enter Tryd.func5, Tryd.ntmps5
  go_wp2_with fail
  refine (paths_any _ 2 [([97, 47, 98], []), ([99], [])] [97] (by decide) _ (SliceAt.fresh _ _ _ _ 2 2 rfl (by decide)) (by decide)).mono ?_
  rintro e w1 ⟨v, rfl, hs, hb1⟩
  rw [hpl] at hs
  rw [World.size_alloc] at hb1
  have hb := ((Below.refl w.heap.size w).alloc (Nat.le_refl _) _).trans (hb1.mono (by omega))
  obtain ⟨-, a, c, rfl, hc, hm, hx⟩ := hs.str
  obtain ⟨b0, o0, rfl, hb0, hcl0⟩ := hx 0 (by decide)
  have e0 : w1.cell? ⟨b0, o0, none⟩ = some (.string (bs [97, 47, 98])) := hcl0 0 (by decide)
  have q1 : (((1 : Nat) : Int) == 1) = true := rfl
  clear hx hcl0
  go_wp2_with fail
  go_ret
  exact ⟨rfl, hb⟩

def reachOk (fs : List FileL) : Prop := ∀ f ∈ fs, f.1.length ≤ 1000000000000 ∧ f.2.length ≤ 1000000000000
theorem reach_ok {fs : List FileL} (h : greatB fs = false) : reachOk fs := fun f hf => by have := (great_no h).2 f hf; omega

end Go.Proofs.YtilkneajohpgiaaDoor
