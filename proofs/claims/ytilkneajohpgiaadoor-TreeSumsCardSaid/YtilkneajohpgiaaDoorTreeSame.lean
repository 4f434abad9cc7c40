/- The document's Same. -/
import Derived.Test.YtilkneajohpgiaaDoorTreeWalks
namespace Go.Proofs.YtilkneajohpgiaaDoor
set_option maxRecDepth 100000
open Go.RowKit

theorem fsame_step {l r : List FileL} {k : Nat} (h0 : k < l.length) (h1 : k < r.length) (he : l.take k = r.take k) (hk : l[k] = r[k]) : l.take (k + 1) = r.take (k + 1) := by
  rw [take_at _ _ h0, take_at _ _ h1, he, hk]

set_option maxHeartbeats 1000000 in
theorem same_any (v0 v1 : Value) (n0 n1 : Nat) (l r : List FileL) (w : World) (h0 : SliceAt w 2 v0 n0 (fileCells l)) (h1 : SliceAt w 2 v1 n1 (fileCells r)) :
    Calls Tryd.prog 8 #[v0, v1] w fun e w' => e = .returned (.bool (decide (l = r))) ∧ Drawn w w' := by
  obtain ⟨rfl, a0, c0, rfl, hc0, hm0, hx0⟩ := h0.files
  obtain ⟨rfl, a1, c1, rfl, hc1, hm1, hx1⟩ := h1.files
  clear h0 h1
  unfold maxLen at hm0 hm1
  by_cases hlen : l.length = r.length
  · have hb : ((l.length : Int) != (r.length : Int)) = false := by simp [hlen]
    have hl1 : l.length ≤ r.length := by omega
    have hl2 : r.length ≤ l.length := by omega
    clear hlen
    go_enter Tryd.func8, Tryd.ntmps8
    go_wp2_with fail
    go_loopw [13] (fun i wr => ∃ k : Nat, k ≤ l.length ∧ i = .int .i64 k ∧ l.take k = r.take k ∧ Drawn w wr) (fun i _ => l.length - (intOf i).toNat)
    case atStart => exact ⟨0, by omega, rfl, by simp, Drawn.refl _⟩
    case round =>
      obtain ⟨k, hk, rfl, he, d, rfl⟩ := hrel
      have He := hid he; clear he
      by_cases hlt : k < l.length
      · have hlt' : k < r.length := by omega
        obtain ⟨b0, o0, rfl, hb0, hcl0⟩ := hx0 k hlt
        obtain ⟨b1, o1, rfl, hb1, hcl1⟩ := hx1 k hlt'
        have e0 := (hcl0 k hlt).1
        have e1 := (hcl0 k hlt).2
        have e2 := (hcl1 k hlt').1
        have e3 := (hcl1 k hlt').2
        have Hne : Hid (l[k] ≠ r[k] → l ≠ r) := hid (fun h e => h (by simp [e]))
        have Hst := hid (fun h => fsame_step hlt hlt' He.out h)
        clear hcl0 hcl1 hx0 hx1
        obtain ⟨lk, hlk⟩ : ∃ x, l[k] = x := ⟨_, rfl⟩
        obtain ⟨rk, hrk⟩ : ∃ x, r[k] = x := ⟨_, rfl⟩
        rw [hlk] at e0 e1 Hne Hst
        rw [hrk] at e2 e3 Hne Hst
        obtain ⟨lp, ld⟩ := lk
        obtain ⟨rp, rd⟩ := rk
        clear hlk hrk
        simp only [] at e0 e1 e2 e3
        cases q0 : (lp == rp) with
        | false =>
          have hn : l ≠ r := Hne.out (by intro e; simp only [Prod.mk.injEq] at e; rw [e.1] at q0; simp at q0)
          have Hn := hid hn
          clear hn
          go_wp2_with fail
          any_goals go_quiet (fail)
          any_goals go_wp2_with fail
          go_ret
          exact ⟨by rw [decide_eq_false Hn.out]; rfl, Drawn.drewN ⟨_, rfl⟩ _⟩
        | true =>
          cases q1 : (ld == rd) with
          | false =>
            have hn : l ≠ r := Hne.out (by intro e; simp only [Prod.mk.injEq] at e; rw [e.2] at q1; simp at q1)
            have Hn := hid hn
            clear hn
            go_wp2_with fail
            any_goals go_quiet (fail)
            any_goals go_wp2_with fail
            go_ret
            exact ⟨by rw [decide_eq_false Hn.out]; rfl, Drawn.drewN ⟨_, rfl⟩ _⟩
          | true =>
            have hst := Hst.out (by simp only [Prod.mk.injEq]; exact ⟨by simpa using q0, by simpa using q1⟩)
            have HS := hid hst
            clear hst
            go_wp2_with fail
            any_goals go_quiet (fail)
            any_goals go_wp2_with fail
            exact ⟨⟨k + 1, by omega, by go_num, HS.out, ⟨_, rfl⟩⟩, by simp [intOf]; omega⟩
      · go_wp2_with fail
        go_ret
        exact ⟨by rw [decide_eq_true (by rw [← List.take_of_length_le (l := l) (i := k) (by omega), He.out, List.take_of_length_le (by omega)])]; rfl, ⟨_, rfl⟩⟩
  · have hb : ((l.length : Int) != (r.length : Int)) = true := by simp; omega
    go_enter Tryd.func8, Tryd.ntmps8
    go_wp2_with fail
    go_ret
    exact ⟨by rw [decide_eq_false (by rintro rfl; exact hlen rfl)]; rfl, Drawn.refl _⟩
theorem same_self (v0 v1 : Value) (n0 n1 : Nat) (l : List FileL) (w : World) (h0 : SliceAt w 2 v0 n0 (fileCells l)) (h1 : SliceAt w 2 v1 n1 (fileCells l)) :
    Calls Tryd.prog 8 #[v0, v1] w fun e w' => e = .returned (.bool true) ∧ Drawn w w' := by
  have := same_any v0 v1 n0 n1 l l w h0 h1
  rwa [decide_eq_true rfl] at this
end Go.Proofs.YtilkneajohpgiaaDoor
