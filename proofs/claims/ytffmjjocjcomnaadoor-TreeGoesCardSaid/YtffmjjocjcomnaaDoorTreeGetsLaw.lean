/- The law's texts; the law TreeGets. -/
import Derived.Test.YtffmjjocjcomnaaDoorTreeGet
namespace Go.Proofs.YtffmjjocjcomnaaDoor
open Go.RowKit

theorem same_step {l r : List (List UInt8)} {k : Nat} (h0 : k < l.length) (h1 : k < r.length) (he : l.take k = r.take k) (hk : (l[k] == r[k]) = true) : l.take (k + 1) = r.take (k + 1) := by
  rw [take_at _ _ h0, take_at _ _ h1, he, eq_of_beq hk]
theorem same_not {l r : List (List UInt8)} {k : Nat} (h0 : k < l.length) (h1 : k < r.length) (hk : (l[k] == r[k]) = false) : l ≠ r := by
  rintro rfl; simp at hk

set_option maxHeartbeats 400000 in
theorem texts_any (v0 v1 : Value) (n0 n1 : Nat) (l r : List (List UInt8)) (w : World) (h0 : SliceAt w 1 v0 n0 (strCells l)) (h1 : SliceAt w 1 v1 n1 (strCells r)) :
    Calls Tryd.prog 15 #[v0, v1] w fun e w' => e = .returned (.bool (decide (l = r))) ∧ Drawn w w' := by
  obtain ⟨rfl, a0, c0, rfl, hc0, hm0, hx0⟩ := h0.str
  obtain ⟨rfl, a1, c1, rfl, hc1, hm1, hx1⟩ := h1.str
  clear h0 h1
  unfold maxLen at hm0 hm1
  by_cases hlen : l.length = r.length
  · have hb : ((l.length : Int) != (r.length : Int)) = false := by simp [hlen]
    have hl1 : l.length ≤ r.length := by omega
    have hl2 : r.length ≤ l.length := by omega
    clear hlen
    go_enter Tryd.func15, Tryd.ntmps15
    go_wp2
    go_loopw [5] (fun i wr => ∃ k : Nat, k ≤ l.length ∧ i = .int .i64 k ∧ l.take k = r.take k ∧ Drawn w wr) (fun i _ => l.length - (intOf i).toNat)
    case atStart => exact ⟨0, by omega, rfl, by simp, Drawn.refl _⟩
    case round =>
      obtain ⟨k, hk, rfl, he, d, rfl⟩ := hrel
      have He := hid he; clear he
      by_cases hlt : k < l.length
      · have hlt' : k < r.length := by omega
        obtain ⟨b0, o0, rfl, hb0, hcl0⟩ := hx0 k hlt
        obtain ⟨b1, o1, rfl, hb1, hcl1⟩ := hx1 k hlt'
        have e0 := hcl0 k hlt
        have e1 := hcl1 k hlt'
        clear hcl0 hcl1 hx0 hx1
        go_wp2
        any_goals go_quiet (fail)
        any_goals go_wp2
        all_goals (try simp only [Bool.not_eq_true', Bool.not_eq_false'] at *)
        · go_ret
          exact ⟨by rw [decide_eq_false (same_not hlt hlt' (by assumption))]; rfl, Drawn.drewN ⟨_, rfl⟩ _⟩
        · exact ⟨⟨k + 1, by omega, by go_num, same_step hlt hlt' He.out (by assumption), ⟨_, rfl⟩⟩, by simp [intOf]; omega⟩
      · go_wp2
        go_ret
        exact ⟨by rw [decide_eq_true (by rw [← List.take_of_length_le (l := l) (i := k) (by omega), He.out, List.take_of_length_le (by omega)])]; rfl, ⟨_, rfl⟩⟩
  · have hb : ((l.length : Int) != (r.length : Int)) = true := by simp; omega
    go_enter Tryd.func15, Tryd.ntmps15
    go_wp2
    go_ret
    exact ⟨by rw [decide_eq_false (by rintro rfl; exact hlen rfl)]; rfl, Drawn.refl _⟩


theorem texts_self (v0 v1 : Value) (n0 n1 : Nat) (l : List (List UInt8)) (w : World) (h0 : SliceAt w 1 v0 n0 (strCells l)) (h1 : SliceAt w 1 v1 n1 (strCells l)) :
    Calls Tryd.prog 15 #[v0, v1] w fun e w' => e = .returned (.bool true) ∧ Drawn w w' := by
  have := texts_any v0 v1 n0 n1 l l w h0 h1
  rwa [decide_eq_true rfl] at this

theorem pair_ok (p : List UInt8) (fs : List FileL) : ∃ s b, getPair p fs = (.string (bs s), .bool b) := by
  unfold getPair
  cases getL p fs with
  | none => exact ⟨_, _, rfl⟩
  | some d => exact ⟨_, _, rfl⟩

set_option maxHeartbeats 1000000 in
theorem law_gets (v0 : Value) (n0 : Nat) (fs : List FileL) (p d : List UInt8) (hp : p.length ≤ 140737488351232) (hd : d.length ≤ 140737488351232) (w : World) (h0 : SliceAt w 2 v0 n0 (fileCells fs)) :
    Calls Tryd.prog 4 #[v0, .string (bs p), .string (bs d)] w fun e w' => e = .returned (.bool true) ∧ Below w.heap.size w w' := by
  obtain ⟨g, hg⟩ : ∃ g, greatB fs = g := ⟨_, rfl⟩
  have Hg := hid (great_is v0 n0 fs g hg)
  have fin : ∀ (c : Bool), (g = true ∨ 300 < p.length ∨ 300 < d.length) → Calls Tryd.prog 4 #[v0, .string (bs p), .string (bs d)] w fun e w' => e = .returned (.bool true) ∧ Below w.heap.size w w' := by
    intro _ hc
    clear hg
    cases g with
    | true =>
      clear hc
      go_enter Tryd.func4, Tryd.ntmps4
      go_wp2_with fail
      refine (Hg.out _ h0).mono ?_
      rintro e w1 ⟨rfl, rfl⟩
      go_wp2_with fail
      refine (fixed_any _).mono ?_
      rintro e w2 ⟨rfl, hb2⟩
      go_wp2_with fail
      go_ret
      exact ⟨rfl, hb2⟩
    | false =>
      by_cases hp3 : 300 < p.length
      · clear hc
        go_enter Tryd.func4, Tryd.ntmps4
        go_wp2_with fail
        refine (Hg.out _ h0).mono ?_
        rintro e w1 ⟨rfl, rfl⟩
        go_wp2_with fail
        refine (fixed_any _).mono ?_
        rintro e w2 ⟨rfl, hb2⟩
        go_wp2_with fail
        go_ret
        exact ⟨rfl, hb2⟩
      · have hd3 : 300 < d.length := by simpa [hp3] using hc
        clear hc
        go_enter Tryd.func4, Tryd.ntmps4
        go_wp2_with fail
        refine (Hg.out _ h0).mono ?_
        rintro e w1 ⟨rfl, rfl⟩
        go_wp2_with fail
        refine (fixed_any _).mono ?_
        rintro e w2 ⟨rfl, hb2⟩
        go_wp2_with fail
        go_ret
        exact ⟨rfl, hb2⟩
  by_cases hc : g = true ∨ 300 < p.length ∨ 300 < d.length
  · exact fin true hc
  · clear fin
    simp only [not_or, Bool.not_eq_true] at hc
    obtain ⟨rfl, hp3, hd3⟩ := hc
    have hr := reach_ok hg
    unfold reachOk at hr
    obtain ⟨s, b, hsb⟩ := pair_ok p fs
    have Hget := hid (get_any v0 n0 fs p _ _ hsb w h0)
    have Hrget := hid (fun W hW => refGet_any v0 n0 fs p _ _ hsb W (h0.below hW (Nat.le_refl _)))
    have Hpaths := hid (fun W hW => paths_any v0 n0 fs d (by omega) W (h0.below hW (Nat.le_refl _)) hr)
    have Hrpaths := hid (fun W hW => refPaths_any v0 n0 fs d (by omega) W (h0.below hW (Nat.le_refl _)) hr)
    clear hg hr hsb
    go_enter Tryd.func4, Tryd.ntmps4
    go_wp2_with fail
    refine (Hg.out _ h0).mono ?_
    rintro e w1 ⟨rfl, rfl⟩
    go_wp2_with fail
    refine Hget.out.mono ?_
    rintro e w2 ⟨rfl, hb2⟩
    go_wp2_with fail
    refine (Hrget.out _ hb2).mono ?_
    rintro e w3 ⟨rfl, rfl⟩
    go_wp2_with fail
    refine (Hpaths.out _ hb2).mono ?_
    rintro e w4 ⟨x4, rfl, hs4, hb4'⟩
    have hb4 := Below.chain hb2 hb4'
    go_wp2_with fail
    refine (Hrpaths.out _ hb4).mono ?_
    rintro e w5 ⟨x5, rfl, hs5, hb5'⟩
    have hb5 := Below.chain hb4 hb5'
    have hs4' := hs4.below hb5' (Nat.le_refl _)
    clear hb4' hb5' hs4
    go_wp2_with fail
    refine (texts_self _ _ _ _ _ _ hs4' hs5).mono ?_
    rintro e w6 ⟨rfl, hd6⟩
    have hb6 := Below.chain hb5 hd6.below
    go_wp2_with fail
    refine (fixed_any _).mono ?_
    rintro e w7 ⟨rfl, hb7⟩
    go_wp2_with fail
    go_ret
    exact ⟨rfl, Below.chain hb6 hb7⟩
end Go.Proofs.YtffmjjocjcomnaaDoor
