/- The walks of the document's At and Same. -/
import Derived.Test.YtheomoamobcaeaaGreatDoorRefFirst
namespace Go.Proofs.YtheomoamobcaeaaGreatDoor
set_option maxRecDepth 100000
open Go.RowKit

theorem at_res {w : World} {tmps : Array Value} {b : Nat} {x y : Int} (h4 : tmps[4]?.getD undef = .pointer (some ⟨b, 0, none⟩)) (h0 : w.cell? ⟨b, 0, none⟩ = some (.int .i64 x)) (h1 : w.cell? ⟨b, 1, none⟩ = some (.int .i64 y)) :
    (results Tryz.f15 tmps).run Tryz.prog w = .ok (.agg #[.int .i64 x, .int .i64 y]) w := by
  simp [results, Tryz.f15, go_sem, h4, h0, h1]
theorem two_one {w : World} {b : Nat} {x y : Value} (h : Two w b x y) (v : Value) : Two (w.setCell ⟨b, 1, none⟩ v) b x v :=
  ⟨by rw [World.cell?_setCell_other _ _ _ _ (by simp)]; exact h.c0, World.cell?_setCell_same' _ _ _ (by rw [h.c1]; rfl), by rw [World.frozen?_setCell]; exact h.f0, by rw [World.frozen?_setCell]; exact h.f1⟩
theorem two_one' {w : World} {b c : Nat} {x y : Value} (h : Two w b x y) (hne : c ≠ b) (v : Value) : Two (w.setCell ⟨c, 1, none⟩ v) b x y := by
  have hn : ∀ i j : Nat, (⟨c, i, none⟩ : Addr) ≠ ⟨b, j, none⟩ := fun i j e => hne (congrArg Addr.block e)
  exact ⟨by rw [World.cell?_setCell_other _ _ _ _ (hn _ _)]; exact h.c0, by rw [World.cell?_setCell_other _ _ _ _ (hn _ _)]; exact h.c1, by rw [World.frozen?_setCell]; exact h.f0, by rw [World.frozen?_setCell]; exact h.f1⟩
set_option maxHeartbeats 2000000 in
theorem at_any (s : List UInt8) (hs : s.length ≤ 1000000000000) (i : Nat) (hi : i ≤ s.length) (w : World) :
    Calls Tryz.prog 15 #[.string (bs s), .int .i64 i] w fun e w' => e = .returned (plV (advs (1, 1) (s.take i)).1 (advs (1, 1) (s.take i)).2) ∧ Below w.heap.size w w' := by
  have HA := hid (two_new w (.int .i64 0) (.int .i64 0) 26)
  have HB := hid (two_new (w.alloc (.cells #[.int .i64 0, .int .i64 0] 26)) (.int .i64 1) (.int .i64 1) 26)
  have HW := hid (below2 w (.cells #[.int .i64 0, .int .i64 0] 26) (.cells #[.int .i64 1, .int .i64 1] 26))
  unfold plV
  go_enter Tryz.func15, Tryz.ntmps15
  go_wp2_with fail
  go_loopw [6] (fun x wr => ∃ (k : Nat), k ≤ i ∧ x = .int .i64 k ∧ Two wr w.heap.size (.int .i64 0) (.int .i64 0) ∧ Two wr (w.heap.size + 1) (.int .i64 (advs (1, 1) (s.take k)).1) (.int .i64 (advs (1, 1) (s.take k)).2) ∧ Below w.heap.size w wr) (fun x _ => i - (intOf x).toNat)
  case atStart =>
    refine ⟨0, by omega, rfl, ?_, ?_, HW.out⟩
    · exact HA.out.below ((Below.refl _ _).alloc (Nat.le_refl _) _)
    · have := HB.out; rwa [World.size_alloc] at this
  case round =>
    obtain ⟨k, hk, rfl, h2a, h2b, hbw⟩ := hrel
    have hwk : Within (advs (1, 1) (s.take k)) k := by
      have := within_at (s.take k); rwa [List.length_take, Nat.min_eq_left (by omega)] at this
    obtain ⟨hw1, hw2⟩ := hwk
    by_cases hlt : k < i
    · have hks : k < s.length := by omega
      have hadv : advs (1, 1) (s.take (k + 1)) = adv (advs (1, 1) (s.take k)) s[k] := by rw [take_at s k hks, advs_snoc]
      obtain ⟨p, hpp⟩ : ∃ p, advs (1, 1) (s.take k) = p := ⟨_, rfl⟩
      rw [hpp] at h2b hw1 hw2 hadv
      obtain ⟨pl, pc⟩ := p
      simp only at hw1 hw2 h2b
      have H2a := hid h2a
      have H2b := hid h2b
      obtain ⟨c0, c1, f0, f1⟩ := h2a
      obtain ⟨d0, d1, g0, g1⟩ := h2b
      have Hadv := hid hadv
      clear hadv hpp
      by_cases hc : s[k].toNat = 10
      · have q : ((s[k].toNat : Int) == 10) = true := eqT (by omega)
        have HE : Hid (advs (1, 1) (s.take (k + 1)) = (pl + 1, 1)) := hid (by rw [Hadv.out]; unfold adv; rw [if_pos hc])
        clear hc
        go_wp2_with fail
        exact ⟨⟨k + 1, by omega, by go_num, H2a.out.other (by omega) _ _, by rw [HE.out]; exact H2b.out.set _ _, (hbw.setCell (p := ⟨w.heap.size + 1, 0, none⟩) (Nat.le_succ _) _).setCell (p := ⟨w.heap.size + 1, 1, none⟩) (Nat.le_succ _) _⟩, by simp [intOf]; omega⟩
      · have q : ((s[k].toNat : Int) == 10) = false := eqF (by omega)
        have HE : Hid (advs (1, 1) (s.take (k + 1)) = (pl, pc + 1)) := hid (by rw [Hadv.out]; unfold adv; rw [if_neg hc])
        clear hc
        go_wp2_with fail
        exact ⟨⟨k + 1, by omega, by go_num, two_one' H2a.out (by omega) _, by rw [HE.out]; exact two_one H2b.out _, hbw.setCell (p := ⟨w.heap.size + 1, 1, none⟩) (Nat.le_succ _) _⟩, by simp [intOf]; omega⟩
    · obtain rfl : k = i := by omega
      obtain ⟨p, hpp⟩ : ∃ p, advs (1, 1) (s.take k) = p := ⟨_, rfl⟩
      rw [hpp] at h2b hw1 hw2
      have Hpp := hid hpp
      clear hpp
      obtain ⟨pl, pc⟩ := p
      simp only at hw1 hw2 h2b
      have H2a := hid h2a
      obtain ⟨c0, c1, f0, f1⟩ := h2a
      obtain ⟨d0, d1, g0, g1⟩ := h2b
      go_wp2_with fail
      exact bodyPost_ret (at_res (x := pl) (y := pc) rfl (H2a.out.set _ _).c0 (H2a.out.set _ _).c1) rfl ⟨plV_eq (by rw [Hpp.out]) (by rw [Hpp.out]), (hbw.setCell (p := ⟨w.heap.size, 0, none⟩) (Nat.le_refl _) _).setCell (p := ⟨w.heap.size, 1, none⟩) (Nat.le_refl _) _⟩

/-! The same tokens. -/
set_option maxHeartbeats 1000000 in
theorem tsame_any (v0 v1 : Value) (n0 n1 : Nat) (l r : List Tok) (w : World) (h0 : SliceAt w 4 v0 n0 (tokCells l)) (h1 : SliceAt w 4 v1 n1 (tokCells r)) :
    Calls Tryz.prog 11 #[v0, v1] w fun e w' => e = .returned (.bool (decide (l = r))) ∧ Drawn w w' := by
  obtain ⟨rfl, a0, c0, rfl, hc0, hm0, hx0⟩ := h0.toks
  obtain ⟨rfl, a1, c1, rfl, hc1, hm1, hx1⟩ := h1.toks
  clear h0 h1
  unfold maxLen at hm0 hm1
  by_cases hlen : l.length = r.length
  · have hb : ((l.length : Int) != (r.length : Int)) = false := by simp [hlen]
    have hl1 : l.length ≤ r.length := by omega
    have hl2 : r.length ≤ l.length := by omega
    clear hlen
    go_enter Tryz.func11, Tryz.ntmps11
    go_wp2_with fail
    go_loopw [5] (fun i wr => ∃ k : Nat, k ≤ l.length ∧ i = .int .i64 k ∧ l.take k = r.take k ∧ Drawn w wr) (fun i _ => l.length - (intOf i).toNat)
    case atStart => exact ⟨0, by omega, rfl, by simp, Drawn.refl _⟩
    case round =>
      obtain ⟨k, hk, rfl, he, d, rfl⟩ := hrel
      have He := hid he; clear he
      by_cases hlt : k < l.length
      · have hlt' : k < r.length := by omega
        obtain ⟨b0, o0, rfl, hb0, hcl0⟩ := hx0 k hlt
        obtain ⟨b1, o1, rfl, hb1, hcl1⟩ := hx1 k hlt'
        obtain ⟨e0, e1, e2, e3⟩ := hcl0 k hlt
        obtain ⟨g0, g1, g2, g3⟩ := hcl1 k hlt'
        have Hst : Hid (l[k] = r[k] → l.take (k + 1) = r.take (k + 1)) := hid (fun h => by rw [take_at l k hlt, take_at r k hlt', He.out, h])
        have Hne : Hid (l[k] ≠ r[k] → l ≠ r) := hid (fun h e => h (by simp [e]))
        clear hcl0 hcl1 hx0 hx1
        generalize l[k] = x at *
        generalize r[k] = y at *
        obtain ⟨xk, xt, xl, xc⟩ := x
        obtain ⟨yk, yt, yl, yc⟩ := y
        simp only at e0 e1 e2 e3 g0 g1 g2 g3
        cases q0 : ((xk : Int) == (yk : Int)) with
        | false =>
          have hn : l ≠ r := Hne.out (by intro e; simp only [Prod.mk.injEq] at e; rw [e.1] at q0; simp at q0)
          have Hn := hid hn
          clear hn Hst Hne
          go_wp2_with fail
          any_goals go_quiet (fail)
          any_goals go_wp2_with fail
          go_ret
          exact ⟨by rw [decide_eq_false Hn.out]; rfl, Drawn.drewN ⟨_, rfl⟩ _⟩
        | true =>
        cases q1 : (xt == yt) with
        | false =>
          have hn : l ≠ r := Hne.out (by intro e; simp only [Prod.mk.injEq] at e; rw [e.2.1] at q1; simp at q1)
          have Hn := hid hn
          clear hn Hst Hne
          go_wp2_with fail
          any_goals go_quiet (fail)
          any_goals go_wp2_with fail
          go_ret
          exact ⟨by rw [decide_eq_false Hn.out]; rfl, Drawn.drewN ⟨_, rfl⟩ _⟩
        | true =>
        cases q2 : ((xl : Int) == (yl : Int)) with
        | false =>
          have hn : l ≠ r := Hne.out (by intro e; simp only [Prod.mk.injEq] at e; rw [e.2.2.1] at q2; simp at q2)
          have Hn := hid hn
          clear hn Hst Hne
          go_wp2_with fail
          any_goals go_quiet (fail)
          any_goals go_wp2_with fail
          go_ret
          exact ⟨by rw [decide_eq_false Hn.out]; rfl, Drawn.drewN ⟨_, rfl⟩ _⟩
        | true =>
        cases q3 : ((xc : Int) == (yc : Int)) with
        | false =>
          have hn : l ≠ r := Hne.out (by intro e; simp only [Prod.mk.injEq] at e; rw [e.2.2.2] at q3; simp at q3)
          have Hn := hid hn
          clear hn Hst Hne
          go_wp2_with fail
          any_goals go_quiet (fail)
          any_goals go_wp2_with fail
          go_ret
          exact ⟨by rw [decide_eq_false Hn.out]; rfl, Drawn.drewN ⟨_, rfl⟩ _⟩
        | true =>
          have hst := Hst.out (by simp only [Prod.mk.injEq]; exact ⟨by have := beq_iff_eq.1 q0; omega, by simpa using q1, by have := beq_iff_eq.1 q2; omega, by have := beq_iff_eq.1 q3; omega⟩)
          have HS := hid hst
          clear hst Hst Hne
          go_wp2_with fail
          any_goals go_quiet (fail)
          any_goals go_wp2_with fail
          exact ⟨⟨k + 1, by omega, by go_num, HS.out, ⟨_, rfl⟩⟩, by simp [intOf]; omega⟩
      · go_wp2_with fail
        go_ret
        exact ⟨by rw [decide_eq_true (by rw [← List.take_of_length_le (l := l) (i := k) (by omega), He.out, List.take_of_length_le (by omega)])]; rfl, ⟨_, rfl⟩⟩
  · have hb : ((l.length : Int) != (r.length : Int)) = true := by simp; omega
    go_enter Tryz.func11, Tryz.ntmps11
    go_wp2_with fail
    go_ret
    exact ⟨by rw [decide_eq_false (by rintro rfl; exact hlen rfl)]; rfl, Drawn.refl _⟩
end Go.Proofs.YtheomoamobcaeaaGreatDoor
