/- The law LabelTexts. -/
import Derived.Test.YtemfmheimblboaaDoorLabelLaw
import Derived.Test.YtemfmheimblboaaDoorQuietBelow
import Derived.Deep.RegionWith
namespace Go.Proofs.YtemfmheimblboaaDoor
open Go.RowKit

theorem text_eq {p n q m x y : List UInt8} (hx : textL p n = x) (hy : textL q m = y) (h0 : x ≠ []) : x = y ↔ p = q ∧ n = m := by
  unfold textL at hx hy
  by_cases h1 : labB p n = true
  · rw [if_pos h1] at hx
    by_cases h2 : labB q m = true
    · rw [if_pos h2] at hy
      rw [← hx, ← hy]
      unfold labB at h1 h2
      simp only [Bool.and_eq_true] at h1 h2
      exact long_inj h1.1 h2.1
    · rw [if_neg h2] at hy
      constructor
      · intro e; exact absurd (e.trans hy.symm) h0
      · rintro ⟨rfl, rfl⟩; exact absurd h1 h2
  · rw [if_neg h1] at hx; exact absurd hx.symm h0
theorem two_boxes {w w1 : World} {e : TypeId} {p n q m : List UInt8} (hb : Below ((w.alloc (.cells #[.string (bs p), .string (bs n)] e)).alloc (.cells #[.string (bs q), .string (bs m)] e)).heap.size ((w.alloc (.cells #[.string (bs p), .string (bs n)] e)).alloc (.cells #[.string (bs q), .string (bs m)] e)) w1) :
    w1.cell? ⟨w.heap.size, 0, none⟩ = some (.string (bs p)) ∧ w1.cell? ⟨w.heap.size, 1, none⟩ = some (.string (bs n)) ∧ w1.cell? ⟨w.heap.size + 1, 0, none⟩ = some (.string (bs q)) ∧ w1.cell? ⟨w.heap.size + 1, 1, none⟩ = some (.string (bs m)) ∧ Below w.heap.size w w1 := by
  obtain ⟨c2, c3, hb2⟩ := box_cells hb
  rw [World.size_alloc] at c2 c3 hb2
  have hb2' : Below (w.alloc (.cells #[.string (bs p), .string (bs n)] e)).heap.size (w.alloc (.cells #[.string (bs p), .string (bs n)] e)) w1 := by rw [World.size_alloc]; exact hb2
  obtain ⟨c0, c1, hb1⟩ := box_cells hb2'
  exact ⟨c0, c1, c2, c3, hb1⟩

set_option maxHeartbeats 2000000 in
theorem law_texts (p n q m pkg : List UInt8) (hp : p.length ≤ 140737488351232) (hn : n.length ≤ 140737488351232) (hq : q.length ≤ 140737488351232) (hm : m.length ≤ 140737488351232) (w : World)
    (hk : pkg.length ≤ 140737488351232) :
    Calls Tryd.prog 4 #[labV p n, labV q m, .string (bs pkg)] w fun e w' => e = .returned (.bool true) ∧ Below w.heap.size w w' := by
  have Ha := hid alive_any
  by_cases hbig : 4000 < p.length + n.length + q.length + m.length + pkg.length
  · go_enter Tryd.func4, Tryd.ntmps4
    go_wp2_with fail
    refine (Ha.out _).mono ?_
    rintro e w1 ⟨rfl, hb1⟩
    obtain ⟨c0, c1, c2, c3, hb⟩ := two_boxes hb1
    clear hb1
    go_wp2_with fail
    go_ret
    exact ⟨rfl, hb⟩
  · replace hp : p.length ≤ 1000000000000 := by omega
    replace hn : n.length ≤ 1000000000000 := by omega
    replace hq : q.length ≤ 1000000000000 := by omega
    replace hm : m.length ≤ 1000000000000 := by omega
    replace hk : pkg.length ≤ 1000000000000 := by omega
    obtain ⟨x, hx⟩ : ∃ x, textL p n = x := ⟨_, rfl⟩
    obtain ⟨y, hy⟩ : ∃ y, textL q m = y := ⟨_, rfl⟩
    obtain ⟨z, hz⟩ : ∃ z, shortL p n pkg = z := ⟨_, rfl⟩
    have Hx := hid (text_is p n hp hn x hx)
    have Hy := hid (text_is q m hq hm y hy)
    have Hrx := hid (rtext_is p n hp hn x hx)
    have Hry := hid (rtext_is q m hq hm y hy)
    have Hs := hid (short_is p n pkg hp hn z hz)
    have Hrs := hid (rshort_is p n pkg hp hn z hz)
    have Heq := hid (text_eq hx hy)
    clear hx hy hz
    by_cases h0 : x = []
    · subst h0
      go_enter Tryd.func4, Tryd.ntmps4
      go_wp2_with fail
      refine (Ha.out _).mono ?_
      rintro e w1 ⟨rfl, hb1⟩
      obtain ⟨c0, c1, c2, c3, hb⟩ := two_boxes hb1
      clear hb1
      go_wp2_with fail
      refine wp_region_below (by kernel_rfl) (by kernel_rfl) ?_
      repeat (refine wpQuiet_step (fun K hK => ?_); go_simp; first | (refine hK _ ?_; clear hK K) | (apply Exists.intro; refine ⟨fun W hW => ?_, hK _ ?_⟩; (first | (go_at_call_of 10 (Value.string (bs p)); exact Calls.quiet_below hW (Hx.out W)) | (go_at_call_of 10 (Value.string (bs q)); exact Calls.quiet_below hW (Hy.out W)) | (have e0 := Below.keeps hW c0; have e1 := Below.keeps hW c1; have e2 := Below.keeps hW c2; have e3 := Below.keeps hW c3; go_simp; first | rfl | exact ⟨rfl, rfl⟩)); clear hK K))
      refine wpQuiet_nil ?_
      intro w2 hw2
      have d0 := Below.keeps hw2 c0
      have d1 := Below.keeps hw2 c1
      have d2 := Below.keeps hw2 c2
      have d3 := Below.keeps hw2 c3
      have hbw2 := Below.chain hb hw2
      clear c0 c1 c2 c3 hw2 hb
      go_wp2_with fail
      refine wp_region_below (by kernel_rfl) (by kernel_rfl) ?_
      repeat (refine wpQuiet_step (fun K hK => ?_); go_simp; first | (refine hK _ ?_; clear hK K) | (apply Exists.intro; refine ⟨fun W hW => ?_, hK _ ?_⟩; (first | (go_at_call_of 12 (Value.string (bs p)); exact Calls.quiet_below hW (Hrx.out W)) | (go_at_call_of 12 (Value.string (bs q)); exact Calls.quiet_below hW (Hry.out W)) | (go_at_call 11; exact Calls.quiet_below hW (Hs.out W)) | (go_at_call 13; exact Calls.quiet_below hW (Hrs.out W)) | (have e0 := Below.keeps hW d0; have e1 := Below.keeps hW d1; have e2 := Below.keeps hW d2; have e3 := Below.keeps hW d3; go_simp; first | rfl | exact ⟨rfl, rfl⟩)); clear hK K))
      refine wpQuiet_nil ?_
      intro w3 hw3
      have e0 := Below.keeps hw3 d0
      have e1 := Below.keeps hw3 d1
      have e2 := Below.keeps hw3 d2
      have e3 := Below.keeps hw3 d3
      have hbw3 := Below.chain hbw2 hw3
      clear d0 d1 d2 d3 hw3 hbw2
      go_wp2_with fail
      go_ret
      exact ⟨rfl, hbw3⟩
    · have q0 : (x == []) = false := by simpa using h0
      have q1 : x.isEmpty = false := by simpa using h0
      have heq := Heq.out h0
      have H0 := hid h0
      clear h0
      by_cases he : p = q ∧ n = m
      · have hxy : x = y := heq.2 he
        have q2 : (x == y) = true := by simpa using hxy
        have q3 : (p == q) = true := by simpa using he.1
        have q4 : (n == m) = true := by simpa using he.2
        clear heq Heq he hxy
        go_enter Tryd.func4, Tryd.ntmps4
        go_wp2_with fail
        refine (Ha.out _).mono ?_
        rintro e w1 ⟨rfl, hb1⟩
        obtain ⟨c0, c1, c2, c3, hb⟩ := two_boxes hb1
        clear hb1
        go_wp2_with fail
        refine wp_region_below (by kernel_rfl) (by kernel_rfl) ?_
        repeat (refine wpQuiet_step (fun K hK => ?_); go_simp; first | (refine hK _ ?_; clear hK K) | (apply Exists.intro; refine ⟨fun W hW => ?_, hK _ ?_⟩; (first | (go_at_call_of 10 (Value.string (bs p)); exact Calls.quiet_below hW (Hx.out W)) | (go_at_call_of 10 (Value.string (bs q)); exact Calls.quiet_below hW (Hy.out W)) | (have e0 := Below.keeps hW c0; have e1 := Below.keeps hW c1; have e2 := Below.keeps hW c2; have e3 := Below.keeps hW c3; go_simp; first | rfl | exact ⟨rfl, rfl⟩)); clear hK K))
        refine wpQuiet_nil ?_
        intro w2 hw2
        have d0 := Below.keeps hw2 c0
        have d1 := Below.keeps hw2 c1
        have d2 := Below.keeps hw2 c2
        have d3 := Below.keeps hw2 c3
        have hbw2 := Below.chain hb hw2
        clear c0 c1 c2 c3 hw2 hb
        go_wp2_with fail
        refine wp_region_below (by kernel_rfl) (by kernel_rfl) ?_
        repeat (refine wpQuiet_step (fun K hK => ?_); go_simp; first | (refine hK _ ?_; clear hK K) | (apply Exists.intro; refine ⟨fun W hW => ?_, hK _ ?_⟩; (first | (go_at_call_of 12 (Value.string (bs p)); exact Calls.quiet_below hW (Hrx.out W)) | (go_at_call_of 12 (Value.string (bs q)); exact Calls.quiet_below hW (Hry.out W)) | (go_at_call 11; exact Calls.quiet_below hW (Hs.out W)) | (go_at_call 13; exact Calls.quiet_below hW (Hrs.out W)) | (have e0 := Below.keeps hW d0; have e1 := Below.keeps hW d1; have e2 := Below.keeps hW d2; have e3 := Below.keeps hW d3; go_simp; first | rfl | exact ⟨rfl, rfl⟩)); clear hK K))
        refine wpQuiet_nil ?_
        intro w3 hw3
        have e0 := Below.keeps hw3 d0
        have e1 := Below.keeps hw3 d1
        have e2 := Below.keeps hw3 d2
        have e3 := Below.keeps hw3 d3
        have hbw3 := Below.chain hbw2 hw3
        clear d0 d1 d2 d3 hw3 hbw2
        go_wp2_with fail
        go_ret
        exact ⟨rfl, hbw3⟩
      · have hxy : (x == y) = false := by rw [beq_eq_false_iff_ne]; exact fun e => he (heq.1 e)
        clear heq Heq
        by_cases hpq : p = q
        · have hnm : (n == m) = false := by rw [beq_eq_false_iff_ne]; exact fun e => he ⟨hpq, e⟩
          have q3 : (p == q) = true := by simpa using hpq
          clear he hpq
          go_enter Tryd.func4, Tryd.ntmps4
          go_wp2_with fail
          refine (Ha.out _).mono ?_
          rintro e w1 ⟨rfl, hb1⟩
          obtain ⟨c0, c1, c2, c3, hb⟩ := two_boxes hb1
          clear hb1
          go_wp2_with fail
          refine wp_region_below (by kernel_rfl) (by kernel_rfl) ?_
          repeat (refine wpQuiet_step (fun K hK => ?_); go_simp; first | (refine hK _ ?_; clear hK K) | (apply Exists.intro; refine ⟨fun W hW => ?_, hK _ ?_⟩; (first | (go_at_call_of 10 (Value.string (bs p)); exact Calls.quiet_below hW (Hx.out W)) | (go_at_call_of 10 (Value.string (bs q)); exact Calls.quiet_below hW (Hy.out W)) | (have e0 := Below.keeps hW c0; have e1 := Below.keeps hW c1; have e2 := Below.keeps hW c2; have e3 := Below.keeps hW c3; go_simp; first | rfl | exact ⟨rfl, rfl⟩)); clear hK K))
          refine wpQuiet_nil ?_
          intro w2 hw2
          have d0 := Below.keeps hw2 c0
          have d1 := Below.keeps hw2 c1
          have d2 := Below.keeps hw2 c2
          have d3 := Below.keeps hw2 c3
          have hbw2 := Below.chain hb hw2
          clear c0 c1 c2 c3 hw2 hb
          go_wp2_with fail
          refine wp_region_below (by kernel_rfl) (by kernel_rfl) ?_
          repeat (refine wpQuiet_step (fun K hK => ?_); go_simp; first | (refine hK _ ?_; clear hK K) | (apply Exists.intro; refine ⟨fun W hW => ?_, hK _ ?_⟩; (first | (go_at_call_of 12 (Value.string (bs p)); exact Calls.quiet_below hW (Hrx.out W)) | (go_at_call_of 12 (Value.string (bs q)); exact Calls.quiet_below hW (Hry.out W)) | (go_at_call 11; exact Calls.quiet_below hW (Hs.out W)) | (go_at_call 13; exact Calls.quiet_below hW (Hrs.out W)) | (have e0 := Below.keeps hW d0; have e1 := Below.keeps hW d1; have e2 := Below.keeps hW d2; have e3 := Below.keeps hW d3; go_simp; first | rfl | exact ⟨rfl, rfl⟩)); clear hK K))
          refine wpQuiet_nil ?_
          intro w3 hw3
          have e0 := Below.keeps hw3 d0
          have e1 := Below.keeps hw3 d1
          have e2 := Below.keeps hw3 d2
          have e3 := Below.keeps hw3 d3
          have hbw3 := Below.chain hbw2 hw3
          clear d0 d1 d2 d3 hw3 hbw2
          go_wp2_with fail
          go_ret
          exact ⟨rfl, hbw3⟩
        · have hpq' : (p == q) = false := by rw [beq_eq_false_iff_ne]; exact hpq
          clear he hpq
          go_enter Tryd.func4, Tryd.ntmps4
          go_wp2_with fail
          refine (Ha.out _).mono ?_
          rintro e w1 ⟨rfl, hb1⟩
          obtain ⟨c0, c1, c2, c3, hb⟩ := two_boxes hb1
          clear hb1
          go_wp2_with fail
          refine wp_region_below (by kernel_rfl) (by kernel_rfl) ?_
          repeat (refine wpQuiet_step (fun K hK => ?_); go_simp; first | (refine hK _ ?_; clear hK K) | (apply Exists.intro; refine ⟨fun W hW => ?_, hK _ ?_⟩; (first | (go_at_call_of 10 (Value.string (bs p)); exact Calls.quiet_below hW (Hx.out W)) | (go_at_call_of 10 (Value.string (bs q)); exact Calls.quiet_below hW (Hy.out W)) | (have e0 := Below.keeps hW c0; have e1 := Below.keeps hW c1; have e2 := Below.keeps hW c2; have e3 := Below.keeps hW c3; go_simp; first | rfl | exact ⟨rfl, rfl⟩)); clear hK K))
          refine wpQuiet_nil ?_
          intro w2 hw2
          have d0 := Below.keeps hw2 c0
          have d1 := Below.keeps hw2 c1
          have d2 := Below.keeps hw2 c2
          have d3 := Below.keeps hw2 c3
          have hbw2 := Below.chain hb hw2
          clear c0 c1 c2 c3 hw2 hb
          go_wp2_with fail
          refine wp_region_below (by kernel_rfl) (by kernel_rfl) ?_
          repeat (refine wpQuiet_step (fun K hK => ?_); go_simp; first | (refine hK _ ?_; clear hK K) | (apply Exists.intro; refine ⟨fun W hW => ?_, hK _ ?_⟩; (first | (go_at_call_of 12 (Value.string (bs p)); exact Calls.quiet_below hW (Hrx.out W)) | (go_at_call_of 12 (Value.string (bs q)); exact Calls.quiet_below hW (Hry.out W)) | (go_at_call 11; exact Calls.quiet_below hW (Hs.out W)) | (go_at_call 13; exact Calls.quiet_below hW (Hrs.out W)) | (have e0 := Below.keeps hW d0; have e1 := Below.keeps hW d1; have e2 := Below.keeps hW d2; have e3 := Below.keeps hW d3; go_simp; first | rfl | exact ⟨rfl, rfl⟩)); clear hK K))
          refine wpQuiet_nil ?_
          intro w3 hw3
          have e0 := Below.keeps hw3 d0
          have e1 := Below.keeps hw3 d1
          have e2 := Below.keeps hw3 d2
          have e3 := Below.keeps hw3 d3
          have hbw3 := Below.chain hbw2 hw3
          clear d0 d1 d2 d3 hw3 hbw2
          go_wp2_with fail
          go_ret
          exact ⟨rfl, hbw3⟩
end Go.Proofs.YtemfmheimblboaaDoor
