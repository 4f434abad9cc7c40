/- The law LabelOrders. -/
import Derived.Test.YtemfmheimblboaaDoorLabelOrder
namespace Go.Proofs.YtemfmheimblboaaDoor
open Go.RowKit

theorem three_boxes {w w1 : World} {e : TypeId} {p n q m r o : List UInt8} (hb : Below (((w.alloc (.cells #[.string (bs p), .string (bs n)] e)).alloc (.cells #[.string (bs q), .string (bs m)] e)).alloc (.cells #[.string (bs r), .string (bs o)] e)).heap.size (((w.alloc (.cells #[.string (bs p), .string (bs n)] e)).alloc (.cells #[.string (bs q), .string (bs m)] e)).alloc (.cells #[.string (bs r), .string (bs o)] e)) w1) :
    w1.cell? ⟨w.heap.size, 0, none⟩ = some (.string (bs p)) ∧ w1.cell? ⟨w.heap.size, 1, none⟩ = some (.string (bs n)) ∧ w1.cell? ⟨w.heap.size + 1, 0, none⟩ = some (.string (bs q)) ∧ w1.cell? ⟨w.heap.size + 1, 1, none⟩ = some (.string (bs m)) ∧
    w1.cell? ⟨w.heap.size + 2, 0, none⟩ = some (.string (bs r)) ∧ w1.cell? ⟨w.heap.size + 2, 1, none⟩ = some (.string (bs o)) ∧ Below w.heap.size w w1 := by
  obtain ⟨c2, c3, hb2⟩ := box_cells hb
  simp only [World.size_alloc] at c2 c3 hb2
  have hb2' : Below ((w.alloc (.cells #[.string (bs p), .string (bs n)] e)).alloc (.cells #[.string (bs q), .string (bs m)] e)).heap.size ((w.alloc (.cells #[.string (bs p), .string (bs n)] e)).alloc (.cells #[.string (bs q), .string (bs m)] e)) w1 := by simp only [World.size_alloc]; exact hb2
  obtain ⟨a0, a1, a2, a3, hb1⟩ := two_boxes hb2'
  exact ⟨a0, a1, a2, a3, c2, c3, hb1⟩

theorem quiet_less {w W : World} {p n q m : List UInt8} {b : Bool} (hW : Below w.heap.size w W) (h : lessLab p n q m = b) :
    Calls Tryd.prog 20 #[labV p n, labV q m] W fun e w'' => e = .returned (.bool b) ∧ Below w.heap.size w w'' := Calls.quiet_below hW (less_is p n q m b h W)

set_option maxHeartbeats 4000000 in
theorem law_orders (p n q m r o : List UInt8) (hp : p.length ≤ 140737488351232) (hn : n.length ≤ 140737488351232) (hq : q.length ≤ 140737488351232) (hm : m.length ≤ 140737488351232) (hr : r.length ≤ 140737488351232) (ho : o.length ≤ 140737488351232) (w : World) :
    Calls Tryd.prog 6 #[labV p n, labV q m, labV r o] w fun e w' => e = .returned (.bool true) ∧ Below w.heap.size w w' := by
  have Ha := hid alive_any
  by_cases hbig : 4000 < p.length + n.length + q.length + m.length + r.length + o.length
  · go_enter Tryd.func6, Tryd.ntmps6
    go_wp2_with fail
    refine (Ha.out _).mono ?_
    rintro e w1 ⟨rfl, hb1⟩
    obtain ⟨c0, c1, c2, c3, c4, c5, hb⟩ := three_boxes hb1
    clear hb1
    go_wp2_with fail
    go_ret
    exact ⟨rfl, hb⟩
  · cases hab' : lessLab p n q m with
    | true =>
      have hba := hid (lab_asymm hab')
      have hne : ¬ (p = q ∧ n = m) := by rintro ⟨rfl, rfl⟩; rw [lab_irrefl] at hab'; cases hab'
      cases hbc' : lessLab q m r o with
      | true =>
        have hac := hid (lab_trans hab' hbc')
        have hab := hid hab'
        have hbc := hid hbc'
        clear hab' hbc'
        by_cases hpq : p = q
        · have q4 : (n == m) = false := by rw [beq_eq_false_iff_ne]; exact fun e => hne ⟨hpq, e⟩
          have q3 : (p == q) = true := by simpa using hpq
          clear hne hpq
          go_enter Tryd.func6, Tryd.ntmps6
          go_wp2_with fail
          refine (Ha.out _).mono ?_
          rintro e w1 ⟨rfl, hb1⟩
          obtain ⟨c0, c1, c2, c3, c4, c5, hb⟩ := three_boxes hb1
          clear hb1
          go_wp2_with fail
          refine wp_region_below (by kernel_rfl) (by kernel_rfl) ?_
          repeat (refine wpQuiet_step (fun K hK => ?_); go_simp; first | (refine hK _ ?_; clear hK K) | (apply Exists.intro; refine ⟨fun W hW => ?_, hK _ ?_⟩; (first | (go_at_call 20; apply quiet_less hW; first | exact hab.out | exact hba.out | exact hbc.out | exact hac.out) | (have e0 := Below.keeps hW c0; have e1 := Below.keeps hW c1; have e2 := Below.keeps hW c2; have e3 := Below.keeps hW c3; have e4 := Below.keeps hW c4; have e5 := Below.keeps hW c5; go_simp; first | rfl | exact ⟨rfl, rfl⟩)); clear hK K))
          refine wpQuiet_nil ?_
          intro w2 hw2
          have d0 := Below.keeps hw2 c0
          have d1 := Below.keeps hw2 c1
          have d2 := Below.keeps hw2 c2
          have d3 := Below.keeps hw2 c3
          have d4 := Below.keeps hw2 c4
          have d5 := Below.keeps hw2 c5
          have hbw2 := Below.chain hb hw2
          clear c0 c1 c2 c3 c4 c5 hw2 hb
          go_wp2_with fail
          refine (rless_is _ _ _ _ true hab.out _).mono ?_
          rintro e w3 ⟨rfl, hw3⟩
          have e0 := Below.keeps hw3 d0
          have e1 := Below.keeps hw3 d1
          have e2 := Below.keeps hw3 d2
          have e3 := Below.keeps hw3 d3
          have e4 := Below.keeps hw3 d4
          have e5 := Below.keeps hw3 d5
          have hbw3 := Below.chain hbw2 hw3
          clear d0 d1 d2 d3 d4 d5 hw3 hbw2
          go_wp2_with fail
          refine (rless_is _ _ _ _ true hbc.out _).mono ?_
          rintro e w4 ⟨rfl, hw4⟩
          have f0 := Below.keeps hw4 e0
          have f1 := Below.keeps hw4 e1
          have f2 := Below.keeps hw4 e2
          have f3 := Below.keeps hw4 e3
          have f4 := Below.keeps hw4 e4
          have f5 := Below.keeps hw4 e5
          have hbw4 := Below.chain hbw3 hw4
          clear e0 e1 e2 e3 e4 e5 hw4 hbw3
          go_wp2_with fail
          refine (rless_is _ _ _ _ true hac.out _).mono ?_
          rintro e w5 ⟨rfl, hw5⟩
          have g0 := Below.keeps hw5 f0
          have g1 := Below.keeps hw5 f1
          have g2 := Below.keeps hw5 f2
          have g3 := Below.keeps hw5 f3
          have g4 := Below.keeps hw5 f4
          have g5 := Below.keeps hw5 f5
          have hbw5 := Below.chain hbw4 hw5
          clear f0 f1 f2 f3 f4 f5 hw5 hbw4
          go_wp2_with fail
          go_ret
          exact ⟨rfl, hbw5⟩
        · have q3 : (p == q) = false := by rw [beq_eq_false_iff_ne]; exact hpq
          clear hne hpq
          go_enter Tryd.func6, Tryd.ntmps6
          go_wp2_with fail
          refine (Ha.out _).mono ?_
          rintro e w1 ⟨rfl, hb1⟩
          obtain ⟨c0, c1, c2, c3, c4, c5, hb⟩ := three_boxes hb1
          clear hb1
          go_wp2_with fail
          refine wp_region_below (by kernel_rfl) (by kernel_rfl) ?_
          repeat (refine wpQuiet_step (fun K hK => ?_); go_simp; first | (refine hK _ ?_; clear hK K) | (apply Exists.intro; refine ⟨fun W hW => ?_, hK _ ?_⟩; (first | (go_at_call 20; apply quiet_less hW; first | exact hab.out | exact hba.out | exact hbc.out | exact hac.out) | (have e0 := Below.keeps hW c0; have e1 := Below.keeps hW c1; have e2 := Below.keeps hW c2; have e3 := Below.keeps hW c3; have e4 := Below.keeps hW c4; have e5 := Below.keeps hW c5; go_simp; first | rfl | exact ⟨rfl, rfl⟩)); clear hK K))
          refine wpQuiet_nil ?_
          intro w2 hw2
          have d0 := Below.keeps hw2 c0
          have d1 := Below.keeps hw2 c1
          have d2 := Below.keeps hw2 c2
          have d3 := Below.keeps hw2 c3
          have d4 := Below.keeps hw2 c4
          have d5 := Below.keeps hw2 c5
          have hbw2 := Below.chain hb hw2
          clear c0 c1 c2 c3 c4 c5 hw2 hb
          go_wp2_with fail
          refine (rless_is _ _ _ _ true hab.out _).mono ?_
          rintro e w3 ⟨rfl, hw3⟩
          have e0 := Below.keeps hw3 d0
          have e1 := Below.keeps hw3 d1
          have e2 := Below.keeps hw3 d2
          have e3 := Below.keeps hw3 d3
          have e4 := Below.keeps hw3 d4
          have e5 := Below.keeps hw3 d5
          have hbw3 := Below.chain hbw2 hw3
          clear d0 d1 d2 d3 d4 d5 hw3 hbw2
          go_wp2_with fail
          refine (rless_is _ _ _ _ true hbc.out _).mono ?_
          rintro e w4 ⟨rfl, hw4⟩
          have f0 := Below.keeps hw4 e0
          have f1 := Below.keeps hw4 e1
          have f2 := Below.keeps hw4 e2
          have f3 := Below.keeps hw4 e3
          have f4 := Below.keeps hw4 e4
          have f5 := Below.keeps hw4 e5
          have hbw4 := Below.chain hbw3 hw4
          clear e0 e1 e2 e3 e4 e5 hw4 hbw3
          go_wp2_with fail
          refine (rless_is _ _ _ _ true hac.out _).mono ?_
          rintro e w5 ⟨rfl, hw5⟩
          have g0 := Below.keeps hw5 f0
          have g1 := Below.keeps hw5 f1
          have g2 := Below.keeps hw5 f2
          have g3 := Below.keeps hw5 f3
          have g4 := Below.keeps hw5 f4
          have g5 := Below.keeps hw5 f5
          have hbw5 := Below.chain hbw4 hw5
          clear f0 f1 f2 f3 f4 f5 hw5 hbw4
          go_wp2_with fail
          go_ret
          exact ⟨rfl, hbw5⟩
      | false =>
        obtain ⟨ac, hac'⟩ : ∃ ac, lessLab p n r o = ac := ⟨_, rfl⟩
        have hac := hid hac'
        have hab := hid hab'
        have hbc := hid hbc'
        clear hab' hbc' hac'
        by_cases hpq : p = q
        · have q4 : (n == m) = false := by rw [beq_eq_false_iff_ne]; exact fun e => hne ⟨hpq, e⟩
          have q3 : (p == q) = true := by simpa using hpq
          clear hne hpq
          go_enter Tryd.func6, Tryd.ntmps6
          go_wp2_with fail
          refine (Ha.out _).mono ?_
          rintro e w1 ⟨rfl, hb1⟩
          obtain ⟨c0, c1, c2, c3, c4, c5, hb⟩ := three_boxes hb1
          clear hb1
          go_wp2_with fail
          refine wp_region_below (by kernel_rfl) (by kernel_rfl) ?_
          repeat (refine wpQuiet_step (fun K hK => ?_); go_simp; first | (refine hK _ ?_; clear hK K) | (apply Exists.intro; refine ⟨fun W hW => ?_, hK _ ?_⟩; (first | (go_at_call 20; apply quiet_less hW; first | exact hab.out | exact hba.out | exact hbc.out | exact hac.out) | (have e0 := Below.keeps hW c0; have e1 := Below.keeps hW c1; have e2 := Below.keeps hW c2; have e3 := Below.keeps hW c3; have e4 := Below.keeps hW c4; have e5 := Below.keeps hW c5; go_simp; first | rfl | exact ⟨rfl, rfl⟩)); clear hK K))
          refine wpQuiet_nil ?_
          intro w2 hw2
          have d0 := Below.keeps hw2 c0
          have d1 := Below.keeps hw2 c1
          have d2 := Below.keeps hw2 c2
          have d3 := Below.keeps hw2 c3
          have d4 := Below.keeps hw2 c4
          have d5 := Below.keeps hw2 c5
          have hbw2 := Below.chain hb hw2
          clear c0 c1 c2 c3 c4 c5 hw2 hb
          go_wp2_with fail
          refine (rless_is _ _ _ _ true hab.out _).mono ?_
          rintro e w3 ⟨rfl, hw3⟩
          have e0 := Below.keeps hw3 d0
          have e1 := Below.keeps hw3 d1
          have e2 := Below.keeps hw3 d2
          have e3 := Below.keeps hw3 d3
          have e4 := Below.keeps hw3 d4
          have e5 := Below.keeps hw3 d5
          have hbw3 := Below.chain hbw2 hw3
          clear d0 d1 d2 d3 d4 d5 hw3 hbw2
          go_wp2_with fail
          refine (rless_is _ _ _ _ false hbc.out _).mono ?_
          rintro e w4 ⟨rfl, hw4⟩
          have f0 := Below.keeps hw4 e0
          have f1 := Below.keeps hw4 e1
          have f2 := Below.keeps hw4 e2
          have f3 := Below.keeps hw4 e3
          have f4 := Below.keeps hw4 e4
          have f5 := Below.keeps hw4 e5
          have hbw4 := Below.chain hbw3 hw4
          clear e0 e1 e2 e3 e4 e5 hw4 hbw3
          go_wp2_with fail
          refine (rless_is _ _ _ _ ac hac.out _).mono ?_
          rintro e w5 ⟨rfl, hw5⟩
          have g0 := Below.keeps hw5 f0
          have g1 := Below.keeps hw5 f1
          have g2 := Below.keeps hw5 f2
          have g3 := Below.keeps hw5 f3
          have g4 := Below.keeps hw5 f4
          have g5 := Below.keeps hw5 f5
          have hbw5 := Below.chain hbw4 hw5
          clear f0 f1 f2 f3 f4 f5 hw5 hbw4
          go_wp2_with fail
          go_ret
          exact ⟨rfl, hbw5⟩
        · have q3 : (p == q) = false := by rw [beq_eq_false_iff_ne]; exact hpq
          clear hne hpq
          go_enter Tryd.func6, Tryd.ntmps6
          go_wp2_with fail
          refine (Ha.out _).mono ?_
          rintro e w1 ⟨rfl, hb1⟩
          obtain ⟨c0, c1, c2, c3, c4, c5, hb⟩ := three_boxes hb1
          clear hb1
          go_wp2_with fail
          refine wp_region_below (by kernel_rfl) (by kernel_rfl) ?_
          repeat (refine wpQuiet_step (fun K hK => ?_); go_simp; first | (refine hK _ ?_; clear hK K) | (apply Exists.intro; refine ⟨fun W hW => ?_, hK _ ?_⟩; (first | (go_at_call 20; apply quiet_less hW; first | exact hab.out | exact hba.out | exact hbc.out | exact hac.out) | (have e0 := Below.keeps hW c0; have e1 := Below.keeps hW c1; have e2 := Below.keeps hW c2; have e3 := Below.keeps hW c3; have e4 := Below.keeps hW c4; have e5 := Below.keeps hW c5; go_simp; first | rfl | exact ⟨rfl, rfl⟩)); clear hK K))
          refine wpQuiet_nil ?_
          intro w2 hw2
          have d0 := Below.keeps hw2 c0
          have d1 := Below.keeps hw2 c1
          have d2 := Below.keeps hw2 c2
          have d3 := Below.keeps hw2 c3
          have d4 := Below.keeps hw2 c4
          have d5 := Below.keeps hw2 c5
          have hbw2 := Below.chain hb hw2
          clear c0 c1 c2 c3 c4 c5 hw2 hb
          go_wp2_with fail
          refine (rless_is _ _ _ _ true hab.out _).mono ?_
          rintro e w3 ⟨rfl, hw3⟩
          have e0 := Below.keeps hw3 d0
          have e1 := Below.keeps hw3 d1
          have e2 := Below.keeps hw3 d2
          have e3 := Below.keeps hw3 d3
          have e4 := Below.keeps hw3 d4
          have e5 := Below.keeps hw3 d5
          have hbw3 := Below.chain hbw2 hw3
          clear d0 d1 d2 d3 d4 d5 hw3 hbw2
          go_wp2_with fail
          refine (rless_is _ _ _ _ false hbc.out _).mono ?_
          rintro e w4 ⟨rfl, hw4⟩
          have f0 := Below.keeps hw4 e0
          have f1 := Below.keeps hw4 e1
          have f2 := Below.keeps hw4 e2
          have f3 := Below.keeps hw4 e3
          have f4 := Below.keeps hw4 e4
          have f5 := Below.keeps hw4 e5
          have hbw4 := Below.chain hbw3 hw4
          clear e0 e1 e2 e3 e4 e5 hw4 hbw3
          go_wp2_with fail
          refine (rless_is _ _ _ _ ac hac.out _).mono ?_
          rintro e w5 ⟨rfl, hw5⟩
          have g0 := Below.keeps hw5 f0
          have g1 := Below.keeps hw5 f1
          have g2 := Below.keeps hw5 f2
          have g3 := Below.keeps hw5 f3
          have g4 := Below.keeps hw5 f4
          have g5 := Below.keeps hw5 f5
          have hbw5 := Below.chain hbw4 hw5
          clear f0 f1 f2 f3 f4 f5 hw5 hbw4
          go_wp2_with fail
          go_ret
          exact ⟨rfl, hbw5⟩
    | false =>
      obtain ⟨bc, hbc'⟩ : ∃ bc, lessLab q m r o = bc := ⟨_, rfl⟩
      obtain ⟨ac, hac'⟩ : ∃ ac, lessLab p n r o = ac := ⟨_, rfl⟩
      have hac := hid hac'
      have hbc := hid hbc'
      clear hbc' hac'
      cases hba' : lessLab q m p n with
      | true =>
        have hne : ¬ (p = q ∧ n = m) := by rintro ⟨rfl, rfl⟩; rw [lab_irrefl] at hab'; rw [lab_irrefl] at hba'; cases hba'
        have hab := hid hab'
        have hba := hid hba'
        clear hab' hba'
        by_cases hpq : p = q
        · have q4 : (n == m) = false := by rw [beq_eq_false_iff_ne]; exact fun e => hne ⟨hpq, e⟩
          have q3 : (p == q) = true := by simpa using hpq
          clear hne hpq
          go_enter Tryd.func6, Tryd.ntmps6
          go_wp2_with fail
          refine (Ha.out _).mono ?_
          rintro e w1 ⟨rfl, hb1⟩
          obtain ⟨c0, c1, c2, c3, c4, c5, hb⟩ := three_boxes hb1
          clear hb1
          go_wp2_with fail
          refine wp_region_below (by kernel_rfl) (by kernel_rfl) ?_
          repeat (refine wpQuiet_step (fun K hK => ?_); go_simp; first | (refine hK _ ?_; clear hK K) | (apply Exists.intro; refine ⟨fun W hW => ?_, hK _ ?_⟩; (first | (go_at_call 20; apply quiet_less hW; first | exact hab.out | exact hba.out | exact hbc.out | exact hac.out) | (have e0 := Below.keeps hW c0; have e1 := Below.keeps hW c1; have e2 := Below.keeps hW c2; have e3 := Below.keeps hW c3; have e4 := Below.keeps hW c4; have e5 := Below.keeps hW c5; go_simp; first | rfl | exact ⟨rfl, rfl⟩)); clear hK K))
          refine wpQuiet_nil ?_
          intro w2 hw2
          have d0 := Below.keeps hw2 c0
          have d1 := Below.keeps hw2 c1
          have d2 := Below.keeps hw2 c2
          have d3 := Below.keeps hw2 c3
          have d4 := Below.keeps hw2 c4
          have d5 := Below.keeps hw2 c5
          have hbw2 := Below.chain hb hw2
          clear c0 c1 c2 c3 c4 c5 hw2 hb
          go_wp2_with fail
          refine (rless_is _ _ _ _ false hab.out _).mono ?_
          rintro e w3 ⟨rfl, hw3⟩
          have e0 := Below.keeps hw3 d0
          have e1 := Below.keeps hw3 d1
          have e2 := Below.keeps hw3 d2
          have e3 := Below.keeps hw3 d3
          have e4 := Below.keeps hw3 d4
          have e5 := Below.keeps hw3 d5
          have hbw3 := Below.chain hbw2 hw3
          clear d0 d1 d2 d3 d4 d5 hw3 hbw2
          go_wp2_with fail
          refine (rless_is _ _ _ _ bc hbc.out _).mono ?_
          rintro e w4 ⟨rfl, hw4⟩
          have f0 := Below.keeps hw4 e0
          have f1 := Below.keeps hw4 e1
          have f2 := Below.keeps hw4 e2
          have f3 := Below.keeps hw4 e3
          have f4 := Below.keeps hw4 e4
          have f5 := Below.keeps hw4 e5
          have hbw4 := Below.chain hbw3 hw4
          clear e0 e1 e2 e3 e4 e5 hw4 hbw3
          go_wp2_with fail
          refine (rless_is _ _ _ _ ac hac.out _).mono ?_
          rintro e w5 ⟨rfl, hw5⟩
          have g0 := Below.keeps hw5 f0
          have g1 := Below.keeps hw5 f1
          have g2 := Below.keeps hw5 f2
          have g3 := Below.keeps hw5 f3
          have g4 := Below.keeps hw5 f4
          have g5 := Below.keeps hw5 f5
          have hbw5 := Below.chain hbw4 hw5
          clear f0 f1 f2 f3 f4 f5 hw5 hbw4
          go_wp2_with fail
          go_ret
          exact ⟨rfl, hbw5⟩
        · have q3 : (p == q) = false := by rw [beq_eq_false_iff_ne]; exact hpq
          clear hne hpq
          go_enter Tryd.func6, Tryd.ntmps6
          go_wp2_with fail
          refine (Ha.out _).mono ?_
          rintro e w1 ⟨rfl, hb1⟩
          obtain ⟨c0, c1, c2, c3, c4, c5, hb⟩ := three_boxes hb1
          clear hb1
          go_wp2_with fail
          refine wp_region_below (by kernel_rfl) (by kernel_rfl) ?_
          repeat (refine wpQuiet_step (fun K hK => ?_); go_simp; first | (refine hK _ ?_; clear hK K) | (apply Exists.intro; refine ⟨fun W hW => ?_, hK _ ?_⟩; (first | (go_at_call 20; apply quiet_less hW; first | exact hab.out | exact hba.out | exact hbc.out | exact hac.out) | (have e0 := Below.keeps hW c0; have e1 := Below.keeps hW c1; have e2 := Below.keeps hW c2; have e3 := Below.keeps hW c3; have e4 := Below.keeps hW c4; have e5 := Below.keeps hW c5; go_simp; first | rfl | exact ⟨rfl, rfl⟩)); clear hK K))
          refine wpQuiet_nil ?_
          intro w2 hw2
          have d0 := Below.keeps hw2 c0
          have d1 := Below.keeps hw2 c1
          have d2 := Below.keeps hw2 c2
          have d3 := Below.keeps hw2 c3
          have d4 := Below.keeps hw2 c4
          have d5 := Below.keeps hw2 c5
          have hbw2 := Below.chain hb hw2
          clear c0 c1 c2 c3 c4 c5 hw2 hb
          go_wp2_with fail
          refine (rless_is _ _ _ _ false hab.out _).mono ?_
          rintro e w3 ⟨rfl, hw3⟩
          have e0 := Below.keeps hw3 d0
          have e1 := Below.keeps hw3 d1
          have e2 := Below.keeps hw3 d2
          have e3 := Below.keeps hw3 d3
          have e4 := Below.keeps hw3 d4
          have e5 := Below.keeps hw3 d5
          have hbw3 := Below.chain hbw2 hw3
          clear d0 d1 d2 d3 d4 d5 hw3 hbw2
          go_wp2_with fail
          refine (rless_is _ _ _ _ bc hbc.out _).mono ?_
          rintro e w4 ⟨rfl, hw4⟩
          have f0 := Below.keeps hw4 e0
          have f1 := Below.keeps hw4 e1
          have f2 := Below.keeps hw4 e2
          have f3 := Below.keeps hw4 e3
          have f4 := Below.keeps hw4 e4
          have f5 := Below.keeps hw4 e5
          have hbw4 := Below.chain hbw3 hw4
          clear e0 e1 e2 e3 e4 e5 hw4 hbw3
          go_wp2_with fail
          refine (rless_is _ _ _ _ ac hac.out _).mono ?_
          rintro e w5 ⟨rfl, hw5⟩
          have g0 := Below.keeps hw5 f0
          have g1 := Below.keeps hw5 f1
          have g2 := Below.keeps hw5 f2
          have g3 := Below.keeps hw5 f3
          have g4 := Below.keeps hw5 f4
          have g5 := Below.keeps hw5 f5
          have hbw5 := Below.chain hbw4 hw5
          clear f0 f1 f2 f3 f4 f5 hw5 hbw4
          go_wp2_with fail
          go_ret
          exact ⟨rfl, hbw5⟩
      | false =>
        obtain ⟨h1, h2⟩ := lab_total hab' hba'
        have hab := hid hab'
        have hba := hid hba'
        have q3 : (p == q) = true := by simpa using h1
        have q4 : (n == m) = true := by simpa using h2
        clear hab' hba' h1 h2
        go_enter Tryd.func6, Tryd.ntmps6
        go_wp2_with fail
        refine (Ha.out _).mono ?_
        rintro e w1 ⟨rfl, hb1⟩
        obtain ⟨c0, c1, c2, c3, c4, c5, hb⟩ := three_boxes hb1
        clear hb1
        go_wp2_with fail
        refine wp_region_below (by kernel_rfl) (by kernel_rfl) ?_
        repeat (refine wpQuiet_step (fun K hK => ?_); go_simp; first | (refine hK _ ?_; clear hK K) | (apply Exists.intro; refine ⟨fun W hW => ?_, hK _ ?_⟩; (first | (go_at_call 20; apply quiet_less hW; first | exact hab.out | exact hba.out | exact hbc.out | exact hac.out) | (have e0 := Below.keeps hW c0; have e1 := Below.keeps hW c1; have e2 := Below.keeps hW c2; have e3 := Below.keeps hW c3; have e4 := Below.keeps hW c4; have e5 := Below.keeps hW c5; go_simp; first | rfl | exact ⟨rfl, rfl⟩)); clear hK K))
        refine wpQuiet_nil ?_
        intro w2 hw2
        have d0 := Below.keeps hw2 c0
        have d1 := Below.keeps hw2 c1
        have d2 := Below.keeps hw2 c2
        have d3 := Below.keeps hw2 c3
        have d4 := Below.keeps hw2 c4
        have d5 := Below.keeps hw2 c5
        have hbw2 := Below.chain hb hw2
        clear c0 c1 c2 c3 c4 c5 hw2 hb
        go_wp2_with fail
        refine (rless_is _ _ _ _ false hab.out _).mono ?_
        rintro e w3 ⟨rfl, hw3⟩
        have e0 := Below.keeps hw3 d0
        have e1 := Below.keeps hw3 d1
        have e2 := Below.keeps hw3 d2
        have e3 := Below.keeps hw3 d3
        have e4 := Below.keeps hw3 d4
        have e5 := Below.keeps hw3 d5
        have hbw3 := Below.chain hbw2 hw3
        clear d0 d1 d2 d3 d4 d5 hw3 hbw2
        go_wp2_with fail
        refine (rless_is _ _ _ _ bc hbc.out _).mono ?_
        rintro e w4 ⟨rfl, hw4⟩
        have f0 := Below.keeps hw4 e0
        have f1 := Below.keeps hw4 e1
        have f2 := Below.keeps hw4 e2
        have f3 := Below.keeps hw4 e3
        have f4 := Below.keeps hw4 e4
        have f5 := Below.keeps hw4 e5
        have hbw4 := Below.chain hbw3 hw4
        clear e0 e1 e2 e3 e4 e5 hw4 hbw3
        go_wp2_with fail
        refine (rless_is _ _ _ _ ac hac.out _).mono ?_
        rintro e w5 ⟨rfl, hw5⟩
        have g0 := Below.keeps hw5 f0
        have g1 := Below.keeps hw5 f1
        have g2 := Below.keeps hw5 f2
        have g3 := Below.keeps hw5 f3
        have g4 := Below.keeps hw5 f4
        have g5 := Below.keeps hw5 f5
        have hbw5 := Below.chain hbw4 hw5
        clear f0 f1 f2 f3 f4 f5 hw5 hbw4
        go_wp2_with fail
        go_ret
        exact ⟨rfl, hbw5⟩
end Go.Proofs.YtemfmheimblboaaDoor
