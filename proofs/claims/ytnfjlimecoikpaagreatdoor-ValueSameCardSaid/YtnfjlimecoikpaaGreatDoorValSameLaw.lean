/- The law ValueSame. -/
import Derived.Test.YtnfjlimecoikpaaGreatDoorValBytes
import Derived.Test.YtnfjlimecoikpaaGreatDoorValSame
import Derived.Test.YtnfjlimecoikpaaGreatDoorValLaw1
namespace Go.Proofs.YtnfjlimecoikpaaGreatDoor
set_option maxRecDepth 100000
open Go.RowKit

set_option maxHeartbeats 2000000 in
theorem law_same (k n : Int) (s : List UInt8) (lv kv : Value) (l : List VM) (ks : List (List UInt8)) (k' n' : Int) (s' : List UInt8) (lv' kv' : Value) (l' : List VM) (ks' : List (List UInt8)) (hf : fitB (.mk k n s lv kv l ks) = true) (hf' : fitB (.mk k' n' s' lv' kv' l' ks') = true) (w : World) (hH : Held w (.mk k n s lv kv l ks)) (hH' : Held w (.mk k' n' s' lv' kv' l' ks')) (ht : PowTab w) :
    Calls Tryz.prog 4 #[valA k n s lv kv, valA k' n' s' lv' kv'] w fun e w' => e = .returned (.bool true) ∧ Below w.heap.size w w' := by
  have HBA0 := hid (box_two w k n s lv kv (.cells #[.int .i64 k', .int .i64 n', .string (bs s'), lv', kv'] 25 (0, 0)) 25 (0, 0))
  have HBB0 := hid (box_next w k' n' s' lv' kv' (.cells #[.int .i64 k, .int .i64 n, .string (bs s), lv, kv] 25 (0, 0)) 25 (0, 0))
  have hq0 := below_new2 w (.cells #[.int .i64 k, .int .i64 n, .string (bs s), lv, kv] 25 (0, 0)) (.cells #[.int .i64 k', .int .i64 n', .string (bs s'), lv', kv'] 25 (0, 0))
  have HG := hid (fun W (hW : Below w.heap.size w W) => rgreat_any k n s lv kv l ks W (hH.below hW (Nat.le_refl _)))
  have HG' := hid (fun W (hW : Below w.heap.size w W) => rgreat_any k' n' s' lv' kv' l' ks' W (hH'.below hW (Nat.le_refl _)))
  have HFx := hid (fun W (hW : Below w.heap.size w W) => fixed_any W (ht.below hW))
  have HRS := hid (fun W (hW : Below w.heap.size w W) => rsame_any (.mk k n s lv kv l ks) (.mk k' n' s' lv' kv' l' ks') W (hH.below hW (Nat.le_refl _)) (hH'.below hW (Nat.le_refl _)))
  have HPS := hid (fun W (hW : Below w.heap.size w W) => psame_any (.mk k n s lv kv l ks) (.mk k' n' s' lv' kv' l' ks') W (hH.below hW (Nat.le_refl _)) (hH'.below hW (Nat.le_refl _)))
  have HPS' := hid (fun W (hW : Below w.heap.size w W) => psame_any (.mk k' n' s' lv' kv' l' ks') (.mk k n s lv kv l ks) W (hH'.below hW (Nat.le_refl _)) (hH.below hW (Nat.le_refl _)))
  have HPA := hid (fun W (hW : Below w.heap.size w W) => psame_any (.mk k n s lv kv l ks) (.mk k n s lv kv l ks) W (hH.below hW (Nat.le_refl _)) (hH.below hW (Nat.le_refl _)))
  have HC := hid (fun W (hW : Below w.heap.size w W) b hb => rcheck_any k n s lv kv l ks W (hH.below hW (Nat.le_refl _)) b hb)
  have HC' := hid (fun W (hW : Below w.heap.size w W) b hb => rcheck_any k' n' s' lv' kv' l' ks' W (hH'.below hW (Nat.le_refl _)) b hb)
  have HY := hid (fun W (hW : Below w.heap.size w W) => pbytes_any k n s lv kv l ks hf W (hH.below hW (Nat.le_refl _)) (ht.below hW) _ rfl)
  have HY' := hid (fun W (hW : Below w.heap.size w W) => pbytes_any k' n' s' lv' kv' l' ks' hf' W (hH'.below hW (Nat.le_refl _)) (ht.below hW) _ rfl)
  have HI := hid (fun (h1 : okB (.mk k n s lv kv l ks) = true) (h2 : okB (.mk k' n' s' lv' kv' l' ks') = true) (c1 : cnt (.mk k n s lv kv l ks) ≤ 2000) (c2 : cnt (.mk k' n' s' lv' kv' l' ks') ≤ 2000) => show (bytesV (.mk k n s lv kv l ks) == bytesV (.mk k' n' s' lv' kv' l' ks')) = sameB (.mk k n s lv kv l ks) (.mk k' n' s' lv' kv' l' ks') by
    have e1 : bytesV (.mk k n s lv kv l ks) = rowV (.mk k n s lv kv l ks) := by unfold bytesV; rw [if_pos h1]
    have e2 : bytesV (.mk k' n' s' lv' kv' l' ks') = rowV (.mk k' n' s' lv' kv' l' ks') := by unfold bytesV; rw [if_pos h2]
    rw [e1, e2, ← row_iff h1 h2 hf hf' c1 c2]
    rw [Bool.eq_iff_iff]; simp)
  rw [same_refl] at HPA
  rw [same_comm (.mk k' n' s' lv' kv' l' ks') (.mk k n s lv kv l ks)] at HPS'
  have HO : Hid (okB (.mk k n s lv kv l ks) = true → cnt (.mk k n s lv kv l ks) ≤ 20000) := hid (fun h => by unfold okB at h; simp only [Bool.and_eq_true, decide_eq_true_eq] at h; exact h.1.1)
  have HO' : Hid (okB (.mk k' n' s' lv' kv' l' ks') = true → cnt (.mk k' n' s' lv' kv' l' ks') ≤ 20000) := hid (fun h => by unfold okB at h; simp only [Bool.and_eq_true, decide_eq_true_eq] at h; exact h.1.1)
  obtain ⟨a0, a1, a2, a3, a4⟩ := HBA0.out
  obtain ⟨b0, b1, b2, b3, b4⟩ := HBB0.out
  clear hH hH' hf hf' ht
  generalize bytesV (.mk k n s lv kv l ks) = ra at *
  generalize bytesV (.mk k' n' s' lv' kv' l' ks') = rb at *
  generalize sameB (.mk k n s lv kv l ks) (.mk k' n' s' lv' kv' l' ks') = sb at *
  obtain ⟨ca, hca⟩ : ∃ ca, okB (.mk k n s lv kv l ks) = ca := ⟨_, rfl⟩
  obtain ⟨cb, hcb⟩ : ∃ cb, okB (.mk k' n' s' lv' kv' l' ks') = cb := ⟨_, rfl⟩
  have HCA := hid (fun W hW => HC.out W hW ca hca)
  have HCB := hid (fun W hW => HC'.out W hW cb hcb)
  clear HC HC'
  go_enter Tryz.func4, Tryz.ntmps4
  go_wp2_with fail
  refine (HG.out _ hq0).mono ?_
  rintro e w1 ⟨g1, rfl, hg1, hb1⟩
  have hq1 := Below.chain hq0 hb1
  have HBA1 := hid (HBA0.out.keeps hb1)
  have HBB1 := hid (HBB0.out.keeps hb1)
  clear a0 a1 a2 a3 a4 b0 b1 b2 b3 b4 hb1
  obtain ⟨a0, a1, a2, a3, a4⟩ := HBA1.out
  obtain ⟨b0, b1, b2, b3, b4⟩ := HBB1.out
  cases g1 with
  | true =>
    go_wp2_with fail
    refine (HFx.out _ hq1).mono ?_
    rintro e wz ⟨rfl, hbz⟩
    go_wp2_with fail
    go_ret
    exact ⟨rfl, Below.chain hq1 hbz⟩
  | false =>
    go_wp2_with fail
    refine (HG'.out _ hq1).mono ?_
    rintro e w2 ⟨g2, rfl, hg2, hb2⟩
    have hq2 := Below.chain hq1 hb2
    have HBA2 := hid (HBA1.out.keeps hb2)
    have HBB2 := hid (HBB1.out.keeps hb2)
    clear a0 a1 a2 a3 a4 b0 b1 b2 b3 b4 hb2
    obtain ⟨a0, a1, a2, a3, a4⟩ := HBA2.out
    obtain ⟨b0, b1, b2, b3, b4⟩ := HBB2.out
    cases g2 with
    | true =>
      go_wp2_with fail
      refine (HFx.out _ hq2).mono ?_
      rintro e wz ⟨rfl, hbz⟩
      go_wp2_with fail
      go_ret
      exact ⟨rfl, Below.chain hq2 hbz⟩
    | false =>
      have qs : (sb != sb) = false := bne_self_eq_false sb
      go_wp2_with fail
      refine (HRS.out _ hq2).mono ?_
      rintro e w3 ⟨rfl, hb3⟩
      have hq3 := Below.chain hq2 hb3
      have HBA3 := hid (HBA2.out.keeps hb3)
      have HBB3 := hid (HBB2.out.keeps hb3)
      clear a0 a1 a2 a3 a4 b0 b1 b2 b3 b4 hb3
      obtain ⟨a0, a1, a2, a3, a4⟩ := HBA3.out
      obtain ⟨b0, b1, b2, b3, b4⟩ := HBB3.out
      go_wp2_with fail
      refine (HPS.out _ hq3).mono ?_
      rintro e w4 ⟨rfl, hb4⟩
      have hq4 := Below.chain hq3 hb4
      have HBA4 := hid (HBA3.out.keeps hb4)
      have HBB4 := hid (HBB3.out.keeps hb4)
      clear a0 a1 a2 a3 a4 b0 b1 b2 b3 b4 hb4
      obtain ⟨a0, a1, a2, a3, a4⟩ := HBA4.out
      obtain ⟨b0, b1, b2, b3, b4⟩ := HBB4.out
      go_wp2_with fail
      refine (HPS'.out _ hq4).mono ?_
      rintro e w5 ⟨rfl, hb5⟩
      have hq5 := Below.chain hq4 hb5
      have HBA5 := hid (HBA4.out.keeps hb5)
      have HBB5 := hid (HBB4.out.keeps hb5)
      clear a0 a1 a2 a3 a4 b0 b1 b2 b3 b4 hb5
      obtain ⟨a0, a1, a2, a3, a4⟩ := HBA5.out
      obtain ⟨b0, b1, b2, b3, b4⟩ := HBB5.out
      go_wp2_with fail
      refine (HPA.out _ hq5).mono ?_
      rintro e w6 ⟨rfl, hb6⟩
      have hq6 := Below.chain hq5 hb6
      have HBA6 := hid (HBA5.out.keeps hb6)
      have HBB6 := hid (HBB5.out.keeps hb6)
      clear a0 a1 a2 a3 a4 b0 b1 b2 b3 b4 hb6
      obtain ⟨a0, a1, a2, a3, a4⟩ := HBA6.out
      obtain ⟨b0, b1, b2, b3, b4⟩ := HBB6.out
      go_wp2_with fail
      refine (HCA.out _ hq6).mono ?_
      rintro e w7 ⟨rfl, hb7⟩
      have hq7 := Below.chain hq6 hb7
      have HBA7 := hid (HBA6.out.keeps hb7)
      have HBB7 := hid (HBB6.out.keeps hb7)
      clear a0 a1 a2 a3 a4 b0 b1 b2 b3 b4 hb7
      obtain ⟨a0, a1, a2, a3, a4⟩ := HBA7.out
      obtain ⟨b0, b1, b2, b3, b4⟩ := HBB7.out
      cases ca with
      | false =>
        go_wp2_with fail
        refine (HFx.out _ hq7).mono ?_
        rintro e wz ⟨rfl, hbz⟩
        go_wp2_with fail
        go_ret
        exact ⟨rfl, Below.chain hq7 hbz⟩
      | true =>
        go_wp2_with fail
        refine (HCB.out _ hq7).mono ?_
        rintro e w8 ⟨rfl, hb8⟩
        have hq8 := Below.chain hq7 hb8
        have HBA8 := hid (HBA7.out.keeps hb8)
        have HBB8 := hid (HBB7.out.keeps hb8)
        clear a0 a1 a2 a3 a4 b0 b1 b2 b3 b4 hb8
        obtain ⟨a0, a1, a2, a3, a4⟩ := HBA8.out
        obtain ⟨b0, b1, b2, b3, b4⟩ := HBB8.out
        cases cb with
        | false =>
          go_wp2_with fail
          refine (HFx.out _ hq8).mono ?_
          rintro e wz ⟨rfl, hbz⟩
          go_wp2_with fail
          go_ret
          exact ⟨rfl, Below.chain hq8 hbz⟩
        | true =>
          have hc1 : cnt (.mk k n s lv kv l ks) ≤ 2000 := by
            have := hg1 (HO.out hca)
            have h60 := (Bool.or_eq_false_iff.1 this.symm).1
            have := of_decide_eq_false h60
            omega
          have hc2 : cnt (.mk k' n' s' lv' kv' l' ks') ≤ 2000 := by
            have := hg2 (HO'.out hcb)
            have h60 := (Bool.or_eq_false_iff.1 this.symm).1
            have := of_decide_eq_false h60
            omega
          have qr := HI.out hca hcb hc1 hc2
          have q2 : (sb == sb) = true := beq_self_eq_true sb
          clear hc1 hc2 hg1 hg2 hca hcb
          go_wp2_with fail
          refine wp_region_wq (by kernel_rfl) (by kernel_rfl) ?_
          repeat (refine WQ.step (fun K hK => ?_); go_simp; first | (refine hK _ ?_; clear hK K) | (apply Exists.intro; refine ⟨fun W hW => ?_, hK _ ?_⟩; (first | (go_at_call 15; exact Calls.quiet_below hW (HY.out W (Below.chain hq8 hW))) | (go_at_call 15; exact Calls.quiet_below hW (HY'.out W (Below.chain hq8 hW))) | (go_at_call 9; exact Calls.quiet_below hW (HFx.out W (Below.chain hq8 hW))) | (first | with_reducible rfl | (have zz0 := Below.keeps hW a0; have zz1 := Below.keeps hW a1; have zz2 := Below.keeps hW a2; have zz3 := Below.keeps hW a3; have zz4 := Below.keeps hW a4; have zz5 := Below.keeps hW b0; have zz6 := Below.keeps hW b1; have zz7 := Below.keeps hW b2; have zz8 := Below.keeps hW b3; have zz9 := Below.keeps hW b4; go_simp; first | rfl | exact ⟨rfl, rfl⟩ | (rw [if_neg (by omega)]; exact ⟨rfl, rfl⟩)))); clear hK K))
          refine WQ.nil ?_
          intro wq hwq
          have hbF := Below.chain hq8 hwq
          go_wp2_with fail
          go_ret
          exact ⟨rfl, hbF⟩
end Go.Proofs.YtnfjlimecoikpaaGreatDoor
