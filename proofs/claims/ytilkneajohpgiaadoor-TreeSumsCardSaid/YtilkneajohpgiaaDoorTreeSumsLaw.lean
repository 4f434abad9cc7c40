/- The law TreeSums. -/
import Derived.Test.YtilkneajohpgiaaDoorTreeSumsWalk
import Derived.Test.YtilkneajohpgiaaDoorTreeSame
import Derived.ChangeKeysEq
namespace Go.Proofs.YtilkneajohpgiaaDoor
set_option maxRecDepth 100000
open Go.RowKit

theorem eqItems_self (d : Nat) (xs : Array Value) (w : World) : ∀ is : List Nat, (∀ i ∈ is, ∃ n, xs[i]? = some (.int .u8 n)) → (Op.eqItems (d + 1) 5 1 xs xs is).run Tryd.prog w = .ok true w
  | [], _ => by simp [Op.eqItems]
  | i :: is, h => by
    obtain ⟨n, hn⟩ := h i (List.mem_cons_self)
    have hp := run_part_plain (P := Tryd.prog) (e := 5) w (by kernel_rfl) hn
    have ih := eqItems_self d xs w is (fun j hj => h j (List.mem_cons_of_mem _ hj))
    have he := run_equalIn_int (P := Tryd.prog) w d 5 .u8 .u8 n n Tryd.underlying5
    simp only [Op.eqItems, Nat.mul_one, Sem.run_bind, hp, he, Result.andThen_ok]
    simpa using ih
theorem digA_cell (v : List Int) (k i : Nat) (hi : i < 32) : ∃ n, (digA v k)[i]? = some (.int .u8 n) := by
  exact ⟨if i < k then digAt v i else 0, by simp [digA, hi]⟩
theorem treeA_cell (fs : List FileL) (i : Nat) (hi : i < 32) : ∃ n, (treeA fs)[i]? = some (.int .u8 n) := by
  unfold treeA
  split
  · exact digA_cell _ _ i hi
  · exact digA_cell _ _ i hi
theorem u8_some : ∃ i, Tryd.prog.info? 5 = some i := by
  have := u8_info
  cases h : Tryd.prog.info? 5 with
  | none => rw [h] at this; simp at this
  | some i => exact ⟨i, rfl⟩
theorem eq_tree (fs : List FileL) (w : World) : (Op.equalIn 10000 26 (.agg (treeA fs)) (.agg (treeA fs))).run Tryd.prog w = .ok true w := by
  obtain ⟨i, hi⟩ := u8_some
  have h := run_equalIn_array (P := Tryd.prog) w 9999 (treeA fs) (treeA fs) Tryd.underlying26 hi
  rw [h]
  have hc : Tryd.prog.cellsOf 5 = 1 := by kernel_rfl
  rw [hc]
  exact eqItems_self 9998 (treeA fs) w _ (fun j hj => treeA_cell fs j (List.mem_range.1 hj))
set_option maxHeartbeats 1000000 in
theorem law_sums (v0 v1 : Value) (n0 n1 : Nat) (fs gs : List FileL) (w : World) (h0 : SliceAt w 2 v0 n0 (fileCells fs)) (h1 : SliceAt w 2 v1 n1 (fileCells gs)) (ht : PowTab w) :
    Calls Tryd.prog 3 #[v0, v1] w fun e w' => e = .returned (.bool true) ∧ Below w.heap.size w w' := by
  obtain ⟨g, hg⟩ : ∃ g, greatB fs = g := ⟨_, rfl⟩
  obtain ⟨k, hk⟩ : ∃ k, greatB gs = k := ⟨_, rfl⟩
  have Hg := hid (great_is v0 n0 fs g hg)
  have Hk := hid (great_is v1 n1 gs k hk)
  have HF := hid fixed_any
  cases g with
  | true =>
    clear hg
    go_enter Tryd.func3, Tryd.ntmps3
    go_wp2_with fail
    refine (Hg.out _ h0).mono ?_
    rintro e w1 ⟨rfl, rfl⟩
    go_wp2_with fail
    refine (HF.out _).mono ?_
    rintro e w2 ⟨rfl, hb2⟩
    go_wp2_with fail
    go_ret
    exact ⟨rfl, hb2⟩
  | false =>
  cases k with
  | true =>
    clear hk
    go_enter Tryd.func3, Tryd.ntmps3
    go_wp2_with fail
    refine (Hg.out _ h0).mono ?_
    rintro e w1 ⟨rfl, rfl⟩
    go_wp2_with fail
    refine (Hk.out _ h1).mono ?_
    rintro e w1 ⟨rfl, rfl⟩
    go_wp2_with fail
    refine (HF.out _).mono ?_
    rintro e w2 ⟨rfl, hb2⟩
    go_wp2_with fail
    go_ret
    exact ⟨rfl, hb2⟩
  | false =>
    have hr := great_no hg
    have hs := great_no hk
    have Ha := hid (fun W (hW : Below w.heap.size w W) => tsum_any v0 n0 fs W (h0.below hW (Nat.le_refl _)) hr.2 hr.1 (ht.below hW))
    have Hra := hid (fun W (hW : Below w.heap.size w W) => rtsum_any v0 n0 fs W (h0.below hW (Nat.le_refl _)) hr.2 hr.1)
    have Hb := hid (fun W (hW : Below w.heap.size w W) => tsum_any v1 n1 gs W (h1.below hW (Nat.le_refl _)) hs.2 hs.1 (ht.below hW))
    have Hrb := hid (fun W (hW : Below w.heap.size w W) => rtsum_any v1 n1 gs W (h1.below hW (Nat.le_refl _)) hs.2 hs.1)
    have Hs := hid (fun W (hW : Below w.heap.size w W) => same_any v0 v1 n0 n1 fs gs W (h0.below hW (Nat.le_refl _)) (h1.below hW (Nat.le_refl _)))
    have H0 := hid h0
    have H1 := hid h1
    clear hg hk hr hs h0 h1 ht
    go_enter Tryd.func3, Tryd.ntmps3
    go_wp2_with fail
    refine (Hg.out _ H0.out).mono ?_
    rintro e w1 ⟨rfl, rfl⟩
    go_wp2_with fail
    refine (Hk.out _ H1.out).mono ?_
    rintro e w1 ⟨rfl, rfl⟩
    go_wp2_with fail
    refine (Ha.out _ (Below.refl _ _)).mono ?_
    rintro e w1 ⟨rfl, hb1⟩
    go_wp2_with fail
    refine (Hra.out _ hb1).mono ?_
    rintro e w2 ⟨rfl, hb2⟩
    have hb12 := Below.chain hb1 hb2
    have EB := hid (eq_tree gs)
    have ea := eq_tree fs w2
    go_wp2_with fail
    clear ea
    refine (Hb.out _ hb12).mono ?_
    rintro e w3 ⟨rfl, hb3⟩
    have hb13 := Below.chain hb12 hb3
    clear hb1 hb2 hb3 hb12
    go_wp2_with fail
    refine (Hrb.out _ hb13).mono ?_
    rintro e w4 ⟨rfl, hb4⟩
    have hb14 := Below.chain hb13 hb4
    clear hb13 hb4
    have eb := EB.out w4
    go_wp2_with fail
    clear eb
    by_cases hfg : fs = gs
    · subst hfg
      have Hs1 := hid (Hs.out w4 hb14)
      rw [decide_eq_true rfl] at Hs1
      refine Hs1.out.mono ?_
      rintro e w5 ⟨rfl, hd5⟩
      have hb15 := hb14.trans hd5.below
      clear hb14 hd5
      go_wp2_with fail
      refine (Ha.out _ hb15).mono ?_
      rintro e w6 ⟨rfl, hb6⟩
      have hb16 := Below.chain hb15 hb6
      clear hb15 hb6
      go_wp2_with fail
      refine (Hb.out _ hb16).mono ?_
      rintro e w7 ⟨rfl, hb7⟩
      have hb17 := Below.chain hb16 hb7
      clear hb16 hb7
      have eb := EB.out w7
      go_wp2_with fail
      refine (HF.out _).mono ?_
      rintro e w8 ⟨rfl, hb8⟩
      go_wp2_with fail
      go_ret
      exact ⟨rfl, Below.chain hb17 hb8⟩
    · have Hs1 := hid (Hs.out w4 hb14)
      rw [decide_eq_false hfg] at Hs1
      refine Hs1.out.mono ?_
      rintro e w5 ⟨rfl, hd5⟩
      have hb15 := hb14.trans hd5.below
      clear hb14 hd5
      go_wp2_with fail
      refine (HF.out _).mono ?_
      rintro e w8 ⟨rfl, hb8⟩
      go_wp2_with fail
      go_ret
      exact ⟨rfl, Below.chain hb15 hb8⟩
end Go.Proofs.YtilkneajohpgiaaDoor
