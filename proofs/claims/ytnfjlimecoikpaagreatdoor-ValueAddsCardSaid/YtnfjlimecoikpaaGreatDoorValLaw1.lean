/- Print; the chapter's example; the law ValuePrints. -/
import Derived.Test.YtnfjlimecoikpaaGreatDoorValText
import Derived.Test.YtnfjlimecoikpaaGreatDoorValRText
import Derived.Test.YtnfjlimecoikpaaGreatDoorValRef4
import Derived.Test.YtnfjlimecoikpaaGreatDoorMPack
import Derived.Test.YtnfjlimecoikpaaGreatDoorMQuiet
namespace Go.Proofs.YtnfjlimecoikpaaGreatDoor
set_option maxRecDepth 100000
open Go.RowKit

theorem text_all : ∀ N, TextC N
  | 0 => fun k n s lv kv l ks h => by have := dep_pos (.mk k n s lv kv l ks); omega
  | N + 1 => text_step N (text_all N)
set_option maxHeartbeats 1000000 in
theorem print_any (k n : Int) (s : List UInt8) (lv kv : Value) (l : List VM) (ks : List (List UInt8)) (hf : fitB (.mk k n s lv kv l ks) = true) (w : World) (hH : Held w (.mk k n s lv kv l ks)) (ht : PowTab w) (r : List UInt8) (hr : printV (.mk k n s lv kv l ks) = r) :
    Calls Tryz.prog 10 #[valA k n s lv kv] w fun e w' => e = .returned (.string (bs r)) ∧ Below w.heap.size w w' := by
  have HB := hid (box_new w k n s lv kv 25 (0, 0))
  have hbn := below_new w (.cells #[.int .i64 k, .int .i64 n, .string (bs s), lv, kv] 25)
  cases hok : okB (.mk k n s lv kv l ks) with
  | false =>
    have HF : Hid (r = []) := hid (by rw [← hr]; unfold printV; rw [hok]; rfl)
    have HC := hid (check_any k n s lv kv l ks _ (hH.below hbn (Nat.le_refl _)) false hok)
    clear hok hr hH hf
    obtain ⟨c0, c1, c2, c3, c4⟩ := HB.out
    go_enter Tryz.func10, Tryz.ntmps10
    go_wp2_with fail
    refine HC.out.mono ?_
    rintro e w1 ⟨rfl, hb1⟩
    go_wp2_with fail
    go_ret
    exact ⟨by rw [HF.out]; rfl, below_call hb1⟩
  | true =>
    have HF : Hid (r = textV (.mk k n s lv kv l ks)) := hid (by rw [← hr]; unfold printV; rw [hok]; rfl)
    have HC := hid (check_any k n s lv kv l ks _ (hH.below hbn (Nat.le_refl _)) true hok)
    have ho := hok
    unfold okB at ho
    simp only [Bool.and_eq_true, decide_eq_true_eq] at ho
    have HT := hid (fun W (hW : Below w.heap.size w W) => text_all _ k n s lv kv l ks (Nat.le_refl _) ho.2 hf ho.1.1 W (hH.below hW (Nat.le_refl _)) (ht.below hW))
    rw [← HF.out] at HT
    clear hok ho hr hH hf
    obtain ⟨c0, c1, c2, c3, c4⟩ := HB.out
    go_enter Tryz.func10, Tryz.ntmps10
    go_wp2_with fail
    refine HC.out.mono ?_
    rintro e w1 ⟨rfl, hb1⟩
    have hbw1 := below_call hb1
    obtain ⟨d0, d1, d2, d3, d4⟩ := HB.out.keeps hb1
    clear c0 c1 c2 c3 c4 hb1
    go_wp2_with fail
    refine (HT.out _ hbw1).mono ?_
    rintro e w2 ⟨rfl, hb2⟩
    go_wp2_with fail
    go_ret
    exact ⟨rfl, Below.chain hbw1 hb2⟩
theorem rtext_all : ∀ N, RTextC N
  | 0 => fun k n s lv kv l ks h => by have := dep_pos (.mk k n s lv kv l ks); omega
  | N + 1 => rtext_step N (rtext_all N)
set_option maxHeartbeats 1000000 in
theorem rprint_any (k n : Int) (s : List UInt8) (lv kv : Value) (l : List VM) (ks : List (List UInt8)) (hf : fitB (.mk k n s lv kv l ks) = true) (w : World) (hH : Held w (.mk k n s lv kv l ks)) (r : List UInt8) (hr : printV (.mk k n s lv kv l ks) = r) :
    Calls Tryz.prog 11 #[valA k n s lv kv] w fun e w' => e = .returned (.string (bs r)) ∧ Below w.heap.size w w' := by
  have HB := hid (box_new w k n s lv kv 25 (0, 0))
  have hbn := below_new w (.cells #[.int .i64 k, .int .i64 n, .string (bs s), lv, kv] 25)
  cases hok : okB (.mk k n s lv kv l ks) with
  | false =>
    have HF : Hid (r = []) := hid (by rw [← hr]; unfold printV; rw [hok]; rfl)
    have HC := hid (rcheck_any k n s lv kv l ks _ (hH.below hbn (Nat.le_refl _)) false hok)
    clear hok hr hH hf
    obtain ⟨c0, c1, c2, c3, c4⟩ := HB.out
    go_enter Tryz.func11, Tryz.ntmps11
    go_wp2_with fail
    refine HC.out.mono ?_
    rintro e w1 ⟨rfl, hb1⟩
    go_wp2_with fail
    go_ret
    exact ⟨by rw [HF.out]; rfl, below_call hb1⟩
  | true =>
    have HF : Hid (r = textV (.mk k n s lv kv l ks)) := hid (by rw [← hr]; unfold printV; rw [hok]; rfl)
    have HC := hid (rcheck_any k n s lv kv l ks _ (hH.below hbn (Nat.le_refl _)) true hok)
    have ho := hok
    unfold okB at ho
    simp only [Bool.and_eq_true, decide_eq_true_eq] at ho
    have HT := hid (fun W (hW : Below w.heap.size w W) => rtext_all _ k n s lv kv l ks (Nat.le_refl _) ho.2 hf ho.1.1 W (hH.below hW (Nat.le_refl _)))
    rw [← HF.out] at HT
    clear hok ho hr hH hf
    obtain ⟨c0, c1, c2, c3, c4⟩ := HB.out
    go_enter Tryz.func11, Tryz.ntmps11
    go_wp2_with fail
    refine HC.out.mono ?_
    rintro e w1 ⟨rfl, hb1⟩
    have hbw1 := below_call hb1
    obtain ⟨d0, d1, d2, d3, d4⟩ := HB.out.keeps hb1
    clear c0 c1 c2 c3 c4 hb1
    go_wp2_with fail
    refine (HT.out _ hbw1).mono ?_
    rintro e w2 ⟨rfl, hb2⟩
    go_wp2_with fail
    go_ret
    exact ⟨rfl, Below.chain hbw1 hb2⟩
def nilV : Value := .slice none 0 0
def exV (lv : Value) : VM := .mk 4 0 [] lv nilV [.mk 2 1 [] nilV nilV [] [], .mk 3 0 [97] nilV nilV [] []] []
theorem ex_itoa : Lib.itoa 1 = [49] := by
  have h := itoa_nat 1
  rw [dig_lt (by omega)] at h
  exact h
theorem ex_print (lv : Value) : printV (exV lv) = [91, 49, 44, 32, 34, 97, 34, 93] := by
  have h : okB (exV lv) = true := by rfl
  unfold printV
  rw [if_pos h]
  unfold exV
  rw [text_k4]
  simp only [textL']
  rw [text_k2, text_k3, ex_itoa]
  rfl
set_option maxHeartbeats 1000000 in
theorem fixed_any (w : World) (ht : PowTab w) : Calls Tryz.prog 9 #[] w fun e w' => e = .returned (.bool true) ∧ Below w.heap.size w w' := by
  obtain ⟨W, hW⟩ : ∃ W, W = w.alloc (.cells #[.int .i64 2, .int .i64 1, .string ⟨#[]⟩, .slice none 0 0, .slice none 0 0, .int .i64 3, .int .i64 0, .string ⟨#[97]⟩, .slice none 0 0, .slice none 0 0] 25) := ⟨_, rfl⟩
  have hbn := below_new w (.cells #[.int .i64 2, .int .i64 1, .string ⟨#[]⟩, .slice none 0 0, .slice none 0 0, .int .i64 3, .int .i64 0, .string ⟨#[97]⟩, .slice none 0 0, .slice none 0 0] 25)
  have hsl : SliceAt (w.alloc (.cells #[.int .i64 2, .int .i64 1, .string ⟨#[]⟩, .slice none 0 0, .slice none 0 0, .int .i64 3, .int .i64 0, .string ⟨#[97]⟩, .slice none 0 0, .slice none 0 0] 25)) 5 (.slice (some ⟨w.heap.size, 0, none⟩) 2 2) 2 (vmCells [.mk 2 1 [] nilV nilV [] [], .mk 3 0 [97] nilV nilV [] []]) :=
    ⟨rfl, _, 2, rfl, Nat.le_refl _, by unfold maxLen; omega, fun h => (by cases h), fun _ => ⟨_, 0, rfl, by simp, fun j u hu => by
      have := new_cells w #[.int .i64 2, .int .i64 1, .string ⟨#[]⟩, .slice none 0 0, .slice none 0 0, .int .i64 3, .int .i64 0, .string ⟨#[97]⟩, .slice none 0 0, .slice none 0 0] 25 (0, 0) j u hu
      have hadd : (⟨w.heap.size, 0, none⟩ : Addr).add j = ⟨w.heap.size, 0 + j, none⟩ := by unfold Addr.add; split <;> simp_all
      rwa [hadd] at this⟩⟩
  have hnil : ∀ (k n : Int) (s : List UInt8), Held W (.mk k n s nilV nilV [] []) := fun k n s => mk_held (SliceAt.nil W 5) (SliceAt.nil W 1) (by unfold HeldL; trivial)
  rw [← hW] at hsl hbn
  have hHeld : Held W (exV (.slice (some ⟨w.heap.size, 0, none⟩) 2 2)) := mk_held hsl (SliceAt.nil W 1) (by unfold HeldL; exact ⟨hnil _ _ _, by unfold HeldL; exact ⟨hnil _ _ _, by unfold HeldL; trivial⟩⟩)
  have HP := hid (print_any 4 0 [] (.slice (some ⟨w.heap.size, 0, none⟩) 2 2) nilV _ [] (by rfl) W hHeld (ht.below hbn) _ (ex_print _))
  unfold nilV at HP
  clear hsl hnil hHeld
  go_enter Tryz.func9, Tryz.ntmps9
  go_wp2_with fail
  rw [← hW]
  clear hW
  refine HP.out.mono ?_
  rintro e w1 ⟨rfl, hb1⟩
  go_wp2_with fail
  go_ret
  exact ⟨rfl, Below.chain hbn hb1⟩
set_option maxHeartbeats 2000000 in
theorem law_prints (k n : Int) (s : List UInt8) (lv kv : Value) (l : List VM) (ks : List (List UInt8)) (hf : fitB (.mk k n s lv kv l ks) = true) (w : World) (hH : Held w (.mk k n s lv kv l ks)) (ht : PowTab w) :
    Calls Tryz.prog 3 #[valA k n s lv kv] w fun e w' => e = .returned (.bool true) ∧ Below w.heap.size w w' := by
  have HB := hid (box_new w k n s lv kv 25 (0, 0))
  have HG := hid (fun W (hW : Below w.heap.size w W) => rgreat_any k n s lv kv l ks W (hH.below hW (Nat.le_refl _)))
  have HFx := hid (fun W (hW : Below w.heap.size w W) => fixed_any W (ht.below hW))
  obtain ⟨r, hr⟩ : ∃ r, printV (.mk k n s lv kv l ks) = r := ⟨_, rfl⟩
  have HP := hid (fun W (hW : Below w.heap.size w W) => print_any k n s lv kv l ks hf W (hH.below hW (Nat.le_refl _)) (ht.below hW) r hr)
  have HRP := hid (fun W (hW : Below w.heap.size w W) => rprint_any k n s lv kv l ks hf W (hH.below hW (Nat.le_refl _)) r hr)
  clear hr hH hf ht
  obtain ⟨c0, c1, c2, c3, c4⟩ := HB.out
  go_enter Tryz.func3, Tryz.ntmps3
  go_wp2_with fail
  refine (HG.out _ (below_new w _)).mono ?_
  rintro e w1 ⟨b, rfl, -, hb1⟩
  have hbw := below_call hb1
  obtain ⟨d0, d1, d2, d3, d4⟩ := HB.out.keeps hb1
  clear c0 c1 c2 c3 c4 hb1
  cases b with
  | true =>
    go_wp2_with fail
    refine (HFx.out _ hbw).mono ?_
    rintro e w2 ⟨rfl, hb2⟩
    go_wp2_with fail
    go_ret
    exact ⟨rfl, Below.chain hbw hb2⟩
  | false =>
    have q0 : (r == r) = true := beq_self_eq_true r
    go_wp2_with fail
    refine wp_region_wq (by kernel_rfl) (by kernel_rfl) ?_
    repeat (refine WQ.step (fun K hK => ?_); go_simp; first | (refine hK _ ?_; clear hK K) | (apply Exists.intro; refine ⟨fun W hW => ?_, hK _ ?_⟩; (first | (go_at_call 10; exact Calls.quiet_below hW (HP.out W (Below.chain hbw hW))) | (go_at_call 11; exact Calls.quiet_below hW (HRP.out W (Below.chain hbw hW))) | (go_at_call 9; exact Calls.quiet_below hW (HFx.out W (Below.chain hbw hW))) | (first | with_reducible rfl | (have zz0 := Below.keeps hW d0; have zz1 := Below.keeps hW d1; have zz2 := Below.keeps hW d2; have zz3 := Below.keeps hW d3; have zz4 := Below.keeps hW d4; go_simp; first | rfl | exact ⟨rfl, rfl⟩ | (rw [if_neg (by omega)]; exact ⟨rfl, rfl⟩)))); clear hK K))
    refine WQ.nil ?_
    intro w3 hw3
    have hbF := Below.chain hbw hw3
    go_wp2_with fail
    go_ret
    exact ⟨rfl, hbF⟩
end Go.Proofs.YtnfjlimecoikpaaGreatDoor
