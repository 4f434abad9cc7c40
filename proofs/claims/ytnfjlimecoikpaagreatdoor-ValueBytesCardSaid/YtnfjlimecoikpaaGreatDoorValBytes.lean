/- Bytes: the program's and the document's. -/
import Derived.Test.YtnfjlimecoikpaaGreatDoorValRRow
import Derived.Test.YtnfjlimecoikpaaGreatDoorValRef4
namespace Go.Proofs.YtnfjlimecoikpaaGreatDoor
set_option maxRecDepth 100000
open Go.RowKit

def bytesV (v : VM) : List UInt8 := if okB v = true then rowV v else []
set_option maxHeartbeats 1000000 in
theorem pbytes_any (k n : Int) (s : List UInt8) (lv kv : Value) (l : List VM) (ks : List (List UInt8)) (hf : fitB (.mk k n s lv kv l ks) = true) (w : World) (hH : Held w (.mk k n s lv kv l ks)) (ht : PowTab w) (r : List UInt8) (hr : bytesV (.mk k n s lv kv l ks) = r) :
    Calls Tryz.prog 15 #[valA k n s lv kv] w fun e w' => e = .returned (.string (bs r)) ∧ Below w.heap.size w w' := by
  have HB := hid (box_new w k n s lv kv 25 (0, 0))
  have hbn := below_new w (.cells #[.int .i64 k, .int .i64 n, .string (bs s), lv, kv] 25)
  cases hok : okB (.mk k n s lv kv l ks) with
  | false =>
    have HF : Hid (r = []) := hid (by rw [← hr]; unfold bytesV; rw [hok]; rfl)
    have HC := hid (check_any k n s lv kv l ks _ (hH.below hbn (Nat.le_refl _)) false hok)
    clear hok hr hH hf
    obtain ⟨c0, c1, c2, c3, c4⟩ := HB.out
    go_enter Tryz.func15, Tryz.ntmps15
    go_wp2_with fail
    refine HC.out.mono ?_
    rintro e w1 ⟨rfl, hb1⟩
    go_wp2_with fail
    go_ret
    exact ⟨by rw [HF.out]; rfl, below_call hb1⟩
  | true =>
    have HF : Hid (r = rowV (.mk k n s lv kv l ks)) := hid (by rw [← hr]; unfold bytesV; rw [hok]; rfl)
    have HC := hid (check_any k n s lv kv l ks _ (hH.below hbn (Nat.le_refl _)) true hok)
    have ho := hok
    unfold okB at ho
    simp only [Bool.and_eq_true, decide_eq_true_eq] at ho
    have HT := hid (fun W (hW : Below w.heap.size w W) => row_all _ k n s lv kv l ks (Nat.le_refl _) ho.2 hf ho.1.1 W (hH.below hW (Nat.le_refl _)) (ht.below hW))
    rw [← HF.out] at HT
    clear hok ho hr hH hf
    obtain ⟨c0, c1, c2, c3, c4⟩ := HB.out
    go_enter Tryz.func15, Tryz.ntmps15
    go_wp2_with fail
    refine HC.out.mono ?_
    rintro e w1 ⟨rfl, hb1⟩
    have hbw1 := below_call hb1
    obtain ⟨d0, d1, d2, d3, d4⟩ := HB.out.keeps hb1
    clear c0 c1 c2 c3 c4 hb1
    go_wp2_with fail
    refine (HT.out _ hbw1).mono ?_
    rintro e w2 ⟨rfl, hb2⟩
    go_wp2_with fail
    go_ret
    exact ⟨rfl, Below.chain hbw1 hb2⟩
set_option maxHeartbeats 1000000 in
theorem rbytes_any (k n : Int) (s : List UInt8) (lv kv : Value) (l : List VM) (ks : List (List UInt8)) (hf : fitB (.mk k n s lv kv l ks) = true) (w : World) (hH : Held w (.mk k n s lv kv l ks)) (r : List UInt8) (hr : bytesV (.mk k n s lv kv l ks) = r) :
    Calls Tryz.prog 17 #[valA k n s lv kv] w fun e w' => e = .returned (.string (bs r)) ∧ Below w.heap.size w w' := by
  have HB := hid (box_new w k n s lv kv 25 (0, 0))
  have hbn := below_new w (.cells #[.int .i64 k, .int .i64 n, .string (bs s), lv, kv] 25)
  cases hok : okB (.mk k n s lv kv l ks) with
  | false =>
    have HF : Hid (r = []) := hid (by rw [← hr]; unfold bytesV; rw [hok]; rfl)
    have HC := hid (rcheck_any k n s lv kv l ks _ (hH.below hbn (Nat.le_refl _)) false hok)
    clear hok hr hH hf
    obtain ⟨c0, c1, c2, c3, c4⟩ := HB.out
    go_enter Tryz.func17, Tryz.ntmps17
    go_wp2_with fail
    refine HC.out.mono ?_
    rintro e w1 ⟨rfl, hb1⟩
    go_wp2_with fail
    go_ret
    exact ⟨by rw [HF.out]; rfl, below_call hb1⟩
  | true =>
    have HF : Hid (r = rowV (.mk k n s lv kv l ks)) := hid (by rw [← hr]; unfold bytesV; rw [hok]; rfl)
    have HC := hid (rcheck_any k n s lv kv l ks _ (hH.below hbn (Nat.le_refl _)) true hok)
    have ho := hok
    unfold okB at ho
    simp only [Bool.and_eq_true, decide_eq_true_eq] at ho
    have HT := hid (fun W (hW : Below w.heap.size w W) => rb_all _ k n s lv kv l ks (Nat.le_refl _) ho.2 hf ho.1.1 W (hH.below hW (Nat.le_refl _)))
    rw [← HF.out] at HT
    clear hok ho hr hH hf
    obtain ⟨c0, c1, c2, c3, c4⟩ := HB.out
    go_enter Tryz.func17, Tryz.ntmps17
    go_wp2_with fail
    refine HC.out.mono ?_
    rintro e w1 ⟨rfl, hb1⟩
    have hbw1 := below_call hb1
    obtain ⟨d0, d1, d2, d3, d4⟩ := HB.out.keeps hb1
    clear c0 c1 c2 c3 c4 hb1
    go_wp2_with fail
    refine (HT.out _ hbw1).mono ?_
    rintro e w2 ⟨rfl, hb2⟩
    go_wp2_with fail
    go_ret
    exact ⟨rfl, Below.chain hbw1 hb2⟩
end Go.Proofs.YtnfjlimecoikpaaGreatDoor
