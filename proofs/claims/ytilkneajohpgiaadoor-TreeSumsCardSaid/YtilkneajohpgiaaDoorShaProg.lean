/- The program's words: turned, the constants, a block's words. -/
import Derived.Test.YtilkneajohpgiaaDoorShaWord
import Derived.Laws.Tables
import Derived.Laws.Rows
namespace Go.Proofs.YtilkneajohpgiaaDoor
set_option maxRecDepth 100000
open Go.RowKit

set_option maxHeartbeats 400000 in
theorem turned_any (x n : Int) (h1 : 0 < n) (h2 : n < 32) (w : World) : Calls Tryd.prog 47 #[.int .u32 x, .int .i64 n] w fun e w' => e = .returned (.int .u32 (rotI x n)) ∧ w' = w := by
  have H := hid (rotl_any x (32 - n) (by omega) (by omega) w)
  have e1 : 32 - (32 - n) = n := by omega
  rw [e1] at H
  have hw : wrap64 (32 - n) = 32 - n := by unfold wrap64; omega
  clear e1
  go_enter Tryd.func47, Tryd.ntmps47
  go_wp2_with (refine (H.out).mono ?_; rintro e w1 ⟨rfl, rfl⟩)
  go_ret
  exact ⟨rfl, rfl⟩
def kA : Array Value := (wordCells shaK).toArray
theorem kA_size : kA.size = 64 := rfl
theorem words_info : (Tryd.prog.info? 80).map (·.size) = some 64 := by kernel_rfl
theorem kA_one : kA.all (·.oneCell') = true := by kernel_rfl
set_option maxHeartbeats 1000000 in
theorem consts_any (w : World) : Calls Tryd.prog 45 #[] w fun e w' => e = .returned (.agg kA) ∧ Below w.heap.size w w' := by
  go_enter Tryd.func45, Tryd.ntmps45
  go_wp2_with first
    | (refine wpList_build rfl 80 _ rfl (by kernel_rfl) ?_)
    | (refine wpList_store_row rfl 80 _ _ rfl w.heap.size kA rfl (by kernel_rfl) 80 _ (heap_alloc_new w _) (by rw [kA_size]; exact words_info) rfl kA_one ?_)
  refine bodyPost_ret (results_cell_row rfl _ _ w.heap.size _ _ _ _ rfl (setRow_heap _ _ _ _ _ _ (heap_alloc_new w _)) Tryd.underlying80 rfl (by rw [kA_size]; exact words_info)) rfl ⟨rfl, ?_⟩
  exact ⟨rfl, rfl, rfl, by simp, fun k hk => by rw [setRow_other _ _ _ _ (by omega), Below.heap_alloc _ _ _ hk]⟩
end Go.Proofs.YtilkneajohpgiaaDoor
