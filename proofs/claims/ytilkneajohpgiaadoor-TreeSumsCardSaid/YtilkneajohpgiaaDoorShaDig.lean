/- A digest's cells: built, stored. -/
import Derived.Test.YtilkneajohpgiaaDoorShaPlain
import Derived.Test.YtilkneajohpgiaaDoorChecked
import Derived.Laws.Tables
import Derived.Laws.Rows
namespace Go.Proofs.YtilkneajohpgiaaDoor
set_option maxRecDepth 100000
open Go.RowKit
theorem wpList_build_dig {ops : Array Oper} {rest : List Oper} {o : Oper} {a : Act} {w : World} {Q : Exit → Act → World → Prop} (hg : o.guard = none) (ho : o.op = .build 26 #[])
    (h : wpList Tryd.prog ops Q rest (a.put o.dst (.agg (digA [] 0))) w) : wpList Tryd.prog ops Q (o :: rest) a w := by
  refine wpList_plain hg fun _ hK => ?_
  have hb : Tryd.prog.built 26 (#[] : Array (Nat × Value)).toList = some (digA [] 0) := by kernel_rfl
  have hr := run_build w 26 (#[] : Array (Nat × Value)) (digA [] 0) hb
  unfold Oper.wp execOp
  simp only [ho, Array.map_empty, Sem.run_bind, hr, Result.andThen_ok]
  exact hK _ _ h
theorem dig_info : (Tryd.prog.info? 26).map (·.size) = some 32 := by kernel_rfl
theorem digA_one (v : List Int) (k : Nat) : (digA v k).all (·.oneCell') = true := by
  rw [Array.all_eq_true_iff_forall_mem]
  intro x hx
  simp only [digA, List.mem_toArray, List.mem_map] at hx
  obtain ⟨i, _, rfl⟩ := hx
  rfl
theorem wpList_store_dig {ops : Array Oper} {rest : List Oper} {o : Oper} {a : Act} {w : World} {Q : Exit → Act → World → Prop} (hgd : o.guard = none) (x y : Operand) (ho : o.op = .store 26 x y)
    (g : Nat) (v : List Int) (k : Nat) (hx : a.eval x = .pointer (some ⟨g, 0, none⟩)) (hy : a.eval y = .agg (digA v k))
    (old : Array Value) (hg : w.heap[g]? = some (.cells old 26 (0, 0))) (hold : old.size = 32)
    (h : ∀ w', w'.heap[g]? = some (.cells (digA v k) 26 (0, 0)) → w'.heap.size = w.heap.size → (∀ j, j ≠ g → w'.heap[j]? = w.heap[j]?) → w'.os = w.os → w'.tape = w.tape → w'.output = w.output → wpList Tryd.prog ops Q rest (a.put o.dst undef) w') : wpList Tryd.prog ops Q (o :: rest) a w :=
  wpList_store_row hgd 26 x y ho g (digA v k) hx hy 26 old hg (by rw [digA_size]; exact dig_info) (by rw [hold, digA_size]) (digA_one v k)
    (h _ (setRow_heap w g old _ _ _ hg) (setRow_size w g _) (fun j hj => setRow_other w g j _ hj) rfl rfl rfl)
end Go.Proofs.YtilkneajohpgiaaDoor
