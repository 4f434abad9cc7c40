/- 'clear(s)' of a slice of elements of two equal cells each. -/
import Derived.Test.YtffmjjocjcomnaaDoorBase
import Derived.Lib.SliceRun
namespace Go.Proofs.YtffmjjocjcomnaaDoor
open Go.RowKit

theorem run_clear_two {P : Program} (w : World) (t e ty : TypeId) (z z0 : Value) (ht : P.underlying t = some (.slice e)) (hv : ∀ w, (zeroValue e).run P w = .ok z w) (hz : z.cells = #[z0, z0]) (h1 : z0.oneCell' = true) (b o n c : Nat) (hn : 0 < n)
    (hc : ∀ j, j < n * 2 → (w.cell? ⟨b, o + j, none⟩).isSome = true) (hf : ∀ j, j < n * 2 → w.frozen? ⟨b, o + j, none⟩ = false) :
    (Builtin.clear_ #[t] ty #[.slice (some ⟨b, o, none⟩) n c]).run P w = .ok (.tuple #[]) (w.setCells b o (List.replicate (n * 2) z0)) := by
  have hzc : (Builtin.zeroCells z.cells n).toList = List.replicate (n * 2) z0 := by
    rw [hz]
    simp [Builtin.zeroCells]
    apply List.ext_getElem
    · simp
    · intro i h1 h2
      simp
      rcases Nat.mod_two_eq_zero_or_one i with h | h <;> simp [h]
  have hst := run_storeCells_cells (P := P) b o (List.replicate (n * 2) z0) 0 w (by simpa using hc) (by simpa using hf) (by intro v hv'; rw [List.eq_of_mem_replicate hv']; exact h1)
  simp only [Nat.add_zero] at hst
  obtain ⟨m, rfl⟩ : ∃ m, n = m + 1 := ⟨n - 1, by omega⟩
  simp [Builtin.clear_, run_underlying ht, hv, hzc, hst]
end Go.Proofs.YtffmjjocjcomnaaDoor
