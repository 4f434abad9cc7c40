/- The frame's opener of a '[]api.File'. -/
import Derived.Test.YtilkneajohpgiaaDoorFrame
import Derived.Test.YtilkneajohpgiaaDoorTreePlain
import Derived.Deep.SlicePairs
namespace Go.Proofs.YtilkneajohpgiaaDoor
open Go.ChangeShapes Go.WideShapes Go.ChangeAt Go.RowKit
set_option maxRecDepth 100000

theorem file_under : ∃ f0 f1 : Field, Tryd.prog.underlying 30 = some (.struct #[f0, f1]) ∧ f0.offset = 0 ∧ f1.offset = 1 ∧ f0.type = 9 ∧ f1.type = 9 :=
  ⟨_, _, rfl, rfl, rfl, rfl, rfl⟩

/-- A '[]api.File' that came in. -/
theorem arg_files {H : Type} {enc : TypeId × Value → H} {W : World} {base : Nat} {v : Value} {d : DataW H} {p : List MemPlace}
    (hv : Value.okWide Tryd.prog W .any base 22 v) (h : DataW.Trod enc Tryd.prog W 0 (fun _ => true) true 22 v d p) (hw : ∀ n ∈ d.weights Tryd.prog 22, n ≤ reachBytes) :
    ∃ fs : List FileL, SliceAt W 2 v fs.length (fileCells fs) ∧ (∀ f ∈ fs, f.1.length ≤ reachBytes ∧ f.2.length ≤ reachBytes) ∧ fs.length * 32 ≤ reachBytes := by
  obtain ⟨a0, len, cap, rfl⟩ := okWide_slice Tryd.underlying22 hv
  obtain ⟨fuel, hf⟩ := h
  obtain ⟨f0, f1, hu, o0, o1, t0, t1⟩ := file_under
  have ce : Tryd.prog.cellsOf 30 = 2 := by kernel_rfl
  have cs1 : Tryd.prog.cellsOf 9 = 1 := by kernel_rfl
  rcases Deep.open_slice_pairs Tryd.underlying22 hu ce o0 o1 (by rw [t0]; exact cs1) (by rw [t1]; exact cs1) hf with ⟨hcs, _⟩ | ⟨a, len', cap', m, n, V0, V1, D0, D1, P0, P1, hcs, _, hl, hm, hmm, hx, hel⟩
  · obtain ⟨rfl, rfl, rfl⟩ : a0 = none ∧ len = 0 ∧ cap = 0 := by simpa [Value.cells] using hcs
    exact ⟨[], SliceAt.nil _ _, by simp, by simp⟩
  · obtain ⟨rfl, rfl, rfl⟩ : a0 = some a ∧ len = len' ∧ cap = cap' := by simpa [Value.cells] using hcs
    simp only [Prod.mk.injEq] at hx
    obtain ⟨rfl, -⟩ := hx
    simp only [if_true] at hmm
    have hbytes : Tryd.prog.bytesOf 30 = 32 := by kernel_rfl
    have each : ∀ i, i < len → ∃ f : FileL, V0 i = .string (bs f.1) ∧ V1 i = .string (bs f.2) ∧ f.1.length ≤ reachBytes ∧ f.2.length ≤ reachBytes := by
      intro i hi
      obtain ⟨-, -, h0, h1⟩ := hel i (by omega)
      rw [t0] at h0; rw [t1] at h1
      obtain ⟨s0, e0, x0, _⟩ := DataW.trod_string Tryd.underlying9 h0
      obtain ⟨s1, e1, x1, _⟩ := DataW.trod_string Tryd.underlying9 h1
      have hwi : ∀ n ∈ (DataW.agg [D0 i, D1 i]).weights Tryd.prog 30, n ≤ reachBytes := fun k hk => hw k (by
        simp only [DataW.weights, Tryd.underlying22, List.mem_cons, List.mem_append]
        exact .inr (.inl (weightsAll_mem (d := .agg [D0 i, D1 i]) (by simp only [List.mem_map, List.mem_range]; exact ⟨i, hi, rfl⟩) k hk)))
      simp only [Prod.mk.injEq] at x0 x1
      rw [x0.1, x1.1] at hwi
      simp only [DataW.weights, hu, DataW.weightsEach, List.map_cons, List.map_nil] at hwi
      refine ⟨(s0.data.toList, s1.data.toList), by rw [bs_list]; simpa using e0, by rw [bs_list]; simpa using e1, hwi _ (by simp), hwi _ (by simp)⟩
    obtain ⟨R, hR⟩ := Deep.choose_lt (α := FileL) (p := fun i f => V0 i = .string (bs f.1) ∧ V1 i = .string (bs f.2) ∧ f.1.length ≤ reachBytes ∧ f.2.length ≤ reachBytes) each
    have hlen : ((List.range len).map R).length = len := by simp
    refine ⟨(List.range len).map R, ?_, ?_, ?_⟩
    · rw [hlen]
      refine ⟨by rw [fileCells_len, hlen], some a, cap, rfl, hl, hm, fun h => (by cases h), fun hne => ?_⟩
      have hl0 : 0 < len := by
        rcases Nat.eq_zero_or_pos len with h0 | h0
        · subst h0; simp [fileCells] at hne
        · exact h0
      obtain ⟨b, off, spot⟩ := a
      have hspot : spot = none := by simpa [Addr.add] using World.cell?_spot (hel 0 (by omega)).1
      subst hspot
      refine ⟨b, off, rfl, ?_, fun j u hu => ?_⟩
      · have := World.block_lt_of_cell? W _ (hel 0 (by omega)).1; simpa [Addr.add] using this
      · have hj : j < (fileCells ((List.range len).map R)).length := by
          rcases Nat.lt_or_ge j (fileCells ((List.range len).map R)).length with h | h
          · exact h
          · rw [List.getElem?_eq_none h] at hu; cases hu
        rw [fileCells_len, hlen] at hj
        have hk : j / 2 < len := by omega
        have hg := fileCells_get ((List.range len).map R) (j / 2) (by rw [hlen]; exact hk)
        simp only [List.getElem_map, List.getElem_range] at hg
        have hR' := hR (j / 2) hk
        have hc := hel (j / 2) (by omega)
        rw [hR'.1, hR'.2.1] at hc
        rcases Nat.mod_two_eq_zero_or_one j with h2 | h2
        · have hj2 : j / 2 * 2 = j := by omega
          rw [hj2] at hg hc
          rw [hg.1] at hu
          rw [← add_plain, hc.1]; exact hu
        · have hj2 : j / 2 * 2 + 1 = j := by omega
          rw [hj2] at hg hc
          rw [hg.2] at hu
          rw [← add_plain, hc.2.1]; exact hu
    · intro f hf
      simp only [List.mem_map, List.mem_range] at hf
      obtain ⟨i, hi, rfl⟩ := hf
      exact (hR i hi).2.2
    · have := hw ((len + (m - len)) * 32) (by simp [DataW.weights, Tryd.underlying22, hbytes])
      rw [hlen]; omega
end Go.Proofs.YtilkneajohpgiaaDoor
