/- The frame's opener of an api.Label. -/
import Derived.Test.YtijgcoedohhlnaaGreatDoorFrame
import Derived.Test.YtijgcoedohhlnaaGreatDoorLabelWalks
namespace Go.Proofs.YtijgcoedohhlnaaGreatDoor
open Go.ChangeShapes Go.WideShapes Go.ChangeAt Go.RowKit
set_option maxRecDepth 100000

theorem label_under : ∃ f0 f1 : Field, Tryz.prog.underlying 23 = some (.struct #[f0, f1]) ∧ f0.offset = 0 ∧ f1.offset = 1 ∧ f0.type = 9 ∧ f1.type = 9 :=
  ⟨_, _, rfl, rfl, rfl, rfl, rfl⟩
/-- A label that came in. -/
theorem arg_label {H : Type} {enc : TypeId × Value → H} {W : World} {base : Nat} {v : Value} {d : DataW H} {p : List MemPlace}
    (hv : Value.okWide Tryz.prog W .any base 23 v) (h : DataW.Trod enc Tryz.prog W 0 (fun _ => true) true 23 v d p) (hw : ∀ n ∈ d.weights Tryz.prog 23, n ≤ reachBytes) :
    ∃ a b : List UInt8, v = labV a b ∧ a.length ≤ reachBytes ∧ b.length ≤ reachBytes := by
  obtain ⟨f0, f1, hu, o0, o1, t0, t1⟩ := label_under
  have ce : Tryz.prog.cellsOf 23 = 2 := by kernel_rfl
  have cs1 : Tryz.prog.cellsOf 9 = 1 := by kernel_rfl
  unfold Value.okWide at hv
  rw [hu] at hv
  obtain ⟨cs, rfl, hsz, -⟩ := hv
  obtain ⟨fuel, hf⟩ := h
  obtain ⟨y0, y1, n, hx, hl, h0, h1⟩ := trod_struct2 hu hf
  rw [o0, t0, cs1] at h0
  rw [o1, t1, cs1] at h1
  rw [ce] at hsz
  obtain ⟨c0, c1, rfl⟩ : ∃ c0 c1, cs = #[c0, c1] := by
    obtain ⟨l⟩ := cs
    match l, hsz with
    | [a, b], _ => exact ⟨a, b, rfl⟩
  simp only [Value.cells, List.drop_zero, List.take_succ_cons, List.take_zero, List.drop_succ_cons] at h0 h1
  obtain ⟨s0, e0, x0, _⟩ := DataW.trod_string Tryz.underlying9 h0
  obtain ⟨s1, e1, x1, _⟩ := DataW.trod_string Tryz.underlying9 h1
  simp only [Prod.mk.injEq] at hx
  obtain ⟨rfl, -⟩ := hx
  rw [x0, x1] at hw
  simp only [DataW.weights, hu, DataW.weightsEach, List.map_cons, List.map_nil] at hw
  refine ⟨s0.data.toList, s1.data.toList, ?_, hw _ (by simp), hw _ (by simp)⟩
  rw [labV, bs_list, bs_list]
  simp only [List.cons.injEq, and_true] at e0 e1
  rw [e0, e1]
end Go.Proofs.YtijgcoedohhlnaaGreatDoor
