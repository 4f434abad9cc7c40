/- Bytes in memory of the call's own: as a text; one byte more. -/
import Derived.Test.YtilkneajohpgiaaDoorBase
import Derived.Test.YtilkneajohpgiaaDoorChecked
import Derived.Laws.IdiomStrings
import Derived.Laws.BytesArg
import Derived.Lib.UnsafeStr
namespace Go.Proofs.YtilkneajohpgiaaDoor
set_option maxRecDepth 100000
open Go.RowKit

theorem u8_info : (Tryd.prog.info? 5).map (fun i => (i.zero, i.size, i.bytes)) = some (some (.int .u8 0), 1, 1) := by kernel_rfl
theorem byteCells_len (l : List UInt8) : (Lib.byteCells l).length = l.length := by simp [Lib.byteCells]
theorem byteCells_one (l : List UInt8) : ∀ u ∈ Lib.byteCells l, u.oneCell' = true := by
  intro u hu
  simp only [Lib.byteCells, List.mem_map] at hu
  obtain ⟨s, _, rfl⟩ := hu; rfl
theorem byteCells_app (a b : List UInt8) : Lib.byteCells (a ++ b) = Lib.byteCells a ++ Lib.byteCells b := by simp [Lib.byteCells]
theorem byteCells_get (l : List UInt8) (k : Nat) (h : k < l.length) : (Lib.byteCells l)[k]? = some (.int .u8 l[k].toNat) := by simp [Lib.byteCells, h]
/-- 'string(b)'. -/
theorem run_conv_at {w : World} {v : Value} {n : Nat} {l : List UInt8} (h : SliceAt w 1 v n (Lib.byteCells l)) :
    (convert 47 9 v).run Tryd.prog w = .ok (.string (bs l)) w := by
  obtain ⟨hl, a, c, rfl, hc, hm, hn, hx⟩ := h
  have hnl : n = l.length := by rw [byteCells_len] at hl; omega
  subst hnl
  cases a with
  | none =>
    have h0 := hn rfl
    have hl0 : l = [] := List.eq_nil_of_length_eq_zero (by omega)
    subst hl0
    exact run_convert_bytes_nil (P := Tryd.prog) (w := w) 47 5 Tryd.underlying47 Tryd.underlying5 _ _ 9 Tryd.underlying9
  | some a =>
    refine run_convert_bytes_back w 47 9 5 a c l Tryd.underlying47 Tryd.underlying5 Tryd.underlying9 fun j hj => ?_
    obtain ⟨b, off, hb, -, hcl⟩ := hx (by intro e; have := byteCells_len l; rw [e] at this; simp at this; omega)
    obtain rfl := Option.some.inj hb
    have hadd : (⟨b, off, none⟩ : Addr).add j = ⟨b, off + j, none⟩ := by unfold Addr.add; split <;> simp_all
    rw [hadd]; exact hcl j _ (byteCells_get l j hj)
/-- The one byte that a call lays. -/
theorem one_byte (W : World) (c : UInt8) : SliceAt (W.alloc (.cells #[.int .u8 c.toNat] 5)) 1 (.slice (some ⟨W.heap.size, 0, none⟩) 1 1) 1 (Lib.byteCells [c]) :=
  ⟨rfl, _, 1, rfl, Nat.le_refl _, by unfold maxLen; omega, fun h => (by cases h), fun _ => ⟨W.heap.size, 0, rfl, by simp, fun j u hu => by rw [Nat.zero_add, World.cell?_alloc_mark]; simpa [Lib.byteCells] using hu⟩⟩
end Go.Proofs.YtilkneajohpgiaaDoor
