/- The walk of slices.Insert of one file: at the end. -/
import Derived.Test.YtffmjjocjcomnaaDoorPutDrop
namespace Go.Proofs.YtffmjjocjcomnaaDoor
set_option maxRecDepth 100000
open Go.RowKit

def InsertAt (xs : List FileL) (base : Nat) (w : World) (e : Ending) (w' : World) : Prop :=
  ∃ v, e = .returned v ∧ w'.ownsRow base 40 2 v xs.length (fileCells xs) ∧ Below base w w'
set_option maxHeartbeats 1000000 in
theorem insert_end (fs : List FileL) (f : FileL) (v0 vx : Value) (base : Nat) (w : World) (hown : w.ownsRow base 40 2 v0 fs.length (fileCells fs)) (hx : SliceAt w 2 vx 1 (fileCells [f])) (hlen : fs.length ≤ 1000) (hbase : base ≤ w.heap.size) :
    Calls Tryd.prog 38 #[v0, .int .i64 fs.length, vx] w (InsertAt (fs ++ [f]) base w) := by
  obtain ⟨i0, hi, hz0, hz1, hz2⟩ := info_parts file_info
  have h0 := SliceAt.of_owns hown (by unfold maxLen; omega)
  have Hx := hid hx
  have Hown := hid hown
  obtain ⟨-, a0, c0, rfl, hc0, hm0, hn0, -⟩ := h0
  obtain ⟨-, a1, c1, rfl, hc1, hm1, -, hcx⟩ := hx
  obtain ⟨b1, o1, rfl, -, -⟩ := hcx (by simp [fileCells])
  have hlt := hown.lt
  clear hcx hown
  unfold maxLen at hm0 hm1
  cases a0 with
  | none =>
    have hc := hn0 rfl
    subst hc
    have hf : fs = [] := List.eq_nil_of_length_eq_zero (by omega)
    subst hf
    go_enter Tryd.func38, Tryd.ntmps38
    go_wp2_with (at_builtin; go_must (refine wpList_append_src rfl _ _ 22 rfl base 40 i0 (.agg #[.string ⟨#[]⟩, .string ⟨#[]⟩]) 2 32 Tryd.underlying22 hi hz0 hz1 hz2 rfl (by decide) _ 0 (fileCells []) rfl ?c1 _ 1 (fileCells [f]) rfl ?c2 ?c3 ?c4 ?c5 ?c6 ?_))
    case c1 => exact Hown.out
    case c2 => exact Hx.out
    case c3 => exact fileCells_one [f]
    case c4 => unfold maxLen; (try simp only [List.length_nil]); omega
    (try case c5 => omega)
    (try case c6 => exact hbase)
    intro v' w' hown' hgrow
    have hB := (Below.refl base w).grown hgrow hbase (fun k hk => (hlt k hk).1)
    go_wp2_with fail
    go_ret
    refine ⟨v', rfl, ?_, hB⟩
    exact hown'
  | some ad =>
    by_cases hce : c0 = fs.length
    · subst hce
      go_enter Tryd.func38, Tryd.ntmps38
      go_wp2_with (at_builtin; go_must (refine wpList_append_src rfl _ _ 22 rfl base 40 i0 (.agg #[.string ⟨#[]⟩, .string ⟨#[]⟩]) 2 32 Tryd.underlying22 hi hz0 hz1 hz2 rfl (by decide) _ fs.length (fileCells fs) rfl ?d1 _ 1 (fileCells [f]) rfl ?d2 ?d3 ?d4 ?d5 ?d6 ?_))
      case d1 => exact Hown.out
      case d2 => exact Hx.out
      case d3 => exact fileCells_one [f]
      case d4 => unfold maxLen; (try simp only [List.length_nil]); omega
      (try case d5 => omega)
      (try case d6 => exact hbase)
      intro v' w' hown' hgrow
      have hB := (Below.refl base w).grown hgrow hbase (fun k hk => (hlt k hk).1)
      go_wp2_with fail
      go_ret
      refine ⟨v', rfl, ?_, hB⟩
      rw [List.length_append, fileCells_append]; exact hown'
    · have hlt2 : fs.length < c0 := by omega
      go_enter Tryd.func38, Tryd.ntmps38
      go_wp2_with (at_builtin; go_must (refine wpList_append_src rfl _ _ 22 rfl base 40 i0 (.agg #[.string ⟨#[]⟩, .string ⟨#[]⟩]) 2 32 Tryd.underlying22 hi hz0 hz1 hz2 rfl (by decide) _ fs.length (fileCells fs) rfl ?e1 _ 1 (fileCells [f]) rfl ?e2 ?e3 ?e4 ?e5 ?e6 ?_))
      case e1 => exact Hown.out
      case e2 => exact Hx.out
      case e3 => exact fileCells_one [f]
      case e4 => unfold maxLen; (try simp only [List.length_nil]); omega
      (try case e5 => omega)
      (try case e6 => exact hbase)
      intro v' w' hown' hgrow
      have hB := (Below.refl base w).grown hgrow hbase (fun k hk => (hlt k hk).1)
      go_wp2_with fail
      go_ret
      refine ⟨v', rfl, ?_, hB⟩
      rw [List.length_append, fileCells_append]; exact hown'
end Go.Proofs.YtffmjjocjcomnaaDoor
