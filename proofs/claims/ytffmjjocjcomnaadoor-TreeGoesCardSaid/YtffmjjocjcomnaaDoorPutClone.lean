/- The walk of slices.Clone of files. -/
import Derived.Test.YtffmjjocjcomnaaDoorPutWalks
import Derived.Lib.SliceRun
namespace Go.Proofs.YtffmjjocjcomnaaDoor
set_option maxRecDepth 100000
open Go.RowKit

set_option maxHeartbeats 1000000 in
/-- slices.Clone of files: the same files in memory of the call's own (nil stays nil). -/
theorem clone_any (fs : List FileL) (v0 : Value) (n0 : Nat) (w : World) (h0 : SliceAt w 2 v0 n0 (fileCells fs)) (hlen : fs.length ≤ 1000000) :
    Calls Tryd.prog 35 #[v0] w (FilesPost fs w) := by
  obtain ⟨i0, hi, hz0, hz1, hz2⟩ := info_parts file_info
  have h00 := h0
  obtain ⟨rfl, a0, c0, rfl, hc0, hm0, -⟩ := h0.files
  obtain ⟨hl, a1, c1, hv, -, -, hnone, hcl⟩ := h0
  obtain ⟨rfl, rfl⟩ : a0 = a1 ∧ c0 = c1 := by simpa using hv
  clear hv
  have q22 : ∀ (w : World) (a : Option Addr) (n c n' c' : Nat), (binOp .eql 22 (.slice a n c) (.slice none n' c')).run Tryd.prog w = .ok (.bool a.isNone) w := fun w a n c n' c' => Lib.run_eql_slice_nil w _ _ a n c n' c' Tryd.underlying22
  cases a0 with
  | none =>
    have hc := hnone rfl
    subst hc
    have hf : fs = [] := by have : fs.length ≤ 0 := hc0; exact List.eq_nil_of_length_eq_zero (by omega)
    subst hf
    go_enter Tryd.func35, Tryd.ntmps35
    go_wp2_with fail
    go_ret
    exact ⟨_, rfl, ⟨rfl, .inl ⟨rfl, rfl⟩⟩, Below.refl _ _⟩
  | some ad =>
    have Hs := hid h00
    clear hnone hcl h00 hl
    go_enter Tryd.func35, Tryd.ntmps35
    go_wp2_with (at_builtin; go_must (refine wpList_append_src rfl _ _ 22 rfl w.heap.size 40 i0 (.agg #[.string ⟨#[]⟩, .string ⟨#[]⟩]) 2 32 Tryd.underlying22 hi hz0 hz1 hz2 rfl (by decide) _ 0 [] rfl ?c1 _ fs.length (fileCells fs) rfl ?c2 ?c3 ?c4 ?c5 ?c6 ?_))
    case c1 => exact World.ownsRow_made w #[] 0 (Nat.le_refl _) (Nat.zero_le _) (by simp)
    case c2 => exact Hs.out.below ((Below.refl _ w).alloc (Nat.le_refl _) _) (Nat.le_refl _)
    case c3 => exact fileCells_one fs
    case c4 => unfold maxLen; omega
    case c5 => omega
    case c6 => simp
    intro v' w1 hown hgrow
    go_wp2_with fail
    go_ret
    exact ⟨v', rfl, by simpa using hown, ((Below.refl _ w).alloc (Nat.le_refl _) _).grown hgrow (by simp) (by intro k hk; simp [Value.ownBlock] at hk; omega)⟩
end Go.Proofs.YtffmjjocjcomnaaDoor
