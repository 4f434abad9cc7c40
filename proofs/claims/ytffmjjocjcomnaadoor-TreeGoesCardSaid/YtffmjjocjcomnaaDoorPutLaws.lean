/- Plain laws of what was put: it is got; all others stay. -/
import Derived.Test.YtffmjjocjcomnaaDoorPutPlain
namespace Go.Proofs.YtffmjjocjcomnaaDoor
open Go.RowKit

theorem get_with (f : FileL) (t : List FileL) (h : RisesF t) : getL f.1 (withL t f) = some f.2 :=
  (get_mem (with_rises f t h)).2 ((with_mem f t h (f.1, f.2)).2 (.inl rfl))
theorem get_kept (f g : FileL) (t : List FileL) (h : RisesF t) (hg : g ∈ t) (hne : g.1 ≠ f.1) : getL g.1 (withL t f) = some g.2 :=
  (get_mem (with_rises f t h)).2 ((with_mem f t h (g.1, g.2)).2 (.inr ⟨hg, hne⟩))
theorem with_pos (f : FileL) (t : List FileL) (h : RisesF t) : withL t f ≠ [] := fun e => by
  have := (with_mem f t h f).2 (.inl rfl)
  rw [e] at this; cases this
/-- Put over what is there, or between: the same as 'with', in the code's own words. -/
theorem put_there {t : List FileL} {f : FileL} (h : RisesF t) (hb : thereB f.1 t = true) : withL t f = t.set (lowL f.1 t) f := by
  rw [← put_with f t h, putL, if_pos hb]
theorem put_between {t : List FileL} {f : FileL} (h : RisesF t) (hb : thereB f.1 t = false) : withL t f = t.take (lowL f.1 t) ++ f :: t.drop (lowL f.1 t) := by
  rw [← put_with f t h, putL, if_neg (by rw [hb]; decide)]
theorem fileCells_set (t : List FileL) (f : FileL) : ∀ k, k < t.length → fileCells (t.set k f) = ((fileCells t).set (k * 2) (.string (bs f.1))).set (k * 2 + 1) (.string (bs f.2)) := by
  induction t with
  | nil => intro k h; simp at h
  | cons g t ih =>
    intro k h
    cases k with
    | zero => rfl
    | succ k =>
      have := ih k (by simpa using h)
      have e1 : (k + 1) * 2 = k * 2 + 1 + 1 := by omega
      rw [e1]
      show [_, _] ++ fileCells (t.set k f) = _
      rw [this]; rfl
end Go.Proofs.YtffmjjocjcomnaaDoor
