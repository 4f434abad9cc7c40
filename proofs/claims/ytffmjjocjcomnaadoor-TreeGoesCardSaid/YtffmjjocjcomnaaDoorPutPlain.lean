/- Plain laws of Put and Drop: where a file belongs; one put in its place; one dropped. -/
import Derived.Test.YtffmjjocjcomnaaDoorDiffPlain
namespace Go.Proofs.YtffmjjocjcomnaaDoor
open Go.RowKit

/-- Where a path belongs: so many files stand below it. -/
def lowL (p : List UInt8) : List FileL → Nat
  | [] => 0
  | g :: t => if less g.1 p = true then lowL p t + 1 else 0
theorem low_le (p : List UInt8) : ∀ t : List FileL, lowL p t ≤ t.length
  | [] => Nat.le_refl _
  | g :: t => by
    unfold lowL
    have := low_le p t
    split <;> simp <;> omega
/-- A place with all below it less, and none from it on, is the one. -/
theorem low_is (p : List UInt8) : ∀ (t : List FileL) (i : Nat), i ≤ t.length → (∀ k (h : k < t.length), k < i → less t[k].1 p = true) → (∀ k (h : k < t.length), i ≤ k → less t[k].1 p = false) → lowL p t = i
  | [], i, hi, _, _ => by simp at hi; subst hi; rfl
  | g :: t, 0, _, _, h2 => by
    have := h2 0 (by simp) (Nat.le_refl _)
    unfold lowL
    rw [if_neg (by simpa using this)]
  | g :: t, i + 1, hi, h1, h2 => by
    have h0 := h1 0 (by simp) (by omega)
    unfold lowL
    rw [if_pos (by simpa using h0), low_is p t i (by simpa using hi) (fun k h hk => h1 (k + 1) (by simpa using h) (by omega)) (fun k h hk => h2 (k + 1) (by simpa using h) (by omega))]
/-- Of files that rise: what stands below the place is less, what stands from it on is not. -/
theorem low_spec (p : List UInt8) : ∀ (t : List FileL), RisesF t → (∀ k (h : k < t.length), k < lowL p t → less t[k].1 p = true) ∧ (∀ k (h : k < t.length), lowL p t ≤ k → less t[k].1 p = false)
  | [], _ => ⟨fun k h => by simp at h, fun k h => by simp at h⟩
  | g :: t, hr => by
    obtain ⟨h1, h2⟩ := List.pairwise_cons.1 hr
    obtain ⟨a, b⟩ := low_spec p t h2
    by_cases hg : less g.1 p = true
    · have e : lowL p (g :: t) = lowL p t + 1 := by rw [lowL, if_pos hg]
      rw [e]
      refine ⟨fun k h hk => ?_, fun k h hk => ?_⟩
      · cases k with
        | zero => simpa using hg
        | succ k => simpa using a k (by simpa using h) (by omega)
      · cases k with
        | zero => omega
        | succ k => simpa using b k (by simpa using h) (by omega)
    · have e : lowL p (g :: t) = 0 := by rw [lowL, if_neg hg]
      rw [e]
      refine ⟨fun k h hk => by omega, fun k h _ => ?_⟩
      cases k with
      | zero => simpa using hg
      | succ k =>
        have hk : k < t.length := by simpa using h
        have := h1 t[k] (List.getElem_mem hk)
        simp only [List.getElem_cons_succ]
        rw [← Bool.not_eq_true]; intro hl
        exact hg (less_trans this hl)
def thereB (p : List UInt8) (t : List FileL) : Bool := (t[lowL p t]?.map fun g => g.1 == p).getD false
/-- Put: over the file that is there, or between. -/
def putL (t : List FileL) (f : FileL) : List FileL :=
  if thereB f.1 t = true then t.set (lowL f.1 t) f else t.take (lowL f.1 t) ++ f :: t.drop (lowL f.1 t)
theorem put_with (f : FileL) : ∀ t, RisesF t → putL t f = withL t f
  | [], _ => rfl
  | g :: t, h => by
    obtain ⟨h1, h2⟩ := List.pairwise_cons.1 h
    rw [with_cases f g t h]
    have ih := put_with f t h2
    by_cases hg : less g.1 f.1 = true
    · have e : lowL f.1 (g :: t) = lowL f.1 t + 1 := by rw [lowL, if_pos hg]
      have et : thereB f.1 (g :: t) = thereB f.1 t := by unfold thereB; rw [e]; simp
      have hne : ¬ f.1 = g.1 := fun e => less_ne hg e.symm
      rw [if_neg (by rw [less_asymm hg]; simp), if_neg hne, ← ih]
      unfold putL
      rw [et, e]
      by_cases c : thereB f.1 t = true
      · rw [if_pos c, if_pos c]; rfl
      · rw [if_neg c, if_neg c]; rfl
    · have e : lowL f.1 (g :: t) = 0 := by rw [lowL, if_neg hg]
      have et : thereB f.1 (g :: t) = (g.1 == f.1) := by unfold thereB; rw [e]; rfl
      unfold putL
      rw [et, e]
      by_cases c : f.1 = g.1
      · have hl : less f.1 g.1 = false := by rw [c]; exact less_irrefl _
        rw [if_pos (by simp [c]), hl, if_neg (by simp), if_pos c]; rfl
      · have hl : less f.1 g.1 = true := by
          rw [← Bool.not_eq_false]; intro h0
          exact c (less_total h0 (by simpa using hg))
        rw [if_neg (by simpa using fun e => c e.symm), if_pos hl]; rfl
/-- Dropped. -/
def dropL (t : List FileL) (p : List UInt8) : List FileL := t.filter fun g => !(g.1 == p)
end Go.Proofs.YtffmjjocjcomnaaDoor
