/- Plain words of trees: files, why they are none. -/
import Derived.Test.YtilkneajohpgiaaDoorPathPlain
import Derived.Lib.Strings
namespace Go.Proofs.YtilkneajohpgiaaDoor
open Go.RowKit

abbrev FileL := List UInt8 × List UInt8
def fileCells (fs : List FileL) : List Value := fs.flatMap fun f => [.string (bs f.1), .string (bs f.2)]
theorem fileCells_len (fs : List FileL) : (fileCells fs).length = fs.length * 2 := by
  induction fs with
  | nil => rfl
  | cons f fs ih => simp [fileCells] at ih ⊢; omega
theorem fileCells_get (fs : List FileL) : ∀ k (h : k < fs.length), (fileCells fs)[k * 2]? = some (.string (bs fs[k].1)) ∧ (fileCells fs)[k * 2 + 1]? = some (.string (bs fs[k].2)) := by
  induction fs with
  | nil => intro k h; simp at h
  | cons f fs ih =>
    intro k h
    have e : fileCells (f :: fs) = .string (bs f.1) :: .string (bs f.2) :: fileCells fs := rfl
    cases k with
    | zero => rw [e]; exact ⟨rfl, rfl⟩
    | succ k =>
      have := ih k (by simpa using h)
      rw [e, show (k + 1) * 2 = k * 2 + 1 + 1 by omega]
      simpa using this
theorem fileCells_append (a b : List FileL) : fileCells (a ++ b) = fileCells a ++ fileCells b := by simp [fileCells]
theorem fileCells_one (fs : List FileL) : ∀ u ∈ fileCells fs, u.oneCell' = true := by
  intro u hu
  simp only [fileCells, List.mem_flatMap] at hu
  obtain ⟨f, _, hu⟩ := hu
  simp at hu
  rcases hu with rfl | rfl <;> rfl
theorem SliceAt.files {w : World} {v : Value} {n : Nat} {fs : List FileL} (h : SliceAt w 2 v n (fileCells fs)) : n = fs.length ∧ ∃ a c, v = .slice a fs.length c ∧ fs.length ≤ c ∧ c ≤ maxLen ∧
    (∀ k, k < fs.length → ∃ b off, a = some ⟨b, off, none⟩ ∧ b < w.heap.size ∧ ∀ j (hj : j < fs.length), w.cell? ⟨b, off + j * 2, none⟩ = some (.string (bs fs[j].1)) ∧ w.cell? ⟨b, off + j * 2 + 1, none⟩ = some (.string (bs fs[j].2))) := by
  obtain ⟨hl, a, c, rfl, hc, hm, -, hx⟩ := h
  have hn : n = fs.length := by rw [fileCells_len] at hl; omega
  subst hn
  refine ⟨rfl, a, c, rfl, hc, hm, fun k hk => ?_⟩
  obtain ⟨b, off, rfl, hlt, hcell⟩ := hx (by intro e; have := fileCells_len fs; rw [e] at this; simp at this; omega)
  refine ⟨b, off, rfl, hlt, fun j hj => ?_⟩
  have hg := fileCells_get fs j hj
  exact ⟨hcell _ _ hg.1, by rw [Nat.add_assoc]; exact hcell _ _ hg.2⟩

/-- 'out' -/
def outL : List UInt8 := [111, 117, 116]
def underB (s dir : List UInt8) : Bool := mayB s && (dir.isEmpty || (mayB dir && Lib.hasPrefix s (dir ++ [47])))
def badName (p : List UInt8) : Bool := !mayB p || p == outL || underB p outL
def lookE (f : FileL) (ahead : List UInt8) (first : Bool) : Nat :=
  if badName f.1 = true then 7
  else if first = false ∧ (f.1 == ahead) = true then 8
  else if first = false ∧ Op.bytesLess f.1 ahead = true then 2
  else if 65536 < f.2.length then 6 else 0
def checkFrom (ahead : List UInt8) (first : Bool) : List FileL → Nat
  | [] => 0
  | f :: fs => if lookE f ahead first = 0 then checkFrom f.1 false fs else lookE f ahead first
def checkL (fs : List FileL) : Nat := if 1024 < fs.length then 6 else checkFrom [] true fs
def greatB (fs : List FileL) : Bool := decide (60 < fs.length) || fs.any fun f => decide (300 < f.1.length) || decide (300 < f.2.length)
theorem great_no {fs : List FileL} (h : greatB fs = false) : fs.length ≤ 60 ∧ ∀ f ∈ fs, f.1.length ≤ 300 ∧ f.2.length ≤ 300 := by
  simp only [greatB, Bool.or_eq_false_iff, decide_eq_false_iff_not, List.any_eq_false, Bool.or_eq_true, decide_eq_true_eq, not_or] at h
  exact ⟨by omega, fun f hf => by have := h.2 f hf; omega⟩
end Go.Proofs.YtilkneajohpgiaaDoor
