/- Tokens in memory; plain words of the program's pieces. -/
import Derived.Test.YtijgcoedohhlnaaGreatDoorLexPass
import Derived.Test.YtijgcoedohhlnaaGreatDoorLexNext
namespace Go.Proofs.YtijgcoedohhlnaaGreatDoor
set_option maxRecDepth 100000
open Go.RowKit

def tokCells (l : List Tok) : List Value := l.flatMap fun t => [.int .i64 t.1, .string (bs t.2.1), .int .i64 t.2.2.1, .int .i64 t.2.2.2]
theorem tokCells_len (fs : List Tok) : (tokCells fs).length = fs.length * 4 := by
  induction fs with
  | nil => rfl
  | cons f fs ih => simp [tokCells] at ih ⊢; omega
theorem tokCells_app (a b : List Tok) : tokCells (a ++ b) = tokCells a ++ tokCells b := by simp [tokCells]
theorem tokCells_one (fs : List Tok) : ∀ u ∈ tokCells fs, u.oneCell' = true := by
  intro u hu
  simp only [tokCells, List.mem_flatMap] at hu
  obtain ⟨f, _, hu⟩ := hu
  simp only [List.mem_cons, List.not_mem_nil, or_false] at hu
  rcases hu with rfl | rfl | rfl | rfl <;> rfl
theorem tokCells_get (fs : List Tok) : ∀ k (h : k < fs.length), (tokCells fs)[k * 4]? = some (.int .i64 fs[k].1) ∧ (tokCells fs)[k * 4 + 1]? = some (.string (bs fs[k].2.1)) ∧ (tokCells fs)[k * 4 + 2]? = some (.int .i64 fs[k].2.2.1) ∧ (tokCells fs)[k * 4 + 3]? = some (.int .i64 fs[k].2.2.2) := by
  induction fs with
  | nil => intro k h; simp at h
  | cons f fs ih =>
    intro k h
    have e : tokCells (f :: fs) = .int .i64 f.1 :: .string (bs f.2.1) :: .int .i64 f.2.2.1 :: .int .i64 f.2.2.2 :: tokCells fs := rfl
    cases k with
    | zero => rw [e]; exact ⟨rfl, rfl, rfl, rfl⟩
    | succ k =>
      have := ih k (by simpa using h)
      rw [e, show (k + 1) * 4 = k * 4 + 1 + 1 + 1 + 1 by omega]
      simpa using this
theorem SliceAt.toks {w : World} {v : Value} {n : Nat} {fs : List Tok} (h : SliceAt w 4 v n (tokCells fs)) : n = fs.length ∧ ∃ a c, v = .slice a fs.length c ∧ fs.length ≤ c ∧ c ≤ maxLen ∧
    (∀ k, k < fs.length → ∃ b off, a = some ⟨b, off, none⟩ ∧ b < w.heap.size ∧ ∀ j (hj : j < fs.length), w.cell? ⟨b, off + j * 4, none⟩ = some (.int .i64 fs[j].1) ∧ w.cell? ⟨b, off + j * 4 + 1, none⟩ = some (.string (bs fs[j].2.1)) ∧ w.cell? ⟨b, off + j * 4 + 2, none⟩ = some (.int .i64 fs[j].2.2.1) ∧ w.cell? ⟨b, off + j * 4 + 3, none⟩ = some (.int .i64 fs[j].2.2.2)) := by
  obtain ⟨hl, a, c, rfl, hc, hm, -, hx⟩ := h
  have hn : n = fs.length := by rw [tokCells_len] at hl; omega
  subst hn
  refine ⟨rfl, a, c, rfl, hc, hm, fun k hk => ?_⟩
  obtain ⟨b, off, rfl, hlt, hcell⟩ := hx (by intro e; have := tokCells_len fs; rw [e] at this; simp at this; omega)
  refine ⟨b, off, rfl, hlt, fun j hj => ?_⟩
  have hg := tokCells_get fs j hj
  exact ⟨hcell _ _ hg.1, by rw [Nat.add_assoc]; exact hcell _ _ hg.2.1, by rw [Nat.add_assoc]; exact hcell _ _ hg.2.2.1, by rw [Nat.add_assoc]; exact hcell _ _ hg.2.2.2⟩
theorem tok_info : (Tryz.prog.info? 35).map (fun i => (i.zero, i.size, i.bytes)) = some (some (.agg #[.int .i64 0, .string ⟨#[]⟩, .int .i64 0, .int .i64 0]), 4, 40) := by kernel_rfl
/-- The one token that a call lays. -/
theorem one_tok (W : World) (t : Tok) : SliceAt (W.alloc (.cells #[.int .i64 t.1, .string (bs t.2.1), .int .i64 t.2.2.1, .int .i64 t.2.2.2] 35)) 4 (.slice (some ⟨W.heap.size, 0, none⟩) 1 1) 1 (tokCells [t]) :=
  ⟨rfl, _, 1, rfl, Nat.le_refl _, by unfold maxLen; omega, fun h => (by cases h), fun _ => ⟨W.heap.size, 0, rfl, by simp, fun j u hu => by rw [Nat.zero_add, World.cell?_alloc_mark]; simpa [tokCells] using hu⟩⟩

/-! The program's pieces. -/
theorem pieceP_err {c : UInt8} {r t : List UInt8} {k n e : Nat} (h : pieceP (c :: r) = (k, t, n, e)) (he : e ≠ 0) (p : Pl) : lexL p (c :: r) = ([], e, p) := by
  unfold pieceP at h
  simp only at h
  by_cases h1 : isGap c = true
  · rw [if_pos h1] at h; simp only [Prod.mk.injEq] at h; omega
  · rw [if_neg h1] at h; exact lex_bad h he
theorem pieceP_ok {c : UInt8} {r t : List UInt8} {k n : Nat} (h : pieceP (c :: r) = (k, t, n, 0)) (p : Pl) :
    (1 ≤ n ∧ n ≤ (c :: r).length ∧ t.length ≤ n) ∧ lexL p (c :: r) = finT (if k = 0 then [] else [(k, t, p)]) (lexL (advs p ((c :: r).take n)) ((c :: r).drop n)) := by
  unfold pieceP at h
  simp only at h
  by_cases h1 : isGap c = true
  · rw [if_pos h1] at h; simp only [Prod.mk.injEq] at h; obtain ⟨rfl, rfl, rfl, -⟩ := h
    have := run_le isGap (c :: r)
    refine ⟨⟨by rw [run_cons h1]; omega, this, by simp⟩, ?_⟩
    rw [if_pos rfl, finT_nil]; exact lex_gaps p
  · rw [if_neg h1] at h
    exact ⟨piece_size h, lex_piece h⟩
theorem advs_le (p : Pl) : ∀ s : List UInt8, (advs p s).1 ≤ p.1 + s.length ∧ (advs p s).2 ≤ p.2 + s.length + 1
  | [] => by simp [advs]
  | c :: s => by
    have ih := advs_le (adv p c) s
    rw [advs_cons]
    unfold adv at ih ⊢
    split at ih
    · rename_i h; rw [if_pos h]; simp at ih ⊢; omega
    · rename_i h; rw [if_neg h]; simp at ih ⊢; omega
/-- A place in a text. -/
def Within (p : Pl) (k : Nat) : Prop := p.1 ≤ k + 1 ∧ p.2 ≤ k + 2
theorem within_at (s : List UInt8) : Within (advs (1, 1) s) s.length := by
  have := advs_le (1, 1) s
  unfold Within; simp at this; omega
end Go.Proofs.YtijgcoedohhlnaaGreatDoor
