/- Plain law of TreeGoes: a tree to which is done what the differences tell is the other one. -/
import Derived.Test.YtffmjjocjcomnaaDoorPutLaws
import Derived.Test.YtffmjjocjcomnaaDoorPutRefDrop
namespace Go.Proofs.YtffmjjocjcomnaaDoor
open Go.RowKit

/-- What a file must be by itself. -/
def goodF (f : FileL) : Prop := badName f.1 = false ∧ f.2.length ≤ 65536
theorem look_parts {f : FileL} {a : List UInt8} {b : Bool} : lookE f a b = 0 ↔ goodF f ∧ (b = false → less a f.1 = true) := by
  unfold lookE goodF
  by_cases k1 : badName f.1 = true
  · rw [if_pos k1]; simp [k1]
  · have k1' : badName f.1 = false := by simpa using k1
    rw [if_neg k1]
    by_cases k2 : b = false ∧ (f.1 == a) = true
    · rw [if_pos k2]
      have e : f.1 = a := by simpa using k2.2
      simp [k2.1, e, less_irrefl]
    · rw [if_neg k2]
      by_cases k3 : b = false ∧ Op.bytesLess f.1 a = true
      · rw [if_pos k3]
        have := less_asymm (x := f.1) (y := a) k3.2
        simp [k3.1, this]
      · rw [if_neg k3]
        by_cases k4 : 65536 < f.2.length
        · rw [if_pos k4]; simp; intro _ h; omega
        · rw [if_neg k4]
          simp only [k1', true_and, true_iff]
          refine ⟨by omega, fun hb => ?_⟩
          subst hb
          rw [← Bool.not_eq_false]; intro k5
          have := less_total k5 (by simpa using k3)
          exact k2 ⟨rfl, by simp [this]⟩
theorem checkFrom_iff : ∀ (fs : List FileL) (a : List UInt8) (b : Bool), checkFrom a b fs = 0 ↔ RisesF fs ∧ (∀ f ∈ fs, goodF f) ∧ (b = false → ∀ f ∈ fs, less a f.1 = true)
  | [], _, _ => by simp [checkFrom, Rises]
  | g :: fs, a, b => by
    have ih := checkFrom_iff fs g.1 false
    rw [checkFrom]
    constructor
    · intro h
      by_cases h0 : lookE g a b = 0
      · rw [if_pos h0] at h
        obtain ⟨h1, h2, h3⟩ := ih.1 h
        obtain ⟨k1, k2⟩ := look_parts.1 h0
        refine ⟨List.pairwise_cons.2 ⟨h3 rfl, h1⟩, fun f hf => ?_, fun hb f hf => ?_⟩
        · rcases List.mem_cons.1 hf with rfl | hf
          · exact k1
          · exact h2 f hf
        · rcases List.mem_cons.1 hf with rfl | hf
          · exact k2 hb
          · exact less_trans (k2 hb) (h3 rfl f hf)
      · rw [if_neg h0] at h; exact absurd h h0
    · rintro ⟨h1, h2, h3⟩
      obtain ⟨h4, h5⟩ := List.pairwise_cons.1 h1
      have h0 : lookE g a b = 0 := look_parts.2 ⟨h2 g (by simp), fun hb => h3 hb g (by simp)⟩
      rw [if_pos h0]
      exact ih.2 ⟨h5, fun f hf => h2 f (by simp [hf]), fun _ => h4⟩
theorem check_iff (fs : List FileL) : checkL fs = 0 ↔ fs.length ≤ 1024 ∧ RisesF fs ∧ ∀ f ∈ fs, goodF f := by
  unfold checkL
  by_cases h : 1024 < fs.length
  · rw [if_pos h]; constructor
    · intro h; cases h
    · rintro ⟨h1, -⟩; omega
  · rw [if_neg h, checkFrom_iff]; constructor
    · rintro ⟨h1, h2, -⟩; exact ⟨by omega, h1, h2⟩
    · rintro ⟨-, h1, h2⟩; exact ⟨h1, h2, fun h => by cases h⟩

def goStep (b t : List FileL) (x : List UInt8 × Nat) : List FileL := if x.2 = 2 then dropL t x.1 else withL t (x.1, (getL x.1 b).getD [])
theorem drop_rises {t : List FileL} (p : List UInt8) (h : RisesF t) : RisesF (dropL t p) := List.Pairwise.filter _ h
theorem diff_len : ∀ a b : List FileL, (diffL a b).length ≤ a.length + b.length
  | [], [] => by rw [diffL]; simp
  | f :: a, [] => by rw [diffL]; have := diff_len a []; simp at this ⊢; omega
  | [], g :: b => by rw [diffL]; have := diff_len [] b; simp at this ⊢; omega
  | f :: a, g :: b => by
    rw [diffL]
    have h1 := diff_len a (g :: b)
    have h2 := diff_len (f :: a) b
    have h3 := diff_len a b
    simp only [List.length_cons] at *
    split
    · simp; omega
    · split
      · simp; omega
      · simp only [List.length_append]
        split <;> simp <;> omega
termination_by a b => a.length + b.length

/-- The trees on the way. -/
structure OnWay (a b t : List FileL) (l : List (List UInt8 × Nat)) : Prop where
  rises : RisesF t
  mem : ∀ x : FileL, x ∈ t ↔ ((∃ k, (x.1, k) ∈ l) ∧ x ∈ b) ∨ ((¬ ∃ k, (x.1, k) ∈ l) ∧ x ∈ a)
  len : t.length ≤ a.length + l.length
theorem way_start {a b : List FileL} (ha : RisesF a) : OnWay a b a [] := ⟨ha, by simp, by simp⟩
theorem way_step {a b t : List FileL} {l : List (List UInt8 × Nat)} {x : List UInt8 × Nat} (ha : RisesF a) (hb : RisesF b) (h : OnWay a b t l) (hx : x ∈ diffL a b) : OnWay a b (goStep b t x) (l ++ [x]) := by
  obtain ⟨p, k⟩ := x
  have hk := (diff_mem a b ha hb p k).1 hx
  have key : ∀ q : List UInt8, (∃ j, (q, j) ∈ l ++ [(p, k)]) ↔ ((∃ j, (q, j) ∈ l) ∨ q = p) := by
    intro q
    simp only [List.mem_append, List.mem_singleton, Prod.mk.injEq]
    constructor
    · rintro ⟨j, h | ⟨h, -⟩⟩
      · exact .inl ⟨j, h⟩
      · exact .inr h
    · rintro (⟨j, h⟩ | h)
      · exact ⟨j, .inl h⟩
      · exact ⟨k, .inr ⟨h, rfl⟩⟩
  unfold goStep
  by_cases h2 : k = 2
  · subst h2
    rw [if_pos rfl]
    have hbn : getL p b = none := by
      cases e : getL p b with
      | none => rfl
      | some d =>
        rw [e] at hk
        unfold kindL at hk
        split at hk
        · cases hk
        · rename_i e2; cases e2
        · simp at hk
        · split at hk <;> simp at hk
    refine ⟨drop_rises p h.rises, fun x => ?_, ?_⟩
    · rw [dropL, List.mem_filter, h.mem x, key]
      have hxb : x.1 = p → ¬ x ∈ b := fun e hm => by
        have := (get_mem (p := p) (d := x.2) hb).2 (by rw [← e]; exact hm)
        rw [hbn] at this; cases this
      by_cases hp : x.1 = p
      · have hxb' := hxb hp
        simp [hp, hxb']
      · simp [hp]
    · have := List.length_filter_le (fun g : FileL => !(g.1 == p)) t
      have := h.len
      simp only [dropL, List.length_append, List.length_cons, List.length_nil]; omega
  · rw [if_neg h2]
    obtain ⟨d, hd⟩ : ∃ d, getL p b = some d := by
      cases e : getL p b with
      | some d => exact ⟨d, rfl⟩
      | none =>
        rw [e] at hk
        unfold kindL at hk
        split at hk
        · cases hk
        · simp at hk; omega
        · rename_i e2; cases e2
        · rename_i e2; cases e2
    refine ⟨with_rises _ t h.rises, fun x => ?_, ?_⟩
    · rw [with_mem _ t h.rises, h.mem x, key]
      simp only [hd, Option.getD_some]
      have hpd := (get_mem hb).1 hd
      by_cases hp : x.1 = p
      · have e : x = (p, d) ↔ x ∈ b := by
          constructor
          · rintro rfl; exact hpd
          · intro hm
            have := (get_mem (p := p) (d := x.2) hb).2 (by rw [← hp]; exact hm)
            rw [hd] at this
            simp only [Option.some.injEq] at this
            rw [this, ← hp]
        rw [e]; simp [hp]
      · have e : ¬ x = (p, d) := fun e => hp (by rw [e])
        simp [hp, e]
    · have := with_len (p, (getL p b).getD []) t false
      have := h.len
      simp only [withL, List.length_append, List.length_cons, List.length_nil]; omega
theorem way_end {a b t : List FileL} (ha : RisesF a) (hb : RisesF b) (h : OnWay a b t (diffL a b)) : t = b := by
  refine rises_ext h.rises hb fun x => ?_
  rw [h.mem]
  constructor
  · rintro (⟨-, h⟩ | ⟨h1, h2⟩)
    · exact h
    · have e := (get_mem ha).2 (show (x.1, x.2) ∈ a from h2)
      cases e2 : getL x.1 b with
      | none => exact absurd ⟨2, (diff_mem a b ha hb x.1 2).2 (by rw [e, e2]; rfl)⟩ h1
      | some d =>
        by_cases hd : x.2 = d
        · subst hd; exact (get_mem hb).1 e2
        · exact absurd ⟨3, (diff_mem a b ha hb x.1 3).2 (by rw [e, e2]; simp [kindL, hd])⟩ h1
  · intro hm
    by_cases h1 : ∃ k, (x.1, k) ∈ diffL a b
    · exact .inl ⟨h1, hm⟩
    · refine .inr ⟨h1, ?_⟩
      have e := (get_mem hb).2 (show (x.1, x.2) ∈ b from hm)
      cases e2 : getL x.1 a with
      | none => exact absurd ⟨1, (diff_mem a b ha hb x.1 1).2 (by rw [e, e2]; rfl)⟩ h1
      | some d =>
        by_cases hd : d = x.2
        · subst hd; exact (get_mem ha).1 e2
        · exact absurd ⟨3, (diff_mem a b ha hb x.1 3).2 (by rw [e, e2]; simp [kindL, hd])⟩ h1
theorem way_good {a b t : List FileL} {l : List (List UInt8 × Nat)} (h : OnWay a b t l) (ha : checkL a = 0) (hb : checkL b = 0) (hl : a.length + l.length ≤ 1024) : checkL t = 0 :=
  (check_iff t).2 ⟨Nat.le_trans h.len hl, h.rises, fun f hf => by
    rcases (h.mem f).1 hf with ⟨-, hm⟩ | ⟨-, hm⟩
    · exact ((check_iff b).1 hb).2.2 f hm
    · exact ((check_iff a).1 ha).2.2 f hm⟩
/-- A path that the differences tell may be one. -/
theorem diff_may {a b : List FileL} (ha : checkL a = 0) (hb : checkL b = 0) {x : List UInt8 × Nat} (hx : x ∈ diffL a b) : mayB x.1 = true := by
  obtain ⟨p, k⟩ := x
  have hr := check_rises ha
  have hs := check_rises hb
  have good : ∀ f : FileL, goodF f → mayB f.1 = true := fun f hf => by
    have := hf.1
    unfold badName at this
    simp only [Bool.or_eq_false_iff, Bool.not_eq_false'] at this
    exact this.1.1
  rcases kind_in ((diff_mem a b hr hs p k).1 hx) with ⟨d, h⟩ | ⟨d, h⟩
  · exact good (p, d) (((check_iff a).1 ha).2.2 _ ((get_mem hr).1 h))
  · exact good (p, d) (((check_iff b).1 hb).2.2 _ ((get_mem hs).1 h))
theorem diff_got {a b : List FileL} (ha : RisesF a) (hb : RisesF b) {p : List UInt8} {k : Nat} (hx : (p, k) ∈ diffL a b) (hk : k ≠ 2) : ∃ d, getL p b = some d := by
  have hk2 := (diff_mem a b ha hb p k).1 hx
  cases e : getL p b with
  | some d => exact ⟨d, rfl⟩
  | none =>
    rw [e] at hk2
    unfold kindL at hk2
    split at hk2
    · cases hk2
    · simp at hk2; omega
    · rename_i e2; cases e2
    · rename_i e2; cases e2
end Go.Proofs.YtffmjjocjcomnaaDoor
