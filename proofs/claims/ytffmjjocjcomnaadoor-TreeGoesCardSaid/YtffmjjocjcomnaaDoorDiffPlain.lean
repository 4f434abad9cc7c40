/- Plain laws of trees: texts' order; sorted files; one put in its place; the differences. -/
import Derived.Test.YtffmjjocjcomnaaDoorTreeGet
namespace Go.Proofs.YtffmjjocjcomnaaDoor
open Go.RowKit

abbrev less (a b : List UInt8) : Bool := Op.bytesLess a b
theorem less_cons (a b : UInt8) (x y : List UInt8) : less (a :: x) (b :: y) = (decide (a < b) || (a == b && less x y)) := rfl
theorem less_trans : ∀ {x y z : List UInt8}, less x y = true → less y z = true → less x z = true
  | _, _, [], _, h => by rename_i y _; cases y <;> simp [less, Op.bytesLess] at h
  | [], _, c :: z, _, _ => rfl
  | a :: x, [], c :: z, h, _ => by simp [less, Op.bytesLess] at h
  | a :: x, b :: y, c :: z, h1, h2 => by
    rw [less_cons] at h1 h2 ⊢
    simp only [Bool.or_eq_true, decide_eq_true_eq, Bool.and_eq_true, beq_iff_eq] at h1 h2 ⊢
    rcases h1 with h1 | ⟨rfl, h1⟩
    · rcases h2 with h2 | ⟨rfl, h2⟩
      · exact .inl (UInt8.lt_trans h1 h2)
      · exact .inl h1
    · rcases h2 with h2 | ⟨rfl, h2⟩
      · exact .inl h2
      · exact .inr ⟨rfl, less_trans h1 h2⟩
theorem less_irrefl (x : List UInt8) : less x x = false := bytesLess_irrefl x
theorem less_asymm {x y : List UInt8} (h : less x y = true) : less y x = false := by
  rw [← Bool.not_eq_true]; intro h2
  have := less_trans h h2
  rw [less_irrefl] at this; cases this
theorem less_total : ∀ {x y : List UInt8}, less x y = false → less y x = false → x = y
  | [], [], _, _ => rfl
  | [], _ :: _, h, _ => by simp [less, Op.bytesLess] at h
  | _ :: _, [], _, h => by simp [less, Op.bytesLess] at h
  | a :: x, b :: y, h1, h2 => by
    rw [less_cons] at h1 h2
    simp only [Bool.or_eq_false_iff, decide_eq_false_iff_not, Bool.and_eq_false_iff, beq_eq_false_iff_ne] at h1 h2
    have hab : a = b := by
      have h3 := h1.1; have h4 := h2.1
      exact UInt8.le_antisymm (UInt8.not_lt.1 h4) (UInt8.not_lt.1 h3)
    subst hab
    have h5 : less x y = false := by rcases h1.2 with h | h; exact absurd rfl h; exact h
    have h6 : less y x = false := by rcases h2.2 with h | h; exact absurd rfl h; exact h
    rw [less_total h5 h6]
theorem less_ne {x y : List UInt8} (h : less x y = true) : x ≠ y := by rintro rfl; rw [less_irrefl] at h; cases h

/-! Rows that rise by their key. -/
def Rises {α : Type} (key : α → List UInt8) (l : List α) : Prop := l.Pairwise fun a b => less (key a) (key b) = true
theorem rises_ext {α : Type} {key : α → List UInt8} : ∀ {l r : List α}, Rises key l → Rises key r → (∀ x, x ∈ l ↔ x ∈ r) → l = r
  | [], [], _, _, _ => rfl
  | [], y :: r, _, _, h => by have := (h y).2 (by simp); cases this
  | x :: l, [], _, _, h => by have := (h x).1 (by simp); cases this
  | x :: l, y :: r, h1, h2, h => by
    obtain ⟨hx, k1⟩ := List.pairwise_cons.1 h1
    obtain ⟨hy, k2⟩ := List.pairwise_cons.1 h2
    have hxy : x = y := by
      rcases List.mem_cons.1 ((h x).1 (by simp)) with e | hxr
      · exact e
      · rcases List.mem_cons.1 ((h y).2 (by simp)) with e | hyl
        · exact e.symm
        · have a := hy x hxr
          have b := hx y hyl
          rw [less_asymm a] at b; cases b
    subst hxy
    congr 1
    refine rises_ext k1 k2 fun z => ⟨fun hz => ?_, fun hz => ?_⟩
    · rcases List.mem_cons.1 ((h z).1 (by simp [hz])) with rfl | h'
      · have := hx z hz; rw [less_irrefl] at this; cases this
      · exact h'
    · rcases List.mem_cons.1 ((h z).2 (by simp [hz])) with rfl | h'
      · have := hy z hz; rw [less_irrefl] at this; cases this
      · exact h'

abbrev RisesF (fs : List FileL) : Prop := Rises (fun f : FileL => f.1) fs
theorem checkFrom_rises : ∀ (fs : List FileL) (a : List UInt8) (b : Bool), checkFrom a b fs = 0 → RisesF fs ∧ (b = false → ∀ f ∈ fs, less a f.1 = true)
  | [], _, _, _ => ⟨List.Pairwise.nil, fun _ f hf => by cases hf⟩
  | g :: fs, a, b, h => by
    unfold checkFrom at h
    by_cases h0 : lookE g a b = 0
    · rw [if_pos h0] at h
      obtain ⟨h1, h2⟩ := checkFrom_rises fs g.1 false h
      have h3 := h2 rfl
      refine ⟨List.pairwise_cons.2 ⟨h3, h1⟩, fun hb f hf => ?_⟩
      subst hb
      have hag : less a g.1 = true := by
        unfold lookE at h0
        by_cases k1 : badName g.1 = true
        · rw [if_pos k1] at h0; cases h0
        · rw [if_neg k1] at h0
          by_cases k2 : false = false ∧ (g.1 == a) = true
          · rw [if_pos k2] at h0; cases h0
          · rw [if_neg k2] at h0
            by_cases k3 : false = false ∧ Op.bytesLess g.1 a = true
            · rw [if_pos k3] at h0; cases h0
            · rw [← Bool.not_eq_false]; intro k4
              have k5 : less g.1 a = false := by simpa using k3
              have := less_total k5 k4
              exact k2 ⟨rfl, by simp [this]⟩
      rcases List.mem_cons.1 hf with rfl | hf
      · exact hag
      · exact less_trans hag (h3 f hf)
    · rw [if_neg h0] at h; exact absurd h h0
theorem check_rises {fs : List FileL} (h : checkL fs = 0) : RisesF fs := by
  unfold checkL at h
  by_cases h1 : 1024 < fs.length
  · rw [if_pos h1] at h; cases h
  · rw [if_neg h1] at h; exact (checkFrom_rises fs _ _ h).1

theorem get_low {p : List UInt8} : ∀ {fs : List FileL}, (∀ f ∈ fs, less p f.1 = true) → getL p fs = none
  | [], _ => rfl
  | f :: fs, h => by
    unfold getL
    rw [if_neg (by have := less_ne (h f (by simp)); simpa using fun e => this e.symm)]
    exact get_low fun g hg => h g (by simp [hg])
theorem get_mem {p d : List UInt8} : ∀ {fs : List FileL}, RisesF fs → (getL p fs = some d ↔ (p, d) ∈ fs)
  | [], _ => by simp [getL]
  | f :: fs, h => by
    obtain ⟨h1, h2⟩ := List.pairwise_cons.1 h
    unfold getL
    by_cases hf : (f.1 == p) = true
    · rw [if_pos hf]
      have hf' : f.1 = p := by simpa using hf
      constructor
      · intro e; simp only [Option.some.injEq] at e; rw [← hf', ← e]; simp
      · intro e
        rcases List.mem_cons.1 e with e | e
        · rw [← e]
        · have : less f.1 p = true := h1 _ e
          rw [hf', less_irrefl] at this; cases this
    · rw [if_neg hf, get_mem h2]
      constructor
      · intro e; simp [e]
      · intro e
        rcases List.mem_cons.1 e with e | e
        · rw [← e] at hf; simp at hf
        · exact e

/-! What became of a path. -/
def kindL (x y : Option (List UInt8)) : Option Nat := match x, y with
  | none, none => none
  | some _, none => some 2
  | none, some _ => some 1
  | some x, some y => if x = y then none else some 3
def diffL : List FileL → List FileL → List (List UInt8 × Nat)
  | [], [] => []
  | f :: a, [] => (f.1, 2) :: diffL a []
  | [], g :: b => (g.1, 1) :: diffL [] b
  | f :: a, g :: b =>
    if less f.1 g.1 = true then (f.1, 2) :: diffL a (g :: b)
    else if less g.1 f.1 = true then (g.1, 1) :: diffL (f :: a) b
    else (if f.2 = g.2 then [] else [(f.1, 3)]) ++ diffL a b
termination_by a b => a.length + b.length

theorem diff_self : ∀ a : List FileL, diffL a a = []
  | [] => by rw [diffL]
  | f :: a => by
    rw [diffL, if_neg (by rw [less_irrefl]; decide), if_neg (by rw [less_irrefl]; decide), if_pos rfl, diff_self a]; rfl
theorem get_head (f : FileL) (fs : List FileL) (p : List UInt8) : getL p (f :: fs) = if f.1 = p then some f.2 else getL p fs := by
  show (if (f.1 == p) = true then _ else _) = _
  simp

theorem diff_mem : ∀ (a b : List FileL), RisesF a → RisesF b → ∀ p k, (p, k) ∈ diffL a b ↔ kindL (getL p a) (getL p b) = some k
  | [], [], _, _, p, k => by rw [diffL]; simp [getL, kindL]
  | f :: a, [], ha, hb, p, k => by
    obtain ⟨h1, h2⟩ := List.pairwise_cons.1 ha
    have ih := diff_mem a [] h2 hb p k
    rw [diffL, List.mem_cons, ih, get_head]
    by_cases hp : f.1 = p
    · rw [if_pos hp]; subst hp
      rw [get_low h1]; simp [getL, kindL]; exact eq_comm
    · rw [if_neg hp]; simp [getL, kindL]; intro e; exact absurd e.symm hp
  | [], g :: b, ha, hb, p, k => by
    obtain ⟨h1, h2⟩ := List.pairwise_cons.1 hb
    have ih := diff_mem [] b ha h2 p k
    rw [diffL, List.mem_cons, ih, get_head]
    by_cases hp : g.1 = p
    · rw [if_pos hp]; subst hp
      rw [get_low h1]; simp [getL, kindL]; exact eq_comm
    · rw [if_neg hp]; simp [getL, kindL]; intro e; exact absurd e.symm hp
  | f :: a, g :: b, ha, hb, p, k => by
    obtain ⟨h1, h2⟩ := List.pairwise_cons.1 ha
    obtain ⟨h3, h4⟩ := List.pairwise_cons.1 hb
    rw [diffL]
    by_cases c1 : less f.1 g.1 = true
    · rw [if_pos c1, List.mem_cons, diff_mem a (g :: b) h2 hb p k, get_head f]
      by_cases hp : f.1 = p
      · rw [if_pos hp]; subst hp
        have hl : getL f.1 (g :: b) = none := get_low fun x hx => by
          rcases List.mem_cons.1 hx with rfl | hx
          · exact c1
          · exact less_trans c1 (h3 x hx)
        rw [hl, get_low h1]; simp [kindL]; exact eq_comm
      · rw [if_neg hp]
        constructor
        · rintro (e | e)
          · cases e; exact absurd rfl hp
          · exact e
        · exact .inr
    · rw [if_neg c1]
      by_cases c2 : less g.1 f.1 = true
      · rw [if_pos c2, List.mem_cons, diff_mem (f :: a) b ha h4 p k, get_head g]
        by_cases hp : g.1 = p
        · rw [if_pos hp]; subst hp
          have hl : getL g.1 (f :: a) = none := get_low fun x hx => by
            rcases List.mem_cons.1 hx with rfl | hx
            · exact c2
            · exact less_trans c2 (h1 x hx)
          rw [hl, get_low h3]; simp [kindL]; exact eq_comm
        · rw [if_neg hp]
          constructor
          · rintro (e | e)
            · cases e; exact absurd rfl hp
            · exact e
          · exact .inr
      · rw [if_neg c2]
        have hfg : f.1 = g.1 := less_total (by simpa using c1) (by simpa using c2)
        rw [List.mem_append, diff_mem a b h2 h4 p k, get_head, get_head, ← hfg]
        by_cases hp : f.1 = p
        · rw [if_pos hp, if_pos hp]; subst hp
          rw [get_low h1, get_low (by rw [hfg]; exact h3)]
          by_cases hd : f.2 = g.2
          · simp [hd, kindL]
          · simp [hd, kindL]; exact eq_comm
        · rw [if_neg hp, if_neg hp]
          constructor
          · rintro (e | e)
            · split at e
              · cases e
              · simp at e; exact absurd e.1.symm hp
            · exact e
          · exact .inr
termination_by a b => a.length + b.length

theorem kind_in {a b : List FileL} {p : List UInt8} {k : Nat} (h : kindL (getL p a) (getL p b) = some k) : (∃ d, getL p a = some d) ∨ (∃ d, getL p b = some d) := by
  cases ha : getL p a with
  | some d => exact .inl ⟨d, rfl⟩
  | none =>
    cases hb : getL p b with
    | some d => exact .inr ⟨d, rfl⟩
    | none => rw [ha, hb] at h; cases h
theorem diff_above {a b : List FileL} (ha : RisesF a) (hb : RisesF b) {q : List UInt8} (h1 : ∀ f ∈ a, less q f.1 = true) (h2 : ∀ f ∈ b, less q f.1 = true) : ∀ x ∈ diffL a b, less q x.1 = true := by
  rintro ⟨p, k⟩ hx
  rcases kind_in ((diff_mem a b ha hb p k).1 hx) with ⟨d, h⟩ | ⟨d, h⟩
  · exact h1 _ ((get_mem ha).1 h)
  · exact h2 _ ((get_mem hb).1 h)
theorem diff_rises : ∀ (a b : List FileL), RisesF a → RisesF b → Rises (fun x : List UInt8 × Nat => x.1) (diffL a b)
  | [], [], _, _ => by rw [diffL]; exact List.Pairwise.nil
  | f :: a, [], ha, hb => by
    obtain ⟨h1, h2⟩ := List.pairwise_cons.1 ha
    rw [diffL]
    exact List.pairwise_cons.2 ⟨diff_above h2 hb h1 (by simp), diff_rises a [] h2 hb⟩
  | [], g :: b, ha, hb => by
    obtain ⟨h1, h2⟩ := List.pairwise_cons.1 hb
    rw [diffL]
    exact List.pairwise_cons.2 ⟨diff_above ha h2 (by simp) h1, diff_rises [] b ha h2⟩
  | f :: a, g :: b, ha, hb => by
    obtain ⟨h1, h2⟩ := List.pairwise_cons.1 ha
    obtain ⟨h3, h4⟩ := List.pairwise_cons.1 hb
    rw [diffL]
    by_cases c1 : less f.1 g.1 = true
    · rw [if_pos c1]
      refine List.pairwise_cons.2 ⟨diff_above h2 hb h1 fun x hx => ?_, diff_rises a (g :: b) h2 hb⟩
      rcases List.mem_cons.1 hx with rfl | hx
      · exact c1
      · exact less_trans c1 (h3 x hx)
    · rw [if_neg c1]
      by_cases c2 : less g.1 f.1 = true
      · rw [if_pos c2]
        refine List.pairwise_cons.2 ⟨diff_above ha h4 (fun x hx => ?_) h3, diff_rises (f :: a) b ha h4⟩
        rcases List.mem_cons.1 hx with rfl | hx
        · exact c2
        · exact less_trans c2 (h1 x hx)
      · rw [if_neg c2]
        have hfg : f.1 = g.1 := less_total (by simpa using c1) (by simpa using c2)
        by_cases hd : f.2 = g.2
        · rw [if_pos hd]; exact diff_rises a b h2 h4
        · rw [if_neg hd]
          exact List.pairwise_cons.2 ⟨diff_above h2 h4 h1 (by rw [hfg]; exact h3), diff_rises a b h2 h4⟩
termination_by a b => a.length + b.length

/-! One put in its place. -/
def withGo (f : FileL) : Bool → List FileL → List FileL
  | done, [] => if done = true then [] else [f]
  | done, g :: t =>
    (if done = false ∧ (less f.1 g.1 || f.1 == g.1) = true then [f] else []) ++ ((if (g.1 == f.1) = true then [] else [g]) ++ withGo f (done || (less f.1 g.1 || f.1 == g.1)) t)
def withL (t : List FileL) (f : FileL) : List FileL := withGo f false t
theorem with_done (f : FileL) : ∀ t, (∀ g ∈ t, less f.1 g.1 = true) → withGo f true t = t
  | [], _ => rfl
  | g :: t, h => by
    unfold withGo
    rw [if_neg (by simp), if_neg (by have := less_ne (h g (by simp)); simpa using fun e => this e.symm), Bool.true_or, with_done f t (fun x hx => h x (by simp [hx]))]; rfl
/-- What 'with' lays, in plain: below, one, above. -/
theorem with_cases (f g : FileL) (t : List FileL) (h : RisesF (g :: t)) :
    withL (g :: t) f = if less f.1 g.1 = true then f :: g :: t else if f.1 = g.1 then f :: t else g :: withL t f := by
  obtain ⟨h1, h2⟩ := List.pairwise_cons.1 h
  show withGo f false (g :: t) = _
  unfold withGo
  by_cases c1 : less f.1 g.1 = true
  · have hne := less_ne c1
    rw [if_pos c1, c1, Bool.true_or, if_pos ⟨rfl, rfl⟩, if_neg (by simpa using fun e => hne e.symm), Bool.false_or, with_done f t (fun x hx => less_trans c1 (h1 x hx))]; rfl
  · rw [if_neg c1]
    by_cases c2 : f.1 = g.1
    · have e1 : (f.1 == g.1) = true := by simp [c2]
      have e2 : (g.1 == f.1) = true := by simp [c2]
      rw [if_pos c2, e1, Bool.or_true, if_pos ⟨rfl, rfl⟩, if_pos e2, Bool.or_true, with_done f t (fun x hx => by rw [c2]; exact h1 x hx)]; rfl
    · have e1 : (f.1 == g.1) = false := by simpa using c2
      have e2 : ¬ (g.1 == f.1) = true := by simpa using fun e => c2 e.symm
      rw [if_neg c2, e1, Bool.or_false, if_neg (fun h => c1 h.2), if_neg e2, Bool.false_or, show less f.1 g.1 = false by simpa using c1]; rfl
theorem with_mem (f : FileL) : ∀ t, RisesF t → ∀ x, x ∈ withL t f ↔ x = f ∨ (x ∈ t ∧ x.1 ≠ f.1)
  | [], _, x => by show x ∈ [f] ↔ _; simp
  | g :: t, h, x => by
    obtain ⟨h1, h2⟩ := List.pairwise_cons.1 h
    rw [with_cases f g t h]
    by_cases c1 : less f.1 g.1 = true
    · rw [if_pos c1]
      constructor
      · intro hx
        rcases List.mem_cons.1 hx with e | hx
        · exact .inl e
        · refine .inr ⟨hx, ?_⟩
          rcases List.mem_cons.1 hx with rfl | hx
          · exact (less_ne c1).symm
          · exact (less_ne (less_trans c1 (h1 x hx))).symm
      · rintro (e | ⟨hx, _⟩)
        · simp [e]
        · simp only [List.mem_cons] at hx ⊢; exact .inr hx
    · rw [if_neg c1]
      by_cases c2 : f.1 = g.1
      · rw [if_pos c2]
        constructor
        · intro hx
          rcases List.mem_cons.1 hx with e | hx
          · exact .inl e
          · have : less g.1 x.1 = true := h1 x hx
            exact .inr ⟨by simp [hx], by rw [c2]; exact (less_ne this).symm⟩
        · rintro (e | ⟨hx, hne⟩)
          · simp [e]
          · rcases List.mem_cons.1 hx with rfl | hx
            · exact absurd c2.symm hne
            · simp [hx]
      · rw [if_neg c2, List.mem_cons, with_mem f t h2 x]
        constructor
        · rintro (e | e | ⟨hx, hne⟩)
          · exact .inr ⟨by simp [e], by rw [e]; exact fun e => c2 e.symm⟩
          · exact .inl e
          · exact .inr ⟨by simp [hx], hne⟩
        · rintro (e | ⟨hx, hne⟩)
          · exact .inr (.inl e)
          · rcases List.mem_cons.1 hx with e | hx
            · exact .inl e
            · exact .inr (.inr ⟨hx, hne⟩)
theorem with_rises (f : FileL) : ∀ t, RisesF t → RisesF (withL t f)
  | [], _ => List.pairwise_cons.2 ⟨by simp, List.Pairwise.nil⟩
  | g :: t, h => by
    obtain ⟨h1, h2⟩ := List.pairwise_cons.1 h
    rw [with_cases f g t h]
    by_cases c1 : less f.1 g.1 = true
    · rw [if_pos c1]
      refine List.pairwise_cons.2 ⟨fun x hx => ?_, h⟩
      rcases List.mem_cons.1 hx with rfl | hx
      · exact c1
      · exact less_trans c1 (h1 x hx)
    · rw [if_neg c1]
      by_cases c2 : f.1 = g.1
      · rw [if_pos c2]
        exact List.pairwise_cons.2 ⟨fun x hx => by show less f.1 x.1 = true; rw [c2]; exact h1 x hx, h2⟩
      · rw [if_neg c2]
        refine List.pairwise_cons.2 ⟨fun x hx => ?_, with_rises f t h2⟩
        rcases (with_mem f t h2 x).1 hx with rfl | ⟨hx, _⟩
        · show less g.1 x.1 = true
          rw [← Bool.not_eq_false]; intro k
          exact c2 (less_total (by simpa using c1) k)
        · exact h1 x hx
theorem with_len (f : FileL) : ∀ (t : List FileL) (d : Bool), (withGo f d t).length ≤ t.length + 1
  | [], d => by cases d <;> simp [withGo]
  | g :: t, d => by
    unfold withGo
    by_cases hc : d = false ∧ (less f.1 g.1 || f.1 == g.1) = true
    · have : ∀ t, (withGo f true t).length ≤ t.length := by
        intro t
        induction t with
        | nil => simp [withGo]
        | cons h t ih =>
          unfold withGo
          rw [if_neg (by simp)]
          simp only [Bool.true_or, List.nil_append, List.length_append, List.length_cons]
          split <;> simp <;> omega
      have := this t
      rw [if_pos hc, hc.1, hc.2]
      simp only [List.length_append, List.length_cons, Bool.false_or]
      split <;> simp <;> omega
    · have := with_len f t (d || (less f.1 g.1 || f.1 == g.1))
      rw [if_neg hc]
      simp only [List.nil_append, List.length_append, List.length_cons]
      split <;> simp <;> omega

/-! The reference's differences. -/
def allL (a b : List FileL) : List FileL := b.foldl withL a
theorem all_rises : ∀ (b a : List FileL), RisesF a → RisesF (allL a b)
  | [], _, h => h
  | f :: b, a, h => all_rises b (withL a f) (with_rises f a h)
theorem all_keys : ∀ (b a : List FileL), RisesF a → ∀ p, (∃ x ∈ allL a b, x.1 = p) ↔ ((∃ x ∈ a, x.1 = p) ∨ ∃ x ∈ b, x.1 = p)
  | [], a, _, p => by simp [allL]
  | f :: b, a, h, p => by
    show (∃ x ∈ allL (withL a f) b, x.1 = p) ↔ _
    rw [all_keys b (withL a f) (with_rises f a h) p]
    constructor
    · rintro (⟨x, hx, e⟩ | ⟨x, hx, e⟩)
      · rcases (with_mem f a h x).1 hx with rfl | ⟨hx, _⟩
        · exact .inr ⟨x, by simp, e⟩
        · exact .inl ⟨x, hx, e⟩
      · exact .inr ⟨x, by simp [hx], e⟩
    · rintro (⟨x, hx, e⟩ | ⟨x, hx, e⟩)
      · by_cases hf : x.1 = f.1
        · exact .inl ⟨f, (with_mem f a h f).2 (.inl rfl), by rw [← hf, e]⟩
        · exact .inl ⟨x, (with_mem f a h x).2 (.inr ⟨hx, hf⟩), e⟩
      · rcases List.mem_cons.1 hx with rfl | hx
        · exact .inl ⟨x, (with_mem x a h x).2 (.inl rfl), e⟩
        · exact .inr ⟨x, hx, e⟩
def oneD (a b : List FileL) (f : FileL) : List (List UInt8 × Nat) := match kindL (getL f.1 a) (getL f.1 b) with | none => [] | some k => [(f.1, k)]
def refDiffL (a b : List FileL) : List (List UInt8 × Nat) := (allL a b).flatMap (oneD a b)
theorem one_mem {a b : List FileL} {f : FileL} {p : List UInt8} {k : Nat} : (p, k) ∈ oneD a b f ↔ f.1 = p ∧ kindL (getL p a) (getL p b) = some k := by
  unfold oneD
  constructor
  · intro h
    split at h
    · cases h
    · rename_i j hj
      simp only [List.mem_singleton, Prod.mk.injEq] at h
      obtain ⟨rfl, rfl⟩ := h
      exact ⟨rfl, hj⟩
  · rintro ⟨rfl, h⟩
    rw [h]; simp
theorem flat_rises {a b : List FileL} : ∀ l : List FileL, RisesF l → Rises (fun x : List UInt8 × Nat => x.1) (l.flatMap (oneD a b))
  | [], _ => List.Pairwise.nil
  | f :: l, h => by
    obtain ⟨h1, h2⟩ := List.pairwise_cons.1 h
    rw [List.flatMap_cons]
    refine List.pairwise_append.2 ⟨?_, flat_rises l h2, ?_⟩
    · unfold oneD; split
      · exact List.Pairwise.nil
      · exact List.pairwise_cons.2 ⟨by simp, List.Pairwise.nil⟩
    · rintro ⟨p, k⟩ hx ⟨q, j⟩ hy
      obtain ⟨rfl, -⟩ := one_mem.1 hx
      obtain ⟨g, hg, hy⟩ := List.mem_flatMap.1 hy
      obtain ⟨rfl, -⟩ := one_mem.1 hy
      exact h1 g hg
theorem refDiff_eq {a b : List FileL} (ha : RisesF a) (hb : RisesF b) : refDiffL a b = diffL a b := by
  refine rises_ext (flat_rises _ (all_rises b a ha)) (diff_rises a b ha hb) ?_
  rintro ⟨p, k⟩
  rw [diff_mem a b ha hb p k, refDiffL, List.mem_flatMap]
  constructor
  · rintro ⟨f, _, h⟩; exact (one_mem.1 h).2
  · intro h
    have hk : (∃ x ∈ a, x.1 = p) ∨ ∃ x ∈ b, x.1 = p := by
      rcases kind_in h with ⟨d, e⟩ | ⟨d, e⟩
      · exact .inl ⟨_, (get_mem ha).1 e, rfl⟩
      · exact .inr ⟨_, (get_mem hb).1 e, rfl⟩
    obtain ⟨x, hx, e⟩ := (all_keys b a ha p).2 hk
    exact ⟨x, hx, one_mem.2 ⟨e, h⟩⟩
end Go.Proofs.YtffmjjocjcomnaaDoor
