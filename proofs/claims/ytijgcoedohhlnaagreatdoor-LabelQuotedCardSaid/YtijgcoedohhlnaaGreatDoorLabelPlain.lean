/- Plain words of labels: packages, names, the label of a text, the text of a label. -/
import Derived.Test.YtijgcoedohhlnaaGreatDoorPathPlain
import Derived.Test.YtijgcoedohhlnaaGreatDoorLess
namespace Go.Proofs.YtijgcoedohhlnaaGreatDoor
open Go.RowKit

def pkgB (l : List UInt8) : Bool := decide (l = []) || mayB l
def labB (p n : List UInt8) : Bool := pkgB p && partB n
theorem byte_ge (l : List UInt8) (c : UInt8) : -1 ≤ Lib.indexByte l c := indexByte_ge l c
/-- The first place of a sign. -/
theorem byte_none {l : List UInt8} {c : UInt8} : Lib.indexByte l c = -1 ↔ c ∉ l := by
  induction l with
  | nil => simp [Lib.indexByte]
  | cons b l ih =>
    have hg := indexByte_ge l c
    unfold Lib.indexByte
    by_cases hb : (b == c) = true
    · rw [if_pos hb]; have := eq_of_beq hb; subst this; simp
    · rw [if_neg hb]
      have hbc : c ≠ b := by intro e; subst e; simp at hb
      by_cases h1 : (Lib.indexByte l c == -1) = true
      · rw [if_pos h1]; have := ih.1 (eq_of_beq h1); simp [this, hbc]
      · rw [if_neg h1]
        have : Lib.indexByte l c ≠ -1 := fun e => h1 (by rw [e]; rfl)
        constructor
        · intro h; omega
        · intro h; simp only [List.mem_cons, not_or] at h; exact absurd (ih.2 h.2) this
theorem byte_at {l : List UInt8} {c : UInt8} {i : Nat} (h : Lib.indexByte l c = i) : l = l.take i ++ c :: l.drop (i + 1) ∧ c ∉ l.take i ∧ i < l.length := by
  induction l generalizing i with
  | nil => simp [Lib.indexByte] at h
  | cons b l ih =>
    have hg := indexByte_ge l c
    unfold Lib.indexByte at h
    by_cases hb : (b == c) = true
    · rw [if_pos hb] at h
      obtain rfl : i = 0 := by omega
      have := eq_of_beq hb; subst this; simp
    · rw [if_neg hb] at h
      have hbc : c ≠ b := by intro e; subst e; simp at hb
      by_cases h1 : (Lib.indexByte l c == -1) = true
      · rw [if_pos h1] at h; omega
      · rw [if_neg h1] at h
        have hn : Lib.indexByte l c ≠ -1 := fun e => h1 (by rw [e]; rfl)
        obtain ⟨j, hj⟩ : ∃ j : Nat, Lib.indexByte l c = j := ⟨(Lib.indexByte l c).toNat, by omega⟩
        obtain rfl : i = j + 1 := by omega
        obtain ⟨h2, h3, h4⟩ := ih hj
        refine ⟨?_, ?_, by simp; omega⟩
        · simp only [List.take_succ_cons, List.drop_succ_cons, List.cons_append]; rw [← h2]
        · simp only [List.take_succ_cons, List.mem_cons, not_or]; exact ⟨hbc, h3⟩
theorem byte_of {a r : List UInt8} {c : UInt8} (h : c ∉ a) : Lib.indexByte (a ++ c :: r) c = a.length := by
  induction a with
  | nil => simp [Lib.indexByte]
  | cons b a ih =>
    simp only [List.mem_cons, not_or] at h
    show Lib.indexByte (b :: (a ++ c :: r)) c = _
    unfold Lib.indexByte
    have hb : ¬ (b == c) = true := by intro e; exact h.1 (eq_of_beq e).symm
    rw [if_neg hb, ih h.2]
    have : ¬ (((a.length : Int)) == -1) = true := by intro e; have := eq_of_beq e; omega
    rw [if_neg this]; simp
theorem sign_mem {l : List UInt8} (h : partB l = true) {c : UInt8} (hc : c ∈ l) : signN c.toNat = true := by
  unfold partB at h
  simp only [Bool.and_eq_true, List.all_eq_true] at h
  exact h.2 c hc
theorem part_free {l : List UInt8} (h : partB l = true) {c : UInt8} (hc : signN c.toNat = false) : c ∉ l := fun hm => by
  rw [sign_mem h hm] at hc; cases hc
theorem part_may {l : List UInt8} (h : partB l = true) : mayB l = true := by
  unfold mayB
  rw [splitL_one (part_free h rfl)]
  simp [h]
theorem may_part {l : List UInt8} (h : (47 : UInt8) ∉ l) : mayB l = partB l := by
  unfold mayB; rw [splitL_one h]; simp
/-- A name: a path without a stroke. -/
theorem name_eq (l : List UInt8) : partB l = (mayB l && decide ((47 : UInt8) ∉ l)) := by
  by_cases h : (47 : UInt8) ∈ l
  · rw [decide_eq_false (by simpa using h), Bool.and_false]
    rw [← Bool.not_eq_true]; intro hp; exact part_free hp rfl h
  · rw [decide_eq_true h, Bool.and_true, may_part h]
theorem mem_join {c : UInt8} (hc : c ≠ 47) : ∀ {q : List (List UInt8)}, c ∈ joinL q → ∃ p ∈ q, c ∈ p
  | [], h => by simp [joinL] at h
  | [p], h => ⟨p, by simp, h⟩
  | p :: p2 :: q, h => by
    have h' : c ∈ p ++ 47 :: joinL (p2 :: q) := h
    rcases List.mem_append.1 h' with h1 | h1
    · exact ⟨p, by simp, h1⟩
    · rcases List.mem_cons.1 h1 with h2 | h2
      · exact absurd h2 hc
      · obtain ⟨x, hx, hcx⟩ := mem_join hc h2
        exact ⟨x, by simp only [List.mem_cons] at hx ⊢; exact .inr hx, hcx⟩
theorem may_free {l : List UInt8} (h : mayB l = true) {c : UInt8} (hc : signN c.toNat = false) (h47 : c ≠ 47) : c ∉ l := by
  intro hm
  rw [← joinL_splitL l] at hm
  obtain ⟨p, hp, hcp⟩ := mem_join h47 hm
  unfold mayB at h
  simp only [Bool.and_eq_true, List.all_eq_true] at h
  exact part_free (h.2 p hp) hc hcp
theorem pkg_free {l : List UInt8} (h : pkgB l = true) {c : UInt8} (hc : signN c.toNat = false) (h47 : c ≠ 47) : c ∉ l := by
  unfold pkgB at h
  simp only [Bool.or_eq_true, decide_eq_true_eq] at h
  rcases h with rfl | h
  · simp
  · exact may_free h hc h47

/-- The text of a label. -/
def longL (p n : List UInt8) : List UInt8 := 47 :: 47 :: (p ++ 58 :: n)
def textL (p n : List UInt8) : List UInt8 := if labB p n = true then longL p n else []
def shortL (p n pkg : List UInt8) : List UInt8 := if labB p n = true ∧ p = pkg then 58 :: n else textL p n
theorem cut_text {p n : List UInt8} (hp : pkgB p = true) : Lib.indexByte (p ++ 58 :: n) 58 = p.length := byte_of (pkg_free hp rfl (by decide))
theorem long_inj {p n q m : List UInt8} (hp : pkgB p = true) (hq : pkgB q = true) : longL p n = longL q m ↔ p = q ∧ n = m := by
  constructor
  · intro h
    have h' : p ++ 58 :: n = q ++ 58 :: m := by simpa [longL] using h
    have h1 := cut_text (n := n) hp
    rw [h', cut_text (n := m) hq] at h1
    have hl : p.length = q.length := by omega
    have := List.append_inj h' hl
    exact ⟨this.1, by simpa using this.2⟩
  · rintro ⟨rfl, rfl⟩; rfl

/-- The label of a text, in a package: 0, or the error. -/
def readL (s pkg : List UInt8) : List UInt8 × List UInt8 × Nat :=
  if Lib.indexByte s 58 = 0 then
    if pkgB pkg = true then (if partB (s.drop 1) = true then (pkg, s.drop 1, 0) else ([], [], 7)) else ([], [], 1)
  else if Lib.hasPrefix s [47, 47] = true ∧ 0 ≤ Lib.indexByte s 58 then
    (let i := (Lib.indexByte s 58).toNat
     if labB ((s.take i).drop 2) (s.drop (i + 1)) = true then ((s.take i).drop 2, s.drop (i + 1), 0) else ([], [], 7))
  else ([], [], 3)
theorem at_long (p n : List UInt8) (hp : pkgB p = true) : Lib.indexByte (longL p n) 58 = ((p.length + 2 : Nat) : Int) := by
  have h := byte_of (a := 47 :: 47 :: p) (r := n) (c := 58) (by
    simp only [List.mem_cons, not_or]; exact ⟨by decide, by decide, pkg_free hp rfl (by decide)⟩)
  rw [longL]
  rw [show (47 :: 47 :: (p ++ 58 :: n)) = (47 :: 47 :: p) ++ 58 :: n from rfl, h]
  simp only [List.length_cons]
theorem readL_long {p n : List UInt8} (other : List UInt8) (h : labB p n = true) : readL (longL p n) other = (p, n, 0) := by
  have h2 := h
  unfold labB at h2
  simp only [Bool.and_eq_true] at h2
  have hi := at_long p n h2.1
  unfold readL
  rw [hi, if_neg (by omega), if_pos ⟨by simp [Lib.hasPrefix, longL], by omega⟩]
  have e1 : ((longL p n).take (p.length + 2)).drop 2 = p := by simp [longL]
  have e2 : (longL p n).drop (p.length + 2 + 1) = n := by simp [longL]
  simp only [Int.toNat_natCast, e1, e2, h, if_true]
theorem readL_short {p n : List UInt8} (h : labB p n = true) : readL (58 :: n) p = (p, n, 0) := by
  have h2 := h
  unfold labB at h2
  simp only [Bool.and_eq_true] at h2
  unfold readL
  have : Lib.indexByte (58 :: n) 58 = 0 := by simp [Lib.indexByte]
  rw [this, if_pos rfl, if_pos h2.1]
  simp [h2.2]
theorem readL_good {s pkg p n : List UInt8} (h : readL s pkg = (p, n, 0)) : labB p n = true := by
  unfold readL at h
  by_cases h1 : Lib.indexByte s 58 = 0
  · rw [if_pos h1] at h
    by_cases h2 : pkgB pkg = true
    · rw [if_pos h2] at h
      by_cases h3 : partB (s.drop 1) = true
      · rw [if_pos h3] at h
        simp only [Prod.mk.injEq] at h
        rw [← h.1, ← h.2.1, labB, h2, h3]; rfl
      · rw [if_neg h3] at h; simp at h
    · rw [if_neg h2] at h; simp at h
  · rw [if_neg h1] at h
    by_cases h2 : Lib.hasPrefix s [47, 47] = true ∧ 0 ≤ Lib.indexByte s 58
    · rw [if_pos h2] at h
      by_cases h3 : labB ((s.take (Lib.indexByte s 58).toNat).drop 2) (s.drop ((Lib.indexByte s 58).toNat + 1)) = true
      · simp only [if_pos h3, Prod.mk.injEq] at h
        rw [← h.1, ← h.2.1]; exact h3
      · simp only [if_neg h3] at h; simp at h
    · rw [if_neg h2] at h; simp at h
theorem byte_cons_ne {c b : UInt8} (l : List UInt8) (h : b ≠ c) : Lib.indexByte (b :: l) c = if Lib.indexByte l c = -1 then -1 else Lib.indexByte l c + 1 := by
  rw [Lib.indexByte, if_neg (by intro e; exact h (eq_of_beq e))]
  by_cases h1 : Lib.indexByte l c = -1
  · rw [if_pos h1, if_pos (by rw [h1]; rfl)]
  · rw [if_neg h1, if_neg (by intro e; exact h1 (eq_of_beq e))]
theorem byte_zero {l : List UInt8} {c : UInt8} : Lib.indexByte l c = 0 ↔ ∃ r, l = c :: r := by
  constructor
  · intro h
    have := (byte_at (i := 0) h).1
    exact ⟨l.drop 1, by simpa using this⟩
  · rintro ⟨r, rfl⟩; simp [Lib.indexByte]
theorem prefix2 {s : List UInt8} : Lib.hasPrefix s [47, 47] = true ↔ ∃ t, s = 47 :: 47 :: t := by
  rw [prefix_iff]; rfl
theorem readL_own (r pkg : List UInt8) : readL (58 :: r) pkg = if pkgB pkg = true then (if partB r = true then (pkg, r, 0) else ([], [], 7)) else ([], [], 1) := by
  unfold readL
  rw [if_pos (byte_zero.2 ⟨r, rfl⟩)]; rfl
theorem far_at (t : List UInt8) : Lib.indexByte (47 :: 47 :: t) 58 = if Lib.indexByte t 58 = -1 then -1 else Lib.indexByte t 58 + 2 := by
  have hg := indexByte_ge t 58
  rw [byte_cons_ne _ (by decide), byte_cons_ne _ (by decide)]
  by_cases h : Lib.indexByte t 58 = -1
  · simp [h]
  · rw [if_neg h, if_neg (by omega), if_neg h]; omega
theorem readL_farNo (t pkg : List UInt8) (h : Lib.indexByte t 58 = -1) : readL (47 :: 47 :: t) pkg = ([], [], 3) := by
  unfold readL
  rw [far_at, if_pos h, if_neg (by decide), if_neg (by rintro ⟨-, h⟩; omega)]
theorem readL_far (t pkg : List UInt8) (i : Nat) (h : Lib.indexByte t 58 = i) : readL (47 :: 47 :: t) pkg = if labB (t.take i) (t.drop (i + 1)) = true then (t.take i, t.drop (i + 1), 0) else ([], [], 7) := by
  unfold readL
  rw [far_at, h, if_neg (by omega : ¬ ((i : Int) = -1)), if_neg (by omega), if_pos ⟨by simp [Lib.hasPrefix], by omega⟩]
  have e : ((i : Int) + 2).toNat = i + 2 := by omega
  simp only [e, List.take_succ_cons, List.drop_succ_cons, List.drop_zero]
theorem readL_no (s pkg : List UInt8) (h1 : Lib.indexByte s 58 ≠ 0) (h2 : Lib.hasPrefix s [47, 47] = false) : readL s pkg = ([], [], 3) := by
  unfold readL
  rw [if_neg h1, if_neg (by rintro ⟨h, -⟩; rw [h2] at h; cases h)]
/-- What the reference's loop has: the first sign of its kind from place k on. -/
def firstFrom (s : List UInt8) (k : Nat) : Int := if Lib.indexByte (s.drop k) 58 = -1 then -1 else k + Lib.indexByte (s.drop k) 58
theorem first_zero (s : List UInt8) : firstFrom s 0 = Lib.indexByte s 58 := by
  unfold firstFrom
  rw [List.drop_zero]
  by_cases h : Lib.indexByte s 58 = -1
  · rw [if_pos h, h]
  · rw [if_neg h]; omega
theorem first_hit {s : List UInt8} {k : Nat} (h : k < s.length) (hc : s[k] = 58) : firstFrom s k = k := by
  unfold firstFrom
  rw [drop_at s k h, hc, byte_zero.2 ⟨_, rfl⟩, if_neg (by decide)]; omega
theorem first_miss {s : List UInt8} {k : Nat} (h : k < s.length) (hc : s[k] ≠ 58) : firstFrom s k = firstFrom s (k + 1) := by
  have hg := indexByte_ge (s.drop (k + 1)) 58
  unfold firstFrom
  rw [drop_at s k h, byte_cons_ne _ hc]
  by_cases h1 : Lib.indexByte (s.drop (k + 1)) 58 = -1
  · simp [h1]
  · rw [if_neg h1, if_neg (by omega), if_neg h1]; omega
theorem first_end (s : List UInt8) : firstFrom s s.length = -1 := by
  unfold firstFrom; simp [Lib.indexByte]
theorem readL_len {s pkg p n : List UInt8} {k : Nat} (h : readL s pkg = (p, n, k)) : p.length ≤ s.length + pkg.length ∧ n.length ≤ s.length := by
  unfold readL at h
  by_cases h1 : Lib.indexByte s 58 = 0
  · rw [if_pos h1] at h
    by_cases h2 : pkgB pkg = true
    · rw [if_pos h2] at h
      by_cases h3 : partB (s.drop 1) = true
      · rw [if_pos h3] at h
        simp only [Prod.mk.injEq] at h
        rw [← h.1, ← h.2.1]; simp
      · rw [if_neg h3] at h; simp only [Prod.mk.injEq] at h; rw [← h.1, ← h.2.1]; simp
    · rw [if_neg h2] at h; simp only [Prod.mk.injEq] at h; rw [← h.1, ← h.2.1]; simp
  · rw [if_neg h1] at h
    by_cases h2 : Lib.hasPrefix s [47, 47] = true ∧ 0 ≤ Lib.indexByte s 58
    · rw [if_pos h2] at h
      by_cases h3 : labB ((s.take (Lib.indexByte s 58).toNat).drop 2) (s.drop ((Lib.indexByte s 58).toNat + 1)) = true
      · simp only [if_pos h3, Prod.mk.injEq] at h
        rw [← h.1, ← h.2.1]; simp; omega
      · simp only [if_neg h3, Prod.mk.injEq] at h; rw [← h.1, ← h.2.1]; simp
    · rw [if_neg h2] at h; simp only [Prod.mk.injEq] at h; rw [← h.1, ← h.2.1]; simp
end Go.Proofs.YtijgcoedohhlnaaGreatDoor
