/- Plain words of tokens: what a text begins with, a text's tokens, places. -/
import Derived.Test.YtnfjlimecoikpaaGreatDoorNumPlain
namespace Go.Proofs.YtnfjlimecoikpaaGreatDoor
open Go.RowKit

def isLet (c : UInt8) : Bool := (97 ≤ c.toNat && c.toNat ≤ 122) || (65 ≤ c.toNat && c.toNat ≤ 90) || c.toNat == 95
def isGap (c : UInt8) : Bool := c.toNat == 32 || c.toNat == 9 || c.toNat == 10 || c.toNat == 13
def isWord (c : UInt8) : Bool := isLet c || isDig c
def notLine (c : UInt8) : Bool := c.toNat != 10
/-- How many bytes a text begins with that are such. -/
def runL (p : UInt8 → Bool) : List UInt8 → Nat
  | [] => 0
  | c :: r => if p c = true then runL p r + 1 else 0
theorem run_le (p : UInt8 → Bool) : ∀ s, runL p s ≤ s.length
  | [] => Nat.le_refl _
  | c :: r => by unfold runL; have := run_le p r; split <;> simp; omega
theorem run_cons {p : UInt8 → Bool} {c : UInt8} {r : List UInt8} (h : p c = true) : runL p (c :: r) = runL p r + 1 := by rw [runL, if_pos h]
theorem run_stop {p : UInt8 → Bool} {c : UInt8} {r : List UInt8} (h : p c = false) : runL p (c :: r) = 0 := by rw [runL, if_neg (by rw [h]; simp)]
theorem run_all (p : UInt8 → Bool) : ∀ s : List UInt8, (s.take (runL p s)).all p = true
  | [] => rfl
  | c :: r => by
    by_cases h : p c = true
    · rw [run_cons h, List.take_succ_cons, List.all_cons, h, run_all p r]; rfl
    · rw [run_stop (by simpa using h)]; rfl
theorem run_append {p : UInt8 → Bool} : ∀ (s t : List UInt8), s.all p = true → runL p (s ++ t) = s.length + runL p t
  | [], t, _ => by simp
  | c :: r, t, h => by
    simp only [List.all_cons, Bool.and_eq_true] at h
    show runL p (c :: (r ++ t)) = _
    rw [run_cons h.1, run_append r t h.2, List.length_cons]; omega
theorem run_full {p : UInt8 → Bool} {s : List UInt8} (h : s.all p = true) : runL p s = s.length := by
  have := run_append s [] h; simpa [runL] using this
/-- A run that ends within a text isn't changed by what follows. -/
theorem run_end {p : UInt8 → Bool} : ∀ (s : List UInt8) (x : UInt8) (t : List UInt8), p x = false → runL p (s ++ x :: t) = runL p s
  | [], x, t, h => run_stop h
  | c :: r, x, t, h => by
    show runL p (c :: (r ++ x :: t)) = _
    by_cases hc : p c = true
    · rw [run_cons hc, run_cons hc, run_end r x t h]
    · rw [run_stop (by simpa using hc), run_stop (by simpa using hc)]

/-- What a quoted text says, behind its first quote, and how many bytes it has. -/
def qGo : List UInt8 → Option (List UInt8 × Nat)
  | [] => none
  | c :: r =>
    if c.toNat = 34 then some ([], 1)
    else if c.toNat < 32 ∨ c.toNat = 127 then none
    else if c.toNat = 92 then
      match r with
      | [] => none
      | d :: r =>
        if d.toNat = 34 ∨ d.toNat = 92 then (qGo r).map fun x => (d :: x.1, x.2 + 2)
        else if d.toNat = 110 then (qGo r).map fun x => (10 :: x.1, x.2 + 2)
        else none
    else (qGo r).map fun x => (c :: x.1, x.2 + 1)
theorem qGo_cons (c : UInt8) (r : List UInt8) : qGo (c :: r) =
    if c.toNat = 34 then some ([], 1)
    else if c.toNat < 32 ∨ c.toNat = 127 then none
    else if c.toNat = 92 then
      match r with
      | [] => none
      | d :: r =>
        if d.toNat = 34 ∨ d.toNat = 92 then (qGo r).map fun x => (d :: x.1, x.2 + 2)
        else if d.toNat = 110 then (qGo r).map fun x => (10 :: x.1, x.2 + 2)
        else none
    else (qGo r).map fun x => (c :: x.1, x.2 + 1) := by
  cases r with
  | nil => rw [qGo.eq_def]
  | cons d r => rw [qGo.eq_def]
def signs : List UInt8 := [61, 43, 40, 41, 91, 93, 123, 125, 44, 58, 59]
def numP (s : List UInt8) : Nat × List UInt8 × Nat × Nat :=
  if 1 < runL isDig s ∧ s.head? = some 48 then (0, [], 0, 3)
  else if 9223372036854775807 < valD 0 (s.take (runL isDig s)) then (0, [], 0, 2)
  else (2, s.take (runL isDig s), runL isDig s, 0)
/-- What a text begins with: the kind, the text, how many bytes; the error. -/
def pieceL : List UInt8 → Nat × List UInt8 × Nat × Nat
  | [] => (0, [], 0, 3)
  | c :: r =>
    if isGap c = true then (0, [], 1, 0)
    else if c.toNat = 35 then (0, [], runL notLine (c :: r), 0)
    else if isLet c = true then (1, (c :: r).take (runL isWord (c :: r)), runL isWord (c :: r), 0)
    else if isDig c = true then numP (c :: r)
    else if c.toNat = 34 then (match qGo r with | none => (0, [], 0, 3) | some x => (3, x.1, x.2 + 1, 0))
    else if (c.toNat = 61 ∨ c.toNat = 33) ∧ r.head? = some 61 then (4, [c, 61], 2, 0)
    else if c ∈ signs then (4, [c], 1, 0)
    else (0, [], 0, 3)

theorem piece_cons (c : UInt8) (r : List UInt8) : pieceL (c :: r) =
    if isGap c = true then (0, [], 1, 0)
    else if c.toNat = 35 then (0, [], runL notLine (c :: r), 0)
    else if isLet c = true then (1, (c :: r).take (runL isWord (c :: r)), runL isWord (c :: r), 0)
    else if isDig c = true then numP (c :: r)
    else if c.toNat = 34 then (match qGo r with | none => (0, [], 0, 3) | some x => (3, x.1, x.2 + 1, 0))
    else if (c.toNat = 61 ∨ c.toNat = 33) ∧ r.head? = some 61 then (4, [c, 61], 2, 0)
    else if c ∈ signs then (4, [c], 1, 0)
    else (0, [], 0, 3) := rfl

abbrev Pl := Nat × Nat
abbrev Tok := Nat × List UInt8 × Pl
def adv (p : Pl) (c : UInt8) : Pl := if c.toNat = 10 then (p.1 + 1, 1) else (p.1, p.2 + 1)
def advs (p : Pl) (s : List UInt8) : Pl := s.foldl adv p
theorem advs_append (p : Pl) (s t : List UInt8) : advs p (s ++ t) = advs (advs p s) t := List.foldl_append ..
theorem advs_cons (p : Pl) (c : UInt8) (t : List UInt8) : advs p (c :: t) = advs (adv p c) t := rfl

theorem qGo_len : ∀ (k : Nat) (s t : List UInt8) (n : Nat), s.length ≤ k → qGo s = some (t, n) → 1 ≤ n ∧ n ≤ s.length ∧ t.length + 1 ≤ n
  | _, [], t, n, _, h => by simp [qGo] at h
  | 0, c :: r, t, n, hk, _ => by simp at hk
  | k + 1, c :: r, t, n, hk, h => by
    have hr : r.length ≤ k := by simpa using hk
    rw [qGo_cons] at h
    by_cases h1 : c.toNat = 34
    · rw [if_pos h1] at h; simp only [Option.some.injEq, Prod.mk.injEq] at h
      obtain ⟨rfl, rfl⟩ := h; simp
    · rw [if_neg h1] at h
      by_cases h2 : c.toNat < 32 ∨ c.toNat = 127
      · rw [if_pos h2] at h; cases h
      · rw [if_neg h2] at h
        by_cases h3 : c.toNat = 92
        · rw [if_pos h3] at h
          cases r with
          | nil => cases h
          | cons d r =>
            simp only at h
            have hr' : r.length ≤ k := by simp at hr; omega
            by_cases h4 : d.toNat = 34 ∨ d.toNat = 92
            · rw [if_pos h4] at h
              cases e : qGo r with
              | none => rw [e] at h; cases h
              | some x =>
                obtain ⟨t', n'⟩ := x
                rw [e] at h
                simp only [Option.map_some, Option.some.injEq, Prod.mk.injEq] at h
                obtain ⟨rfl, rfl⟩ := h
                have := qGo_len k r t' n' hr' e
                simp; omega
            · rw [if_neg h4] at h
              by_cases h5 : d.toNat = 110
              · rw [if_pos h5] at h
                cases e : qGo r with
                | none => rw [e] at h; cases h
                | some x =>
                  obtain ⟨t', n'⟩ := x
                  rw [e] at h
                  simp only [Option.map_some, Option.some.injEq, Prod.mk.injEq] at h
                  obtain ⟨rfl, rfl⟩ := h
                  have := qGo_len k r t' n' hr' e
                  simp; omega
              · rw [if_neg h5] at h; cases h
        · rw [if_neg h3] at h
          cases e : qGo r with
          | none => rw [e] at h; cases h
          | some x =>
            obtain ⟨t', n'⟩ := x
            rw [e] at h
            simp only [Option.map_some, Option.some.injEq, Prod.mk.injEq] at h
            obtain ⟨rfl, rfl⟩ := h
            have := qGo_len k r t' n' hr e
            simp; omega
/-- A piece that is right has a byte, and lies in the text. -/
theorem piece_size {c : UInt8} {r t : List UInt8} {k n : Nat} (h : pieceL (c :: r) = (k, t, n, 0)) : 1 ≤ n ∧ n ≤ (c :: r).length ∧ t.length ≤ n := by
  rw [piece_cons] at h
  by_cases h1 : isGap c = true
  · rw [if_pos h1] at h; simp only [Prod.mk.injEq] at h; obtain ⟨rfl, rfl, rfl, -⟩ := h; simp
  rw [if_neg h1] at h
  by_cases h2 : c.toNat = 35
  · rw [if_pos h2] at h; simp only [Prod.mk.injEq] at h; obtain ⟨rfl, rfl, rfl, -⟩ := h
    have := run_le notLine (c :: r)
    rw [run_cons (by simp [notLine, h2])] at *
    simp at *; omega
  rw [if_neg h2] at h
  by_cases h3 : isLet c = true
  · rw [if_pos h3] at h; simp only [Prod.mk.injEq] at h; obtain ⟨rfl, rfl, rfl, -⟩ := h
    have := run_le isWord (c :: r)
    refine ⟨?_, this, List.length_take_le _ _⟩
    rw [run_cons (by simp [isWord, h3])]; omega
  rw [if_neg h3] at h
  by_cases h4 : isDig c = true
  · rw [if_pos h4] at h
    unfold numP at h
    have := run_le isDig (c :: r)
    have h1 : 1 ≤ runL isDig (c :: r) := by rw [run_cons h4]; omega
    split at h
    · simp at h
    · split at h
      · simp at h
      · simp only [Prod.mk.injEq] at h; obtain ⟨rfl, rfl, rfl, -⟩ := h
        exact ⟨h1, this, List.length_take_le _ _⟩
  rw [if_neg h4] at h
  by_cases h5 : c.toNat = 34
  · rw [if_pos h5] at h
    cases e : qGo r with
    | none => rw [e] at h; simp at h
    | some x =>
      rw [e] at h
      simp only [Prod.mk.injEq] at h; obtain ⟨rfl, rfl, rfl, -⟩ := h
      have := qGo_len r.length r x.1 x.2 (Nat.le_refl _) e
      simp; omega
  rw [if_neg h5] at h
  by_cases h6 : (c.toNat = 61 ∨ c.toNat = 33) ∧ r.head? = some 61
  · rw [if_pos h6] at h; simp only [Prod.mk.injEq] at h; obtain ⟨rfl, rfl, rfl, -⟩ := h
    cases r with
    | nil => simp at h6
    | cons d r => simp
  rw [if_neg h6] at h
  by_cases h7 : c ∈ signs
  · rw [if_pos h7] at h; simp only [Prod.mk.injEq] at h; obtain ⟨rfl, rfl, rfl, -⟩ := h; simp
  · rw [if_neg h7] at h; simp at h

/-- Tokens; the error; its place. -/
abbrev Lexed := List Tok × Nat × Pl
def finT (a : List Tok) (x : Lexed) : Lexed := if x.2.1 = 0 then (a ++ x.1, 0, (0, 0)) else ([], x.2.1, x.2.2)
def lexGo : Nat → Pl → List UInt8 → Lexed
  | _, _, [] => ([], 0, (0, 0))
  | 0, _, _ :: _ => ([], 0, (0, 0))
  | f + 1, p, c :: r =>
    if (pieceL (c :: r)).2.2.2 = 0 then
      finT (if (pieceL (c :: r)).1 = 0 then [] else [((pieceL (c :: r)).1, (pieceL (c :: r)).2.1, p)]) (lexGo f (advs p ((c :: r).take (pieceL (c :: r)).2.2.1)) ((c :: r).drop (pieceL (c :: r)).2.2.1))
    else ([], (pieceL (c :: r)).2.2.2, p)
def lexL (p : Pl) (s : List UInt8) : Lexed := lexGo s.length p s
theorem lexGo_fuel : ∀ (f g : Nat) (p : Pl) (s : List UInt8), s.length ≤ f → s.length ≤ g → lexGo f p s = lexGo g p s
  | f, g, p, [], _, _ => by cases f <;> cases g <;> rfl
  | 0, _, _, _ :: _, h, _ => by simp at h
  | _, 0, _, _ :: _, _, h => by simp at h
  | f + 1, g + 1, p, c :: r, hf, hg => by
    unfold lexGo
    by_cases h : (pieceL (c :: r)).2.2.2 = 0
    · rw [if_pos h, if_pos h]
      have hs := piece_size (c := c) (r := r) (k := (pieceL (c :: r)).1) (t := (pieceL (c :: r)).2.1) (n := (pieceL (c :: r)).2.2.1) (by rw [← h])
      rw [lexGo_fuel f g _ _ (by simp at hf ⊢; omega) (by simp at hg ⊢; omega)]
    · rw [if_neg h, if_neg h]
theorem lex_nil (p : Pl) : lexL p [] = ([], 0, (0, 0)) := rfl
theorem lex_bad {p : Pl} {c : UInt8} {r t : List UInt8} {k n e : Nat} (h : pieceL (c :: r) = (k, t, n, e)) (he : e ≠ 0) : lexL p (c :: r) = ([], e, p) := by
  show lexGo (r.length + 1) p (c :: r) = _
  rw [lexGo, h]; simp [he]
theorem lex_piece {p : Pl} {c : UInt8} {r t : List UInt8} {k n : Nat} (h : pieceL (c :: r) = (k, t, n, 0)) :
    lexL p (c :: r) = finT (if k = 0 then [] else [(k, t, p)]) (lexL (advs p ((c :: r).take n)) ((c :: r).drop n)) := by
  have hs := piece_size h
  show lexGo (r.length + 1) p (c :: r) = _
  rw [lexGo, h]
  simp only [if_true]
  rw [lexGo_fuel r.length ((c :: r).drop n).length _ _ (by simp; omega) (Nat.le_refl _)]
  rfl
theorem finT_nil (p : Pl) (s : List UInt8) : finT [] (lexL p s) = lexL p s := by
  have : ∀ (f : Nat) (p : Pl) (s : List UInt8), finT [] (lexGo f p s) = lexGo f p s := by
    intro f p s
    have hz : ∀ (a : List Tok) (x : Lexed), finT [] (finT a x) = finT a x := by
      intro a x; unfold finT; by_cases h : x.2.1 = 0 <;> simp [h]
    cases f with
    | zero => cases s <;> simp [lexGo, finT]
    | succ f =>
      cases s with
      | nil => simp [lexGo, finT]
      | cons c r =>
        unfold lexGo
        split
        · exact hz _ _
        · rename_i h; unfold finT; simp [h]
  exact this _ _ _
theorem finT_finT (a b : List Tok) (x : Lexed) : finT a (finT b x) = finT (a ++ b) x := by
  unfold finT; by_cases h : x.2.1 = 0 <;> simp [h]
/-- A gap's byte. -/
theorem lex_gap {p : Pl} {c : UInt8} {r : List UInt8} (h : isGap c = true) : lexL p (c :: r) = lexL (adv p c) r := by
  have hp : pieceL (c :: r) = (0, [], 1, 0) := by rw [piece_cons, if_pos h]
  rw [lex_piece hp, if_pos rfl, finT_nil]; rfl
theorem lex_gaps {s : List UInt8} : ∀ (p : Pl), lexL p s = lexL (advs p (s.take (runL isGap s))) (s.drop (runL isGap s)) := by
  induction s with
  | nil => intro p; rfl
  | cons c r ih =>
    intro p
    by_cases h : isGap c = true
    · rw [lex_gap h, run_cons h, ih]; rfl
    · rw [run_stop (by simpa using h)]; rfl
/-- All tokens of a text. -/
def allT (s : List UInt8) : Lexed := if 65536 < s.length then ([], 6, (1, 1)) else lexL (1, 1) s
/-- A text as a token. -/
def escB (c : UInt8) : List UInt8 := if c.toNat = 10 then [92, 110] else if c.toNat = 34 ∨ c.toNat = 92 then [92, c] else [c]
def badQ (c : UInt8) : Bool := (decide (c.toNat < 32) && c.toNat != 10) || c.toNat == 127
def quoteL (s : List UInt8) : List UInt8 := if s.any badQ = true then [] else 34 :: (s.flatMap escB ++ [34])
end Go.Proofs.YtnfjlimecoikpaaGreatDoor
