/- Plain laws of tokens: quoted; written anew; one text behind another; what isn't right. -/
import Derived.Test.YtijgcoedohhlnaaGreatDoorLexPlain
namespace Go.Proofs.YtijgcoedohhlnaaGreatDoor
open Go.RowKit

theorem u8_eq {a b : UInt8} (h : a.toNat = b.toNat) : a = b := UInt8.toNat_inj.1 h
/-! Quoted. -/
theorem qGo_esc : ∀ (s r : List UInt8), s.any badQ = false → qGo (s.flatMap escB ++ 34 :: r) = some (s, (s.flatMap escB).length + 1)
  | [], r, _ => by show qGo (34 :: r) = _; rw [qGo_cons, if_pos (by decide)]; rfl
  | c :: s, r, h => by
    simp only [List.any_cons, Bool.or_eq_false_iff] at h
    have ih := qGo_esc s r h.2
    have hb := h.1
    unfold badQ at hb
    simp only [Bool.or_eq_false_iff, Bool.and_eq_false_iff, decide_eq_false_iff_not, bne_eq_false_iff_eq, beq_eq_false_iff_ne] at hb
    by_cases h1 : c.toNat = 10
    · have hc : c = 10 := u8_eq h1
      subst hc
      have e : escB 10 = [92, 110] := rfl
      show qGo ((escB 10 ++ s.flatMap escB) ++ 34 :: r) = _
      rw [e]
      show qGo (92 :: 110 :: (s.flatMap escB ++ 34 :: r)) = _
      rw [qGo_cons, if_neg (by decide), if_neg (by decide), if_pos (by decide)]
      simp only
      rw [if_neg (by decide), if_pos (by decide), ih]
      simp [e]
    · by_cases h2 : c.toNat = 34 ∨ c.toNat = 92
      · have e : escB c = [92, c] := by unfold escB; rw [if_neg h1, if_pos h2]
        show qGo ((escB c ++ s.flatMap escB) ++ 34 :: r) = _
        rw [e]
        show qGo (92 :: c :: (s.flatMap escB ++ 34 :: r)) = _
        rw [qGo_cons, if_neg (by decide), if_neg (by decide), if_pos (by decide)]
        simp only
        rw [if_pos h2, ih]
        simp [e]
      · have e : escB c = [c] := by unfold escB; rw [if_neg h1, if_neg h2]
        show qGo ((escB c ++ s.flatMap escB) ++ 34 :: r) = _
        rw [e]
        show qGo (c :: (s.flatMap escB ++ 34 :: r)) = _
        rw [qGo_cons, if_neg (by omega), if_neg (by omega), if_neg (by omega), ih]
        simp [e]
theorem quote_good {s : List UInt8} (h : s.any badQ = false) : quoteL s = 34 :: (s.flatMap escB ++ [34]) := by unfold quoteL; rw [if_neg (by rw [h]; simp)]
theorem quote_len {s : List UInt8} (h : s.any badQ = false) : (quoteL s).length = (s.flatMap escB).length + 2 := by rw [quote_good h]; simp
theorem piece_quote {s : List UInt8} (r : List UInt8) (h : s.any badQ = false) : pieceL (quoteL s ++ r) = (3, s, (quoteL s).length, 0) := by
  rw [quote_good h]
  have e : 34 :: (s.flatMap escB ++ [34]) ++ r = 34 :: (s.flatMap escB ++ 34 :: r) := by simp
  rw [e, piece_cons, if_neg (by decide), if_neg (by decide), if_neg (by decide), if_neg (by decide), if_pos (by decide), qGo_esc s r h]
  simp
theorem quote_ne {s : List UInt8} (h : s.any badQ = false) : ∃ c r, quoteL s = c :: r := ⟨_, _, quote_good h⟩
/-- A piece ahead of a text. -/
theorem lex_piece_app {p : Pl} {a r t : List UInt8} {k : Nat} (ha : a ≠ []) (h : pieceL (a ++ r) = (k, t, a.length, 0)) :
    lexL p (a ++ r) = finT (if k = 0 then [] else [(k, t, p)]) (lexL (advs p a) r) := by
  cases a with
  | nil => exact absurd rfl ha
  | cons c a =>
    have h' : pieceL (c :: (a ++ r)) = (k, t, (c :: a).length, 0) := h
    show lexL p (c :: (a ++ r)) = _
    rw [lex_piece h']
    have e1 : (c :: (a ++ r)).take (c :: a).length = c :: a := by
      show ((c :: a) ++ r).take _ = _
      rw [List.take_left' rfl]
    have e2 : (c :: (a ++ r)).drop (c :: a).length = r := by
      show ((c :: a) ++ r).drop _ = _
      rw [List.drop_left' rfl]
    rw [e1, e2]
theorem lex_blanks (n : Nat) (s : List UInt8) : ∀ p : Pl, lexL p (List.replicate n 32 ++ s) = lexL (p.1, p.2 + n) s := by
  induction n with
  | zero => intro p; rfl
  | succ n ih =>
    intro p
    show lexL p (32 :: (List.replicate n 32 ++ s)) = _
    rw [lex_gap (by decide), ih]
    show lexL ((adv p 32).1, (adv p 32).2 + n) s = _
    have e : adv p 32 = (p.1, p.2 + 1) := by unfold adv; rw [if_neg (by decide)]
    rw [e]; congr 2; simp; omega
/-- A text quoted, behind blanks. -/
theorem lex_quote (n : Nat) {s : List UInt8} (h : s.any badQ = false) (p : Pl) : lexL p (List.replicate n 32 ++ quoteL s) = ([(3, s, (p.1, p.2 + n))], 0, (0, 0)) := by
  rw [lex_blanks]
  have hp := piece_quote [] h
  rw [List.append_nil] at hp
  have := lex_piece_app (p := (p.1, p.2 + n)) (a := quoteL s) (r := []) (k := 3) (t := s) (by obtain ⟨c, r, e⟩ := quote_ne h; rw [e]; simp) (by rw [List.append_nil]; exact hp)
  rw [List.append_nil] at this
  rw [this]
  simp [lex_nil, finT]

/-! Written anew. -/
theorem qGo_text : ∀ (k : Nat) (s t : List UInt8) (n : Nat), s.length ≤ k → qGo s = some (t, n) → t.any badQ = false ∧ (t.flatMap escB).length + 1 ≤ n
  | _, [], t, n, _, h => by simp [qGo] at h
  | 0, c :: r, t, n, hk, _ => by simp at hk
  | k + 1, c :: r, t, n, hk, h => by
    have hr : r.length ≤ k := by simpa using hk
    rw [qGo_cons] at h
    by_cases h1 : c.toNat = 34
    · rw [if_pos h1] at h; simp only [Option.some.injEq, Prod.mk.injEq] at h
      obtain ⟨rfl, rfl⟩ := h; simp
    · rw [if_neg h1] at h
      by_cases h2 : c.toNat < 32 ∨ c.toNat = 127
      · rw [if_pos h2] at h; cases h
      · rw [if_neg h2] at h
        by_cases h3 : c.toNat = 92
        · rw [if_pos h3] at h
          cases r with
          | nil => cases h
          | cons d r =>
            simp only at h
            have hr' : r.length ≤ k := by simp at hr; omega
            by_cases h4 : d.toNat = 34 ∨ d.toNat = 92
            · rw [if_pos h4] at h
              cases e : qGo r with
              | none => rw [e] at h; cases h
              | some x =>
                obtain ⟨t', n'⟩ := x
                rw [e] at h
                simp only [Option.map_some, Option.some.injEq, Prod.mk.injEq] at h
                obtain ⟨rfl, rfl⟩ := h
                have ih := qGo_text k r t' n' hr' e
                have hb : badQ d = false := by unfold badQ; simp; omega
                have he : (escB d).length = 2 := by unfold escB; rw [if_neg (by omega), if_pos h4]; rfl
                refine ⟨by simp [hb, ih.1], ?_⟩
                simp only [List.flatMap_cons, List.length_append]; omega
            · rw [if_neg h4] at h
              by_cases h5 : d.toNat = 110
              · rw [if_pos h5] at h
                cases e : qGo r with
                | none => rw [e] at h; cases h
                | some x =>
                  obtain ⟨t', n'⟩ := x
                  rw [e] at h
                  simp only [Option.map_some, Option.some.injEq, Prod.mk.injEq] at h
                  obtain ⟨rfl, rfl⟩ := h
                  have ih := qGo_text k r t' n' hr' e
                  have hb : badQ 10 = false := rfl
                  have he : (escB 10).length = 2 := rfl
                  refine ⟨by simp [hb, ih.1], ?_⟩
                  simp only [List.flatMap_cons, List.length_append]; omega
              · rw [if_neg h5] at h; cases h
        · rw [if_neg h3] at h
          cases e : qGo r with
          | none => rw [e] at h; cases h
          | some x =>
            obtain ⟨t', n'⟩ := x
            rw [e] at h
            simp only [Option.map_some, Option.some.injEq, Prod.mk.injEq] at h
            obtain ⟨rfl, rfl⟩ := h
            have ih := qGo_text k r t' n' hr e
            have hb : badQ c = false := by unfold badQ; simp; omega
            have he : (escB c).length ≤ 1 := by
              unfold escB
              rw [if_neg (by omega), if_neg (by omega)]; simp
            refine ⟨by simp [hb, ih.1], ?_⟩
            simp only [List.flatMap_cons, List.length_append]; omega
/-- As a token is written. -/
def writ (k : Nat) (t : List UInt8) : List UInt8 := if k = 3 then quoteL t else t
theorem run_take {p : UInt8 → Bool} (s r : List UInt8) (hs : s.all p = true) (x : UInt8) (hx : p x = false) : runL p (s ++ x :: r) = s.length := by
  rw [run_append s _ hs, run_stop hx]; rfl
/-- A token, written with a blank behind it, is cut again. -/
theorem piece_again {c : UInt8} {s t : List UInt8} {k n : Nat} (h : pieceL (c :: s) = (k, t, n, 0)) (hk : k ≠ 0) (r : List UInt8) :
    writ k t ≠ [] ∧ (writ k t).length ≤ n ∧ pieceL (writ k t ++ 32 :: r) = (k, t, (writ k t).length, 0) := by
  rw [piece_cons] at h
  by_cases h1 : isGap c = true
  · rw [if_pos h1] at h; simp only [Prod.mk.injEq] at h; omega
  rw [if_neg h1] at h
  by_cases h2 : c.toNat = 35
  · rw [if_pos h2] at h; simp only [Prod.mk.injEq] at h; omega
  rw [if_neg h2] at h
  by_cases h3 : isLet c = true
  · rw [if_pos h3] at h; simp only [Prod.mk.injEq] at h; obtain ⟨rfl, rfl, rfl, -⟩ := h
    have hw : isWord c = true := by simp [isWord, h3]
    have hall := run_all isWord (c :: s)
    have hlen : ((c :: s).take (runL isWord (c :: s))).length = runL isWord (c :: s) := by rw [List.length_take]; have := run_le isWord (c :: s); omega
    have hcons : (c :: s).take (runL isWord (c :: s)) = c :: s.take (runL isWord s) := by rw [run_cons hw]; rfl
    have e : writ 1 ((c :: s).take (runL isWord (c :: s))) = (c :: s).take (runL isWord (c :: s)) := rfl
    rw [e]
    refine ⟨by rw [hcons]; simp, by omega, ?_⟩
    have hr := run_take _ r hall 32 (by decide)
    have hcat : (c :: s).take (runL isWord (c :: s)) ++ 32 :: r = c :: (s.take (runL isWord s) ++ 32 :: r) := by rw [hcons]; rfl
    rw [hcat] at hr ⊢
    rw [piece_cons, if_neg h1, if_neg h2, if_pos h3, hr]
    have : (c :: (s.take (runL isWord s) ++ 32 :: r)).take ((c :: s).take (runL isWord (c :: s))).length = (c :: s).take (runL isWord (c :: s)) := by
      rw [← hcat]; exact List.take_left' rfl
    rw [this]
  rw [if_neg h3] at h
  by_cases h4 : isDig c = true
  · rw [if_pos h4] at h
    unfold numP at h
    by_cases g1 : 1 < runL isDig (c :: s) ∧ (c :: s).head? = some 48
    · rw [if_pos g1] at h; simp at h
    rw [if_neg g1] at h
    by_cases g2 : 9223372036854775807 < valD 0 ((c :: s).take (runL isDig (c :: s)))
    · rw [if_pos g2] at h; simp at h
    rw [if_neg g2] at h
    simp only [Prod.mk.injEq] at h; obtain ⟨rfl, rfl, rfl, -⟩ := h
    have hall := run_all isDig (c :: s)
    have hlen : ((c :: s).take (runL isDig (c :: s))).length = runL isDig (c :: s) := by rw [List.length_take]; have := run_le isDig (c :: s); omega
    have hcons : (c :: s).take (runL isDig (c :: s)) = c :: s.take (runL isDig s) := by rw [run_cons h4]; rfl
    have e : writ 2 ((c :: s).take (runL isDig (c :: s))) = (c :: s).take (runL isDig (c :: s)) := rfl
    rw [e]
    refine ⟨by rw [hcons]; simp, by omega, ?_⟩
    have hr := run_take _ r hall 32 (by decide)
    have hcat : (c :: s).take (runL isDig (c :: s)) ++ 32 :: r = c :: (s.take (runL isDig s) ++ 32 :: r) := by rw [hcons]; rfl
    have htake : (c :: (s.take (runL isDig s) ++ 32 :: r)).take ((c :: s).take (runL isDig (c :: s))).length = (c :: s).take (runL isDig (c :: s)) := by
      rw [← hcat]; exact List.take_left' rfl
    rw [hcat] at hr ⊢
    rw [piece_cons, if_neg h1, if_neg h2, if_neg h3, if_pos h4, numP, hr, htake, hlen]
    have g1' : ¬ (1 < runL isDig (c :: s) ∧ (c :: (s.take (runL isDig s) ++ 32 :: r)).head? = some 48) := g1
    rw [if_neg g1', if_neg g2]
  rw [if_neg h4] at h
  by_cases h5 : c.toNat = 34
  · rw [if_pos h5] at h
    cases e : qGo s with
    | none => rw [e] at h; simp at h
    | some x =>
      rw [e] at h
      simp only [Prod.mk.injEq] at h; obtain ⟨rfl, rfl, rfl, -⟩ := h
      have hq := qGo_text s.length s x.1 x.2 (Nat.le_refl _) e
      have ew : writ 3 x.1 = quoteL x.1 := rfl
      rw [ew]
      refine ⟨by obtain ⟨c, r, e⟩ := quote_ne hq.1; rw [e]; simp, by rw [quote_len hq.1]; omega, piece_quote _ hq.1⟩
  rw [if_neg h5] at h
  by_cases h6 : (c.toNat = 61 ∨ c.toNat = 33) ∧ s.head? = some 61
  · rw [if_pos h6] at h; simp only [Prod.mk.injEq] at h; obtain ⟨rfl, rfl, rfl, -⟩ := h
    refine ⟨by simp [writ], by simp [writ], ?_⟩
    show pieceL (c :: 61 :: 32 :: r) = _
    rw [piece_cons, if_neg h1, if_neg h2, if_neg h3, if_neg h4, if_neg h5, if_pos ⟨h6.1, rfl⟩]; rfl
  rw [if_neg h6] at h
  by_cases h7 : c ∈ signs
  · rw [if_pos h7] at h; simp only [Prod.mk.injEq] at h; obtain ⟨rfl, rfl, rfl, -⟩ := h
    refine ⟨by simp [writ], by simp [writ], ?_⟩
    show pieceL (c :: 32 :: r) = _
    rw [piece_cons, if_neg h1, if_neg h2, if_neg h3, if_neg h4, if_neg h5, if_neg (by simp), if_pos h7]; rfl
  · rw [if_neg h7] at h; simp at h
def againL (l : List Tok) : List UInt8 := l.flatMap fun t => writ t.1 t.2.1 ++ [32]
def bare (l : List Tok) : List (Nat × List UInt8) := l.map fun t => (t.1, t.2.1)
theorem fin_ok {a : List Tok} {x : Lexed} {l : List Tok} {q : Pl} (h : finT a x = (l, 0, q)) : x.2.1 = 0 ∧ l = a ++ x.1 := by
  unfold finT at h
  by_cases e : x.2.1 = 0
  · rw [if_pos e] at h; exact ⟨e, (Prod.mk.inj h).1.symm⟩
  · rw [if_neg e] at h; simp only [Prod.mk.injEq] at h; exact absurd h.2.1 e
theorem lex_zero : ∀ (k : Nat) (p : Pl) (s : List UInt8), s.length ≤ k → (lexL p s).2.1 = 0 → (lexL p s).2.2 = (0, 0)
  | _, p, [], _, _ => rfl
  | 0, p, c :: r, hk, _ => by simp at hk
  | k + 1, p, c :: r, hk, h => by
    obtain ⟨kd, t, n, e, hp⟩ : ∃ kd t n, ∃ e, pieceL (c :: r) = (kd, t, n, e) := ⟨_, _, _, _, rfl⟩
    by_cases he : e = 0
    · subst he
      rw [lex_piece hp] at h ⊢
      unfold finT at h ⊢
      split
      · rfl
      · rename_i h2; rw [if_neg h2] at h; exact absurd h h2
    · rw [lex_bad hp he] at h; exact absurd h he
theorem lex_again : ∀ (k : Nat) (s : List UInt8) (p : Pl), s.length ≤ k → (lexL p s).2.1 = 0 → (againL (lexL p s).1).length ≤ 2 * s.length ∧ ∀ q, (lexL q (againL (lexL p s).1)).2.1 = 0 ∧ bare (lexL q (againL (lexL p s).1)).1 = bare (lexL p s).1
  | _, [], p, _, _ => ⟨by simp [lex_nil, againL], fun q => ⟨rfl, rfl⟩⟩
  | 0, c :: r, p, hk, _ => by simp at hk
  | k + 1, c :: r, p, hk, h => by
    obtain ⟨kd, t, n, e, hp⟩ : ∃ kd t n, ∃ e, pieceL (c :: r) = (kd, t, n, e) := ⟨_, _, _, _, rfl⟩
    by_cases he : e = 0
    · subst he
      have hs := piece_size hp
      rw [lex_piece hp] at h ⊢
      obtain ⟨x, hx⟩ : ∃ x, lexL (advs p ((c :: r).take n)) ((c :: r).drop n) = x := ⟨_, rfl⟩
      have hx0 : x.2.1 = 0 := by
        rw [hx] at h; unfold finT at h
        by_cases e : x.2.1 = 0
        · exact e
        · rw [if_neg e] at h; exact h
      have ih := lex_again k ((c :: r).drop n) (advs p ((c :: r).take n)) (by simp at hk ⊢; omega) (by rw [hx]; exact hx0)
      rw [hx] at ih ⊢
      have hf : finT (if kd = 0 then [] else [(kd, t, p)]) x = ((if kd = 0 then [] else [(kd, t, p)]) ++ x.1, 0, (0, 0)) := by unfold finT; rw [if_pos hx0]
      rw [hf]
      have hdl : ((c :: r).drop n).length = (c :: r).length - n := List.length_drop ..
      by_cases hkd : kd = 0
      · rw [if_pos hkd]
        rw [List.nil_append]
        refine ⟨?_, fun q => ih.2 q⟩
        have := ih.1
        show (againL x.1).length ≤ _
        omega
      · rw [if_neg hkd]
        have ha : againL ([(kd, t, p)] ++ x.1) = writ kd t ++ 32 :: againL x.1 := by simp [againL]
        simp only
        rw [ha]
        have hw := fun r => piece_again hp hkd r
        refine ⟨?_, fun q => ?_⟩
        · have := ih.1
          have h2 := (hw []).2.1
          rw [hdl] at this
          rw [List.length_append, List.length_cons]; omega
        · obtain ⟨w1, -, w3⟩ := hw (againL x.1)
          rw [lex_piece_app w1 w3, if_neg hkd, lex_gap (by decide)]
          have ih2 := ih.2 (adv (advs q (writ kd t)) 32)
          unfold finT
          rw [if_pos ih2.1]
          refine ⟨rfl, ?_⟩
          show bare ([(kd, t, q)] ++ _) = bare ([(kd, t, p)] ++ x.1)
          unfold bare at ih2 ⊢
          rw [List.map_append, List.map_append, ih2.2]; rfl
    · rw [lex_bad hp he] at h; exact absurd h he
end Go.Proofs.YtijgcoedohhlnaaGreatDoor
