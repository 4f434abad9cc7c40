/- Plain laws of tokens: one text behind another; what isn't right stays so. -/
import Derived.Test.YtheomoamobcaeaaGreatDoorLexLaws
namespace Go.Proofs.YtheomoamobcaeaaGreatDoor
open Go.RowKit

theorem head_app {c : UInt8} (r t : List UInt8) : (c :: r ++ t).head? = some c := rfl
theorem take_app_run {p : UInt8 → Bool} (s t : List UInt8) : (s ++ t).take (runL p s) = s.take (runL p s) := by
  rw [List.take_append_of_le_length (run_le p s)]
theorem qGo_app : ∀ (k : Nat) (s u t : List UInt8) (n : Nat), s.length ≤ k → qGo s = some (t, n) → qGo (s ++ u) = some (t, n)
  | _, [], _, t, n, _, h => by simp [qGo] at h
  | 0, c :: r, _, t, n, hk, _ => by simp at hk
  | k + 1, c :: r, u, t, n, hk, h => by
    have hr : r.length ≤ k := by simpa using hk
    show qGo (c :: (r ++ u)) = _
    rw [qGo_cons] at h ⊢
    by_cases h1 : c.toNat = 34
    · rw [if_pos h1] at h ⊢; exact h
    · rw [if_neg h1] at h ⊢
      by_cases h2 : c.toNat < 32 ∨ c.toNat = 127
      · rw [if_pos h2] at h; cases h
      · rw [if_neg h2] at h ⊢
        by_cases h3 : c.toNat = 92
        · rw [if_pos h3] at h ⊢
          cases r with
          | nil => cases h
          | cons d r =>
            have hr' : r.length ≤ k := by simp at hr; omega
            simp only [List.cons_append]
            simp only at h
            by_cases h4 : d.toNat = 34 ∨ d.toNat = 92
            · rw [if_pos h4] at h ⊢
              cases e : qGo r with
              | none => rw [e] at h; cases h
              | some x => rw [e] at h; rw [qGo_app k r u x.1 x.2 hr' e]; exact h
            · rw [if_neg h4] at h ⊢
              by_cases h5 : d.toNat = 110
              · rw [if_pos h5] at h ⊢
                cases e : qGo r with
                | none => rw [e] at h; cases h
                | some x => rw [e] at h; rw [qGo_app k r u x.1 x.2 hr' e]; exact h
              · rw [if_neg h5] at h; cases h
        · rw [if_neg h3] at h ⊢
          cases e : qGo r with
          | none => rw [e] at h; cases h
          | some x => rw [e] at h; rw [qGo_app k r u x.1 x.2 hr e]; exact h
theorem qGo_none : ∀ (k : Nat) (s u : List UInt8), s.length ≤ k → qGo s = none → qGo (s ++ 10 :: u) = none
  | _, [], u, _, _ => by show qGo (10 :: u) = none; rw [qGo_cons, if_neg (by decide), if_pos (by decide)]
  | 0, c :: r, _, hk, _ => by simp at hk
  | k + 1, c :: r, u, hk, h => by
    have hr : r.length ≤ k := by simpa using hk
    show qGo (c :: (r ++ 10 :: u)) = _
    rw [qGo_cons] at h ⊢
    by_cases h1 : c.toNat = 34
    · rw [if_pos h1] at h; cases h
    · rw [if_neg h1] at h ⊢
      by_cases h2 : c.toNat < 32 ∨ c.toNat = 127
      · rw [if_pos h2]
      · rw [if_neg h2] at h ⊢
        by_cases h3 : c.toNat = 92
        · rw [if_pos h3] at h ⊢
          cases r with
          | nil =>
            show (if (10 : UInt8).toNat = 34 ∨ (10 : UInt8).toNat = 92 then _ else _) = _
            rw [if_neg (by decide), if_neg (by decide)]
          | cons d r =>
            have hr' : r.length ≤ k := by simp at hr; omega
            simp only [List.cons_append]
            simp only at h
            by_cases h4 : d.toNat = 34 ∨ d.toNat = 92
            · rw [if_pos h4] at h ⊢
              cases e : qGo r with
              | none => rw [qGo_none k r u hr' e]; rfl
              | some x => rw [e] at h; cases h
            · rw [if_neg h4] at h ⊢
              by_cases h5 : d.toNat = 110
              · rw [if_pos h5] at h ⊢
                cases e : qGo r with
                | none => rw [qGo_none k r u hr' e]; rfl
                | some x => rw [e] at h; cases h
              · rw [if_neg h5]
        · rw [if_neg h3] at h ⊢
          cases e : qGo r with
          | none => rw [qGo_none k r u hr e]; rfl
          | some x => rw [e] at h; cases h
/-- A piece is as it is, whatever stands behind a line feed, or a remark's sign, at the text's end: but for a remark. -/
theorem piece_end {c x : UInt8} {r : List UInt8} (t : List UInt8) (hx : x = 10 ∨ x = 35) (hc : c.toNat ≠ 35) (hq : c.toNat = 34 → qGo (r ++ x :: t) = qGo r) : pieceL (c :: (r ++ x :: t)) = pieceL (c :: r) := by
  have hw : isWord x = false := by rcases hx with rfl | rfl <;> decide
  have hd : isDig x = false := by rcases hx with rfl | rfl <;> decide
  have e1 : runL isWord (c :: (r ++ x :: t)) = runL isWord (c :: r) := run_end (c :: r) x t hw
  have e2 : runL isDig (c :: (r ++ x :: t)) = runL isDig (c :: r) := run_end (c :: r) x t hd
  have f1 : (c :: (r ++ x :: t)).take (runL isWord (c :: r)) = (c :: r).take (runL isWord (c :: r)) := take_app_run (c :: r) (x :: t)
  have f2 : (c :: (r ++ x :: t)).take (runL isDig (c :: r)) = (c :: r).take (runL isDig (c :: r)) := take_app_run (c :: r) (x :: t)
  have g : (r ++ x :: t).head? = some 61 ↔ r.head? = some 61 := by
    cases r with
    | nil => simp; rcases hx with rfl | rfl <;> decide
    | cons d r => simp
  rw [piece_cons, piece_cons]
  by_cases h1 : isGap c = true
  · rw [if_pos h1, if_pos h1]
  rw [if_neg h1, if_neg h1, if_neg hc, if_neg hc]
  by_cases h3 : isLet c = true
  · rw [if_pos h3, if_pos h3, e1, f1]
  rw [if_neg h3, if_neg h3]
  by_cases h4 : isDig c = true
  · rw [if_pos h4, if_pos h4]
    unfold numP
    rw [e2, f2]; rfl
  rw [if_neg h4, if_neg h4]
  by_cases h5 : c.toNat = 34
  · rw [if_pos h5, if_pos h5, hq h5]
  rw [if_neg h5, if_neg h5]
  simp only [g]
/-- What isn't right stays so, whatever stands behind the line. -/
theorem piece_bad {c : UInt8} {r t : List UInt8} {k n e : Nat} (u : List UInt8) (h : pieceL (c :: r) = (k, t, n, e)) (he : e ≠ 0) : pieceL (c :: (r ++ 10 :: u)) = (k, t, n, e) := by
  have hc : c.toNat ≠ 35 := fun h2 => by
    rw [piece_cons] at h
    have h1 : ¬ isGap c = true := by unfold isGap; simp [h2]
    rw [if_neg h1, if_pos h2] at h
    simp only [Prod.mk.injEq] at h; omega
  by_cases hq : c.toNat = 34
  · cases e2 : qGo r with
    | none => rw [piece_end u (.inl rfl) hc (fun _ => by rw [qGo_none r.length r u (Nat.le_refl _) e2, e2])]; exact h
    | some x => rw [piece_end u (.inl rfl) hc (fun _ => by rw [qGo_app r.length r (10 :: u) x.1 x.2 (Nat.le_refl _) e2, e2])]; exact h
  · rw [piece_end u (.inl rfl) hc (fun h => absurd h hq)]; exact h
theorem piece_ok_q {c : UInt8} {r t : List UInt8} {k n : Nat} (h : pieceL (c :: r) = (k, t, n, 0)) (hc : c.toNat = 34) (u : List UInt8) : qGo (r ++ u) = qGo r := by
  cases e2 : qGo r with
  | some x => rw [qGo_app r.length r u x.1 x.2 (Nat.le_refl _) e2]
  | none =>
    rw [piece_cons] at h
    have h1 : ¬ isGap c = true := by unfold isGap; simp [hc]
    have h3 : ¬ isLet c = true := by unfold isLet; simp [hc]
    have h4 : ¬ isDig c = true := by unfold isDig; simp [hc]
    rw [if_neg h1, if_neg (by omega), if_neg h3, if_neg h4, if_pos hc, e2] at h
    simp at h
theorem piece_good {c : UInt8} {r t : List UInt8} {k n : Nat} (u : List UInt8) (h : pieceL (c :: r) = (k, t, n, 0)) : pieceL (c :: (r ++ 10 :: u)) = (k, t, n, 0) := by
  by_cases hc : c.toNat = 35
  · rw [piece_cons] at h ⊢
    have h1 : ¬ isGap c = true := by unfold isGap; simp [hc]
    rw [if_neg h1, if_pos hc] at h ⊢
    rw [← h]
    have := run_end (p := notLine) (c :: r) 10 u (by decide)
    show (0, [], runL notLine (c :: r ++ 10 :: u), 0) = _
    rw [this]
  · rw [piece_end u (.inl rfl) hc (fun hq => piece_ok_q h hq _)]; exact h

theorem lex_fault : ∀ (k : Nat) (s u : List UInt8) (p : Pl), s.length ≤ k → (lexL p s).2.1 ≠ 0 → lexL p (s ++ 10 :: u) = lexL p s
  | _, [], _, _, _, h => absurd rfl h
  | 0, c :: r, _, _, hk, _ => by simp at hk
  | k + 1, c :: r, u, p, hk, h => by
    obtain ⟨kd, t, n, e, hp⟩ : ∃ kd t n, ∃ e, pieceL (c :: r) = (kd, t, n, e) := ⟨_, _, _, _, rfl⟩
    show lexL p (c :: (r ++ 10 :: u)) = _
    by_cases he : e = 0
    · subst he
      have hs := piece_size hp
      have hp2 := piece_good u hp
      rw [lex_piece hp] at h
      rw [lex_piece hp, lex_piece hp2]
      have e1 : (c :: (r ++ 10 :: u)).take n = (c :: r).take n := by
        show ((c :: r) ++ 10 :: u).take n = _
        rw [List.take_append_of_le_length hs.2.1]
      have e2 : (c :: (r ++ 10 :: u)).drop n = (c :: r).drop n ++ 10 :: u := by
        show ((c :: r) ++ 10 :: u).drop n = _
        rw [List.drop_append_of_le_length hs.2.1]
      rw [e1, e2]
      rw [lex_fault k ((c :: r).drop n) u _ (by simp at hk ⊢; omega)]
      intro e0; apply h; unfold finT; rw [if_pos e0]
    · rw [lex_bad hp he, lex_bad (piece_bad u hp he) he]

/-- One text behind another, a line feed between. -/
theorem lex_parts : ∀ (k : Nat) (s u : List UInt8) (p : Pl), s.length ≤ k → (lexL p s).2.1 = 0 → lexL p (s ++ 10 :: u) = finT (lexL p s).1 (lexL (advs p (s ++ [10])) u)
  | _, [], u, p, _, _ => by
    show lexL p (10 :: u) = finT [] _
    rw [lex_gap (by decide), finT_nil]; rfl
  | 0, c :: r, _, _, hk, _ => by simp at hk
  | k + 1, c :: r, u, p, hk, h => by
    obtain ⟨kd, t, n, e, hp⟩ : ∃ kd t n, ∃ e, pieceL (c :: r) = (kd, t, n, e) := ⟨_, _, _, _, rfl⟩
    by_cases he : e = 0
    · subst he
      have hs := piece_size hp
      have hp2 := piece_good u hp
      rw [lex_piece hp] at h
      show lexL p (c :: (r ++ 10 :: u)) = _
      rw [lex_piece hp, lex_piece hp2]
      have e1 : (c :: (r ++ 10 :: u)).take n = (c :: r).take n := by
        show ((c :: r) ++ 10 :: u).take n = _
        rw [List.take_append_of_le_length hs.2.1]
      have e2 : (c :: (r ++ 10 :: u)).drop n = (c :: r).drop n ++ 10 :: u := by
        show ((c :: r) ++ 10 :: u).drop n = _
        rw [List.drop_append_of_le_length hs.2.1]
      rw [e1, e2]
      have h0 : (lexL (advs p ((c :: r).take n)) ((c :: r).drop n)).2.1 = 0 := by
        unfold finT at h
        by_cases e0 : (lexL (advs p ((c :: r).take n)) ((c :: r).drop n)).2.1 = 0
        · exact e0
        · rw [if_neg e0] at h; exact h
      rw [lex_parts k ((c :: r).drop n) u _ (by simp at hk ⊢; omega) h0, finT_finT]
      have e3 : advs (advs p ((c :: r).take n)) ((c :: r).drop n ++ [10]) = advs p (c :: r ++ [10]) := by
        rw [← advs_append, ← List.append_assoc, List.take_append_drop]
      rw [e3]
      congr 1
      unfold finT; rw [if_pos h0]
    · rw [lex_bad hp he] at h; exact absurd h he
/-- .. and a remark at the first one's end. -/
theorem run_lineL (s : List UInt8) (h : s.all notLine = true) (u : List UInt8) : runL notLine (s ++ 10 :: u) = s.length := by
  rw [run_append s _ h, run_stop (by decide)]; rfl
theorem lex_remark {rem : List UInt8} (hr : rem.all notLine = true) (u : List UInt8) (p : Pl) : lexL p (35 :: (rem ++ 10 :: u)) = lexL (advs p (35 :: rem ++ [10])) u := by
  have hn : runL notLine (35 :: (rem ++ 10 :: u)) = (35 :: rem).length := run_lineL (35 :: rem) (by simp [hr, notLine]) u
  have hp : pieceL (35 :: rem ++ 10 :: u) = (0, [], (35 :: rem).length, 0) := by
    show pieceL (35 :: (rem ++ 10 :: u)) = _
    rw [piece_cons, if_neg (by decide), if_pos (by decide), hn]
  show lexL p (35 :: rem ++ 10 :: u) = _
  rw [lex_piece_app (by simp) hp, if_pos rfl, finT_nil, lex_gap (by decide)]
  rw [advs_append]; rfl
theorem lex_remarked : ∀ (k : Nat) (s rem u : List UInt8) (p : Pl), s.length ≤ k → rem.all notLine = true → (lexL p s).2.1 = 0 →
    lexL p (s ++ 35 :: (rem ++ 10 :: u)) = finT (lexL p s).1 (lexL (advs p (s ++ 35 :: rem ++ [10])) u)
  | _, [], rem, u, p, _, hr, _ => by
    show lexL p (35 :: (rem ++ 10 :: u)) = finT [] _
    rw [lex_remark hr, finT_nil]; rfl
  | 0, c :: r, _, _, _, hk, _, _ => by simp at hk
  | k + 1, c :: r, rem, u, p, hk, hr, h => by
    obtain ⟨kd, t, n, e, hp⟩ : ∃ kd t n, ∃ e, pieceL (c :: r) = (kd, t, n, e) := ⟨_, _, _, _, rfl⟩
    by_cases he : e = 0
    · subst he
      have hs := piece_size hp
      by_cases hrem : c.toNat = 35 ∧ (c :: r).all notLine = true
      · -- a remark that reaches the end takes the other one in
        have hc : c = 35 := u8_eq hrem.1
        have hall : (c :: r ++ 35 :: rem).all notLine = true := by
          rw [List.all_append, hrem.2]; simp [hr, notLine]
        have hp3 : pieceL (c :: r ++ 35 :: rem ++ 10 :: u) = (0, [], (c :: r ++ 35 :: rem).length, 0) := by
          have hn : runL notLine (c :: r ++ 35 :: rem ++ 10 :: u) = (c :: r ++ 35 :: rem).length := run_lineL _ hall u
          show pieceL (c :: (r ++ 35 :: rem ++ 10 :: u)) = _
          rw [piece_cons, if_neg (by subst hc; decide), if_pos hrem.1]
          show (0, [], runL notLine (c :: r ++ 35 :: rem ++ 10 :: u), 0) = _
          rw [hn]
        have hp4 : pieceL (c :: r ++ []) = (0, [], (c :: r).length, 0) := by
          rw [List.append_nil, piece_cons, if_neg (by subst hc; decide), if_pos hrem.1, run_full hrem.2]
        have hA : lexL p (c :: r) = ([], 0, (0, 0)) := by
          have := lex_piece_app (p := p) (a := c :: r) (r := []) (by simp) hp4
          rw [List.append_nil] at this
          rw [this, if_pos rfl, finT_nil, lex_nil]
        rw [hA]
        have e : c :: r ++ 35 :: (rem ++ 10 :: u) = c :: r ++ 35 :: rem ++ 10 :: u := by simp
        rw [e, lex_piece_app (by simp) hp3, if_pos rfl, finT_nil, lex_gap (by decide)]
        show _ = finT [] _
        rw [finT_nil, advs_append p (c :: r ++ 35 :: rem) [10]]; rfl
      · have hp2 : pieceL (c :: (r ++ 35 :: (rem ++ 10 :: u))) = (kd, t, n, 0) := by
          by_cases hc : c.toNat = 35
          · have hnl : (c :: r).all notLine = false := by
              cases h2 : (c :: r).all notLine with
              | false => rfl
              | true => exact absurd ⟨hc, h2⟩ hrem
            have hst : ∀ (l v : List UInt8), l.all notLine = false → runL notLine (l ++ v) = runL notLine l := by
              intro l
              induction l with
              | nil => intro v h; simp at h
              | cons d l ih =>
                intro v h
                by_cases hd : notLine d = true
                · rw [List.cons_append, run_cons hd, run_cons hd, ih v (by simpa [hd] using h)]
                · rw [List.cons_append, run_stop (by simpa using hd), run_stop (by simpa using hd)]
            rw [piece_cons] at hp ⊢
            have h1 : ¬ isGap c = true := by unfold isGap; simp [hc]
            rw [if_neg h1, if_pos hc] at hp ⊢
            rw [← hp]
            show (0, [], runL notLine (c :: r ++ 35 :: (rem ++ 10 :: u)), 0) = _
            rw [hst _ _ hnl]
          · rw [piece_end _ (.inr rfl) hc (fun hq => piece_ok_q hp hq _)]; exact hp
        rw [lex_piece hp] at h
        show lexL p (c :: (r ++ 35 :: (rem ++ 10 :: u))) = _
        rw [lex_piece hp, lex_piece hp2]
        have e1 : (c :: (r ++ 35 :: (rem ++ 10 :: u))).take n = (c :: r).take n := by
          show ((c :: r) ++ 35 :: (rem ++ 10 :: u)).take n = _
          rw [List.take_append_of_le_length hs.2.1]
        have e2 : (c :: (r ++ 35 :: (rem ++ 10 :: u))).drop n = (c :: r).drop n ++ 35 :: (rem ++ 10 :: u) := by
          show ((c :: r) ++ 35 :: (rem ++ 10 :: u)).drop n = _
          rw [List.drop_append_of_le_length hs.2.1]
        rw [e1, e2]
        have h0 : (lexL (advs p ((c :: r).take n)) ((c :: r).drop n)).2.1 = 0 := by
          unfold finT at h
          by_cases e0 : (lexL (advs p ((c :: r).take n)) ((c :: r).drop n)).2.1 = 0
          · exact e0
          · rw [if_neg e0] at h; exact h
        rw [lex_remarked k ((c :: r).drop n) rem u _ (by simp at hk ⊢; omega) hr h0, finT_finT]
        have e3 : advs (advs p ((c :: r).take n)) ((c :: r).drop n ++ 35 :: rem ++ [10]) = advs p (c :: r ++ 35 :: rem ++ [10]) := by
          rw [← advs_append, ← List.append_assoc, ← List.append_assoc, List.take_append_drop]
        rw [e3]
        congr 1
        unfold finT; rw [if_pos h0]
    · rw [lex_bad hp he] at h; exact absurd h he
/-- So many lines further down. -/
def downT (d : Nat) (l : List Tok) : List Tok := l.map fun t => (t.1, t.2.1, (t.2.2.1 + d, t.2.2.2))
theorem advs_down (d : Nat) : ∀ (s : List UInt8) (p : Pl), advs (p.1 + d, p.2) s = ((advs p s).1 + d, (advs p s).2)
  | [], p => rfl
  | c :: s, p => by
    rw [advs_cons, advs_cons]
    have e : adv (p.1 + d, p.2) c = ((adv p c).1 + d, (adv p c).2) := by
      unfold adv; split
      · simp; omega
      · rfl
    rw [e, advs_down d s (adv p c)]
theorem lex_down (d : Nat) : ∀ (k : Nat) (s : List UInt8) (p : Pl), s.length ≤ k → (lexL (p.1 + d, p.2) s).2.1 = (lexL p s).2.1 ∧ (lexL (p.1 + d, p.2) s).1 = downT d (lexL p s).1
  | _, [], _, _ => ⟨rfl, rfl⟩
  | 0, c :: r, _, hk => by simp at hk
  | k + 1, c :: r, p, hk => by
    obtain ⟨kd, t, n, e, hp⟩ : ∃ kd t n, ∃ e, pieceL (c :: r) = (kd, t, n, e) := ⟨_, _, _, _, rfl⟩
    by_cases he : e = 0
    · subst he
      have hs := piece_size hp
      rw [lex_piece hp, lex_piece hp, advs_down]
      have ih := lex_down d k ((c :: r).drop n) (advs p ((c :: r).take n)) (by simp at hk ⊢; omega)
      unfold finT
      by_cases e0 : (lexL (advs p ((c :: r).take n)) ((c :: r).drop n)).2.1 = 0
      · rw [if_pos (by rw [ih.1]; exact e0), if_pos e0]
        refine ⟨rfl, ?_⟩
        show (if kd = 0 then [] else [(kd, t, (p.1 + d, p.2))]) ++ _ = downT d ((if kd = 0 then [] else [(kd, t, p)]) ++ _)
        rw [ih.2]
        unfold downT
        rw [List.map_append]
        congr 1
        split <;> rfl
      · rw [if_neg (by rw [ih.1]; exact e0), if_neg e0]
        exact ⟨ih.1, rfl⟩
    · rw [lex_bad hp he, lex_bad hp he]; exact ⟨rfl, rfl⟩
end Go.Proofs.YtheomoamobcaeaaGreatDoor
