/- Plain laws of tokens for the statements' walks: how long a token's text is; tokens written again, one behind the other; two texts' tokens, the second one's so many lines further down. -/
import Derived.Test.YtheomoamobcaeaaGreatDoorLexLaws2
namespace Go.Proofs.YtheomoamobcaeaaGreatDoor
open Go.RowKit

theorem lex_short : ∀ (k : Nat) (s : List UInt8) (p : Pl), s.length ≤ k → ∀ t ∈ (lexL p s).1, t.2.1.length ≤ s.length
  | _, [], _, _, t, h => by rw [lex_nil] at h; cases h
  | 0, c :: r, _, hk, _, _ => by simp at hk
  | k + 1, c :: r, p, hk, t, h => by
    obtain ⟨kd, x, n, e, hp⟩ : ∃ kd x n, ∃ e, pieceL (c :: r) = (kd, x, n, e) := ⟨_, _, _, _, rfl⟩
    by_cases he : e = 0
    · subst he
      have hs := piece_size hp
      rw [lex_piece hp] at h
      unfold finT at h
      split at h
      · rcases List.mem_append.1 h with h | h
        · split at h
          · cases h
          · obtain rfl := List.mem_singleton.1 h
            show x.length ≤ _
            omega
        · have := lex_short k ((c :: r).drop n) _ (by simp at hk ⊢; omega) t h
          have hd : ((c :: r).drop n).length = (c :: r).length - n := List.length_drop ..
          omega
      · cases h
    · rw [lex_bad hp he] at h; cases h
theorem again_app (a b : List Tok) : againL (a ++ b) = againL a ++ againL b := by unfold againL; rw [List.flatMap_append]
theorem again_snoc (l : List Tok) (k : Nat) (h : k < l.length) : againL (l.take (k + 1)) = againL (l.take k) ++ (writ l[k].1 l[k].2.1 ++ [32]) := by
  rw [List.take_succ_eq_append_getElem h, again_app]; simp [againL]
theorem again_take (l : List Tok) (k : Nat) : (againL (l.take k)).length ≤ (againL l).length := by
  have : againL l = againL (l.take k) ++ againL (l.drop k) := by rw [← again_app, List.take_append_drop]
  rw [this, List.length_append]; omega
theorem advs_lineL : ∀ (s : List UInt8) (p : Pl), s.all notLine = true → (advs p s).1 = p.1
  | [], _, _ => rfl
  | c :: s, p, h => by
    simp only [List.all_cons, Bool.and_eq_true] at h
    rw [advs_cons, advs_lineL s _ h.2]
    unfold adv
    have : c.toNat ≠ 10 := by have := h.1; unfold notLine at this; simpa using this
    rw [if_neg this]
theorem advs_feed (s : List UInt8) (p : Pl) : advs p (s ++ [10]) = ((advs p s).1 + 1, 1) := by
  rw [advs_append, advs_cons]; rfl
theorem parts_of (a b : List UInt8) (x : Lexed) (hb : (lexL (1, 1) b).2.1 = 0) (hx : x = finT (lexL (1, 1) a).1 (lexL ((advs (1, 1) a).1 + 1, 1) b)) :
    x = ((lexL (1, 1) a).1 ++ downT (advs (1, 1) a).1 (lexL (1, 1) b).1, 0, (0, 0)) := by
  have hd := lex_down (advs (1, 1) a).1 b.length b (1, 1) (Nat.le_refl _)
  rw [show ((1, 1) : Pl).1 + (advs (1, 1) a).1 = (advs (1, 1) a).1 + 1 from Nat.add_comm _ _] at hd
  rw [hx]; unfold finT
  rw [if_pos (hd.1.trans hb), hd.2]
theorem parts_plain (a b : List UInt8) (ha : (lexL (1, 1) a).2.1 = 0) (hb : (lexL (1, 1) b).2.1 = 0) :
    lexL (1, 1) (a ++ 10 :: b) = ((lexL (1, 1) a).1 ++ downT (advs (1, 1) a).1 (lexL (1, 1) b).1, 0, (0, 0)) := by
  refine parts_of a b _ hb ?_
  rw [lex_parts a.length a b (1, 1) (Nat.le_refl _) ha, advs_feed]
theorem parts_remark (a b rem : List UInt8) (hr : rem.all notLine = true) (ha : (lexL (1, 1) a).2.1 = 0) (hb : (lexL (1, 1) b).2.1 = 0) :
    lexL (1, 1) (a ++ 35 :: (rem ++ 10 :: b)) = ((lexL (1, 1) a).1 ++ downT (advs (1, 1) a).1 (lexL (1, 1) b).1, 0, (0, 0)) := by
  refine parts_of a b _ hb ?_
  rw [lex_remarked a.length a rem b (1, 1) (Nat.le_refl _) hr ha, advs_feed, advs_append, advs_lineL (35 :: rem) _ (by simp [hr, notLine])]
theorem all_good {s : List UInt8} (h : s.length ≤ 65536) : allT s = lexL (1, 1) s := by unfold allT; rw [if_neg (by omega)]
theorem down_snoc (d : Nat) (l : List Tok) (k : Nat) (h : k < l.length) : downT d (l.take (k + 1)) = downT d (l.take k) ++ [(l[k].1, l[k].2.1, (l[k].2.2.1 + d, l[k].2.2.2))] := by
  unfold downT; rw [List.take_succ_eq_append_getElem h, List.map_append]; rfl
theorem down_len (d : Nat) (l : List Tok) : (downT d l).length = l.length := by unfold downT; simp
end Go.Proofs.YtheomoamobcaeaaGreatDoor
