/- What lex.All answers, for a text of any length. -/
import Derived.Test.YtijgcoedohhlnaaGreatDoorLexAll
namespace Go.Proofs.YtijgcoedohhlnaaGreatDoor
set_option maxRecDepth 100000
open Go.RowKit

set_option maxHeartbeats 1000000 in
theorem all_big (s : List UInt8) (hs : s.length ≤ 140737488351232) (hl : 65536 < s.length) (w : World) :
    Calls Tryz.prog 6 #[.string (bs s)] w (AllRet (allT s) w) := by
  have e : allT s = ([], 6, (1, 1)) := by unfold allT; rw [if_pos hl]
  rw [e]
  go_enter Tryz.func6, Tryz.ntmps6
  go_wp2_with fail
  go_region
  all_goals (try go_wp2_with fail)
  all_goals
    have hb := box2 w (.cells #[.int .i64 1, .int .i64 1] 29) (.int .i64 1) (.int .i64 1) 29
    have h2 := Two.below (two_new w (.int .i64 1) (.int .i64 1) 29) ((Below.refl _ _).alloc (Nat.le_refl _) (.cells #[.int .i64 1, .int .i64 1] 29))
    exact bodyPost_ret (all_res (x := 1) (y := 1) rfl rfl rfl h2.c0 h2.c1) rfl ⟨_, rfl, SliceAt.nil _ _, (below2 w _ _).drew⟩
/-- What All answers, in words that a walk reads. -/
def IsRet (l : List Tok) (e p q : Nat) (w : World) (E : Ending) (w' : World) : Prop :=
  ∃ v, E = .returned (.tuple #[v, .int .i64 e, .agg #[.int .i64 p, .int .i64 q]]) ∧ SliceAt w' 4 v l.length (tokCells l) ∧ Below w.heap.size w w'
theorem all_is (s : List UInt8) (hs : s.length ≤ 140737488351232) {l : List Tok} {e p q : Nat} (h : allT s = (l, e, (p, q))) (w : World) (hr : RangeAt w) :
    Calls Tryz.prog 6 #[.string (bs s)] w (IsRet l e p q w) := by
  have h0 : Calls Tryz.prog 6 #[.string (bs s)] w (AllRet (allT s) w) := by
    by_cases hl : 65536 < s.length
    · exact all_big s hs hl w
    · exact all_any s (by omega) w hr
  refine h0.mono ?_
  rw [h]
  rintro E w' ⟨v, rfl, h1, h2⟩
  exact ⟨v, rfl, h1, h2⟩
end Go.Proofs.YtijgcoedohhlnaaGreatDoor
