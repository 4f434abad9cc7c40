/- The chapter's example; the laws LexCuts, LexFaults. -/
import Derived.Test.YtheomoamobcaeaaGreatDoorLexQuote
import Derived.Test.YtheomoamobcaeaaGreatDoorLexLaws3
import Derived.Test.YtheomoamobcaeaaGreatDoorQuietBelow
namespace Go.Proofs.YtheomoamobcaeaaGreatDoor
set_option maxRecDepth 100000
open Go.RowKit

set_option maxHeartbeats 1000000 in
theorem all_big (s : List UInt8) (hs : s.length ≤ 140737488351232) (hl : 65536 < s.length) (w : World) :
    Calls Tryz.prog 9 #[.string (bs s)] w (AllRet (allT s) w) := by
  have e : allT s = ([], 6, (1, 1)) := by unfold allT; rw [if_pos hl]
  rw [e]
  go_enter Tryz.func9, Tryz.ntmps9
  go_wp2_with fail
  go_region
  all_goals (try go_wp2_with fail)
  all_goals
    have hb := box2 w (.cells #[.int .i64 1, .int .i64 1] 26) (.int .i64 1) (.int .i64 1) 26
    have h2 := Two.below (two_new w (.int .i64 1) (.int .i64 1) 26) ((Below.refl _ _).alloc (Nat.le_refl _) (.cells #[.int .i64 1, .int .i64 1] 26))
    exact bodyPost_ret (all_res (x := 1) (y := 1) rfl rfl rfl h2.c0 h2.c1) rfl ⟨_, rfl, SliceAt.nil _ _, (below2 w _ _).drew⟩
set_option maxHeartbeats 1000000 in
theorem rall_big (s : List UInt8) (hs : s.length ≤ 140737488351232) (hl : 65536 < s.length) (w : World) :
    Calls Tryz.prog 10 #[.string (bs s)] w (AllRet (allT s) w) := by
  have e : allT s = ([], 6, (1, 1)) := by unfold allT; rw [if_pos hl]
  rw [e]
  have h2 := two_new w (.int .i64 1) (.int .i64 1) 26
  have H2 := hid h2
  clear h2
  go_enter Tryz.func10, Tryz.ntmps10
  go_wp2_with fail
  exact bodyPost_ret (rall_res (x := 1) (y := 1) rfl rfl rfl H2.out.c0 H2.out.c1) rfl ⟨_, rfl, SliceAt.nil _ _, (Below.refl _ _).alloc (Nat.le_refl _) _⟩
/-- What All answers, in words that a walk reads. -/
def IsRet (l : List Tok) (e p q : Nat) (w : World) (E : Ending) (w' : World) : Prop :=
  ∃ v, E = .returned (.tuple #[v, .int .i64 e, .agg #[.int .i64 p, .int .i64 q]]) ∧ SliceAt w' 4 v l.length (tokCells l) ∧ Below w.heap.size w w'
theorem all_is (s : List UInt8) (hs : s.length ≤ 140737488351232) {l : List Tok} {e p q : Nat} (h : allT s = (l, e, (p, q))) (w : World) (hr : RangeAt w) :
    Calls Tryz.prog 9 #[.string (bs s)] w (IsRet l e p q w) := by
  have h0 : Calls Tryz.prog 9 #[.string (bs s)] w (AllRet (allT s) w) := by
    by_cases hl : 65536 < s.length
    · exact all_big s hs hl w
    · exact all_any s (by omega) w hr
  refine h0.mono ?_
  rw [h]
  rintro E w' ⟨v, rfl, h1, h2⟩
  exact ⟨v, rfl, h1, h2⟩
theorem rall_is (s : List UInt8) (hs : s.length ≤ 140737488351232) {l : List Tok} {e p q : Nat} (h : allT s = (l, e, (p, q))) (w : World) :
    Calls Tryz.prog 10 #[.string (bs s)] w (IsRet l e p q w) := by
  have h0 : Calls Tryz.prog 10 #[.string (bs s)] w (AllRet (allT s) w) := by
    by_cases hl : 65536 < s.length
    · exact rall_big s hs hl w
    · exact rall_any s (by omega) w
  refine h0.mono ?_
  rw [h]
  rintro E w' ⟨v, rfl, h1, h2⟩
  exact ⟨v, rfl, h1, h2⟩
theorem tsame_is (v0 v1 : Value) (n0 n1 : Nat) (l r : List Tok) (b : Bool) (h : decide (l = r) = b) (w W : World) (hW : Below w.heap.size w W) (h0 : SliceAt w 4 v0 n0 (tokCells l)) (h1 : SliceAt w 4 v1 n1 (tokCells r)) :
    Calls Tryz.prog 11 #[v0, v1] W fun e w' => e = .returned (.bool b) ∧ Below W.heap.size W w' := by
  subst h
  exact (tsame_any v0 v1 n0 n1 l r W (h0.below hW (Nat.le_refl _)) (h1.below hW (Nat.le_refl _))).mono fun e w' ⟨h2, h3⟩ => ⟨h2, h3.below⟩
theorem below_new (w : World) (o : Obj) : Below w.heap.size w (w.alloc o) := (Below.refl _ _).alloc (Nat.le_refl _) _
theorem below_call {w w' : World} {o : Obj} (hb : Below (w.alloc o).heap.size (w.alloc o) w') : Below w.heap.size w w' := (below_new w o).trans (hb.mono (by simp))

def exA : List UInt8 := [97, 32, 61, 32, 34, 120, 92, 110, 34, 59, 32, 35, 32, 115, 111]
def exT : List Tok := [(1, [97], (1, 1)), (4, [61], (1, 3)), (3, [120, 10], (1, 5)), (4, [59], (1, 10))]
theorem ex_one : allT exA = (exT, 0, (0, 0)) := by rfl
theorem ex_two : allT [97, 32, 63] = ([], 3, (1, 3)) := by rfl
theorem ex_quote : quoteL [97, 34, 98] = [34, 97, 92, 34, 98, 34] := by rfl
set_option maxHeartbeats 1000000 in
theorem alive_any (w : World) (hr : RangeAt w) : Calls Tryz.prog 8 #[] w fun e w' => e = .returned (.bool true) ∧ Below w.heap.size w w' := by
  have H1 := hid (fun W (hW : RangeAt W) => all_is exA (by decide) ex_one W hW)
  have H2 := hid (fun W (hW : RangeAt W) => all_is [97, 32, 63] (by decide) ex_two W hW)
  have H3 := hid (fun W => quote_any [97, 34, 98] (by decide) _ ex_quote W)
  go_enter Tryz.func8, Tryz.ntmps8
  go_wp2_with fail
  refine (H1.out _ hr).mono ?_
  rintro e w1 ⟨v1, rfl, hs1, hb1⟩
  obtain ⟨-, x1, c1, hv1, -, -, hx1⟩ := hs1.toks
  obtain ⟨q1, o1, rfl, hq1, hcl1⟩ := hx1 2 (by decide)
  obtain ⟨k0, k1, -, -⟩ := hcl1 2 (by decide)
  obtain ⟨-, k3, -, -⟩ := hcl1 3 (by decide)
  replace k0 : w1.cell? ⟨q1, o1 + 8, none⟩ = some (.int .i64 3) := k0
  replace k1 : w1.cell? ⟨q1, o1 + 8 + 1, none⟩ = some (.string (bs [120, 10])) := k1
  replace k3 : w1.cell? ⟨q1, o1 + 12 + 1, none⟩ = some (.string (bs [59])) := k3
  replace hv1 : v1 = .slice (some ⟨q1, o1, none⟩) 4 c1 := hv1
  subst hv1
  clear hs1 hx1 hcl1
  go_wp2_with fail
  refine (H2.out _ ((hr.below hb1).below (below_new _ _))).mono ?_
  rintro e w2 ⟨v2, rfl, -, hb2⟩
  have t1 := ((two_new w1 (.int .i64 0) (.int .i64 0) 26).below hb2).below (below_new w2 (.cells #[.int .i64 1, .int .i64 3] 26))
  have t2 := two_new w2 (.int .i64 1) (.int .i64 3) 26
  have hbA : Below w1.heap.size w1 (w2.alloc (.cells #[.int .i64 1, .int .i64 3] 26)) := Below.chain (below_call hb2) (below_new _ _)
  have m0 := Below.keeps hbA k0
  have m1 := Below.keeps hbA k1
  have m3 := Below.keeps hbA k3
  have hbC := Below.chain hb1 hbA
  obtain ⟨a0, a1, -, -⟩ := t1
  obtain ⟨b0, b1, -, -⟩ := t2
  clear k0 k1 k3 hbA hb2
  go_wp2_with fail
  refine (H3.out _).mono ?_
  rintro e w3 ⟨rfl, hw3⟩
  have hbF := Below.chain hbC hw3
  go_wp2_with fail
  go_ret
  exact ⟨rfl, hbF⟩
set_option maxHeartbeats 1000000 in
theorem law_cuts (s : List UInt8) (hs : s.length ≤ 140737488351232) (w : World) (hr : RangeAt w) :
    Calls Tryz.prog 3 #[.string (bs s)] w fun e w' => e = .returned (.bool true) ∧ Below w.heap.size w w' := by
  have Ha := hid (alive_any w hr)
  by_cases h1 : 600 < s.length ∧ s.length ≤ 65536
  · obtain ⟨h1, h2⟩ := h1
    go_enter Tryz.func3, Tryz.ntmps3
    go_wp2_with fail
    refine Ha.out.mono ?_
    rintro e w1 ⟨rfl, hb1⟩
    go_wp2_with fail
    go_ret
    exact ⟨rfl, hb1⟩
  · obtain ⟨l, e, p, q, h⟩ : ∃ l e p q, allT s = (l, e, (p, q)) := ⟨_, _, _, _, rfl⟩
    have H1 := hid (fun W (hW : RangeAt W) => all_is s (by omega) h W hW)
    have H2 := hid (fun W => rall_is s (by omega) h W)
    have hc : s.length ≤ 600 ∨ 65536 < s.length := by omega
    clear h h1
    rcases hc with hc | hc
    all_goals
      go_enter Tryz.func3, Tryz.ntmps3
      go_wp2_with fail
      refine Ha.out.mono ?_
      rintro e w1 ⟨rfl, hb1⟩
      go_wp2_with fail
      refine (H1.out _ (hr.below hb1)).mono ?_
      rintro e w2 ⟨v1, rfl, hs1, hb2⟩
      obtain ⟨-, x1, c1, hv1, -⟩ := hs1.toks
      subst hv1
      go_wp2_with fail
      refine (H2.out _).mono ?_
      rintro e w3 ⟨v2, rfl, hs2, hb3⟩
      obtain ⟨-, x2, c2, hv2, -⟩ := hs2.toks
      subst hv2
      have hbA := Below.chain (below_call hb3) (below_new w3 (.cells #[.int .i64 p, .int .i64 q] 26))
      obtain ⟨a0, a1, -, -⟩ := ((two_new w2 (.int .i64 p) (.int .i64 q) 26).below hb3).below (below_new w3 (.cells #[.int .i64 p, .int .i64 q] 26))
      obtain ⟨b0, b1, -, -⟩ := two_new w3 (.int .i64 p) (.int .i64 q) 26
      have S1 := hid (hs1.below hbA (Nat.le_refl _))
      have S2 := hid (hs2.below (below_new w3 (.cells #[.int .i64 p, .int .i64 q] 26)) (Nat.le_refl _))
      have hbC := Below.chain (Below.chain hb1 hb2) hbA
      clear hs1 hs2 hb3 hbA hb2
      go_wp2_with fail
      refine (tsame_is _ _ _ _ l l true (decide_eq_true rfl) _ _ (Below.refl _ _) S1.out S2.out).mono ?_
      rintro e w4 ⟨rfl, hw4⟩
      have hbF := Below.chain hbC hw4
      have d0 := Below.keeps hw4 a0
      have d1 := Below.keeps hw4 a1
      have f0 := Below.keeps hw4 b0
      have f1 := Below.keeps hw4 b1
      clear a0 a1 b0 b1
      go_wp2_with fail
      go_ret
      exact ⟨rfl, hbF⟩
theorem fault_is {a : List UInt8} (b : List UInt8) (ha : a.length ≤ 300) (hb : b.length ≤ 300) {l : List Tok} {e p q : Nat} (h : allT a = (l, e, (p, q))) (he : e ≠ 0) : allT (a ++ 10 :: b) = (l, e, (p, q)) := by
  rw [all_good (by omega)] at h
  rw [all_good (by simp; omega), lex_fault a.length a b (1, 1) (Nat.le_refl _) (by rw [h]; exact he), h]
set_option maxHeartbeats 1000000 in
theorem law_faults (a b : List UInt8) (ha : a.length ≤ 140737488351232) (hb : b.length ≤ 140737488351232) (w : World) (hr : RangeAt w) :
    Calls Tryz.prog 7 #[.string (bs a), .string (bs b)] w fun e w' => e = .returned (.bool true) ∧ Below w.heap.size w w' := by
  have Ha := hid (alive_any w hr)
  have hc : 300 < a.length ∨ (a.length ≤ 300 ∧ 300 < b.length) ∨ (a.length ≤ 300 ∧ b.length ≤ 300) := by omega
  rcases hc with hc | ⟨hc, hd⟩ | ⟨hc, hd⟩
  · go_enter Tryz.func7, Tryz.ntmps7
    go_wp2_with fail
    refine Ha.out.mono ?_
    rintro e w1 ⟨rfl, hb1⟩
    go_wp2_with fail
    go_ret
    exact ⟨rfl, hb1⟩
  · go_enter Tryz.func7, Tryz.ntmps7
    go_wp2_with fail
    refine Ha.out.mono ?_
    rintro e w1 ⟨rfl, hb1⟩
    go_wp2_with fail
    go_ret
    exact ⟨rfl, hb1⟩
  · obtain ⟨l, k, p, q, h⟩ : ∃ l e p q, allT a = (l, e, (p, q)) := ⟨_, _, _, _, rfl⟩
    have H1 := hid (fun W (hW : RangeAt W) => all_is a (by omega) h W hW)
    by_cases hk : k = 0
    · obtain ⟨l2, k2, p2, q2, h2⟩ : ∃ l e p q, allT (a ++ 10 :: b) = (l, e, (p, q)) := ⟨_, _, _, _, rfl⟩
      have H2 := hid (fun W (hW : RangeAt W) => all_is (a ++ 10 :: b) (by simp; omega) h2 W hW)
      subst hk
      clear h h2
      go_enter Tryz.func7, Tryz.ntmps7
      go_wp2_with fail
      refine Ha.out.mono ?_
      rintro e w1 ⟨rfl, hb1⟩
      go_wp2_with fail
      refine (H1.out _ (hr.below hb1)).mono ?_
      rintro e w2 ⟨v1, rfl, hs1, hb2⟩
      have hbB := Below.chain (Below.chain hb1 hb2) (below_new w2 (.cells #[.int .i64 p, .int .i64 q] 26))
      go_wp2_with fail
      refine (H2.out _ (hr.below hbB)).mono ?_
      rintro e w3 ⟨v2, rfl, hs2, hb3⟩
      have hbA := Below.chain (below_call hb3) (below_new w3 (.cells #[.int .i64 p2, .int .i64 q2] 26))
      obtain ⟨a0, a1, -, -⟩ := ((two_new w2 (.int .i64 p) (.int .i64 q) 26).below hb3).below (below_new w3 (.cells #[.int .i64 p2, .int .i64 q2] 26))
      obtain ⟨b0, b1, -, -⟩ := two_new w3 (.int .i64 p2) (.int .i64 q2) 26
      have hbC := Below.chain (Below.chain hb1 hb2) hbA
      clear hs1 hs2 hb3 hbA hb2
      go_wp2_with fail
      go_ret
      exact ⟨rfl, hbC⟩
    · have h2 := fault_is b hc hd h hk
      have H2 := hid (fun W (hW : RangeAt W) => all_is (a ++ 10 :: b) (by simp; omega) h2 W hW)
      have hk1 : ((k : Int) == 0) = false := eqF (by omega)
      clear h h2 hk
      go_enter Tryz.func7, Tryz.ntmps7
      go_wp2_with fail
      refine Ha.out.mono ?_
      rintro e w1 ⟨rfl, hb1⟩
      go_wp2_with fail
      refine (H1.out _ (hr.below hb1)).mono ?_
      rintro e w2 ⟨v1, rfl, hs1, hb2⟩
      have hbB := Below.chain (Below.chain hb1 hb2) (below_new w2 (.cells #[.int .i64 p, .int .i64 q] 26))
      go_wp2_with fail
      refine (H2.out _ (hr.below hbB)).mono ?_
      rintro e w3 ⟨v2, rfl, hs2, hb3⟩
      have hbA := Below.chain (below_call hb3) (below_new w3 (.cells #[.int .i64 p, .int .i64 q] 26))
      obtain ⟨a0, a1, -, -⟩ := ((two_new w2 (.int .i64 p) (.int .i64 q) 26).below hb3).below (below_new w3 (.cells #[.int .i64 p, .int .i64 q] 26))
      obtain ⟨b0, b1, -, -⟩ := two_new w3 (.int .i64 p) (.int .i64 q) 26
      have hbC := Below.chain (Below.chain hb1 hb2) hbA
      clear hs1 hs2 hb3 hbA hb2
      go_wp2_with fail
      go_ret
      exact ⟨rfl, hbC⟩
end Go.Proofs.YtheomoamobcaeaaGreatDoor
