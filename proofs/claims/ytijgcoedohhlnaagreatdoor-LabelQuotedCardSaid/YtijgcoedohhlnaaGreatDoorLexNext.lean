/- The walk of lex.next. -/
import Derived.Test.YtijgcoedohhlnaaGreatDoorLexNumber
namespace Go.Proofs.YtijgcoedohhlnaaGreatDoor
set_option maxRecDepth 100000
set_option linter.unusedVariables false
open Go.RowKit

/-- What the program takes at once: a gap whole. -/
def pieceP (s : List UInt8) : Nat × List UInt8 × Nat × Nat := match s with
  | [] => (0, [], 0, 3)
  | c :: r => if isGap c = true then (0, [], runL isGap (c :: r), 0) else pieceL (c :: r)
theorem hasPrefix2 (c : UInt8) (r : List UInt8) (a : UInt8) : Lib.hasPrefix (c :: r) [a, 61] = (decide (c.toNat = a.toNat) && decide (r.head? = some 61)) := by
  have e : (c == a) = decide (c.toNat = a.toNat) := by
    rw [Bool.eq_iff_iff]; simp only [beq_iff_eq, decide_eq_true_eq]
    exact ⟨fun h => by rw [h], fun h => UInt8.toNat_inj.1 h⟩
  have e' : (a == c) = decide (c.toNat = a.toNat) := by rw [← e, Bool.eq_iff_iff]; simp only [beq_iff_eq]; exact ⟨fun h => h.symm, fun h => h.symm⟩
  show ((a == c) && ([61] : List UInt8).isPrefixOf r) = _
  rw [e']
  congr 1
  cases r with
  | nil => rfl
  | cons d r =>
    show ((61 == d) && true) = _
    rw [Bool.and_true, Bool.eq_iff_iff]
    simp only [beq_iff_eq, decide_eq_true_eq, List.head?_cons, Option.some.injEq]
    exact ⟨fun h => h.symm, fun h => h.symm⟩
theorem pre_is (c : UInt8) (r : List UInt8) (a : UInt8) (b : Bool) (h : (decide (c.toNat = a.toNat) && decide (r.head? = some 61)) = b) (W : World) :
    Calls Tryz.prog 18 #[.string (bs (c :: r)), .string ⟨#[a, 61]⟩] W fun e w' => e = .returned (.bool b) ∧ W = w' := by
  refine (Tryz.strings_HasPrefix (bs (c :: r)) ⟨#[a, 61]⟩ W).mono ?_
  rintro e w' ⟨rfl, rfl⟩
  have := hasPrefix2 c r a
  rw [h] at this
  exact ⟨by show Ending.returned (.bool (Lib.hasPrefix (c :: r) [a, 61])) = _; rw [this], rfl⟩
theorem index_mem : ∀ (l : List UInt8) (c : UInt8), (0 ≤ Lib.indexByte l c ↔ c ∈ l) ∧ -1 ≤ Lib.indexByte l c
  | [], c => by simp [Lib.indexByte]
  | b :: l, c => by
    obtain ⟨ih, ih2⟩ := index_mem l c
    unfold Lib.indexByte
    by_cases h : (b == c) = true
    · have : b = c := by simpa using h
      subst this; simp
    · have hne : c ≠ b := fun e => h (by simp [e])
      rw [if_neg h]
      by_cases h2 : (Lib.indexByte l c == -1) = true
      · have h3 : Lib.indexByte l c = -1 := by simpa using h2
        rw [if_pos h2]
        have : c ∉ l := fun hm => by have := ih.2 hm; omega
        simp [this, hne]
      · have h3 : Lib.indexByte l c ≠ -1 := by simpa using h2
        rw [if_neg h2]
        have : c ∈ l := ih.1 (by omega)
        simp [this]; omega
theorem lex_sign_is (c : UInt8) (W : World) :
    Calls Tryz.prog 35 #[.string ⟨#[61, 43, 40, 41, 91, 93, 123, 125, 44, 58, 59]⟩, .int .u8 c.toNat] W fun e w' => e = .returned (.int .i64 (Lib.indexByte signs c)) ∧ W = w' := by
  refine (Tryz.strings_IndexByte ⟨#[61, 43, 40, 41, 91, 93, 123, 125, 44, 58, 59]⟩ c.toNat W).mono ?_
  rintro e w' ⟨rfl, rfl⟩
  have : ((c.toNat : Int).toNat.toUInt8) = c := by simp
  exact ⟨by rw [this]; rfl, rfl⟩
abbrev tokW (w : World) : World := w.alloc (.cells #[.int .i64 0, .string ⟨#[]⟩, .int .i64 0, .int .i64 0] 35)
theorem tok_below {w w2 : World} (hb : Below (w.heap.size + 1) (w.alloc (.cells #[.int .i64 0, .string ⟨#[]⟩, .int .i64 0, .int .i64 0] 35)) w2) :
    Four w2 w.heap.size (.int .i64 0) (.string ⟨#[]⟩) (.int .i64 0) (.int .i64 0) ∧ Free w2 w.heap.size ∧ Below w.heap.size w w2 ∧ w.heap.size < w2.heap.size := by
  have hb' : Below (w.alloc (.cells #[.int .i64 0, .string ⟨#[]⟩, .int .i64 0, .int .i64 0] 35)).heap.size (w.alloc (.cells #[.int .i64 0, .string ⟨#[]⟩, .int .i64 0, .int .i64 0] 35)) w2 := hb.mono (by simp)
  exact ⟨four_below (four_new w _ _ _ _ _ _) hb', free_below (free_new w _ _) (by simp) hb', ((Below.refl w.heap.size w).alloc (Nat.le_refl _) _).trans (hb'.mono (by simp)), Nat.lt_of_lt_of_le (by simp) hb'.size⟩
set_option maxHeartbeats 1000000
theorem next_gap (c : UInt8) (r : List UInt8) (hs : (c :: r).length ≤ 1000000000000) (h1 : isGap c = true) (w : World) :
    Calls Tryz.prog 13 #[.string (bs (c :: r))] w (TokRet 0 [] (runL isGap (c :: r)) 0 w) := by
  have hpos : 0 < (c :: r).length := by simp
  have hG := hid (gap_tells.is c true h1)
  have hR := hid (run_gap (c :: r) hs)
  clear h1
  go_enter Tryz.func13, Tryz.ntmps13
  go_wp2_with fail
  refine (hG.out _).mono ?_
  rintro e wx ⟨rfl, rfl⟩
  go_wp2_with fail
  refine (hR.out _).mono ?_
  rintro e wx ⟨rfl, rfl⟩
  go_wp2_with fail
  exact bodyPost_ret (next_res (k := 0) (t := []) (l := 0) (c := 0) rfl rfl rfl (four_new w _ _ _ _ _ _)) rfl ⟨rfl, (Below.refl _ _).alloc (Nat.le_refl _) _⟩
theorem next_rem (c : UInt8) (r : List UInt8) (hs : (c :: r).length ≤ 1000000000000) (h1 : isGap c = false) (h2 : c.toNat = 35) (w : World) :
    Calls Tryz.prog 13 #[.string (bs (c :: r))] w (TokRet 0 [] (runL notLine (c :: r)) 0 w) := by
  have hpos : 0 < (c :: r).length := by simp
  have hG := hid (gap_tells.is c false h1)
  have hR := hid (run_line (c :: r) hs)
  have q2 : ((c.toNat : Int) == 35) = true := eqT (by omega)
  clear h1 h2
  go_enter Tryz.func13, Tryz.ntmps13
  go_wp2_with fail
  refine (hG.out _).mono ?_
  rintro e wx ⟨rfl, rfl⟩
  go_wp2_with fail
  refine (hR.out _).mono ?_
  rintro e wx ⟨rfl, rfl⟩
  go_wp2_with fail
  exact bodyPost_ret (next_res (k := 0) (t := []) (l := 0) (c := 0) rfl rfl rfl (four_new w _ _ _ _ _ _)) rfl ⟨rfl, (Below.refl _ _).alloc (Nat.le_refl _) _⟩
theorem next_word (c : UInt8) (r : List UInt8) (hs : (c :: r).length ≤ 1000000000000) (h1 : isGap c = false) (h2 : c.toNat ≠ 35) (h3 : isLet c = true) (w : World) :
    Calls Tryz.prog 13 #[.string (bs (c :: r))] w (TokRet 1 ((c :: r).take (runL isWord (c :: r))) (runL isWord (c :: r)) 0 w) := by
  have hpos : 0 < (c :: r).length := by simp
  have hG := hid (gap_tells.is c false h1)
  have hL := hid (letter_tells.is c true h3)
  have hR := hid (run_word (c :: r) hs)
  have q2 : ((c.toNat : Int) == 35) = false := eqF (by omega)
  have hle := run_le isWord (c :: r)
  generalize runL isWord (c :: r) = n at *
  have hle2 : (n : Int) ≤ (r.length : Int) + 1 := by simp at hle; omega
  have hle3 : n ≤ r.length + 1 := by simp at hle; omega
  clear h1 h2 h3
  go_enter Tryz.func13, Tryz.ntmps13
  go_wp2_with fail
  refine (hG.out _).mono ?_
  rintro e wx ⟨rfl, rfl⟩
  go_wp2_with fail
  refine (hL.out _).mono ?_
  rintro e wx ⟨rfl, rfl⟩
  go_wp2_with fail
  refine (hR.out _).mono ?_
  rintro e wx ⟨rfl, rfl⟩
  go_wp2_with fail
  exact bodyPost_ret (next_res (k := 1) (t := (c :: r).take n) (l := 0) (c := 0) rfl rfl rfl (four_new w _ _ _ _ _ _)) rfl ⟨rfl, (Below.refl _ _).alloc (Nat.le_refl _) _⟩
theorem next_num (c : UInt8) (r : List UInt8) (hs : (c :: r).length ≤ 1000000000000) (h1 : isGap c = false) (h2 : c.toNat ≠ 35) (h3 : isLet c = false) (h4 : isDig c = true) (k : Nat) (t : List UInt8) (n e : Nat) (hp : numP (c :: r) = (k, t, n, e)) (w : World) (hr : RangeAt w) :
    Calls Tryz.prog 13 #[.string (bs (c :: r))] w (TokRet k t n e w) := by
  have hpos : 0 < (c :: r).length := by simp
  have hG := hid (gap_tells.is c false h1)
  have hL := hid (letter_tells.is c false h3)
  have hD := hid (digit_tells.is c true h4)
  have q2 : ((c.toNat : Int) == 35) = false := eqF (by omega)
  have hN := hid (number_any (c :: r) hs (by rw [run_cons h4]; omega) k t n e hp _ (hr.below ((Below.refl w.heap.size w).alloc (Nat.le_refl _) (.cells #[.int .i64 0, .string ⟨#[]⟩, .int .i64 0, .int .i64 0] 35))))
  unfold TokRet at hN
  clear h1 h2 h3 h4 hp
  go_enter Tryz.func13, Tryz.ntmps13
  go_wp2_with fail
  refine (hG.out _).mono ?_
  rintro e wx ⟨rfl, rfl⟩
  go_wp2_with fail
  refine (hL.out _).mono ?_
  rintro e wx ⟨rfl, rfl⟩
  go_wp2_with fail
  refine (hD.out _).mono ?_
  rintro e wx ⟨rfl, rfl⟩
  go_wp2_with fail
  refine hN.out.mono ?_
  rintro e wy ⟨rfl, hb⟩
  obtain ⟨hf, hfr, hbx, hlt⟩ := tok_below (hb.mono (by simp))
  have Hf := hid hf
  obtain ⟨k0, k1, k2, k3⟩ := hf
  have g0 := hfr 0
  have g1 := hfr 1
  have g2 := hfr 2
  have g3 := hfr 3
  clear hb hfr
  unfold tokV
  go_wp2_with fail
  exact bodyPost_ret (next_res (k := k) (t := t) (l := 0) (c := 0) rfl rfl rfl (four_set Hf.out _ _ _ _)) rfl ⟨rfl, below_four hbx (Nat.le_refl _) _ _ _ _⟩
theorem next_text (c : UInt8) (r : List UInt8) (hs : (c :: r).length ≤ 1000000000000) (h1 : isGap c = false) (h2 : c.toNat ≠ 35) (h3 : isLet c = false) (h4 : isDig c = false) (h5 : c.toNat = 34) (t : List UInt8) (n : Nat) (hq : quotedR (c :: r) = (t, n)) (hn : 0 < n) (w : World) :
    Calls Tryz.prog 13 #[.string (bs (c :: r))] w (TokRet 3 t n 0 w) := by
  have hpos : 0 < (c :: r).length := by simp
  have hG := hid (gap_tells.is c false h1)
  have hL := hid (letter_tells.is c false h3)
  have hD := hid (digit_tells.is c false h4)
  have q2 : ((c.toNat : Int) == 35) = false := eqF (by omega)
  have q5 : ((c.toNat : Int) == 34) = true := eqT (by omega)
  have hQ := hid (quoted_any (c :: r) hs t n hq)
  have hn1 : (0 : Int) < (n : Int) := by omega
  clear h1 h2 h3 h4 h5 hq
  go_enter Tryz.func13, Tryz.ntmps13
  go_wp2_with fail
  refine (hG.out _).mono ?_
  rintro e wx ⟨rfl, rfl⟩
  go_wp2_with fail
  refine (hL.out _).mono ?_
  rintro e wx ⟨rfl, rfl⟩
  go_wp2_with fail
  refine (hD.out _).mono ?_
  rintro e wx ⟨rfl, rfl⟩
  go_wp2_with fail
  refine (hQ.out _).mono ?_
  rintro e wy ⟨rfl, hb⟩
  obtain ⟨hf, hfr, hbx, hlt⟩ := tok_below (hb.mono (by simp))
  have Hf := hid hf
  obtain ⟨k0, k1, k2, k3⟩ := hf
  have g0 := hfr 0
  have g1 := hfr 1
  have g2 := hfr 2
  have g3 := hfr 3
  clear hb hfr
  go_wp2_with fail
  exact bodyPost_ret (next_res (k := 3) (t := t) (l := 0) (c := 0) rfl rfl rfl (four_set Hf.out _ _ _ _)) rfl ⟨rfl, below_four hbx (Nat.le_refl _) _ _ _ _⟩
theorem next_notext (c : UInt8) (r : List UInt8) (hs : (c :: r).length ≤ 1000000000000) (h1 : isGap c = false) (h2 : c.toNat ≠ 35) (h3 : isLet c = false) (h4 : isDig c = false) (h5 : c.toNat = 34) (hq : quotedR (c :: r) = ([], 0)) (w : World) :
    Calls Tryz.prog 13 #[.string (bs (c :: r))] w (TokRet 0 [] 0 3 w) := by
  have hpos : 0 < (c :: r).length := by simp
  have hG := hid (gap_tells.is c false h1)
  have hL := hid (letter_tells.is c false h3)
  have hD := hid (digit_tells.is c false h4)
  have q2 : ((c.toNat : Int) == 35) = false := eqF (by omega)
  have q5 : ((c.toNat : Int) == 34) = true := eqT (by omega)
  have hQ := hid (quoted_any (c :: r) hs [] 0 hq)
  clear h1 h2 h3 h4 h5 hq
  go_enter Tryz.func13, Tryz.ntmps13
  go_wp2_with fail
  refine (hG.out _).mono ?_
  rintro e wx ⟨rfl, rfl⟩
  go_wp2_with fail
  refine (hL.out _).mono ?_
  rintro e wx ⟨rfl, rfl⟩
  go_wp2_with fail
  refine (hD.out _).mono ?_
  rintro e wx ⟨rfl, rfl⟩
  go_wp2_with fail
  refine (hQ.out _).mono ?_
  rintro e wy ⟨rfl, hb⟩
  obtain ⟨hf, hfr, hbx, hlt⟩ := tok_below (hb.mono (by simp))
  have Hf := hid hf
  obtain ⟨k0, k1, k2, k3⟩ := hf
  have g0 := hfr 0
  have g1 := hfr 1
  have g2 := hfr 2
  have g3 := hfr 3
  clear hb hfr
  go_wp2_with fail
  exact bodyPost_ret (next_res (k := 0) (t := []) (l := 0) (c := 0) rfl rfl rfl (four_set Hf.out _ _ _ _)) rfl ⟨rfl, below_four hbx (Nat.le_refl _) _ _ _ _⟩
theorem next_eqeq (c : UInt8) (r : List UInt8) (hs : (c :: r).length ≤ 1000000000000) (h1 : isGap c = false) (h2 : c.toNat ≠ 35) (h3 : isLet c = false) (h4 : isDig c = false) (h5 : c.toNat ≠ 34) (h6 : c.toNat = 61) (h7 : r.head? = some 61) (w : World) :
    Calls Tryz.prog 13 #[.string (bs (c :: r))] w (TokRet 4 ((c :: r).take 2) 2 0 w) := by
  have hpos : 0 < (c :: r).length := by simp
  have hG := hid (gap_tells.is c false h1)
  have hL := hid (letter_tells.is c false h3)
  have hD := hid (digit_tells.is c false h4)
  have q2 : ((c.toNat : Int) == 35) = false := eqF (by omega)
  have q5 : ((c.toNat : Int) == 34) = false := eqF (by omega)
  have hP := hid (pre_is c r 61 true (by simp [h6, h7]))
  have h2l : 1 ≤ r.length := by cases r with | nil => simp at h7 | cons d r => simp
  have h2m : (2 : Int) ≤ (r.length : Int) + 1 := by omega
  have h2n : 2 ≤ r.length + 1 := by omega
  clear h1 h2 h3 h4 h5 h6 h7
  go_enter Tryz.func13, Tryz.ntmps13
  go_wp2_with fail
  refine (hG.out _).mono ?_
  rintro e wx ⟨rfl, rfl⟩
  go_wp2_with fail
  refine (hL.out _).mono ?_
  rintro e wx ⟨rfl, rfl⟩
  go_wp2_with fail
  refine (hD.out _).mono ?_
  rintro e wx ⟨rfl, rfl⟩
  go_wp2_with fail
  refine (hP.out _).mono ?_
  rintro e wx ⟨rfl, rfl⟩
  go_wp2_with fail
  exact bodyPost_ret (next_res (k := 4) (t := (c :: r).take 2) (l := 0) (c := 0) rfl rfl rfl (four_new w _ _ _ _ _ _)) rfl ⟨rfl, (Below.refl _ _).alloc (Nat.le_refl _) _⟩
theorem next_noteq (c : UInt8) (r : List UInt8) (hs : (c :: r).length ≤ 1000000000000) (h1 : isGap c = false) (h2 : c.toNat ≠ 35) (h3 : isLet c = false) (h4 : isDig c = false) (h5 : c.toNat ≠ 34) (h6 : c.toNat = 33) (h7 : r.head? = some 61) (w : World) :
    Calls Tryz.prog 13 #[.string (bs (c :: r))] w (TokRet 4 ((c :: r).take 2) 2 0 w) := by
  have hpos : 0 < (c :: r).length := by simp
  have hG := hid (gap_tells.is c false h1)
  have hL := hid (letter_tells.is c false h3)
  have hD := hid (digit_tells.is c false h4)
  have q2 : ((c.toNat : Int) == 35) = false := eqF (by omega)
  have q5 : ((c.toNat : Int) == 34) = false := eqF (by omega)
  have hP := hid (pre_is c r 61 false (by simp [h6]))
  have hP2 := hid (pre_is c r 33 true (by simp [h6, h7]))
  have h2l : 1 ≤ r.length := by cases r with | nil => simp at h7 | cons d r => simp
  have h2m : (2 : Int) ≤ (r.length : Int) + 1 := by omega
  have h2n : 2 ≤ r.length + 1 := by omega
  clear h1 h2 h3 h4 h5 h6 h7
  go_enter Tryz.func13, Tryz.ntmps13
  go_wp2_with fail
  refine (hG.out _).mono ?_
  rintro e wx ⟨rfl, rfl⟩
  go_wp2_with fail
  refine (hL.out _).mono ?_
  rintro e wx ⟨rfl, rfl⟩
  go_wp2_with fail
  refine (hD.out _).mono ?_
  rintro e wx ⟨rfl, rfl⟩
  go_wp2_with fail
  refine (hP.out _).mono ?_
  rintro e wx ⟨rfl, rfl⟩
  go_wp2_with fail
  refine (hP2.out _).mono ?_
  rintro e wx ⟨rfl, rfl⟩
  go_wp2_with fail
  exact bodyPost_ret (next_res (k := 4) (t := (c :: r).take 2) (l := 0) (c := 0) rfl rfl rfl (four_new w _ _ _ _ _ _)) rfl ⟨rfl, (Below.refl _ _).alloc (Nat.le_refl _) _⟩
theorem next_sign (c : UInt8) (r : List UInt8) (hs : (c :: r).length ≤ 1000000000000) (h1 : isGap c = false) (h2 : c.toNat ≠ 35) (h3 : isLet c = false) (h4 : isDig c = false) (h5 : c.toNat ≠ 34) (h6 : ¬ ((c.toNat = 61 ∨ c.toNat = 33) ∧ r.head? = some 61)) (h7 : c ∈ signs) (w : World) :
    Calls Tryz.prog 13 #[.string (bs (c :: r))] w (TokRet 4 [c] 1 0 w) := by
  have hpos : 0 < (c :: r).length := by simp
  have hG := hid (gap_tells.is c false h1)
  have hL := hid (letter_tells.is c false h3)
  have hD := hid (digit_tells.is c false h4)
  have q2 : ((c.toNat : Int) == 35) = false := eqF (by omega)
  have q5 : ((c.toNat : Int) == 34) = false := eqF (by omega)
  have hP := hid (pre_is c r 61 false (by rw [Bool.and_eq_false_iff]; by_cases h : c.toNat = 61; right; simpa using fun e => h6 ⟨.inl h, e⟩; left; simpa using h))
  have hP2 := hid (pre_is c r 33 false (by rw [Bool.and_eq_false_iff]; by_cases h : c.toNat = 33; right; simpa using fun e => h6 ⟨.inr h, e⟩; left; simpa using h))
  have hS := hid (lex_sign_is c)
  have hv : 0 ≤ Lib.indexByte signs c := (index_mem signs c).1.2 h7
  generalize Lib.indexByte signs c = v at *
  clear h1 h2 h3 h4 h5 h6 h7
  go_enter Tryz.func13, Tryz.ntmps13
  go_wp2_with fail
  refine (hG.out _).mono ?_
  rintro e wx ⟨rfl, rfl⟩
  go_wp2_with fail
  refine (hL.out _).mono ?_
  rintro e wx ⟨rfl, rfl⟩
  go_wp2_with fail
  refine (hD.out _).mono ?_
  rintro e wx ⟨rfl, rfl⟩
  go_wp2_with fail
  refine (hP.out _).mono ?_
  rintro e wx ⟨rfl, rfl⟩
  go_wp2_with fail
  refine (hP2.out _).mono ?_
  rintro e wx ⟨rfl, rfl⟩
  go_wp2_with fail
  refine (hS.out _).mono ?_
  rintro e wx ⟨rfl, rfl⟩
  go_wp2_with fail
  exact bodyPost_ret (next_res (k := 4) (t := [c]) (l := 0) (c := 0) rfl rfl rfl (four_new w _ _ _ _ _ _)) rfl ⟨rfl, (Below.refl _ _).alloc (Nat.le_refl _) _⟩
theorem next_none (c : UInt8) (r : List UInt8) (hs : (c :: r).length ≤ 1000000000000) (h1 : isGap c = false) (h2 : c.toNat ≠ 35) (h3 : isLet c = false) (h4 : isDig c = false) (h5 : c.toNat ≠ 34) (h6 : ¬ ((c.toNat = 61 ∨ c.toNat = 33) ∧ r.head? = some 61)) (h7 : c ∉ signs) (w : World) :
    Calls Tryz.prog 13 #[.string (bs (c :: r))] w (TokRet 0 [] 0 3 w) := by
  have hpos : 0 < (c :: r).length := by simp
  have hG := hid (gap_tells.is c false h1)
  have hL := hid (letter_tells.is c false h3)
  have hD := hid (digit_tells.is c false h4)
  have q2 : ((c.toNat : Int) == 35) = false := eqF (by omega)
  have q5 : ((c.toNat : Int) == 34) = false := eqF (by omega)
  have hP := hid (pre_is c r 61 false (by rw [Bool.and_eq_false_iff]; by_cases h : c.toNat = 61; right; simpa using fun e => h6 ⟨.inl h, e⟩; left; simpa using h))
  have hP2 := hid (pre_is c r 33 false (by rw [Bool.and_eq_false_iff]; by_cases h : c.toNat = 33; right; simpa using fun e => h6 ⟨.inr h, e⟩; left; simpa using h))
  have hS := hid (lex_sign_is c)
  have hv : ¬ 0 ≤ Lib.indexByte signs c := fun h => h7 ((index_mem signs c).1.1 h)
  generalize Lib.indexByte signs c = v at *
  clear h1 h2 h3 h4 h5 h6 h7
  go_enter Tryz.func13, Tryz.ntmps13
  go_wp2_with fail
  refine (hG.out _).mono ?_
  rintro e wx ⟨rfl, rfl⟩
  go_wp2_with fail
  refine (hL.out _).mono ?_
  rintro e wx ⟨rfl, rfl⟩
  go_wp2_with fail
  refine (hD.out _).mono ?_
  rintro e wx ⟨rfl, rfl⟩
  go_wp2_with fail
  refine (hP.out _).mono ?_
  rintro e wx ⟨rfl, rfl⟩
  go_wp2_with fail
  refine (hP2.out _).mono ?_
  rintro e wx ⟨rfl, rfl⟩
  go_wp2_with fail
  refine (hS.out _).mono ?_
  rintro e wx ⟨rfl, rfl⟩
  go_wp2_with fail
  exact bodyPost_ret (next_res (k := 0) (t := []) (l := 0) (c := 0) rfl rfl rfl (four_new w _ _ _ _ _ _)) rfl ⟨rfl, (Below.refl _ _).alloc (Nat.le_refl _) _⟩
theorem next_any (c : UInt8) (r : List UInt8) (hs : (c :: r).length ≤ 1000000000000) (k : Nat) (t : List UInt8) (n e : Nat) (hp : pieceP (c :: r) = (k, t, n, e)) (w : World) (hr : RangeAt w) :
    Calls Tryz.prog 13 #[.string (bs (c :: r))] w (TokRet k t n e w) := by
  unfold pieceP at hp
  simp only at hp
  cases h1 : isGap c with
  | true =>
    rw [if_pos h1] at hp; simp only [Prod.mk.injEq] at hp; obtain ⟨rfl, rfl, rfl, rfl⟩ := hp
    exact next_gap c r hs h1 w
  | false =>
  rw [if_neg (by rw [h1]; simp), piece_cons, if_neg (by rw [h1]; simp)] at hp
  by_cases h2 : c.toNat = 35
  · rw [if_pos h2] at hp; simp only [Prod.mk.injEq] at hp; obtain ⟨rfl, rfl, rfl, rfl⟩ := hp
    exact next_rem c r hs h1 h2 w
  rw [if_neg h2] at hp
  cases h3 : isLet c with
  | true =>
    rw [if_pos h3] at hp; simp only [Prod.mk.injEq] at hp; obtain ⟨rfl, rfl, rfl, rfl⟩ := hp
    exact next_word c r hs h1 h2 h3 w
  | false =>
  rw [if_neg (by rw [h3]; simp)] at hp
  cases h4 : isDig c with
  | true => rw [if_pos h4] at hp; exact next_num c r hs h1 h2 h3 h4 k t n e hp w hr
  | false =>
  rw [if_neg (by rw [h4]; simp)] at hp
  by_cases h5 : c.toNat = 34
  · rw [if_pos h5] at hp
    cases e2 : qGo r with
    | none =>
      rw [e2] at hp; simp only [Prod.mk.injEq] at hp; obtain ⟨rfl, rfl, rfl, rfl⟩ := hp
      exact next_notext c r hs h1 h2 h3 h4 h5 (by unfold quotedR; show (match qGo r with | none => _ | some x => _) = _; rw [e2]) w
    | some x =>
      rw [e2] at hp; simp only [Prod.mk.injEq] at hp; obtain ⟨rfl, rfl, rfl, rfl⟩ := hp
      exact next_text c r hs h1 h2 h3 h4 h5 x.1 (x.2 + 1) (by unfold quotedR; show (match qGo r with | none => _ | some x => _) = _; rw [e2]) (by omega) w
  rw [if_neg h5] at hp
  by_cases h6 : (c.toNat = 61 ∨ c.toNat = 33) ∧ r.head? = some 61
  · rw [if_pos h6] at hp; simp only [Prod.mk.injEq] at hp; obtain ⟨rfl, rfl, rfl, rfl⟩ := hp
    have e2 : (c :: r).take 2 = [c, 61] := by
      cases r with
      | nil => simp at h6
      | cons d r => have : d = 61 := by simpa using h6.2
                    subst this; rfl
    rw [← e2]
    rcases h6.1 with h | h
    · exact next_eqeq c r hs h1 h2 h3 h4 h5 h h6.2 w
    · exact next_noteq c r hs h1 h2 h3 h4 h5 h h6.2 w
  rw [if_neg h6] at hp
  by_cases h7 : c ∈ signs
  · rw [if_pos h7] at hp; simp only [Prod.mk.injEq] at hp; obtain ⟨rfl, rfl, rfl, rfl⟩ := hp
    exact next_sign c r hs h1 h2 h3 h4 h5 h6 h7 w
  · rw [if_neg h7] at hp; simp only [Prod.mk.injEq] at hp; obtain ⟨rfl, rfl, rfl, rfl⟩ := hp
    exact next_none c r hs h1 h2 h3 h4 h5 h6 h7 w
end Go.Proofs.YtijgcoedohhlnaaGreatDoor
