/- The walk of the document's First. -/
import Derived.Test.YtheomoamobcaeaaGreatDoorRefNumber
namespace Go.Proofs.YtheomoamobcaeaaGreatDoor
set_option maxRecDepth 100000
set_option linter.unusedVariables false
open Go.RowKit

theorem sne {c d : UInt8} (h : ¬ c = d) : ((d.toNat : Int) == (c.toNat : Int)) = false := eqF (fun e => h (UInt8.toNat_inj.1 (by omega)))
theorem seq {c d : UInt8} (h : c = d) : ((d.toNat : Int) == (c.toNat : Int)) = true := by subst h; exact eqT rfl
theorem pie_below {w w2 : World} (hb : Below (w.heap.size + 1) (w.alloc (.cells #[.int .i64 0, .string ⟨#[]⟩, .int .i64 0, .int .i64 0] 43)) w2) :
    Four w2 w.heap.size (.int .i64 0) (.string ⟨#[]⟩) (.int .i64 0) (.int .i64 0) ∧ Free w2 w.heap.size ∧ Below w.heap.size w w2 ∧ w.heap.size < w2.heap.size := by
  have hb' : Below (w.alloc (.cells #[.int .i64 0, .string ⟨#[]⟩, .int .i64 0, .int .i64 0] 43)).heap.size (w.alloc (.cells #[.int .i64 0, .string ⟨#[]⟩, .int .i64 0, .int .i64 0] 43)) w2 := hb.mono (by simp)
  exact ⟨four_below (four_new w _ _ _ _ _ _) hb', free_below (free_new w _ _) (by simp) hb', ((Below.refl w.heap.size w).alloc (Nat.le_refl _) _).trans (hb'.mono (by simp)), Nat.lt_of_lt_of_le (by simp) hb'.size⟩
set_option maxHeartbeats 2000000
theorem first_gap (c : UInt8) (r : List UInt8) (hs : (c :: r).length ≤ 1000000000000) (h1 : isGap c = true) (w : World) :
    Calls Tryz.prog 18 #[.string (bs (c :: r))] w (PieRet 0 [] 1 0 w) := by
  have hpos : 0 < (c :: r).length := by simp
  have hG := hid (rgap_any (c :: r) hpos hs 1 (by show (if isGap c = true then 1 else if c.toNat = 35 then runL notLine (c :: r) else 0) = _; rw [if_pos h1]))
  clear h1
  go_enter Tryz.func18, Tryz.ntmps18
  go_wp2_with fail
  refine (hG.out _).mono ?_
  rintro e wx ⟨rfl, rfl⟩
  go_wp2_with fail
  exact bodyPost_ret (rfirst_res (k := 0) (t := []) (n := 1) (e := 0) rfl (four_new w _ _ _ _ _ _)) rfl ⟨rfl, (Below.refl _ _).alloc (Nat.le_refl _) _⟩
theorem first_rem (c : UInt8) (r : List UInt8) (hs : (c :: r).length ≤ 1000000000000) (h1 : isGap c = false) (h2 : c.toNat = 35) (w : World) :
    Calls Tryz.prog 18 #[.string (bs (c :: r))] w (PieRet 0 [] (runL notLine (c :: r)) 0 w) := by
  have hpos : 0 < (c :: r).length := by simp
  have hG := hid (rgap_any (c :: r) hpos hs (runL notLine (c :: r)) (by show (if isGap c = true then 1 else if c.toNat = 35 then runL notLine (c :: r) else 0) = _; rw [if_neg (by rw [h1]; simp), if_pos h2]))
  have hn : (0 : Int) < (runL notLine (c :: r) : Int) := by rw [run_cons (by simp [notLine, h2])]; omega
  generalize runL notLine (c :: r) = n at *
  clear h1 h2
  go_enter Tryz.func18, Tryz.ntmps18
  go_wp2_with fail
  refine (hG.out _).mono ?_
  rintro e wx ⟨rfl, rfl⟩
  go_wp2_with fail
  exact bodyPost_ret (rfirst_res (k := 0) (t := []) (n := n) (e := 0) rfl (four_new w _ _ _ _ _ _)) rfl ⟨rfl, (Below.refl _ _).alloc (Nat.le_refl _) _⟩
theorem first_word (c : UInt8) (r : List UInt8) (hs : (c :: r).length ≤ 1000000000000) (h1 : isGap c = false) (h2 : c.toNat ≠ 35) (h3 : isLet c = true) (w : World) :
    Calls Tryz.prog 18 #[.string (bs (c :: r))] w (PieRet 1 ((c :: r).take (runL isWord (c :: r))) (runL isWord (c :: r)) 0 w) := by
  have hpos : 0 < (c :: r).length := by simp
  have hG := hid (rgap_any (c :: r) hpos hs 0 (by show (if isGap c = true then 1 else if c.toNat = 35 then runL notLine (c :: r) else 0) = _; rw [if_neg (by rw [h1]; simp), if_neg h2]))
  have hL := hid (rletter_tells.is c true h3)
  have hs0 : (c :: r)[0] = c := rfl
  generalize c :: r = s at *
  subst hs0
  clear h1 h2 h3
  go_enter Tryz.func18, Tryz.ntmps18
  go_wp2_with fail
  refine (hG.out _).mono ?_
  rintro e wx ⟨rfl, rfl⟩
  go_wp2_with fail
  refine (hL.out _).mono ?_
  rintro e wx ⟨rfl, rfl⟩
  go_wp2_with fail
  go_loop [4] (fun i => ∃ k : Nat, k ≤ s.length ∧ i = .int .i64 k ∧ Hid (runL isWord s = k + runL isWord (s.drop k))) (fun i => s.length - (intOf i).toNat)
  case atStart => exact ⟨0, by omega, rfl, hid (by simp)⟩
  case round =>
    obtain ⟨k, hk, rfl, HR⟩ := hrel
    by_cases hlt : k < s.length
    · cases hl : isLet s[k] with
      | true =>
        have HN : Hid (runL isWord s = (k + 1) + runL isWord (s.drop (k + 1))) := hid (by rw [HR.out, run_drop hlt (by simp [isWord, hl])])
        have HC := hid (rletter_tells.is s[k] true hl)
        clear hl HR
        go_wp2_with fail
        refine (HC.out _).mono ?_
        rintro e wx ⟨rfl, rfl⟩
        go_wp2_with fail
        go_round
        case rel => exact ⟨k + 1, by omega, by go_num, HN⟩
        case measure => simp [intOf]; omega
      | false =>
        have HC := hid (rletter_tells.is s[k] false hl)
        cases hd : isDig s[k] with
        | true =>
          have HN : Hid (runL isWord s = (k + 1) + runL isWord (s.drop (k + 1))) := hid (by rw [HR.out, run_drop hlt (by simp [isWord, hd])])
          have HD := hid (rdigit_tells.is s[k] true hd)
          clear hl hd HR
          go_wp2_with fail
          refine (HC.out _).mono ?_
          rintro e wx ⟨rfl, rfl⟩
          go_wp2_with fail
          refine (HD.out _).mono ?_
          rintro e wx ⟨rfl, rfl⟩
          go_wp2_with fail
          go_round
          case rel => exact ⟨k + 1, by omega, by go_num, HN⟩
          case measure => simp [intOf]; omega
        | false =>
          have HN : Hid (runL isWord s = k) := hid (by rw [HR.out, drop_at s k hlt, run_stop (by simp [isWord, hl, hd])]; rfl)
          have HD := hid (rdigit_tells.is s[k] false hd)
          clear hl hd HR
          go_wp2_with fail
          refine (HC.out _).mono ?_
          rintro e wx ⟨rfl, rfl⟩
          go_wp2_with fail
          refine (HD.out _).mono ?_
          rintro e wx ⟨rfl, rfl⟩
          go_wp2_with fail
          rw [HN.out]
          exact bodyPost_ret (rfirst_res (k := 1) (t := s.take k) (n := k) (e := 0) rfl (four_new w _ _ _ _ _ _)) rfl ⟨rfl, (Below.refl _ _).alloc (Nat.le_refl _) _⟩
    · have HN : Hid (runL isWord s = k) := hid (by rw [HR.out, List.drop_eq_nil_of_le (by omega)]; rfl)
      have hd : decide (k < s.length) = false := decide_eq_false hlt
      clear HR
      go_wp2_with fail
      rw [HN.out]
      exact bodyPost_ret (rfirst_res (k := 1) (t := s.take k) (n := k) (e := 0) rfl (four_new w _ _ _ _ _ _)) rfl ⟨rfl, (Below.refl _ _).alloc (Nat.le_refl _) _⟩
theorem first_num (c : UInt8) (r : List UInt8) (hs : (c :: r).length ≤ 1000000000000) (h1 : isGap c = false) (h2 : c.toNat ≠ 35) (h3 : isLet c = false) (h4 : isDig c = true) (k : Nat) (t : List UInt8) (n e : Nat) (hp : numP (c :: r) = (k, t, n, e)) (w : World) :
    Calls Tryz.prog 18 #[.string (bs (c :: r))] w (PieRet k t n e w) := by
  have hpos : 0 < (c :: r).length := by simp
  have hG := hid (rgap_any (c :: r) hpos hs 0 (by show (if isGap c = true then 1 else if c.toNat = 35 then runL notLine (c :: r) else 0) = _; rw [if_neg (by rw [h1]; simp), if_neg h2]))
  have hL := hid (rletter_tells.is c false h3)
  have hD := hid (rdigit_tells.is c true h4)
  have hN := hid (rnumber_any (c :: r) hs (by rw [run_cons h4]; omega) k t n e hp)
  unfold PieRet at hN
  clear h1 h2 h3 h4 hp
  go_enter Tryz.func18, Tryz.ntmps18
  go_wp2_with fail
  refine (hG.out _).mono ?_
  rintro e wx ⟨rfl, rfl⟩
  go_wp2_with fail
  refine (hL.out _).mono ?_
  rintro e wx ⟨rfl, rfl⟩
  go_wp2_with fail
  refine (hD.out _).mono ?_
  rintro e wx ⟨rfl, rfl⟩
  go_wp2_with fail
  refine (hN.out _).mono ?_
  rintro e wy ⟨rfl, hb⟩
  obtain ⟨hf, hfr, hbx, hlt⟩ := pie_below (hb.mono (by simp))
  have Hf := hid hf
  obtain ⟨k0, k1, k2, k3⟩ := hf
  have g0 := hfr 0
  have g1 := hfr 1
  have g2 := hfr 2
  have g3 := hfr 3
  clear hb hfr
  unfold pieV
  go_wp2_with fail
  exact bodyPost_ret (rfirst_res (k := k) (t := t) (n := n) (e := e) rfl (four_set Hf.out _ _ _ _)) rfl ⟨rfl, below_four hbx (Nat.le_refl _) _ _ _ _⟩
theorem first_text (c : UInt8) (r : List UInt8) (hs : (c :: r).length ≤ 1000000000000) (h1 : isGap c = false) (h2 : c.toNat ≠ 35) (h3 : isLet c = false) (h4 : isDig c = false) (h5 : c.toNat = 34) (k : Nat) (t : List UInt8) (n e : Nat) (hp : quotedP (c :: r) = (k, t, n, e)) (w : World) :
    Calls Tryz.prog 18 #[.string (bs (c :: r))] w (PieRet k t n e w) := by
  have hpos : 0 < (c :: r).length := by simp
  have hG := hid (rgap_any (c :: r) hpos hs 0 (by show (if isGap c = true then 1 else if c.toNat = 35 then runL notLine (c :: r) else 0) = _; rw [if_neg (by rw [h1]; simp), if_neg h2]))
  have hL := hid (rletter_tells.is c false h3)
  have hD := hid (rdigit_tells.is c false h4)
  have q5 : ((c.toNat : Int) == 34) = true := eqT (by omega)
  have hN := hid (rquoted_any (c :: r) hs k t n e hp)
  unfold PieRet at hN
  clear h1 h2 h3 h4 h5 hp
  go_enter Tryz.func18, Tryz.ntmps18
  go_wp2_with fail
  refine (hG.out _).mono ?_
  rintro e wx ⟨rfl, rfl⟩
  go_wp2_with fail
  refine (hL.out _).mono ?_
  rintro e wx ⟨rfl, rfl⟩
  go_wp2_with fail
  refine (hD.out _).mono ?_
  rintro e wx ⟨rfl, rfl⟩
  go_wp2_with fail
  refine (hN.out _).mono ?_
  rintro e wy ⟨rfl, hb⟩
  obtain ⟨hf, hfr, hbx, hlt⟩ := pie_below (hb.mono (by simp))
  have Hf := hid hf
  obtain ⟨k0, k1, k2, k3⟩ := hf
  have g0 := hfr 0
  have g1 := hfr 1
  have g2 := hfr 2
  have g3 := hfr 3
  clear hb hfr
  unfold pieV
  go_wp2_with fail
  exact bodyPost_ret (rfirst_res (k := k) (t := t) (n := n) (e := e) rfl (four_set Hf.out _ _ _ _)) rfl ⟨rfl, below_four hbx (Nat.le_refl _) _ _ _ _⟩
theorem first_eqeq (c : UInt8) (r : List UInt8) (hs : (c :: r).length ≤ 1000000000000) (h1 : isGap c = false) (h2 : c.toNat ≠ 35) (h3 : isLet c = false) (h4 : isDig c = false) (h5 : c.toNat ≠ 34) (h6 : c.toNat = 61) (r2 : List UInt8) (h7 : r = 61 :: r2) (w : World) :
    Calls Tryz.prog 18 #[.string (bs (c :: r))] w (PieRet 4 ((c :: r).take 2) 2 0 w) := by
  have hpos : 0 < (c :: r).length := by simp
  have hG := hid (rgap_any (c :: r) hpos hs 0 (by show (if isGap c = true then 1 else if c.toNat = 35 then runL notLine (c :: r) else 0) = _; rw [if_neg (by rw [h1]; simp), if_neg h2]))
  have hL := hid (rletter_tells.is c false h3)
  have hD := hid (rdigit_tells.is c false h4)
  have q5 : ((c.toNat : Int) == 34) = false := eqF (by omega)
  have q6 : ((c.toNat : Int) == 61) = true := eqT (by omega)
  subst h7
  have p1 : (0 : Int) < (r2.length : Int) + 1 + 1 := by omega
  have p2 : (1 : Int) < (r2.length : Int) + 1 + 1 := by omega
  have p3 : 0 < r2.length + 1 + 1 := by omega
  have p4 : 1 < r2.length + 1 + 1 := by omega
  have p5 : 2 ≤ r2.length + 1 + 1 := by omega
  have p6 : (2 : Int) ≤ (r2.length : Int) + 1 + 1 := by omega
  clear h1 h2 h3 h4 h5 h6
  go_enter Tryz.func18, Tryz.ntmps18
  go_wp2_with fail
  refine (hG.out _).mono ?_
  rintro e wx ⟨rfl, rfl⟩
  go_wp2_with fail
  refine (hL.out _).mono ?_
  rintro e wx ⟨rfl, rfl⟩
  go_wp2_with fail
  refine (hD.out _).mono ?_
  rintro e wx ⟨rfl, rfl⟩
  go_wp2_with fail
  exact bodyPost_ret (rfirst_res (k := 4) (t := (c :: 61 :: r2).take 2) (n := 2) (e := 0) rfl (four_new w _ _ _ _ _ _)) rfl ⟨rfl, (Below.refl _ _).alloc (Nat.le_refl _) _⟩
theorem first_noteq (c : UInt8) (r : List UInt8) (hs : (c :: r).length ≤ 1000000000000) (h1 : isGap c = false) (h2 : c.toNat ≠ 35) (h3 : isLet c = false) (h4 : isDig c = false) (h5 : c.toNat ≠ 34) (h6 : c.toNat = 33) (r2 : List UInt8) (h7 : r = 61 :: r2) (w : World) :
    Calls Tryz.prog 18 #[.string (bs (c :: r))] w (PieRet 4 ((c :: r).take 2) 2 0 w) := by
  have hpos : 0 < (c :: r).length := by simp
  have hG := hid (rgap_any (c :: r) hpos hs 0 (by show (if isGap c = true then 1 else if c.toNat = 35 then runL notLine (c :: r) else 0) = _; rw [if_neg (by rw [h1]; simp), if_neg h2]))
  have hL := hid (rletter_tells.is c false h3)
  have hD := hid (rdigit_tells.is c false h4)
  have q5 : ((c.toNat : Int) == 34) = false := eqF (by omega)
  have q6 : ((c.toNat : Int) == 33) = true := eqT (by omega)
  have q7 : ((c.toNat : Int) == 61) = false := eqF (by omega)
  subst h7
  have p1 : (0 : Int) < (r2.length : Int) + 1 + 1 := by omega
  have p2 : (1 : Int) < (r2.length : Int) + 1 + 1 := by omega
  have p3 : 0 < r2.length + 1 + 1 := by omega
  have p4 : 1 < r2.length + 1 + 1 := by omega
  have p5 : 2 ≤ r2.length + 1 + 1 := by omega
  have p6 : (2 : Int) ≤ (r2.length : Int) + 1 + 1 := by omega
  clear h1 h2 h3 h4 h5 h6
  go_enter Tryz.func18, Tryz.ntmps18
  go_wp2_with fail
  refine (hG.out _).mono ?_
  rintro e wx ⟨rfl, rfl⟩
  go_wp2_with fail
  refine (hL.out _).mono ?_
  rintro e wx ⟨rfl, rfl⟩
  go_wp2_with fail
  refine (hD.out _).mono ?_
  rintro e wx ⟨rfl, rfl⟩
  go_wp2_with fail
  exact bodyPost_ret (rfirst_res (k := 4) (t := (c :: 61 :: r2).take 2) (n := 2) (e := 0) rfl (four_new w _ _ _ _ _ _)) rfl ⟨rfl, (Below.refl _ _).alloc (Nat.le_refl _) _⟩
theorem first_sign_one (c : UInt8) (r : List UInt8) (hs : (c :: r).length ≤ 1000000000000) (h1 : isGap c = false) (h2 : c.toNat ≠ 35) (h3 : isLet c = false) (h4 : isDig c = false) (h5 : c.toNat ≠ 34) (h6 : r = []) (k0 : Nat) (t0 : List UInt8) (n0 e0 : Nat) (hp : (if c ∈ signs then ((4, [c], 1, 0) : Nat × List UInt8 × Nat × Nat) else (0, [], 0, 3)) = (k0, t0, n0, e0)) (w : World) :
    Calls Tryz.prog 18 #[.string (bs (c :: r))] w (PieRet k0 t0 n0 e0 w) := by
  have hpos : 0 < (c :: r).length := by simp
  have hG := hid (rgap_any (c :: r) hpos hs 0 (by show (if isGap c = true then 1 else if c.toNat = 35 then runL notLine (c :: r) else 0) = _; rw [if_neg (by rw [h1]; simp), if_neg h2]))
  have hL := hid (rletter_tells.is c false h3)
  have hD := hid (rdigit_tells.is c false h4)
  have q5 : ((c.toNat : Int) == 34) = false := eqF (by omega)
  subst h6
  have HP := hid hp
  have Hf := hid (four_new w (.int .i64 0) (.string ⟨#[]⟩) (.int .i64 0) (.int .i64 0) 43 (0, 0))
  have Hr := hid (free_new w #[.int .i64 0, .string ⟨#[]⟩, .int .i64 0, .int .i64 0] 43)
  clear h1 h2 h3 h4 h5 hp
  go_enter Tryz.func18, Tryz.ntmps18
  go_wp2_with fail
  refine (hG.out _).mono ?_
  rintro e wx ⟨rfl, rfl⟩
  go_wp2_with fail
  refine (hL.out _).mono ?_
  rintro e wx ⟨rfl, rfl⟩
  go_wp2_with fail
  refine (hD.out _).mono ?_
  rintro e wx ⟨rfl, rfl⟩
  go_wp2_with fail
  go_loopw [6] (fun i wr => ∃ k : Nat, k ≤ 11 ∧ i = .int .i64 k ∧ Hid (∀ j (h : j < signs.length), j < k → signs[j] ≠ c) ∧ Hid (Drawn (w.alloc (.cells #[.int .i64 0, .string ⟨#[]⟩, .int .i64 0, .int .i64 0] 43)) wr)) (fun i _ => 11 - (intOf i).toNat)
  case atStart => exact ⟨0, by omega, rfl, hid (fun j _ h => by omega), hid (Drawn.refl _)⟩
  case round =>
    obtain ⟨k, hk, rfl, HJ, HD⟩ := hrel
    have hdb : Below (w.heap.size + 1) (w.alloc (.cells #[.int .i64 0, .string ⟨#[]⟩, .int .i64 0, .int .i64 0] 43)) wr := HD.out.below
    obtain ⟨hf, hfr, hbx, hsz⟩ := pie_below hdb
    have HF := hid hf
    obtain ⟨x0, x1, x2, x3⟩ := hf
    have g0 := hfr 0
    have g1 := hfr 1
    have g2 := hfr 2
    have g3 := hfr 3
    clear hfr hdb
    by_cases hlt : k < 11
    · have hks : k < signs.length := hlt
      have hk2 : (k : Int) < 11 := by omega
      by_cases hc : signs[k] = c
      · have e1 := HP.out
        have hm : c ∈ signs := by rw [← hc]; exact List.getElem_mem _
        rw [if_pos hm] at e1
        simp only [Prod.mk.injEq] at e1
        obtain ⟨rfl, rfl, rfl, rfl⟩ := e1
        obtain ⟨d, hdd⟩ := HD.out
        subst hdd
        have hq : ((((⟨#[61, 43, 40, 41, 91, 93, 123, 125, 44, 58, 59]⟩ : ByteArray)[k]'hlt).toNat : Int) == (c.toNat : Int)) = true := seq (d := signs[k]) hc.symm
        clear HP HJ HD hm hk hc
        go_wp2_with fail
        any_goals go_quiet (fail)
        any_goals go_wp2_with fail
        exact bodyPost_ret (rfirst_res (k := 4) (t := [c]) (n := 1) (e := 0) rfl (four_set HF.out _ _ _ _)) rfl ⟨rfl, below_four (((Below.refl _ _).alloc (Nat.le_refl _) _).trans (Drawn.below ⟨_, rfl⟩)) (Nat.le_refl _) _ _ _ _⟩
      · have HJ2 : Hid (∀ j (h : j < signs.length), j < k + 1 → signs[j] ≠ c) := hid (fun j hjs hj => by
          rcases Nat.lt_or_eq_of_le (Nat.le_of_lt_succ hj) with h | h
          · exact HJ.out j hjs h
          · subst h; exact hc)
        obtain ⟨d, hdd⟩ := HD.out
        subst hdd
        have hq : ((((⟨#[61, 43, 40, 41, 91, 93, 123, 125, 44, 58, 59]⟩ : ByteArray)[k]'hlt).toNat : Int) == (c.toNat : Int)) = false := sne (d := signs[k]) (fun e => hc e.symm)
        clear HJ HD hk hc HF
        go_wp2_with fail
        any_goals go_quiet (fail)
        any_goals go_wp2_with fail
        exact ⟨⟨k + 1, by omega, by go_num, HJ2, hid ⟨_, rfl⟩⟩, by simp [intOf]; omega⟩
    · obtain rfl : k = 11 := by omega
      have e1 := HP.out
      have hm : c ∉ signs := fun hm => by
        obtain ⟨j, hj, he⟩ := List.getElem_of_mem hm
        exact HJ.out j hj hj he
      rw [if_neg hm] at e1
      simp only [Prod.mk.injEq] at e1
      obtain ⟨rfl, rfl, rfl, rfl⟩ := e1
      clear HP HJ hm hk hlt
      go_wp2_with fail
      exact bodyPost_ret (rfirst_res (k := 0) (t := []) (n := 0) (e := 3) rfl (four_set HF.out _ _ _ _)) rfl ⟨rfl, below_four hbx (Nat.le_refl _) _ _ _ _⟩
theorem first_sign_second (c : UInt8) (r : List UInt8) (hs : (c :: r).length ≤ 1000000000000) (h1 : isGap c = false) (h2 : c.toNat ≠ 35) (h3 : isLet c = false) (h4 : isDig c = false) (h5 : c.toNat ≠ 34) (d : UInt8) (r2 : List UInt8) (h6 : r = d :: r2) (h7 : d.toNat ≠ 61) (k0 : Nat) (t0 : List UInt8) (n0 e0 : Nat) (hp : (if c ∈ signs then ((4, [c], 1, 0) : Nat × List UInt8 × Nat × Nat) else (0, [], 0, 3)) = (k0, t0, n0, e0)) (w : World) :
    Calls Tryz.prog 18 #[.string (bs (c :: r))] w (PieRet k0 t0 n0 e0 w) := by
  have hpos : 0 < (c :: r).length := by simp
  have hG := hid (rgap_any (c :: r) hpos hs 0 (by show (if isGap c = true then 1 else if c.toNat = 35 then runL notLine (c :: r) else 0) = _; rw [if_neg (by rw [h1]; simp), if_neg h2]))
  have hL := hid (rletter_tells.is c false h3)
  have hD := hid (rdigit_tells.is c false h4)
  have q5 : ((c.toNat : Int) == 34) = false := eqF (by omega)
  have q7 : ((d.toNat : Int) == 61) = false := eqF (by omega)
  subst h6
  clear h7
  have p1 : (0 : Int) < (r2.length : Int) + 1 + 1 := by omega
  have p2 : (1 : Int) < (r2.length : Int) + 1 + 1 := by omega
  have p3 : 0 < r2.length + 1 + 1 := by omega
  have p4 : 1 < r2.length + 1 + 1 := by omega
  have p5 : 2 ≤ r2.length + 1 + 1 := by omega
  have p6 : (2 : Int) ≤ (r2.length : Int) + 1 + 1 := by omega
  have HP := hid hp
  have Hf := hid (four_new w (.int .i64 0) (.string ⟨#[]⟩) (.int .i64 0) (.int .i64 0) 43 (0, 0))
  have Hr := hid (free_new w #[.int .i64 0, .string ⟨#[]⟩, .int .i64 0, .int .i64 0] 43)
  clear h1 h2 h3 h4 h5 hp
  go_enter Tryz.func18, Tryz.ntmps18
  go_wp2_with fail
  refine (hG.out _).mono ?_
  rintro e wx ⟨rfl, rfl⟩
  go_wp2_with fail
  refine (hL.out _).mono ?_
  rintro e wx ⟨rfl, rfl⟩
  go_wp2_with fail
  refine (hD.out _).mono ?_
  rintro e wx ⟨rfl, rfl⟩
  go_wp2_with fail
  go_loopw [6] (fun i wr => ∃ k : Nat, k ≤ 11 ∧ i = .int .i64 k ∧ Hid (∀ j (h : j < signs.length), j < k → signs[j] ≠ c) ∧ Hid (Drawn (w.alloc (.cells #[.int .i64 0, .string ⟨#[]⟩, .int .i64 0, .int .i64 0] 43)) wr)) (fun i _ => 11 - (intOf i).toNat)
  case atStart => exact ⟨0, by omega, rfl, hid (fun j _ h => by omega), hid (Drawn.refl _)⟩
  case round =>
    obtain ⟨k, hk, rfl, HJ, HD⟩ := hrel
    have hdb : Below (w.heap.size + 1) (w.alloc (.cells #[.int .i64 0, .string ⟨#[]⟩, .int .i64 0, .int .i64 0] 43)) wr := HD.out.below
    obtain ⟨hf, hfr, hbx, hsz⟩ := pie_below hdb
    have HF := hid hf
    obtain ⟨x0, x1, x2, x3⟩ := hf
    have g0 := hfr 0
    have g1 := hfr 1
    have g2 := hfr 2
    have g3 := hfr 3
    clear hfr hdb
    by_cases hlt : k < 11
    · have hks : k < signs.length := hlt
      have hk2 : (k : Int) < 11 := by omega
      by_cases hc : signs[k] = c
      · have e1 := HP.out
        have hm : c ∈ signs := by rw [← hc]; exact List.getElem_mem _
        rw [if_pos hm] at e1
        simp only [Prod.mk.injEq] at e1
        obtain ⟨rfl, rfl, rfl, rfl⟩ := e1
        obtain ⟨d, hdd⟩ := HD.out
        subst hdd
        have hq : ((((⟨#[61, 43, 40, 41, 91, 93, 123, 125, 44, 58, 59]⟩ : ByteArray)[k]'hlt).toNat : Int) == (c.toNat : Int)) = true := seq (d := signs[k]) hc.symm
        clear HP HJ HD hm hk hc
        go_wp2_with fail
        any_goals go_quiet (fail)
        any_goals go_wp2_with fail
        exact bodyPost_ret (rfirst_res (k := 4) (t := [c]) (n := 1) (e := 0) rfl (four_set HF.out _ _ _ _)) rfl ⟨rfl, below_four (((Below.refl _ _).alloc (Nat.le_refl _) _).trans (Drawn.below ⟨_, rfl⟩)) (Nat.le_refl _) _ _ _ _⟩
      · have HJ2 : Hid (∀ j (h : j < signs.length), j < k + 1 → signs[j] ≠ c) := hid (fun j hjs hj => by
          rcases Nat.lt_or_eq_of_le (Nat.le_of_lt_succ hj) with h | h
          · exact HJ.out j hjs h
          · subst h; exact hc)
        obtain ⟨d, hdd⟩ := HD.out
        subst hdd
        have hq : ((((⟨#[61, 43, 40, 41, 91, 93, 123, 125, 44, 58, 59]⟩ : ByteArray)[k]'hlt).toNat : Int) == (c.toNat : Int)) = false := sne (d := signs[k]) (fun e => hc e.symm)
        clear HJ HD hk hc HF
        go_wp2_with fail
        any_goals go_quiet (fail)
        any_goals go_wp2_with fail
        exact ⟨⟨k + 1, by omega, by go_num, HJ2, hid ⟨_, rfl⟩⟩, by simp [intOf]; omega⟩
    · obtain rfl : k = 11 := by omega
      have e1 := HP.out
      have hm : c ∉ signs := fun hm => by
        obtain ⟨j, hj, he⟩ := List.getElem_of_mem hm
        exact HJ.out j hj hj he
      rw [if_neg hm] at e1
      simp only [Prod.mk.injEq] at e1
      obtain ⟨rfl, rfl, rfl, rfl⟩ := e1
      clear HP HJ hm hk hlt
      go_wp2_with fail
      exact bodyPost_ret (rfirst_res (k := 0) (t := []) (n := 0) (e := 3) rfl (four_set HF.out _ _ _ _)) rfl ⟨rfl, below_four hbx (Nat.le_refl _) _ _ _ _⟩
theorem first_sign_first (c : UInt8) (r : List UInt8) (hs : (c :: r).length ≤ 1000000000000) (h1 : isGap c = false) (h2 : c.toNat ≠ 35) (h3 : isLet c = false) (h4 : isDig c = false) (h5 : c.toNat ≠ 34) (r2 : List UInt8) (h6 : r = 61 :: r2) (h7 : c.toNat ≠ 61) (h8 : c.toNat ≠ 33) (k0 : Nat) (t0 : List UInt8) (n0 e0 : Nat) (hp : (if c ∈ signs then ((4, [c], 1, 0) : Nat × List UInt8 × Nat × Nat) else (0, [], 0, 3)) = (k0, t0, n0, e0)) (w : World) :
    Calls Tryz.prog 18 #[.string (bs (c :: r))] w (PieRet k0 t0 n0 e0 w) := by
  have hpos : 0 < (c :: r).length := by simp
  have hG := hid (rgap_any (c :: r) hpos hs 0 (by show (if isGap c = true then 1 else if c.toNat = 35 then runL notLine (c :: r) else 0) = _; rw [if_neg (by rw [h1]; simp), if_neg h2]))
  have hL := hid (rletter_tells.is c false h3)
  have hD := hid (rdigit_tells.is c false h4)
  have q5 : ((c.toNat : Int) == 34) = false := eqF (by omega)
  have q7 : ((c.toNat : Int) == 61) = false := eqF (by omega)
  have q8 : ((c.toNat : Int) == 33) = false := eqF (by omega)
  subst h6
  clear h7 h8
  have p1 : (0 : Int) < (r2.length : Int) + 1 + 1 := by omega
  have p2 : (1 : Int) < (r2.length : Int) + 1 + 1 := by omega
  have p3 : 0 < r2.length + 1 + 1 := by omega
  have p4 : 1 < r2.length + 1 + 1 := by omega
  have p5 : 2 ≤ r2.length + 1 + 1 := by omega
  have p6 : (2 : Int) ≤ (r2.length : Int) + 1 + 1 := by omega
  have HP := hid hp
  have Hf := hid (four_new w (.int .i64 0) (.string ⟨#[]⟩) (.int .i64 0) (.int .i64 0) 43 (0, 0))
  have Hr := hid (free_new w #[.int .i64 0, .string ⟨#[]⟩, .int .i64 0, .int .i64 0] 43)
  clear h1 h2 h3 h4 h5 hp
  go_enter Tryz.func18, Tryz.ntmps18
  go_wp2_with fail
  refine (hG.out _).mono ?_
  rintro e wx ⟨rfl, rfl⟩
  go_wp2_with fail
  refine (hL.out _).mono ?_
  rintro e wx ⟨rfl, rfl⟩
  go_wp2_with fail
  refine (hD.out _).mono ?_
  rintro e wx ⟨rfl, rfl⟩
  go_wp2_with fail
  go_loopw [6] (fun i wr => ∃ k : Nat, k ≤ 11 ∧ i = .int .i64 k ∧ Hid (∀ j (h : j < signs.length), j < k → signs[j] ≠ c) ∧ Hid (Drawn (w.alloc (.cells #[.int .i64 0, .string ⟨#[]⟩, .int .i64 0, .int .i64 0] 43)) wr)) (fun i _ => 11 - (intOf i).toNat)
  case atStart => exact ⟨0, by omega, rfl, hid (fun j _ h => by omega), hid (Drawn.refl _)⟩
  case round =>
    obtain ⟨k, hk, rfl, HJ, HD⟩ := hrel
    have hdb : Below (w.heap.size + 1) (w.alloc (.cells #[.int .i64 0, .string ⟨#[]⟩, .int .i64 0, .int .i64 0] 43)) wr := HD.out.below
    obtain ⟨hf, hfr, hbx, hsz⟩ := pie_below hdb
    have HF := hid hf
    obtain ⟨x0, x1, x2, x3⟩ := hf
    have g0 := hfr 0
    have g1 := hfr 1
    have g2 := hfr 2
    have g3 := hfr 3
    clear hfr hdb
    by_cases hlt : k < 11
    · have hks : k < signs.length := hlt
      have hk2 : (k : Int) < 11 := by omega
      by_cases hc : signs[k] = c
      · have e1 := HP.out
        have hm : c ∈ signs := by rw [← hc]; exact List.getElem_mem _
        rw [if_pos hm] at e1
        simp only [Prod.mk.injEq] at e1
        obtain ⟨rfl, rfl, rfl, rfl⟩ := e1
        obtain ⟨d, hdd⟩ := HD.out
        subst hdd
        have hq : ((((⟨#[61, 43, 40, 41, 91, 93, 123, 125, 44, 58, 59]⟩ : ByteArray)[k]'hlt).toNat : Int) == (c.toNat : Int)) = true := seq (d := signs[k]) hc.symm
        clear HP HJ HD hm hk hc
        go_wp2_with fail
        any_goals go_quiet (fail)
        any_goals go_wp2_with fail
        exact bodyPost_ret (rfirst_res (k := 4) (t := [c]) (n := 1) (e := 0) rfl (four_set HF.out _ _ _ _)) rfl ⟨rfl, below_four (((Below.refl _ _).alloc (Nat.le_refl _) _).trans (Drawn.below ⟨_, rfl⟩)) (Nat.le_refl _) _ _ _ _⟩
      · have HJ2 : Hid (∀ j (h : j < signs.length), j < k + 1 → signs[j] ≠ c) := hid (fun j hjs hj => by
          rcases Nat.lt_or_eq_of_le (Nat.le_of_lt_succ hj) with h | h
          · exact HJ.out j hjs h
          · subst h; exact hc)
        obtain ⟨d, hdd⟩ := HD.out
        subst hdd
        have hq : ((((⟨#[61, 43, 40, 41, 91, 93, 123, 125, 44, 58, 59]⟩ : ByteArray)[k]'hlt).toNat : Int) == (c.toNat : Int)) = false := sne (d := signs[k]) (fun e => hc e.symm)
        clear HJ HD hk hc HF
        go_wp2_with fail
        any_goals go_quiet (fail)
        any_goals go_wp2_with fail
        exact ⟨⟨k + 1, by omega, by go_num, HJ2, hid ⟨_, rfl⟩⟩, by simp [intOf]; omega⟩
    · obtain rfl : k = 11 := by omega
      have e1 := HP.out
      have hm : c ∉ signs := fun hm => by
        obtain ⟨j, hj, he⟩ := List.getElem_of_mem hm
        exact HJ.out j hj hj he
      rw [if_neg hm] at e1
      simp only [Prod.mk.injEq] at e1
      obtain ⟨rfl, rfl, rfl, rfl⟩ := e1
      clear HP HJ hm hk hlt
      go_wp2_with fail
      exact bodyPost_ret (rfirst_res (k := 0) (t := []) (n := 0) (e := 3) rfl (four_set HF.out _ _ _ _)) rfl ⟨rfl, below_four hbx (Nat.le_refl _) _ _ _ _⟩
theorem first_any (c : UInt8) (r : List UInt8) (hs : (c :: r).length ≤ 1000000000000) (k : Nat) (t : List UInt8) (n e : Nat) (hp : pieceL (c :: r) = (k, t, n, e)) (w : World) :
    Calls Tryz.prog 18 #[.string (bs (c :: r))] w (PieRet k t n e w) := by
  rw [piece_cons] at hp
  cases h1 : isGap c with
  | true =>
    rw [if_pos h1] at hp; simp only [Prod.mk.injEq] at hp; obtain ⟨rfl, rfl, rfl, rfl⟩ := hp
    exact first_gap c r hs h1 w
  | false =>
  rw [if_neg (by rw [h1]; simp)] at hp
  by_cases h2 : c.toNat = 35
  · rw [if_pos h2] at hp; simp only [Prod.mk.injEq] at hp; obtain ⟨rfl, rfl, rfl, rfl⟩ := hp
    exact first_rem c r hs h1 h2 w
  rw [if_neg h2] at hp
  cases h3 : isLet c with
  | true =>
    rw [if_pos h3] at hp; simp only [Prod.mk.injEq] at hp; obtain ⟨rfl, rfl, rfl, rfl⟩ := hp
    exact first_word c r hs h1 h2 h3 w
  | false =>
  rw [if_neg (by rw [h3]; simp)] at hp
  cases h4 : isDig c with
  | true => rw [if_pos h4] at hp; exact first_num c r hs h1 h2 h3 h4 k t n e hp w
  | false =>
  rw [if_neg (by rw [h4]; simp)] at hp
  by_cases h5 : c.toNat = 34
  · rw [if_pos h5] at hp
    exact first_text c r hs h1 h2 h3 h4 h5 k t n e hp w
  rw [if_neg h5] at hp
  by_cases h6 : (c.toNat = 61 ∨ c.toNat = 33) ∧ r.head? = some 61
  · rw [if_pos h6] at hp; simp only [Prod.mk.injEq] at hp; obtain ⟨rfl, rfl, rfl, rfl⟩ := hp
    cases r with
    | nil => simp at h6
    | cons d r =>
      have hd : d = 61 := by simpa using h6.2
      subst hd
      rcases h6.1 with h | h
      · exact first_eqeq c _ hs h1 h2 h3 h4 h5 h r rfl w
      · exact first_noteq c _ hs h1 h2 h3 h4 h5 h r rfl w
  rw [if_neg h6] at hp
  cases r with
  | nil => exact first_sign_one c [] hs h1 h2 h3 h4 h5 rfl k t n e hp w
  | cons d r =>
    by_cases hd : d.toNat = 61
    · have hd' : d = 61 := UInt8.toNat_inj.1 (hd.trans rfl)
      subst hd'
      exact first_sign_first c _ hs h1 h2 h3 h4 h5 r rfl (fun h => h6 ⟨.inl h, rfl⟩) (fun h => h6 ⟨.inr h, rfl⟩) k t n e hp w
    · exact first_sign_second c _ hs h1 h2 h3 h4 h5 d r rfl hd k t n e hp w
end Go.Proofs.YtheomoamobcaeaaGreatDoor
