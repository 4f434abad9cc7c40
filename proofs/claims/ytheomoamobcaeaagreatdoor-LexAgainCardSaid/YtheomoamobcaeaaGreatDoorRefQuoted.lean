/- The walks of the document's pieces: gap, quoted. -/
import Derived.Test.YtheomoamobcaeaaGreatDoorLexAll
namespace Go.Proofs.YtheomoamobcaeaaGreatDoor
set_option maxRecDepth 100000
open Go.RowKit

def pieV (k : Nat) (t : List UInt8) (n e : Nat) : Value := .agg #[.int .i64 k, .string (bs t), .int .i64 n, .int .i64 e]
def PieRet (k : Nat) (t : List UInt8) (n e : Nat) (w : World) (x : Ending) (w' : World) : Prop := x = .returned (pieV k t n e) ∧ Below w.heap.size w w'
theorem rnumber_res {w : World} {tmps : Array Value} {b : Nat} {k n e : Nat} {t : List UInt8} (h2 : tmps[2]?.getD undef = .pointer (some ⟨b, 0, none⟩)) (h : Four w b (.int .i64 k) (.string (bs t)) (.int .i64 n) (.int .i64 e)) :
    (results Tryz.f36 tmps).run Tryz.prog w = .ok (pieV k t n e) w := by
  obtain ⟨c0, c1, c2, c3⟩ := h
  simp [results, Tryz.f36, go_sem, h2, c0, c1, c2, c3, pieV]
theorem rquoted_res {w : World} {tmps : Array Value} {b : Nat} {k n e : Nat} {t : List UInt8} (h2 : tmps[2]?.getD undef = .pointer (some ⟨b, 0, none⟩)) (h : Four w b (.int .i64 k) (.string (bs t)) (.int .i64 n) (.int .i64 e)) :
    (results Tryz.f37 tmps).run Tryz.prog w = .ok (pieV k t n e) w := by
  obtain ⟨c0, c1, c2, c3⟩ := h
  simp [results, Tryz.f37, go_sem, h2, c0, c1, c2, c3, pieV]
theorem rfirst_res {w : World} {tmps : Array Value} {b : Nat} {k n e : Nat} {t : List UInt8} (h2 : tmps[2]?.getD undef = .pointer (some ⟨b, 0, none⟩)) (h : Four w b (.int .i64 k) (.string (bs t)) (.int .i64 n) (.int .i64 e)) :
    (results Tryz.f18 tmps).run Tryz.prog w = .ok (pieV k t n e) w := by
  obtain ⟨c0, c1, c2, c3⟩ := h
  simp [results, Tryz.f18, go_sem, h2, c0, c1, c2, c3, pieV]
theorem Four.past {B : Nat} {w w' : World} {b : Nat} {x0 x1 x2 x3 : Value} (h : Four w b x0 x1 x2 x3) (hb : Below B w w') (hlt : b < B) : Four w' b x0 x1 x2 x3 :=
  ⟨(hb.cell (p := ⟨b, 0, none⟩) hlt).trans h.1, (hb.cell (p := ⟨b, 1, none⟩) hlt).trans h.2.1, (hb.cell (p := ⟨b, 2, none⟩) hlt).trans h.2.2.1, (hb.cell (p := ⟨b, 3, none⟩) hlt).trans h.2.2.2⟩
theorem Free.past {B : Nat} {w w' : World} {b : Nat} (h : Free w b) (hb : Below B w w') (hlt : b < B) : Free w' b := fun j => (hb.frozen (p := ⟨b, j, none⟩) hlt).trans (h j)
theorem one_byte' (W : World) (c : UInt8) (n : Nat) (hn : n = W.heap.size) : SliceAt (W.alloc (.cells #[.int .u8 c.toNat] 5)) 1 (.slice (some ⟨n, 0, none⟩) 1 1) 1 (Lib.byteCells [c]) := by
  subst hn; exact one_byte W c

/-- How many bytes of one gap. -/
def gapR (s : List UInt8) : Nat := match s with
  | [] => 0
  | c :: r => if isGap c = true then 1 else if c.toNat = 35 then runL notLine (c :: r) else 0
set_option maxHeartbeats 1000000 in
theorem rgap_any (s : List UInt8) (hp : 0 < s.length) (hs : s.length ≤ 1000000000000) (n : Nat) (hn : gapR s = n) (w : World) :
    Calls Tryz.prog 33 #[.string (bs s)] w fun e w' => e = .returned (.int .i64 n) ∧ w = w' := by
  have hc : gapR s = if isGap s[0] = true then 1 else if s[0].toNat = 35 then runL notLine s else 0 := by cases s with | nil => simp at hp | cons c r => rfl
  rw [hc] at hn
  clear hc
  by_cases h1 : isGap s[0] = true
  · rw [if_pos h1] at hn
    subst hn
    have hg : s[0].toNat = 32 ∨ s[0].toNat = 9 ∨ s[0].toNat = 10 ∨ s[0].toNat = 13 := by simpa [isGap, or_assoc] using h1
    by_cases g1 : s[0].toNat = 32
    · have q1 : ((s[0].toNat : Int) == 32) = true := eqT (by omega)
      clear h1 hg g1
      go_enter Tryz.func33, Tryz.ntmps33
      go_wp2_with fail
      go_ret
      exact ⟨rfl, rfl⟩
    have q1 : ((s[0].toNat : Int) == 32) = false := eqF (by omega)
    by_cases g2 : s[0].toNat = 9
    · have q2 : ((s[0].toNat : Int) == 9) = true := eqT (by omega)
      clear h1 hg g1 g2
      go_enter Tryz.func33, Tryz.ntmps33
      go_wp2_with fail
      go_ret
      exact ⟨rfl, rfl⟩
    have q2 : ((s[0].toNat : Int) == 9) = false := eqF (by omega)
    by_cases g3 : s[0].toNat = 10
    · have q3 : ((s[0].toNat : Int) == 10) = true := eqT (by omega)
      clear h1 hg g1 g2 g3
      go_enter Tryz.func33, Tryz.ntmps33
      go_wp2_with fail
      go_ret
      exact ⟨rfl, rfl⟩
    have q3 : ((s[0].toNat : Int) == 10) = false := eqF (by omega)
    have q4 : ((s[0].toNat : Int) == 13) = true := eqT (by omega)
    clear h1 hg g1 g2 g3
    go_enter Tryz.func33, Tryz.ntmps33
    go_wp2_with fail
    go_ret
    exact ⟨rfl, rfl⟩
  · rw [if_neg h1] at hn
    have hg : s[0].toNat ≠ 32 ∧ s[0].toNat ≠ 9 ∧ s[0].toNat ≠ 10 ∧ s[0].toNat ≠ 13 := by simpa [isGap, and_assoc] using h1
    have q1 : ((s[0].toNat : Int) == 32) = false := eqF (by omega)
    have q2 : ((s[0].toNat : Int) == 9) = false := eqF (by omega)
    have q3 : ((s[0].toNat : Int) == 10) = false := eqF (by omega)
    have q4 : ((s[0].toNat : Int) == 13) = false := eqF (by omega)
    by_cases h2 : s[0].toNat = 35
    · rw [if_pos h2] at hn
      subst hn
      have q5 : ((s[0].toNat : Int) == 35) = true := eqT (by omega)
      clear h1 h2 hg
      go_enter Tryz.func33, Tryz.ntmps33
      go_wp2_with fail
      go_loop [3] (fun i => ∃ k : Nat, k ≤ s.length ∧ i = .int .i64 k ∧ Hid (runL notLine s = k + runL notLine (s.drop k))) (fun i => s.length - (intOf i).toNat)
      case atStart => exact ⟨0, by omega, rfl, hid (by simp)⟩
      case round =>
        obtain ⟨k, hk, rfl, HR⟩ := hrel
        by_cases hlt : k < s.length
        · by_cases hl : s[k].toNat = 10
          · have HN : Hid (runL notLine s = k) := hid (by rw [HR.out, drop_at s k hlt, run_stop (by simp [notLine, hl])]; rfl)
            have q6 : ((s[k].toNat : Int) != 10) = false := neF (by omega)
            clear hl HR
            go_wp2_with fail
            go_ret
            exact ⟨by rw [HN.out]; rfl, rfl⟩
          · have HN : Hid (runL notLine s = (k + 1) + runL notLine (s.drop (k + 1))) := hid (by rw [HR.out, run_drop hlt (by simp [notLine, hl])])
            have q6 : ((s[k].toNat : Int) != 10) = true := neT (by omega)
            clear hl HR
            go_wp2_with fail
            go_round
            case rel => exact ⟨k + 1, by omega, by go_num, HN⟩
            case measure => simp [intOf]; omega
        · have HN : Hid (runL notLine s = k) := hid (by rw [HR.out, List.drop_eq_nil_of_le (by omega)]; rfl)
          have hd : decide (k < s.length) = false := decide_eq_false hlt
          clear HR
          go_wp2_with fail
          go_ret
          exact ⟨by rw [HN.out]; rfl, rfl⟩
    · rw [if_neg h2] at hn
      subst hn
      have q5 : ((s[0].toNat : Int) == 35) = false := eqF (by omega)
      clear h1 h2 hg
      go_enter Tryz.func33, Tryz.ntmps33
      go_wp2_with fail
      go_ret
      exact ⟨rfl, rfl⟩

/-! quoted -/
def quotedP (s : List UInt8) : Nat × List UInt8 × Nat × Nat := match qGo (s.drop 1) with | none => (0, [], 0, 3) | some x => (3, x.1, x.2 + 1, 0)
theorem quotedP_R (s : List UInt8) : quotedP s = if (quotedR s).2 = 0 then (0, [], 0, 3) else (3, (quotedR s).1, (quotedR s).2, 0) := by
  unfold quotedP quotedR
  cases qGo (s.drop 1) with
  | none => rfl
  | some x => simp
set_option maxHeartbeats 4000000 in
theorem rquoted_any (s : List UInt8) (hs : s.length ≤ 1000000000000) (k0 : Nat) (t : List UInt8) (n e0 : Nat) (ht : quotedP s = (k0, t, n, e0)) (w : World) :
    Calls Tryz.prog 37 #[.string (bs s)] w (PieRet k0 t n e0 w) := by
  obtain ⟨i0, hi, hz0, hz1, hz2⟩ := info_parts u8_info
  have HT := hid ht
  have HF0 := hid (four_new w (.int .i64 0) (.string ⟨#[]⟩) (.int .i64 0) (.int .i64 0) 43 (0, 0))
  have HR0 := hid (free_new w #[.int .i64 0, .string ⟨#[]⟩, .int .i64 0, .int .i64 0] 43)
  clear ht
  go_enter Tryz.func37, Tryz.ntmps37
  go_wp2_with fail
  go_loopw [3, 4] (fun v i wr => ∃ (k : Nat) (out : List UInt8), k ≤ s.length ∧ out.length ≤ k ∧ i = .int .i64 (k + 1 : Nat) ∧ wr.ownsRow (w.heap.size + 1) 5 1 v out.length (Lib.byteCells out) ∧ Hid (qGo (s.drop 1) = qSh out k (qGo (s.drop (k + 1)))) ∧ Hid (Four wr w.heap.size (.int .i64 0) (.string ⟨#[]⟩) (.int .i64 0) (.int .i64 0)) ∧ Free wr w.heap.size ∧ w.heap.size < wr.heap.size ∧ Below w.heap.size w wr) (fun _ i _ => s.length + 1 - (intOf i).toNat)
  case atStart => exact ⟨0, [], by omega, by simp, rfl, ⟨rfl, .inl ⟨rfl, rfl⟩⟩, hid (qSh_zero _), HF0, HR0.out, by simp, (Below.refl _ _).alloc (Nat.le_refl _) _⟩
  case round =>
    obtain ⟨k, out, hk, hol, rfl, hown, HQ, Hf, hfr, hsz, hbw⟩ := hrel
    have hsz1 : w.heap.size + 1 ≤ wr.heap.size := hsz
    have Hr := hid hfr
    obtain ⟨x0, x1, x2, x3⟩ := Hf.out
    have y0 := hfr 0
    have y1 := hfr 1
    have y2 := hfr 2
    have y3 := hfr 3
    have HTT := HT.out
    clear hfr HF0 HR0
    by_cases hlt : k + 1 < s.length
    · have hcv := run_conv_at (SliceAt.of_owns hown (by unfold maxLen; omega))
      have Hown := hid hown
      have htn : ((k : Int) + 1).toNat = k + 1 := by omega
      by_cases c1 : s[k + 1].toNat = 34
      · have q0 : ((s[k + 1].toNat : Int) == 34) = true := eqT (by omega)
        rw [quotedP_R, q_end hlt c1 HQ.out, if_neg (by simp)] at HTT
        simp only [Prod.mk.injEq] at HTT
        obtain ⟨rfl, rfl, rfl, rfl⟩ := HTT
        clear HT HQ hown c1
        go_wp2_with fail
        exact bodyPost_ret (rquoted_res (k := 3) (t := out) (n := k + 2) (e := 0) rfl (four_set Hf.out _ _ _ _)) rfl ⟨rfl, below_four hbw (Nat.le_refl _) _ _ _ _⟩
      · have q0 : ((s[k + 1].toNat : Int) == 34) = false := eqF (by omega)
        by_cases c2 : s[k + 1].toNat < 32 ∨ s[k + 1].toNat = 127
        · rw [quotedP_R, q_bad hlt c2 HQ.out, if_pos rfl] at HTT
          simp only [Prod.mk.injEq] at HTT
          obtain ⟨rfl, rfl, rfl, rfl⟩ := HTT
          by_cases c3 : s[k + 1].toNat < 32
          · have c3' : (s[k + 1].toNat : Int) < 32 := by omega
            clear HT HQ hown c1 c2
            go_wp2_with fail
            exact bodyPost_ret (rquoted_res (k := 0) (t := []) (n := 0) (e := 3) rfl (four_set Hf.out _ _ _ _)) rfl ⟨rfl, below_four hbw (Nat.le_refl _) _ _ _ _⟩
          · have c3' : ¬ (s[k + 1].toNat : Int) < 32 := by omega
            have q1 : ((s[k + 1].toNat : Int) == 127) = true := eqT (by omega)
            clear HT HQ hown c1 c2 c3
            go_wp2_with fail
            exact bodyPost_ret (rquoted_res (k := 0) (t := []) (n := 0) (e := 3) rfl (four_set Hf.out _ _ _ _)) rfl ⟨rfl, below_four hbw (Nat.le_refl _) _ _ _ _⟩
        · have c3' : ¬ (s[k + 1].toNat : Int) < 32 := by omega
          have q1 : ((s[k + 1].toNat : Int) == 127) = false := eqF (by omega)
          by_cases c4 : s[k + 1].toNat = 92
          · have q2 : ((s[k + 1].toNat : Int) == 92) = true := eqT (by omega)
            have htn2 : ((k : Int) + 1 + 1).toNat = k + 2 := by omega
            by_cases hl2 : k + 2 < s.length
            · have qe : (((k : Int) + 1 + 1) == (s.length : Int)) = false := eqF (by omega)
              by_cases c5 : s[k + 2].toNat = 34 ∨ s[k + 2].toNat = 92 ∨ s[k + 2].toNat = 110
              · rcases c5 with c5 | c5 | c5
                · have r1 : ((s[k + 2].toNat : Int) != 34) = false := neF (by omega)
                  have r4 : ((s[k + 2].toNat : Int) == 110) = false := eqF (by omega)
                  have HN := hid (q_esc hlt c4 hl2 s[k + 2] (.inl ⟨.inl c5, rfl⟩) HQ.out)
                  clear HTT HQ hown c1 c2 c4 c5
                  go_wp2_with (at_builtin; go_must (refine wpList_append_src rfl _ _ 77 rfl (w.heap.size + 1) 5 i0 (.int .u8 0) 1 1 Tryz.underlying77 hi hz0 hz1 hz2 rfl (by decide) _ out.length (Lib.byteCells out) rfl ?a1 _ 1 (Lib.byteCells [s[k + 2]]) rfl ?a2 ?a3 ?a4 ?a5 ?a6 ?_))
                  case a1 => exact Hown.out.alloc _
                  case a2 => exact one_byte' _ _ _ rfl
                  case a3 => exact byteCells_one _
                  case a4 => unfold maxLen; omega
                  (try case a5 => omega)
                  (try case a6 => simp; omega)
                  intro v' w' hown' hgrow
                  have hb1 : Below (w.heap.size + 1) wr w' := ((Below.refl (w.heap.size + 1) wr).alloc hsz1 _).grown hgrow (by simp; omega) (fun q hq => (Hown.out.lt q hq).1)
                  have hbx : Below w.heap.size w w' := hbw.trans (hb1.mono (Nat.le_succ _))
                  have hszw := hb1.size
                  have hf2 := hid ((Hf.out).past hb1 (by omega))
                  have hr2 := Hr.out.past hb1 (by omega)
                  have ho2 : w'.ownsRow (w.heap.size + 1) 5 1 v' (out ++ [s[k + 2]]).length (Lib.byteCells (out ++ [s[k + 2]])) := by rw [byteCells_app, List.length_append]; exact hown'
                  clear hown' hgrow hb1
                  go_wp2_with fail
                  exact ⟨⟨k + 2, out ++ [s[k + 2]], by omega, by simp; omega, by go_num, ho2, HN, hf2, hr2, Nat.lt_of_lt_of_le hsz hszw, hbx⟩, by simp [intOf]; omega⟩
                · have r1 : ((s[k + 2].toNat : Int) != 34) = true := neT (by omega)
                  have r2 : ((s[k + 2].toNat : Int) != 92) = false := neF (by omega)
                  have r4 : ((s[k + 2].toNat : Int) == 110) = false := eqF (by omega)
                  have HN := hid (q_esc hlt c4 hl2 s[k + 2] (.inl ⟨.inr c5, rfl⟩) HQ.out)
                  clear HTT HQ hown c1 c2 c4 c5
                  go_wp2_with (at_builtin; go_must (refine wpList_append_src rfl _ _ 77 rfl (w.heap.size + 1) 5 i0 (.int .u8 0) 1 1 Tryz.underlying77 hi hz0 hz1 hz2 rfl (by decide) _ out.length (Lib.byteCells out) rfl ?b1 _ 1 (Lib.byteCells [s[k + 2]]) rfl ?b2 ?b3 ?b4 ?b5 ?b6 ?_))
                  case b1 => exact Hown.out.alloc _
                  case b2 => exact one_byte' _ _ _ rfl
                  case b3 => exact byteCells_one _
                  case b4 => unfold maxLen; omega
                  (try case b5 => omega)
                  (try case b6 => simp; omega)
                  intro v' w' hown' hgrow
                  have hb1 : Below (w.heap.size + 1) wr w' := ((Below.refl (w.heap.size + 1) wr).alloc hsz1 _).grown hgrow (by simp; omega) (fun q hq => (Hown.out.lt q hq).1)
                  have hbx : Below w.heap.size w w' := hbw.trans (hb1.mono (Nat.le_succ _))
                  have hszw := hb1.size
                  have hf2 := hid ((Hf.out).past hb1 (by omega))
                  have hr2 := Hr.out.past hb1 (by omega)
                  have ho2 : w'.ownsRow (w.heap.size + 1) 5 1 v' (out ++ [s[k + 2]]).length (Lib.byteCells (out ++ [s[k + 2]])) := by rw [byteCells_app, List.length_append]; exact hown'
                  clear hown' hgrow hb1
                  go_wp2_with fail
                  exact ⟨⟨k + 2, out ++ [s[k + 2]], by omega, by simp; omega, by go_num, ho2, HN, hf2, hr2, Nat.lt_of_lt_of_le hsz hszw, hbx⟩, by simp [intOf]; omega⟩
                · have r1 : ((s[k + 2].toNat : Int) != 34) = true := neT (by omega)
                  have r2 : ((s[k + 2].toNat : Int) != 92) = true := neT (by omega)
                  have r3 : ((s[k + 2].toNat : Int) != 110) = false := neF (by omega)
                  have r4 : ((s[k + 2].toNat : Int) == 110) = true := eqT (by omega)
                  have HN := hid (q_esc hlt c4 hl2 10 (.inr ⟨c5, rfl⟩) HQ.out)
                  clear HTT HQ hown c1 c2 c4 c5
                  go_wp2_with (at_builtin; go_must (refine wpList_append_src rfl _ _ 77 rfl (w.heap.size + 1) 5 i0 (.int .u8 0) 1 1 Tryz.underlying77 hi hz0 hz1 hz2 rfl (by decide) _ out.length (Lib.byteCells out) rfl ?c1 _ 1 (Lib.byteCells [10]) rfl ?c2 ?c3 ?c4 ?c5 ?c6 ?_))
                  case c1 => exact Hown.out.alloc _
                  case c2 => exact one_byte' _ _ _ rfl
                  case c3 => exact byteCells_one _
                  case c4 => unfold maxLen; omega
                  (try case c5 => omega)
                  (try case c6 => simp; omega)
                  intro v' w' hown' hgrow
                  have hb1 : Below (w.heap.size + 1) wr w' := ((Below.refl (w.heap.size + 1) wr).alloc hsz1 _).grown hgrow (by simp; omega) (fun q hq => (Hown.out.lt q hq).1)
                  have hbx : Below w.heap.size w w' := hbw.trans (hb1.mono (Nat.le_succ _))
                  have hszw := hb1.size
                  have hf2 := hid ((Hf.out).past hb1 (by omega))
                  have hr2 := Hr.out.past hb1 (by omega)
                  have ho2 : w'.ownsRow (w.heap.size + 1) 5 1 v' (out ++ [10]).length (Lib.byteCells (out ++ [10])) := by rw [byteCells_app, List.length_append]; exact hown'
                  clear hown' hgrow hb1
                  go_wp2_with fail
                  exact ⟨⟨k + 2, out ++ [10], by omega, by simp; omega, by go_num, ho2, HN, hf2, hr2, Nat.lt_of_lt_of_le hsz hszw, hbx⟩, by simp [intOf]; omega⟩
              · have r1 : ((s[k + 2].toNat : Int) != 34) = true := neT (by omega)
                have r2 : ((s[k + 2].toNat : Int) != 92) = true := neT (by omega)
                have r3 : ((s[k + 2].toNat : Int) != 110) = true := neT (by omega)
                rw [quotedP_R, q_none hlt c4 hl2 (by omega) HQ.out, if_pos rfl] at HTT
                simp only [Prod.mk.injEq] at HTT
                obtain ⟨rfl, rfl, rfl, rfl⟩ := HTT
                clear HT HQ hown c1 c2 c4 c5
                go_wp2_with fail
                exact bodyPost_ret (rquoted_res (k := 0) (t := []) (n := 0) (e := 3) rfl (four_set Hf.out _ _ _ _)) rfl ⟨rfl, below_four hbw (Nat.le_refl _) _ _ _ _⟩
            · have qe : (((k : Int) + 1 + 1) == (s.length : Int)) = true := eqT (by omega)
              rw [quotedP_R, q_last hlt c4 (by omega) HQ.out, if_pos rfl] at HTT
              simp only [Prod.mk.injEq] at HTT
              obtain ⟨rfl, rfl, rfl, rfl⟩ := HTT
              clear HT HQ hown c1 c2 c4
              go_wp2_with fail
              exact bodyPost_ret (rquoted_res (k := 0) (t := []) (n := 0) (e := 3) rfl (four_set Hf.out _ _ _ _)) rfl ⟨rfl, below_four hbw (Nat.le_refl _) _ _ _ _⟩
          · have q2 : ((s[k + 1].toNat : Int) == 92) = false := eqF (by omega)
            have HN := hid (q_plain hlt c1 c2 c4 HQ.out)
            clear HTT HQ hown c1 c2 c4
            go_wp2_with (at_builtin; go_must (refine wpList_append_src rfl _ _ 77 rfl (w.heap.size + 1) 5 i0 (.int .u8 0) 1 1 Tryz.underlying77 hi hz0 hz1 hz2 rfl (by decide) _ out.length (Lib.byteCells out) rfl ?d1 _ 1 (Lib.byteCells [s[k + 1]]) rfl ?d2 ?d3 ?d4 ?d5 ?d6 ?_))
            case d1 => exact Hown.out.alloc _
            case d2 => exact one_byte' _ _ _ rfl
            case d3 => exact byteCells_one _
            case d4 => unfold maxLen; omega
            (try case d5 => omega)
            (try case d6 => simp; omega)
            intro v' w' hown' hgrow
            have hb1 : Below (w.heap.size + 1) wr w' := ((Below.refl (w.heap.size + 1) wr).alloc hsz1 _).grown hgrow (by simp; omega) (fun q hq => (Hown.out.lt q hq).1)
            have hbx : Below w.heap.size w w' := hbw.trans (hb1.mono (Nat.le_succ _))
            have hszw := hb1.size
            have hf2 := hid ((Hf.out).past hb1 (by omega))
            have hr2 := Hr.out.past hb1 (by omega)
            have ho2 : w'.ownsRow (w.heap.size + 1) 5 1 v' (out ++ [s[k + 1]]).length (Lib.byteCells (out ++ [s[k + 1]])) := by rw [byteCells_app, List.length_append]; exact hown'
            clear hown' hgrow hb1
            go_wp2_with fail
            exact ⟨⟨k + 1, out ++ [s[k + 1]], by omega, by simp; omega, by go_num, ho2, HN, hf2, hr2, Nat.lt_of_lt_of_le hsz hszw, hbx⟩, by simp [intOf]; omega⟩
    · rw [quotedP_R, q_over (by omega) HQ.out, if_pos rfl] at HTT
      simp only [Prod.mk.injEq] at HTT
      obtain ⟨rfl, rfl, rfl, rfl⟩ := HTT
      clear HT HQ hown
      go_wp2_with fail
      exact bodyPost_ret (rquoted_res (k := 0) (t := []) (n := 0) (e := 3) rfl (four_set Hf.out _ _ _ _)) rfl ⟨rfl, below_four hbw (Nat.le_refl _) _ _ _ _⟩
end Go.Proofs.YtheomoamobcaeaaGreatDoor
