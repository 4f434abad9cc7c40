/- The walk of lex.All. -/
import Derived.Test.YtijgcoedohhlnaaGreatDoorLexTokens
import Derived.RegionTactic
namespace Go.Proofs.YtijgcoedohhlnaaGreatDoor
set_option maxRecDepth 100000
open Go.RowKit

def AllRet (x : Lexed) (w : World) (e : Ending) (w' : World) : Prop :=
  ∃ v, e = .returned (.tuple #[v, .int .i64 x.2.1, plV x.2.2.1 x.2.2.2]) ∧ SliceAt w' 4 v x.1.length (tokCells x.1) ∧ Below w.heap.size w w'
theorem all_res {w : World} {tmps : Array Value} {b : Nat} {x y n : Int} {v : Value} (h2 : tmps[2]?.getD undef = v) (h3 : tmps[3]?.getD undef = .int .i64 n) (h4 : tmps[4]?.getD undef = .pointer (some ⟨b, 0, none⟩)) (h0 : w.cell? ⟨b, 0, none⟩ = some (.int .i64 x)) (h1 : w.cell? ⟨b, 1, none⟩ = some (.int .i64 y)) :
    (results Tryz.f6 tmps).run Tryz.prog w = .ok (.tuple #[v, .int .i64 n, .agg #[.int .i64 x, .int .i64 y]]) w := by
  simp [results, Tryz.f6, go_sem, h2, h3, h4, h0, h1]
def strLen (v : Value) : Nat := match v with | .string b => b.size | _ => 0
theorem strLen_bs (l : List UInt8) : strLen (.string (bs l)) = l.length := rfl
theorem one_tok2 (w : World) (t : Tok) : SliceAt ((w.alloc (.cells #[.int .i64 t.1, .string (bs t.2.1), .int .i64 t.2.2.1, .int .i64 t.2.2.2] 35)).alloc (.cells #[.int .i64 t.1, .string (bs t.2.1), .int .i64 t.2.2.1, .int .i64 t.2.2.2] 35)) 4 (.slice (some ⟨w.heap.size + 1, 0, none⟩) 1 1) 1 (tokCells [t]) := by
  have h := one_tok (w.alloc (.cells #[.int .i64 t.1, .string (bs t.2.1), .int .i64 t.2.2.1, .int .i64 t.2.2.2] 35)) t
  rwa [World.size_alloc] at h
set_option maxHeartbeats 1000000 in
theorem all_long (s : List UInt8) (hs : s.length ≤ 1000000000000) (hl : 65536 < s.length) (w : World) :
    Calls Tryz.prog 6 #[.string (bs s)] w (AllRet (allT s) w) := by
  have e : allT s = ([], 6, (1, 1)) := by unfold allT; rw [if_pos hl]
  rw [e]
  go_enter Tryz.func6, Tryz.ntmps6
  go_wp2_with fail
  go_region
  all_goals (try go_wp2_with fail)
  all_goals
    have hb := box2 w (.cells #[.int .i64 1, .int .i64 1] 29) (.int .i64 1) (.int .i64 1) 29
    have h2 := Two.below (two_new w (.int .i64 1) (.int .i64 1) 29) ((Below.refl _ _).alloc (Nat.le_refl _) (.cells #[.int .i64 1, .int .i64 1] 29))
    exact bodyPost_ret (all_res (x := 1) (y := 1) rfl rfl rfl h2.c0 h2.c1) rfl ⟨_, rfl, SliceAt.nil _ _, (below2 w _ _).drew⟩

set_option maxHeartbeats 4000000 in
theorem all_short (s : List UInt8) (hl : s.length ≤ 65536) (w : World) (hr : RangeAt w) :
    Calls Tryz.prog 6 #[.string (bs s)] w (AllRet (lexL (1, 1) s) w) := by
  obtain ⟨i0, hi, iz0, iz1, iz2⟩ := info_parts tok_info
  obtain ⟨res, hres⟩ : ∃ x, x = lexL (1, 1) s := ⟨_, rfl⟩
  rw [← hres]
  have HX := hid hres
  clear hres
  have HA := hid (two_new w (.int .i64 0) (.int .i64 0) 29)
  have HB := hid (two_new (w.alloc (.cells #[.int .i64 0, .int .i64 0] 29)) (.int .i64 1) (.int .i64 1) 29)
  have HW := hid (below2 w (.cells #[.int .i64 0, .int .i64 0] 29) (.cells #[.int .i64 1, .int .i64 1] 29))
  go_enter Tryz.func6, Tryz.ntmps6
  go_wp2_with fail
  go_loopw [6, 7] (fun v x wr => ∃ (k : Nat) (toks : List Tok), k ≤ s.length ∧ toks.length ≤ k ∧ x = .string (bs (s.drop k)) ∧ wr.ownsRow (w.heap.size + 2) 35 4 v toks.length (tokCells toks) ∧ Hid (res = finT toks (lexL (advs (1, 1) (s.take k)) (s.drop k))) ∧ Two wr w.heap.size (.int .i64 0) (.int .i64 0) ∧ Two wr (w.heap.size + 1) (.int .i64 (advs (1, 1) (s.take k)).1) (.int .i64 (advs (1, 1) (s.take k)).2) ∧ Below w.heap.size w wr) (fun _ x _ => strLen x)
  case atStart =>
    refine ⟨0, [], by omega, by simp, rfl, ⟨rfl, .inl ⟨rfl, rfl⟩⟩, hid ?_, ?_, ?_, HW.out⟩
    · rw [HX.out]; exact (finT_nil _ _).symm
    · exact HA.out.below ((Below.refl _ _).alloc (Nat.le_refl _) _)
    · have := HB.out; rwa [World.size_alloc] at this
  case round =>
    obtain ⟨k, toks, hk, htl, rfl, hown, HL, h2a, h2b, hbw⟩ := hrel
    have hwk : Within (advs (1, 1) (s.take k)) k := by
      have := within_at (s.take k); rwa [List.length_take, Nat.min_eq_left hk] at this
    obtain ⟨hw1, hw2⟩ := hwk
    have hsdl : (s.drop k).length = s.length - k := List.length_drop ..
    obtain ⟨p, hpp⟩ : ∃ p, p = advs (1, 1) (s.take k) := ⟨_, rfl⟩
    rw [← hpp] at h2b HL hw1 hw2
    have htk : ∀ n, advs p ((s.drop k).take n) = advs (1, 1) (s.take (k + n)) := fun n => by rw [hpp, ← advs_append, List.take_add]
    have hdk : ∀ n, (s.drop k).drop n = s.drop (k + n) := fun n => by rw [List.drop_drop]
    have Htk := hid htk
    have Hdk := hid hdk
    clear htk hdk hpp
    obtain ⟨pl, pc⟩ := p
    simp only at hw1 hw2 h2b
    cases hsd : s.drop k with
    | nil =>
      rw [hsd] at HL
      have hk2 : k = s.length := by rw [hsd] at hsdl; simp at hsdl; omega
      have hres : res = (toks, 0, (0, 0)) := by rw [HL.out, lex_nil]; simp [finT]
      subst hres
      obtain ⟨c0, c1, f0, f1⟩ := h2a
      have h2a' : Two wr w.heap.size (.int .i64 0) (.int .i64 0) := ⟨c0, c1, f0, f1⟩
      have Hs := hid (h2a'.set (.int .i64 0) (.int .i64 0))
      have Ho := hid hown
      clear h2a' hsd HX HL hown
      go_wp2_with fail
      refine bodyPost_ret (all_res (x := 0) (y := 0) rfl rfl rfl Hs.out.c0 Hs.out.c1) rfl ⟨_, rfl, ?_, (hbw.setCell (p := ⟨w.heap.size, 0, none⟩) (Nat.le_refl _) _).setCell (p := ⟨w.heap.size, 1, none⟩) (Nat.le_refl _) _⟩
      have h1 := own_keep (base := w.heap.size + 2) Ho.out (b := w.heap.size) (by omega) (.int .i64 0) (.int .i64 0)
      have h2 : toks.length ≤ maxLen := by unfold maxLen; omega
      exact SliceAt.of_owns h1 h2
    | cons c r =>
      have hcl : (c :: r).length = s.length - k := by rw [← hsd]; exact hsdl
      obtain ⟨kd, t, n, e, hp⟩ : ∃ kd t n, ∃ e, pieceP (c :: r) = (kd, t, n, e) := ⟨_, _, _, _, rfl⟩
      have HN := hid (next_any c r (by omega) kd t n e hp wr (hr.below hbw))
      unfold TokRet tokV at HN
      rw [hsd] at HL Htk Hdk
      by_cases he : e = 0
      · subst he
        obtain ⟨⟨hn1, hn2, hn3⟩, hlx⟩ := pieceP_ok hp (pl, pc)
        rw [Hdk.out] at hlx
        have htk := Htk.out n
        have Hpas := hid (pass_any ((c :: r).take n) (by rw [List.length_take]; omega) (pl, pc) (by simp only; omega))
        rw [htk] at hlx
        unfold plV at Hpas
        rw [htk] at Hpas
        have HNL : Hid (res = finT (toks ++ if kd = 0 then [] else [(kd, t, (pl, pc))]) (lexL (advs (1, 1) (s.take (k + n))) (s.drop (k + n)))) := hid (by rw [HL.out, hlx, finT_finT])
        have Hdn := hid (Hdk.out n)
        have hz0 := h2a.lt
        have hz1 := h2b.lt
        have hwr := hbw.size
        have hn4 : (n : Int) ≤ (r.length : Int) + 1 := by simp at hn2; omega
        have hn5 : n ≤ r.length + 1 := by simp at hn2; omega
        have hkn : k + n ≤ s.length := by simp at hcl; omega
        obtain ⟨p2, hp2⟩ : ∃ x, advs (1, 1) (s.take (k + n)) = x := ⟨_, rfl⟩
        rw [hp2] at Hpas HNL
        obtain ⟨ql, qc⟩ := p2
        have HP2 := hid hp2
        clear hp2
        simp only at Hpas
        clear HX HL hsd hp hlx htk Htk Hdk
        by_cases hkd : kd = 0
        · subst hkd
          have HNZ : Hid (res = finT toks (lexL (ql, qc) (s.drop (k + n)))) := hid (by have := HNL.out; simpa using this)
          clear HNL
          go_wp2_with fail
          refine HN.out.mono ?_
          rintro ex w2 ⟨rfl, hb2⟩
          have hz2 := Nat.lt_of_lt_of_le hz0 hb2.size
          have hz3 := Nat.lt_of_lt_of_le hz1 hb2.size
          have hown2 := ownsRow_below hown hb2
          obtain ⟨c0, c1, f0, f1⟩ := h2a.below hb2
          obtain ⟨d0, d1, g0, g1⟩ := h2b.below hb2
          clear h2a h2b hown
          go_wp2_with fail
          go_region_with (go_at_call 14; refine (Hpas.out _).mono ?_; rintro e wx ⟨rfl, hbx⟩; have hB2 : Below w2.heap.size w2 wx := (by first | exact ((Below.refl _ _).alloc (Nat.le_refl _) _).trans (hbx.mono (by simp)) | exact ((Below.refl _ _).alloc (Nat.le_refl _) _).drew.trans (hbx.mono (by simp)) | exact ((Below.refl _ _).alloc (Nat.le_refl _) _).drew.drew.trans (hbx.mono (by simp)) | exact ((Below.refl _ _).alloc (Nat.le_refl _) _).drew.drew.drew.trans (hbx.mono (by simp)) | exact ((Below.refl _ _).alloc (Nat.le_refl _) _).drew.drew.drew.drew.trans (hbx.mono (by simp))); have hT := (Two.mk d0 d1 g0 g1).below hB2; have m0 := hT.c0; have m1 := hT.c1; have n0 := hT.f0; have n1 := hT.f1)
          all_goals
            have hA2 := (Two.mk c0 c1 f0 f1).below hB2
            have hO2 := ownsRow_below hown2 hB2
            have hBw : Below w.heap.size w wx := (hbw.trans (hb2.mono hbw.size)).trans (hB2.mono (by omega))
            clear hbx hB2
            have hs7 : (c :: r).drop n = (s.drop (k + n)) := Hdn.out
            have hl7 : ((c :: r).drop n).length ≤ s.length - k - n := by rw [List.length_drop, hcl]; exact Nat.le_refl _
            refine ⟨?_, ?_⟩
            · (repeat apply Exists.intro)
              refine ⟨⟨k + n, toks, hkn, by omega, ?_, own_keep hO2 (by omega) _ _, by rw [HP2.out]; exact HNZ, hA2.other (by omega) _ _, by rw [HP2.out]; exact hT.set _ _, (hBw.setCell (p := ⟨w.heap.size + 1, 0, none⟩) (Nat.le_succ _) _).setCell (p := ⟨w.heap.size + 1, 1, none⟩) (Nat.le_succ _) _⟩, rfl⟩
              rw [← hs7, List.take_of_length_le hl7]
            · show ((c :: r).drop n |>.take (s.length - k - n)).length < (c :: r).length
              rw [List.take_of_length_le hl7, List.length_drop]; omega
        · skip
          have HNZ : Hid (res = finT (toks ++ [(kd, t, (pl, pc))]) (lexL (ql, qc) (s.drop (k + n)))) := hid (by have := HNL.out; rw [if_neg hkd] at this; exact this)
          have hkd1 : (0 : Int) < (kd : Int) := by omega
          clear HNL hkd
          go_wp2_with fail
          refine HN.out.mono ?_
          rintro ex w2 ⟨rfl, hb2⟩
          have hz2 := Nat.lt_of_lt_of_le hz0 hb2.size
          have hz3 := Nat.lt_of_lt_of_le hz1 hb2.size
          have hown2 := ownsRow_below hown hb2
          obtain ⟨c0, c1, f0, f1⟩ := h2a.below hb2
          obtain ⟨d0, d1, g0, g1⟩ := h2b.below hb2
          clear h2a h2b hown
          go_wp2_with (at_builtin; go_must (refine wpList_append_src rfl _ _ 26 rfl (w.heap.size + 2) 35 i0 (.agg #[.int .i64 0, .string ⟨#[]⟩, .int .i64 0, .int .i64 0]) 4 40 Tryz.underlying26 hi iz0 iz1 iz2 rfl (by decide) _ toks.length (tokCells toks) rfl ?d1 _ 1 (tokCells [(kd, t, (pl, pc))]) rfl ?d2 ?d3 ?d4 ?d5 ?d6 ?_))
          case d1 => exact (hown2.alloc _).alloc _
          case d2 => exact one_tok2 w2 (kd, t, (pl, pc))
          case d3 => exact tokCells_one _
          case d4 => unfold maxLen; omega
          (try case d5 => omega)
          (try case d6 => simp; omega)
          intro v3 w3 hown3 hgrow
          have hB3 : Below (w.heap.size + 2) w2 w3 := ((((Below.refl (w.heap.size + 2) w2).alloc (by omega) _).alloc (by simp; omega) _)).grown hgrow (by simp; omega) (fun q hq => (hown2.lt q hq).1)
          have h3a := (Two.mk c0 c1 f0 f1).past hB3 (by omega)
          have h3b := (Two.mk d0 d1 g0 g1).past hB3 (by omega)
          have hb3 : Below w.heap.size w w3 := (hbw.trans (hb2.mono hbw.size)).trans (hB3.mono (by omega))
          rw [← tokCells_app] at hown3
          have hown4 : w3.ownsRow (w.heap.size + 2) 35 4 v3 (toks ++ [(kd, t, (pl, pc))]).length (tokCells (toks ++ [(kd, t, (pl, pc))])) := by rw [List.length_append]; exact hown3
          have hz5 := h3b.lt
          obtain ⟨e0, e1, x0, x1⟩ := h3b
          clear hB3 hown3 hown2 hgrow c0 c1 f0 f1 d0 d1 g0 g1
          go_wp2_with fail
          go_region_with (go_at_call 14; refine (Hpas.out _).mono ?_; rintro e wx ⟨rfl, hbx⟩; have hB2 : Below w3.heap.size w3 wx := (by first | exact hbx | exact ((Below.refl _ _).drew).trans (hbx.mono (by simp)) | exact ((Below.refl _ _).drew.drew).trans (hbx.mono (by simp)) | exact ((Below.refl _ _).drew.drew.drew).trans (hbx.mono (by simp))); have hT := (Two.mk e0 e1 x0 x1).below hB2; have m0 := hT.c0; have m1 := hT.c1; have n0 := hT.f0; have n1 := hT.f1)
          all_goals
            have hA2 := h3a.below hB2
            have hO2 := ownsRow_below hown4 hB2
            have hBw : Below w.heap.size w wx := hb3.trans (hB2.mono hb3.size)
            clear hbx hB2
            have hs7 : (c :: r).drop n = (s.drop (k + n)) := Hdn.out
            have hl7 : ((c :: r).drop n).length ≤ s.length - k - n := by rw [List.length_drop, hcl]; exact Nat.le_refl _
            refine ⟨?_, ?_⟩
            · (repeat apply Exists.intro)
              refine ⟨⟨k + n, toks ++ [(kd, t, (pl, pc))], hkn, by simp; omega, ?_, own_keep hO2 (by omega) _ _, by rw [HP2.out]; exact HNZ, hA2.other (by omega) _ _, by rw [HP2.out]; exact hT.set _ _, (hBw.setCell (p := ⟨w.heap.size + 1, 0, none⟩) (Nat.le_succ _) _).setCell (p := ⟨w.heap.size + 1, 1, none⟩) (Nat.le_succ _) _⟩, rfl⟩
              rw [← hs7, List.take_of_length_le hl7]
            · show ((c :: r).drop n |>.take (s.length - k - n)).length < (c :: r).length
              rw [List.take_of_length_le hl7, List.length_drop]; omega
      · have hres : res = ([], e, (pl, pc)) := by rw [HL.out, pieceP_err hp he]; simp [finT, he]
        subst hres
        have qe : ((e : Int) != 0) = true := neT (by omega)
        have hz0 := h2a.lt
        have hz1 := h2b.lt
        clear HX HL hsd hp
        go_wp2_with fail
        refine HN.out.mono ?_
        rintro ex w2 ⟨rfl, hb2⟩
        have hz2 := Nat.lt_of_lt_of_le hz0 hb2.size
        have hz3 := Nat.lt_of_lt_of_le hz1 hb2.size
        obtain ⟨c0, c1, f0, f1⟩ := h2a.below hb2
        obtain ⟨d0, d1, g0, g1⟩ := h2b.below hb2
        clear h2a h2b
        go_wp2_with fail
        go_region
        all_goals (try go_wp2_with fail)
        all_goals
          have h3 := (Two.mk c0 c1 f0 f1).set (.int .i64 pl) (.int .i64 pc)
          have h4 := h3.below ((Below.refl _ _).alloc (Nat.le_refl _) (.cells #[.int .i64 kd, .string (bs t), .int .i64 0, .int .i64 0] 35))
          have hb3 := ((hbw.trans (hb2.mono hbw.size)).setCell (p := ⟨w.heap.size, 0, none⟩) (Nat.le_refl _) (.int .i64 pl)).setCell (p := ⟨w.heap.size, 1, none⟩) (Nat.le_refl _) (.int .i64 pc)
          exact bodyPost_ret (all_res (x := pl) (y := pc) rfl rfl rfl h4.c0 h4.c1) rfl ⟨_, rfl, SliceAt.nil _ _, (hb3.alloc hb3.size _).drew⟩
theorem all_any (s : List UInt8) (hs : s.length ≤ 1000000000000) (w : World) (hr : RangeAt w) :
    Calls Tryz.prog 6 #[.string (bs s)] w (AllRet (allT s) w) := by
  by_cases h : 65536 < s.length
  · exact all_long s hs h w
  · have e : allT s = lexL (1, 1) s := by unfold allT; rw [if_neg h]
    rw [e]; exact all_short s (by omega) w hr
end Go.Proofs.YtijgcoedohhlnaaGreatDoor
