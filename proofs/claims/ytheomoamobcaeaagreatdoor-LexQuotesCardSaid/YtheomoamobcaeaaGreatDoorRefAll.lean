/- The walk of the document's All. -/
import Derived.Test.YtheomoamobcaeaaGreatDoorRefAt
import Derived.Deep.AppendLies
import Derived.Deep.RegionHeld3
namespace Go.Proofs.YtheomoamobcaeaaGreatDoor
set_option maxRecDepth 100000
open Go.RowKit

theorem rall_res {w : World} {tmps : Array Value} {b : Nat} {x y n : Int} {v : Value} (h2 : tmps[2]?.getD undef = v) (h3 : tmps[3]?.getD undef = .int .i64 n) (h4 : tmps[4]?.getD undef = .pointer (some ⟨b, 0, none⟩)) (h0 : w.cell? ⟨b, 0, none⟩ = some (.int .i64 x)) (h1 : w.cell? ⟨b, 1, none⟩ = some (.int .i64 y)) :
    (results Tryz.f10 tmps).run Tryz.prog w = .ok (.tuple #[v, .int .i64 n, .agg #[.int .i64 x, .int .i64 y]]) w := by
  simp [results, Tryz.f10, go_sem, h2, h3, h4, h0, h1]
set_option maxHeartbeats 1000000 in
theorem rall_long (s : List UInt8) (hs : s.length ≤ 1000000000000) (hl : 65536 < s.length) (w : World) :
    Calls Tryz.prog 10 #[.string (bs s)] w (AllRet (allT s) w) := by
  have e : allT s = ([], 6, (1, 1)) := by unfold allT; rw [if_pos hl]
  rw [e]
  have h2 := two_new w (.int .i64 1) (.int .i64 1) 26
  have H2 := hid h2
  clear h2
  go_enter Tryz.func10, Tryz.ntmps10
  go_wp2_with fail
  exact bodyPost_ret (rall_res (x := 1) (y := 1) rfl rfl rfl H2.out.c0 H2.out.c1) rfl ⟨_, rfl, SliceAt.nil _ _, (Below.refl _ _).alloc (Nat.le_refl _) _⟩

set_option maxHeartbeats 4000000 in
theorem rall_short (s : List UInt8) (hl : s.length ≤ 65536) (w : World) :
    Calls Tryz.prog 10 #[.string (bs s)] w (AllRet (lexL (1, 1) s) w) := by
  obtain ⟨i0, hi, iz0, iz1, iz2⟩ := info_parts tok_info
  obtain ⟨res, hres⟩ : ∃ x, x = lexL (1, 1) s := ⟨_, rfl⟩
  rw [← hres]
  have HX := hid hres
  clear hres
  have HA := hid (two_new w (.int .i64 0) (.int .i64 0) 26)
  go_enter Tryz.func10, Tryz.ntmps10
  go_wp2_with fail
  go_loopw [5, 6] (fun v x wr => ∃ (k : Nat) (toks : List Tok), k ≤ s.length ∧ toks.length ≤ k ∧ x = .int .i64 k ∧ wr.ownsRow (w.heap.size + 1) 33 4 v toks.length (tokCells toks) ∧ Hid (res = finT toks (lexL (advs (1, 1) (s.take k)) (s.drop k))) ∧ Two wr w.heap.size (.int .i64 0) (.int .i64 0) ∧ Below w.heap.size w wr) (fun _ x _ => s.length - (intOf x).toNat)
  case atStart =>
    refine ⟨0, [], by omega, by simp, rfl, ⟨rfl, .inl ⟨rfl, rfl⟩⟩, hid ?_, HA.out, (Below.refl _ _).alloc (Nat.le_refl _) _⟩
    rw [HX.out]; exact (finT_nil _ _).symm
  case round =>
    obtain ⟨k, toks, hk, htl, rfl, hown, HL, h2a, hbw⟩ := hrel
    have hsdl : (s.drop k).length = s.length - k := List.length_drop ..
    have htk : ∀ n, advs (advs (1, 1) (s.take k)) ((s.drop k).take n) = advs (1, 1) (s.take (k + n)) := fun n => by rw [← advs_append, List.take_add]
    have hdk : ∀ n, (s.drop k).drop n = s.drop (k + n) := fun n => by rw [List.drop_drop]
    have Htk := hid htk
    have Hdk := hid hdk
    clear htk hdk
    cases hsd : s.drop k with
    | nil =>
      rw [hsd] at HL
      have hk2 : k = s.length := by rw [hsd] at hsdl; simp at hsdl; omega
      have hres : res = (toks, 0, (0, 0)) := by rw [HL.out, lex_nil]; simp [finT]
      subst hres
      subst hk2
      have H2 := hid h2a
      obtain ⟨c0, c1, f0, f1⟩ := h2a
      have Ho := hid hown
      clear hsd HX HL hown hsdl
      go_wp2_with fail
      refine bodyPost_ret (rall_res (x := 0) (y := 0) rfl rfl rfl (H2.out.set _ _).c0 (H2.out.set _ _).c1) rfl ⟨_, rfl, ?_, (hbw.setCell (p := ⟨w.heap.size, 0, none⟩) (Nat.le_refl _) _).setCell (p := ⟨w.heap.size, 1, none⟩) (Nat.le_refl _) _⟩
      have h1 := own_keep (base := w.heap.size + 1) Ho.out (b := w.heap.size) (by omega) (.int .i64 0) (.int .i64 0)
      have h2 : toks.length ≤ maxLen := by unfold maxLen; omega
      exact SliceAt.of_owns h1 h2
    | cons c r =>
      have hcl : (c :: r).length = s.length - k := by rw [← hsd]; exact hsdl
      have hlt : k < s.length := by simp at hcl; omega
      have hT : List.take (s.length - k) (c :: r) = c :: r := List.take_of_length_le (by omega)
      obtain ⟨kd, t, n, e, hp⟩ : ∃ kd t n, ∃ e, pieceL (c :: r) = (kd, t, n, e) := ⟨_, _, _, _, rfl⟩
      have HN := hid (first_any c r (by omega) kd t n e hp wr)
      unfold PieRet pieV at HN
      have HAt := hid (at_any s (by omega) k hk)
      unfold plV at HAt
      obtain ⟨p, hpp⟩ : ∃ p, advs (1, 1) (s.take k) = p := ⟨_, rfl⟩
      rw [hpp] at HL HAt
      rw [hsd, hpp] at Htk
      rw [hsd] at HL Hdk
      obtain ⟨pl, pc⟩ := p
      simp only at HAt
      have hz0 := h2a.lt
      by_cases he : e = 0
      · subst he
        obtain ⟨hn1, hn2, hn3⟩ := piece_size hp
        have hlx := lex_piece (p := (pl, pc)) hp
        rw [Hdk.out] at hlx
        have htk := Htk.out n
        rw [htk] at hlx
        have HNL : Hid (res = finT (toks ++ if kd = 0 then [] else [(kd, t, (pl, pc))]) (lexL (advs (1, 1) (s.take (k + n))) (s.drop (k + n)))) := hid (by rw [HL.out, hlx, finT_finT])
        have hkn : k + n ≤ s.length := by omega
        clear HX HL hp hlx htk Htk Hdk hpp hsdl
        by_cases hkd : kd = 0
        · subst hkd
          have HNZ : Hid (res = finT toks (lexL (advs (1, 1) (s.take (k + n))) (s.drop (k + n)))) := hid (by have := HNL.out; simpa using this)
          clear HNL HAt
          go_wp2_with fail
          refine HN.out.mono ?_
          rintro ex w2 ⟨rfl, hb2⟩
          have hown2 := ownsRow_below hown hb2
          have h2c := h2a.below hb2
          have hbx := hbw.trans (hb2.mono hbw.size)
          clear h2a hown hb2
          go_wp2_with fail
          exact ⟨⟨k + n, toks, hkn, by omega, by go_num, hown2.alloc _, HNZ, h2c.below ((Below.refl _ _).alloc (Nat.le_refl _) _), hbx.alloc hbx.size _⟩, by simp [intOf]; omega⟩
        · have HNZ : Hid (res = finT (toks ++ [(kd, t, (pl, pc))]) (lexL (advs (1, 1) (s.take (k + n))) (s.drop (k + n)))) := hid (by have := HNL.out; rw [if_neg hkd] at this; exact this)
          have hkd1 : (0 : Int) < (kd : Int) := by omega
          clear HNL hkd
          go_wp2_with fail
          refine HN.out.mono ?_
          rintro ex w2 ⟨rfl, hb2⟩
          have hown2 := ownsRow_below hown hb2
          have h2c := h2a.below hb2
          have hbx := hbw.trans (hb2.mono hbw.size)
          have hz2 := Nat.lt_of_lt_of_le hz0 hb2.size
          clear h2a hown hb2
          go_wp2_with fail
          obtain ⟨W0, hW0⟩ : ∃ W0, W0 = w2.alloc (.cells #[.int .i64 kd, .string (bs t), .int .i64 n, .int .i64 0] 43) := ⟨_, rfl⟩
          rw [← hW0]
          have hB0 : Below w2.heap.size w2 W0 := by rw [hW0]; exact (Below.refl _ _).alloc (Nat.le_refl _) _
          have hf0 : Four W0 w2.heap.size (.int .i64 kd) (.string (bs t)) (.int .i64 n) (.int .i64 0) := by rw [hW0]; exact four_new w2 _ _ _ _ _ _
          have hown0 := hown2.alloc (.cells #[.int .i64 kd, .string (bs t), .int .i64 n, .int .i64 0] 43)
          rw [← hW0] at hown0
          have hno := fun q hq => (hown2.lt q hq).2
          have hbs := hbx.size
          have h2d := h2c.below hB0
          have hbw0 := hbx.trans (hB0.mono hbx.size)
          have hzW : w2.heap.size < W0.heap.size := World.block_lt_of_cell? W0 _ hf0.1
          have HF := hid hf0
          obtain ⟨x0, x1, x2, x3⟩ := hf0
          clear hW0 hB0 h2c hbx hown2
          go_region_held3 (fun W => W.cell? ⟨w2.heap.size, 0, none⟩ = some (.int .i64 kd) ∧ W.cell? ⟨w2.heap.size, 1, none⟩ = some (.string (bs t)) ∧ W.cell? ⟨w2.heap.size, 2, none⟩ = some (.int .i64 n))
            (first
              | go_keep
              | exact ⟨z0, z1, z2⟩
              | exact ⟨(hgrow.cell_far (a := ⟨w2.heap.size, 0, none⟩) (by simp; omega) (fun e => Nat.lt_irrefl _ (hno _ e.symm))).trans (by go_simp), (hgrow.cell_far (a := ⟨w2.heap.size, 1, none⟩) (by simp; omega) (fun e => Nat.lt_irrefl _ (hno _ e.symm))).trans (by go_simp), (hgrow.cell_far (a := ⟨w2.heap.size, 2, none⟩) (by simp; omega) (fun e => Nat.lt_irrefl _ (hno _ e.symm))).trans (by go_simp)⟩)
            (first
              | (go_at_call 15; refine (HAt.out _).mono ?_; rintro e wx ⟨rfl, hb'⟩; have hb : Below W0.heap.size W0 wx := (by first | exact hb' | exact ((Below.refl _ _).drew).trans (hb'.mono (by simp)) | exact ((Below.refl _ _).drew.drew).trans (hb'.mono (by simp))); have hszx := hb.size; have z0 : wx.cell? ⟨w2.heap.size, 0, none⟩ = some (.int .i64 kd) := (hb.cell (p := ⟨w2.heap.size, 0, none⟩) hzW).trans x0; have z1 : wx.cell? ⟨w2.heap.size, 1, none⟩ = some (.string (bs t)) := (hb.cell (p := ⟨w2.heap.size, 1, none⟩) hzW).trans x1; have z2 : wx.cell? ⟨w2.heap.size, 2, none⟩ = some (.int .i64 n) := (hb.cell (p := ⟨w2.heap.size, 2, none⟩) hzW).trans x2)
              | (refine step_append_lies _ (by rfl) _ _ _ (by rfl) (w.heap.size + 1) 33 i0 _ 4 40 Tryz.underlying23 hi iz0 iz1 iz2 rfl (by omega) _ toks.length (tokCells toks) (by rfl) (by first | exact (ownsRow_below hown0 hb).alloc _ | exact ((ownsRow_below hown0 hb).alloc _).drew) ⟨wx.heap.size, 0, none⟩ 1 1 (tokCells [(kd, t, (pl, pc))]) (by rfl) (by rfl) (World.news_of_block (cs := #[.int .i64 kd, .string (bs t), .int .i64 pl, .int .i64 pc]) (t := 33) (fr := (0, 0)) (heap_alloc_new wx _)) (tokCells_one _) (by omega) (by unfold maxLen; omega) (by omega) (by simp; omega) (wx.heap.size + 1) (by simp) ?_; intro gg cap w1 hown1 hgrow hat hlt2))
          rename_i hHeld
          obtain ⟨e0, e1, e2⟩ := hHeld
          have hB3 : Below (w.heap.size + 1) wx w1 := ((Below.refl (w.heap.size + 1) wx).alloc (by omega) _).grown hgrow (by simp; omega) (fun q hq => (hown0.lt q hq).1)
          have h2e := (h2d.below hb).past hB3 (by omega)
          have hbw1 : Below w.heap.size w w1 := (hbw0.trans (hb.mono hbw0.size)).trans (hB3.mono (by omega))
          have hown3 : w1.ownsRow (w.heap.size + 1) 33 4 (.slice (some ⟨gg, 0, none⟩) (toks.length + 1) cap) (toks ++ [(kd, t, (pl, pc))]).length (tokCells (toks ++ [(kd, t, (pl, pc))])) := by rw [List.length_append, tokCells_app]; exact hown1
          clear hB3 hgrow hat hown1
          go_wp2_with fail
          exact ⟨⟨k + n, toks ++ [(kd, t, (pl, pc))], hkn, by simp; omega, by go_num, hown3, HNZ, h2e, hbw1⟩, by simp [intOf]; omega⟩
      · have hres : res = ([], e, (pl, pc)) := by rw [HL.out, lex_bad hp he]; simp [finT, he]
        subst hres
        have qe : ((e : Int) != 0) = true := neT (by omega)
        clear HX HL hp hsdl Htk Hdk hpp
        go_wp2_with fail
        refine HN.out.mono ?_
        rintro ex w2 ⟨rfl, hb2⟩
        have hz2 := Nat.lt_of_lt_of_le hz0 hb2.size
        have h2c := h2a.below hb2
        have hbx := hbw.trans (hb2.mono hbw.size)
        clear h2a hb2
        go_wp2_with fail
        obtain ⟨W0, hW0⟩ : ∃ W0, W0 = w2.alloc (.cells #[.int .i64 kd, .string (bs t), .int .i64 n, .int .i64 e] 43) := ⟨_, rfl⟩
        rw [← hW0]
        have hB0 : Below w2.heap.size w2 W0 := by rw [hW0]; exact (Below.refl _ _).alloc (Nat.le_refl _) _
        have hf0 : Four W0 w2.heap.size (.int .i64 kd) (.string (bs t)) (.int .i64 n) (.int .i64 e) := by rw [hW0]; exact four_new w2 _ _ _ _ _ _
        have h2d := h2c.below hB0
        have hbw0 := hbx.trans (hB0.mono hbx.size)
        have HF := hid hf0
        obtain ⟨x0, x1, x2, x3⟩ := hf0
        have HD := hid h2d
        obtain ⟨c0, c1, f0, f1⟩ := h2d
        clear hW0 hB0 h2c hbx
        go_region_with (go_at_call 15; refine (HAt.out _).mono ?_; rintro e wx ⟨rfl, hb⟩; have hB2 : Below W0.heap.size W0 wx := (by first | exact hb | exact ((Below.refl _ _).drew).trans (hb.mono (by simp)) | exact ((Below.refl _ _).drew.drew).trans (hb.mono (by simp)) | exact ((Below.refl _ _).drew.drew.drew).trans (hb.mono (by simp))); have hE := four_below HF.out hB2; have hG := HD.out.below hB2; obtain ⟨y0, y1, y2, y3⟩ := hE; have z0 := hG.c0; have z1 := hG.c1; have z2 := hG.f0; have z3 := hG.f1)
        all_goals (try go_wp2_with fail)
        all_goals
          have h3 := hG.set (.int .i64 pl) (.int .i64 pc)
          have hb3 := ((hbw0.trans (hB2.mono hbw0.size)).setCell (p := ⟨w.heap.size, 0, none⟩) (Nat.le_refl _) (.int .i64 pl)).setCell (p := ⟨w.heap.size, 1, none⟩) (Nat.le_refl _) (.int .i64 pc)
          first
            | exact bodyPost_ret (rall_res (x := pl) (y := pc) rfl rfl rfl h3.c0 h3.c1) rfl ⟨_, rfl, SliceAt.nil _ _, hb3⟩
            | exact bodyPost_ret (rall_res (x := pl) (y := pc) rfl rfl rfl h3.c0 h3.c1) rfl ⟨_, rfl, SliceAt.nil _ _, hb3.drew⟩
theorem rall_any (s : List UInt8) (hs : s.length ≤ 1000000000000) (w : World) :
    Calls Tryz.prog 10 #[.string (bs s)] w (AllRet (allT s) w) := by
  by_cases h : 65536 < s.length
  · exact rall_long s hs h w
  · have e : allT s = lexL (1, 1) s := by unfold allT; rw [if_neg h]
    rw [e]; exact rall_short s (by omega) w
end Go.Proofs.YtheomoamobcaeaaGreatDoor
