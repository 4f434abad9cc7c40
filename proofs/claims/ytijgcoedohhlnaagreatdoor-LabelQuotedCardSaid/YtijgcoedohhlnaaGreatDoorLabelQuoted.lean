/- The law LabelQuoted. -/
import Derived.Test.YtijgcoedohhlnaaGreatDoorLabelAlive
import Derived.Test.YtijgcoedohhlnaaGreatDoorLabelRefMay
import Derived.Test.YtijgcoedohhlnaaGreatDoorLexIs
import Derived.Test.YtijgcoedohhlnaaGreatDoorLexLaws
import Derived.Test.YtijgcoedohhlnaaGreatDoorLexQuote
namespace Go.Proofs.YtijgcoedohhlnaaGreatDoor
set_option maxRecDepth 100000
open Go.RowKit

theorem split_signs {P : UInt8 → Prop} : ∀ l : List UInt8, (∀ x ∈ splitL l, ∀ c ∈ x, P c) → ∀ c ∈ l, c = 47 ∨ P c
  | [], _, c, h => by cases h
  | d :: r, hp, c, h => by
    unfold splitL at hp
    by_cases hd : d = 47
    · rw [if_pos hd] at hp
      rcases List.mem_cons.1 h with rfl | h
      · exact .inl hd
      · exact split_signs r (fun x hx => hp x (List.mem_cons_of_mem _ hx)) c h
    · rw [if_neg hd] at hp
      have hne := splitL_ne r
      cases hs : splitL r with
      | nil => exact absurd hs hne
      | cons y ys =>
        rw [hs] at hp
        have hp' : ∀ x ∈ ((d :: y) :: ys), ∀ c ∈ x, P c := hp
        rcases List.mem_cons.1 h with rfl | h
        · exact .inr (hp' (c :: y) (by simp) c (by simp))
        · refine split_signs r (fun x hx c hc => ?_) c h
          rw [hs] at hx
          rcases List.mem_cons.1 hx with rfl | hx
          · exact hp' (d :: x) (by simp) c (by simp [hc])
          · exact hp' x (by simp [hx]) c hc
theorem sign_good {c : UInt8} (h : signN c.toNat = true) : badQ c = false := by
  unfold signN at h
  simp only [Bool.or_eq_true, Bool.and_eq_true, decide_eq_true_eq, beq_iff_eq] at h
  unfold badQ
  simp only [Bool.or_eq_false_iff, Bool.and_eq_false_iff, decide_eq_false_iff_not, beq_eq_false_iff_ne]
  omega
theorem part_good {l : List UInt8} (h : partB l = true) : l.any badQ = false := by
  unfold partB at h
  simp only [Bool.and_eq_true] at h
  rw [List.any_eq_false]
  intro c hc
  rw [sign_good (List.all_eq_true.1 h.2 c hc)]; simp
theorem may_good {l : List UInt8} (h : mayB l = true) : l.any badQ = false := by
  unfold mayB at h
  simp only [Bool.and_eq_true] at h
  rw [List.any_eq_false]
  intro c hc
  have := split_signs (P := fun c => badQ c = false) l (fun x hx c hc => by
    have := part_good (List.all_eq_true.1 h.2 x hx)
    rw [List.any_eq_false] at this
    simpa using this c hc) c hc
  rcases this with rfl | h
  · decide
  · rw [h]; simp
theorem long_good {p n : List UInt8} (h : labB p n = true) : (longL p n).any badQ = false := by
  unfold labB at h
  simp only [Bool.and_eq_true] at h
  have h1 : p.any badQ = false := by
    have h1 := h.1
    unfold pkgB at h1
    simp only [Bool.or_eq_true, decide_eq_true_eq] at h1
    rcases h1 with rfl | h1
    · rfl
    · exact may_good h1
  unfold longL
  simp only [List.any_cons, List.any_append, h1, part_good h.2]
  decide
theorem lex_tail (q : Pl) : lexL q [32, 35, 32, 115, 111] = ([], 0, (0, 0)) := by
  rw [lex_gap (by decide)]
  have hp : pieceL [35, 32, 115, 111] = (0, [], 4, 0) := by rfl
  rw [lex_piece hp]; rfl
theorem cut_quoted {s : List UInt8} (hb : s.any badQ = false) (hs : s.length ≤ 10000) : allT (32 :: (quoteL s ++ [32, 35, 32, 115, 111])) = ([(3, s, (1, 2))], 0, (0, 0)) := by
  have hl : (quoteL s).length ≤ 2 * s.length + 2 := by
    rw [quote_len hb]; have := sizeB_le s s.length; rw [sizeB_end] at this; omega
  unfold allT
  rw [if_neg (by simp; omega), lex_gap (by decide)]
  rw [lex_piece_app (by rw [quote_good hb]; simp) (piece_quote _ hb), lex_tail]; rfl
set_option maxHeartbeats 2000000 in
theorem law_quoted (p n pkg : List UInt8) (hp : p.length ≤ 140737488351232) (hn : n.length ≤ 140737488351232) (hk : pkg.length ≤ 140737488351232) (w : World) (hr : RangeAt w) :
    Calls Tryz.prog 3 #[labV p n, .string (bs pkg)] w fun e w' => e = .returned (.bool true) ∧ Below w.heap.size w w' := by
  have Ha := hid alive_any
  by_cases hbig : 3000 < p.length + n.length + pkg.length
  · go_enter Tryz.func3, Tryz.ntmps3
    go_wp2_with fail
    refine (Ha.out _).mono ?_
    rintro e w1 ⟨rfl, hb1⟩
    obtain ⟨c0, c1, hb⟩ := box_cells hb1
    clear hb1
    go_wp2_with fail
    go_ret
    exact ⟨rfl, hb⟩
  · have hsm : p.length + n.length + pkg.length ≤ 3000 := by omega
    have hsm' : ¬ (3000 : Int) < (p.length : Int) + (n.length : Int) + (pkg.length : Int) := by omega
    clear hbig
    cases hlb : labB p n with
    | false =>
      have Hm := hid (rlmay_is p n (by omega) (by omega) false hlb)
      clear hlb
      go_enter Tryz.func3, Tryz.ntmps3
      go_wp2_with fail
      refine (Ha.out _).mono ?_
      rintro e w1 ⟨rfl, hb1⟩
      obtain ⟨c0, c1, hb⟩ := box_cells hb1
      clear hb1
      go_wp2_with fail
      refine (Hm.out _).mono ?_
      rintro e w2 ⟨rfl, hb2⟩
      go_wp2_with fail
      go_ret
      exact ⟨rfl, Below.chain hb hb2⟩
    | true =>
      have hgood := long_good hlb
      have hll : (longL p n).length ≤ 10000 := by unfold longL; simp; omega
      have hcq := cut_quoted hgood hll
      obtain ⟨x, hx⟩ : ∃ x, quoteL (longL p n) = x := ⟨_, rfl⟩
      have hxl : x.length ≤ 30000 := by
        have := sizeB_le (longL p n) (longL p n).length
        rw [sizeB_end] at this
        rw [← hx, quote_len hgood]; omega
      rw [hx] at hcq
      have Hm := hid (rlmay_is p n (by omega) (by omega) true hlb)
      have Ht := hid (text_is p n (by omega) (by omega) (longL p n) (by unfold textL; rw [if_pos hlb]))
      have Hq := hid (fun W => quote_any (longL p n) (by omega) x hx W)
      have HA := hid (fun W (hW : RangeAt W) => all_is (32 :: (x ++ [32, 35, 32, 115, 111])) (by simp; omega) hcq W hW)
      have Hr := hid (read_is (longL p n) pkg (by omega) (by omega) p n 0 (readL_long pkg hlb))
      obtain ⟨y, hy⟩ : ∃ y, longL p n = y := ⟨_, rfl⟩
      rw [hy] at Ht Hq HA Hr
      clear hlb hgood hll hcq hx hy
      go_enter Tryz.func3, Tryz.ntmps3
      go_wp2_with fail
      refine (Ha.out _).mono ?_
      rintro e w1 ⟨rfl, hb1⟩
      obtain ⟨c0, c1, hb⟩ := box_cells hb1
      clear hb1
      go_wp2_with fail
      refine (Hm.out _).mono ?_
      rintro e w2 ⟨rfl, hb2⟩
      have d0 := keeps_of hb2 c0
      have d1 := keeps_of hb2 c1
      have hbA := Below.chain hb hb2
      clear c0 c1 hb2 hb
      go_wp2_with fail
      refine (Ht.out _).mono ?_
      rintro e w3 ⟨rfl, hb3⟩
      go_wp2_with fail
      refine (Hq.out _).mono ?_
      rintro e w4 ⟨rfl, hb4⟩
      have hb34 := Below.chain hb3 hb4
      have hbB := Below.chain hbA hb34
      have f0 := keeps_of hb34 d0
      have f1 := keeps_of hb34 d1
      clear d0 d1 hb3 hb4 hb34 hbA
      go_wp2_with fail
      refine (HA.out _ (hr.below hbB)).mono ?_
      rintro e w5 ⟨v5, rfl, hs5, hb5⟩
      obtain ⟨-, x5, c5, hv5, -, -, hx5⟩ := hs5.toks
      obtain ⟨q5, o5, rfl, hq5, hcl5⟩ := hx5 0 (by simp)
      obtain ⟨a0, a1, -, -⟩ := hcl5 0 (by simp)
      replace a0 : w5.cell? ⟨q5, o5, none⟩ = some (.int .i64 3) := a0
      replace a1 : w5.cell? ⟨q5, o5 + 1, none⟩ = some (.string (bs y)) := a1
      replace hv5 : v5 = .slice (some ⟨q5, o5, none⟩) 1 c5 := hv5
      subst hv5
      have g0 := keeps_of hb5 f0
      have g1 := keeps_of hb5 f1
      have hbC := Below.chain hbB hb5
      have z0 : ∀ o, (w5.alloc o).cell? ⟨q5, o5, none⟩ = some (.int .i64 3) := fun o => keeps_of (below_new w5 o) a0
      have z1 : ∀ o, (w5.alloc o).cell? ⟨q5, o5 + 1, none⟩ = some (.string (bs y)) := fun o => keeps_of (below_new w5 o) a1
      have y0 : ∀ o, (w5.alloc o).cell? ⟨w.heap.size, 0, none⟩ = some (.string (bs p)) := fun o => keeps_of (below_new w5 o) g0
      have y1 : ∀ o, (w5.alloc o).cell? ⟨w.heap.size, 1, none⟩ = some (.string (bs n)) := fun o => keeps_of (below_new w5 o) g1
      clear hs5 hx5 hcl5 a0 a1 f0 f1 g0 g1 hbB hb5
      go_wp2_with fail
      refine (Hr.out _).mono ?_
      rintro e w6 ⟨rfl, hb6⟩
      have k0 : ∀ o, (w6.alloc o).cell? ⟨w.heap.size, 0, none⟩ = some (.string (bs p)) := fun o => keeps_of (below_new w6 o) (keeps_of hb6 (y0 _))
      have k1 : ∀ o, (w6.alloc o).cell? ⟨w.heap.size, 1, none⟩ = some (.string (bs n)) := fun o => keeps_of (below_new w6 o) (keeps_of hb6 (y1 _))
      clear y0 y1 z0 z1
      go_wp2_with fail
      go_ret
      exact ⟨rfl, (Below.chain hbC (below_call hb6)).alloc (Below.chain hbC (below_call hb6)).size _⟩
end Go.Proofs.YtijgcoedohhlnaaGreatDoor
