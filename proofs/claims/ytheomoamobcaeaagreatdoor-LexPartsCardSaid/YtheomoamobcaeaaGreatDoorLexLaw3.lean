/- The law LexParts. -/
import Derived.Test.YtheomoamobcaeaaGreatDoorLexLaw2
namespace Go.Proofs.YtheomoamobcaeaaGreatDoor
set_option maxRecDepth 100000
open Go.RowKit

theorem lex_lines : ∀ (k : Nat) (s : List UInt8) (p : Pl), s.length ≤ k → ∀ t ∈ (lexL p s).1, t.2.2.1 ≤ p.1 + s.length
  | _, [], _, _, t, h => by rw [lex_nil] at h; cases h
  | 0, c :: r, _, hk, _, _ => by simp at hk
  | k + 1, c :: r, p, hk, t, h => by
    obtain ⟨kd, x, n, e, hp⟩ : ∃ kd x n, ∃ e, pieceL (c :: r) = (kd, x, n, e) := ⟨_, _, _, _, rfl⟩
    by_cases he : e = 0
    · subst he
      have hs := piece_size hp
      rw [lex_piece hp] at h
      unfold finT at h
      split at h
      · rcases List.mem_append.1 h with h | h
        · split at h
          · cases h
          · obtain rfl := List.mem_singleton.1 h
            show p.1 ≤ _
            omega
        · have := lex_lines k ((c :: r).drop n) _ (by simp at hk ⊢; omega) t h
          have hd : ((c :: r).drop n).length = (c :: r).length - n := List.length_drop ..
          have ht : ((c :: r).take n).length = n := by rw [List.length_take]; omega
          have ha := (advs_le p ((c :: r).take n)).1
          omega
      · cases h
    · rw [lex_bad hp he] at h; cases h
theorem lex_count : ∀ (k : Nat) (s : List UInt8) (p : Pl), s.length ≤ k → (lexL p s).1.length ≤ s.length
  | _, [], _, _ => Nat.le_refl _
  | 0, c :: r, _, hk => by simp at hk
  | k + 1, c :: r, p, hk => by
    obtain ⟨kd, x, n, e, hp⟩ : ∃ kd x n, ∃ e, pieceL (c :: r) = (kd, x, n, e) := ⟨_, _, _, _, rfl⟩
    by_cases he : e = 0
    · subst he
      have hs := piece_size hp
      rw [lex_piece hp]
      unfold finT
      split
      · have := lex_count k ((c :: r).drop n) (advs p ((c :: r).take n)) (by simp at hk ⊢; omega)
        have hd : ((c :: r).drop n).length = (c :: r).length - n := List.length_drop ..
        rw [List.length_append]
        have h1 : (if kd = 0 then ([] : List Tok) else [(kd, x, p)]).length ≤ 1 := by split <;> simp
        omega
      · exact Nat.zero_le _
    · rw [lex_bad hp he]; exact Nat.zero_le _
theorem at_is (s : List UInt8) (hs : s.length ≤ 1000000) (x y : Nat) (h : advs (1, 1) s = (x, y)) (w : World) :
    Calls Tryz.prog 15 #[.string (bs s), .int .i64 s.length] w fun e w' => e = .returned (.agg #[.int .i64 x, .int .i64 y]) ∧ Below w.heap.size w w' := by
  have := at_any s (by omega) s.length (Nat.le_refl _) w
  rw [List.take_length, h] at this
  exact this
theorem not_line {c : UInt8} (h : c.toNat ≠ 10) : notLine c = true := by unfold notLine; simpa using h
set_option maxHeartbeats 4000000 in
theorem law_parts (a b rem : List UInt8) (ha : a.length ≤ 140737488351232) (hb : b.length ≤ 140737488351232) (hm : rem.length ≤ 140737488351232) (w : World) (hr : RangeAt w) :
    Calls Tryz.prog 6 #[.string (bs a), .string (bs b), .string (bs rem)] w fun e w' => e = .returned (.bool true) ∧ Below w.heap.size w w' := by
  have Ha := hid (alive_any w hr)
  have hc : 300 < a.length ∨ (a.length ≤ 300 ∧ 300 < b.length) ∨ (a.length ≤ 300 ∧ b.length ≤ 300 ∧ 100 < rem.length) ∨ (a.length ≤ 300 ∧ b.length ≤ 300 ∧ rem.length ≤ 100) := by omega
  rcases hc with hc | ⟨hc, hd⟩ | ⟨hc, hd, he⟩ | ⟨hc, hd, he⟩
  iterate 3
    · go_enter Tryz.func6, Tryz.ntmps6
      go_wp2_with fail
      refine Ha.out.mono ?_
      rintro e w1 ⟨rfl, hb1⟩
      go_wp2_with fail
      go_ret
      exact ⟨rfl, hb1⟩
  clear ha hb hm
  obtain ⟨i0, hi, iz0, iz1, iz2⟩ := info_parts tok_info
  obtain ⟨l, e, p, q, h⟩ : ∃ l e p q, allT a = (l, e, (p, q)) := ⟨_, _, _, _, rfl⟩
  obtain ⟨l2, e2, p2, q2, h2⟩ : ∃ l e p q, allT b = (l, e, (p, q)) := ⟨_, _, _, _, rfl⟩
  obtain ⟨d, y, hdy⟩ : ∃ d y, advs (1, 1) a = (d, y) := ⟨_, _, rfl⟩
  have H1 := hid (fun W (hW : RangeAt W) => all_is a (by omega) h W hW)
  have H2 := hid (fun W (hW : RangeAt W) => all_is b (by omega) h2 W hW)
  have HP : Hid (e = 0 → e2 = 0 → allT (a ++ 10 :: b) = (l ++ downT d l2, 0, (0, 0))) := hid (fun x1 x2 => by
    rw [all_good (by omega)] at h h2
    have := parts_plain a b (by rw [h]; exact x1) (by rw [h2]; exact x2)
    rw [h, h2, hdy] at this
    rw [all_good (by simp; omega)]; exact this)
  have HQ : Hid (rem.all notLine = true → e = 0 → e2 = 0 → allT (a ++ 35 :: (rem ++ 10 :: b)) = (l ++ downT d l2, 0, (0, 0))) := hid (fun hr x1 x2 => by
    rw [all_good (by omega)] at h h2
    have := parts_remark a b rem hr (by rw [h]; exact x1) (by rw [h2]; exact x2)
    rw [h, h2, hdy] at this
    rw [all_good (by simp; omega)]; exact this)
  have HD := hid (fun W => at_is a (by omega) d y hdy W)
  have hln := lex_lines b.length b (1, 1) (Nat.le_refl _)
  rw [← all_good (by omega), h2] at hln
  have Hln := hid hln
  have hl1 := lex_count a.length a (1, 1) (Nat.le_refl _)
  rw [← all_good (by omega), h] at hl1
  have hl2 := lex_count b.length b (1, 1) (Nat.le_refl _)
  rw [← all_good (by omega), h2] at hl2
  simp only at hl1 hl2
  have hdb : d ≤ 1 + a.length := by have := (advs_le (1, 1) a).1; rw [hdy] at this; exact this
  clear h h2 hdy hln
  go_enter Tryz.func6, Tryz.ntmps6
  go_wp2_with fail
  refine Ha.out.mono ?_
  rintro e w1 ⟨rfl, hb1⟩
  go_wp2_with fail
  go_loop [7] (fun i => ∃ j : Nat, j ≤ rem.length ∧ i = .int .i64 j ∧ Hid ((rem.take j).all notLine = true)) (fun i => rem.length - (intOf i).toNat)
  case atStart => exact ⟨0, by omega, rfl, hid (by simp)⟩
  case round =>
    obtain ⟨j, hj, rfl, HA⟩ := hrel
    by_cases hlt : j < rem.length
    · by_cases h10 : rem[j].toNat = 10
      · have q1 : ((rem[j].toNat : Int) == 10) = true := eqT (by omega)
        clear h10
        go_wp2_with fail
        go_ret
        exact ⟨rfl, hb1⟩
      · have q1 : ((rem[j].toNat : Int) == 10) = false := eqF (by omega)
        have HN : Hid ((rem.take (j + 1)).all notLine = true) := hid (by rw [take_at rem j hlt, List.all_append, HA.out]; simp [not_line h10])
        clear h10
        go_wp2_with fail
        go_round
        case rel => exact ⟨j + 1, by omega, by go_num, HN⟩
        case measure => simp [intOf]; omega
    · obtain rfl : j = rem.length := by omega
      have HR : Hid (rem.all notLine = true) := hid (by have := HA.out; rwa [List.take_length] at this)
      clear HA
      by_cases k1 : e = 0
      · subst k1
        by_cases k2 : e2 = 0
        · subst k2
          have hp := HP.out rfl rfl
          have hq := HQ.out HR.out rfl rfl
          have H3 := hid (fun W (hW : RangeAt W) => all_is (a ++ 10 :: b) (by simp; omega) hp W hW)
          have H4 := hid (fun W (hW : RangeAt W) => all_is (a ++ 35 :: (rem ++ 10 :: b)) (by simp; omega) hq W hW)
          clear hp hq HP HQ
          go_wp2_with fail
          refine (H1.out _ (hr.below hb1)).mono ?_
          rintro e w2 ⟨v1, rfl, hs1, hb2⟩
          obtain ⟨-, x1, c1, hv1, -⟩ := hs1.toks
          subst hv1
          have hbB := Below.chain (Below.chain hb1 hb2) (below_new w2 (.cells #[.int .i64 p, .int .i64 q] 26))
          go_wp2_with fail
          refine (H2.out _ (hr.below hbB)).mono ?_
          rintro e w3 ⟨v2, rfl, hs2, hb3⟩
          obtain ⟨-, x2, c2, hv2, -⟩ := hs2.toks
          subst hv2
          go_wp2_with fail
          refine (HD.out _).mono ?_
          rintro e w4 ⟨rfl, hb4⟩
          have hbA := below_call hb4
          have s1 := (hs1.below (below_call hb3) (Nat.le_refl _)).below hbA (Nat.le_refl _)
          have s2 := hs2.below hbA (Nat.le_refl _)
          have hbC := Below.chain (Below.chain (Below.chain hb1 hb2) (below_call hb3)) hbA
          have hfd : ∀ W : World, (Instr.field 26 (.agg #[.int .i64 d, .int .i64 y]) 0).run Tryz.prog W = .ok (.int .i64 d) W := fun _ => by kernel_rfl
          clear hs1 hs2 hb1 hb2 hb3 hb4 hbA hbB H1 H2 HD
          go_wp2_with (at_builtin; go_must (refine wpList_append_src rfl _ _ 23 rfl w4.heap.size 33 i0 (.agg #[.int .i64 0, .string ⟨#[]⟩, .int .i64 0, .int .i64 0]) 4 40 Tryz.underlying23 hi iz0 iz1 iz2 rfl (by decide) _ 0 [] rfl ?d1 _ l.length (tokCells l) rfl ?d2 ?d3 ?d4 ?d5 ?d6 ?_))
          case d1 => exact ⟨rfl, .inl ⟨rfl, rfl⟩⟩
          case d2 => exact s1
          case d3 => exact tokCells_one _
          case d4 => unfold maxLen; omega
          case d5 => omega
          case d6 => exact Nat.le_refl _
          intro v3 w5 hown3 hgrow
          have hB5 : Below w4.heap.size w4 w5 := (Below.refl w4.heap.size w4).grown hgrow (Nat.le_refl _) (fun q hq => by cases hq)
          have hown4 : w5.ownsRow w4.heap.size 33 4 v3 (l.length + 0) (tokCells (l ++ downT d (l2.take 0))) := by simpa [downT] using hown3
          clear hown3 hgrow s1 hfd
          go_wp2_with fail
          go_loopw [15, 16] (fun v i wr => ∃ j : Nat, j ≤ l2.length ∧ i = .int .i64 j ∧ wr.ownsRow w4.heap.size 33 4 v (l.length + j) (tokCells (l ++ downT d (l2.take j))) ∧ Below w4.heap.size w4 wr) (fun _ i _ => l2.length - (intOf i).toNat)
          case atStart => exact ⟨0, by omega, rfl, hown4, hB5⟩
          case round =>
            obtain ⟨j, hj, rfl, hown, hbw⟩ := hrel
            by_cases hlt : j < l2.length
            · obtain ⟨-, a2, g2, hv2, -, -, hx2⟩ := (s2.below hbw (Nat.le_refl _)).toks
              obtain ⟨q2, o2, rfl, hq2, hcl2⟩ := hx2 j hlt
              obtain ⟨rfl, rfl⟩ : x2 = some ⟨q2, o2, none⟩ ∧ c2 = g2 := by simpa using hv2
              obtain ⟨e0, e1, e2, e3⟩ := hcl2 j hlt
              have hlj := Hln.out l2[j] (List.getElem_mem hlt)
              have HSN := hid (down_snoc d l2 j hlt)
              clear hcl2 hx2 hv2
              go_wp2_with (at_builtin; go_must (refine wpList_append_src rfl _ _ 23 rfl w4.heap.size 33 i0 (.agg #[.int .i64 0, .string ⟨#[]⟩, .int .i64 0, .int .i64 0]) 4 40 Tryz.underlying23 hi iz0 iz1 iz2 rfl (by decide) _ (l.length + j) (tokCells (l ++ downT d (l2.take j))) rfl ?d1 _ 1 (tokCells [(l2[j].1, l2[j].2.1, (l2[j].2.2.1 + d, l2[j].2.2.2))]) rfl ?d2 ?d3 ?d4 ?d5 ?d6 ?_))
              case d1 => exact (hown.alloc _).alloc _
              case d2 => exact one_tok2 wr (l2[j].1, l2[j].2.1, (l2[j].2.2.1 + d, l2[j].2.2.2))
              case d3 => exact tokCells_one _
              case d4 => unfold maxLen; omega
              case d5 => omega
              case d6 => have := hbw.size; simp; omega
              intro v6 w6 hown6 hgrow6
              have hB6 : Below w4.heap.size w4 w6 := hbw.trans (((((Below.refl w4.heap.size wr).alloc hbw.size _).alloc (by have := hbw.size; simp; omega) _)).grown hgrow6 (by have := hbw.size; simp; omega) (fun q hq => (hown.lt q hq).1))
              have hown7 : w6.ownsRow w4.heap.size 33 4 v6 (l.length + (j + 1)) (tokCells (l ++ downT d (l2.take (j + 1)))) := by
                rw [HSN.out, ← List.append_assoc, tokCells_app]; exact hown6
              clear hown6 hgrow6 hown
              go_wp2_with fail
              exact ⟨⟨j + 1, by omega, by go_num, hown7, hB6⟩, by simp [intOf]; omega⟩
            · obtain rfl : j = l2.length := by omega
              rw [List.take_length, show l.length + l2.length = (l ++ downT d l2).length by rw [List.length_append, down_len]] at hown
              have hsw := SliceAt.of_owns hown (by rw [List.length_append, down_len]; unfold maxLen; omega)
              obtain ⟨L, hL⟩ : ∃ L, l ++ downT d l2 = L := ⟨_, rfl⟩
              rw [hL] at hsw H3 H4
              have hbD := Below.chain hbC hbw
              obtain ⟨-, x7, c7, hv7, -⟩ := hsw.toks
              subst hv7
              clear hown hL hbw s2
              go_wp2_with fail
              refine (H3.out _ (hr.below hbD)).mono ?_
              rintro e w7 ⟨v7, rfl, hs7, hb7⟩
              obtain ⟨-, x8, c8, hv8, -⟩ := hs7.toks
              subst hv8
              have hbE := Below.chain (Below.chain hbD hb7) (below_new w7 (.cells #[.int .i64 0, .int .i64 0] 26))
              go_wp2_with fail
              refine (H4.out _ (hr.below hbE)).mono ?_
              rintro e w8 ⟨v8, rfl, hs8, hb8⟩
              obtain ⟨-, x9, c9, hv9, -⟩ := hs8.toks
              subst hv9
              have hb9 := below_new w8 (.cells #[.int .i64 0, .int .i64 0] 26)
              have hbF := Below.chain (below_call hb8) hb9
              have S7 := hid ((hs7.below (below_call hb8) (Nat.le_refl _)).below hb9 (Nat.le_refl _))
              have S8 := hid (hs8.below hb9 (Nat.le_refl _))
              have SW := hid ((hsw.below hb7 (Nat.le_refl _)).below hbF (Nat.le_refl _))
              have hbG := Below.chain (Below.chain hbD hb7) hbF
              clear hs7 hs8 hsw hb7 hb8 hb9 hbF hbE hbD
              go_wp2_with fail
              refine (tsame_is _ _ _ _ L L true (decide_eq_true rfl) _ _ (Below.refl _ _) S7.out SW.out).mono ?_
              rintro e w9 ⟨rfl, hw9⟩
              have S8' := hid (S8.out.below hw9 (Nat.le_refl _))
              have SW' := hid (SW.out.below hw9 (Nat.le_refl _))
              have hbH := Below.chain hbG hw9
              clear S7 S8 SW hw9
              go_wp2_with fail
              refine (tsame_is _ _ _ _ L L true (decide_eq_true rfl) _ _ (Below.refl _ _) S8'.out SW'.out).mono ?_
              rintro e w10 ⟨rfl, hw10⟩
              go_wp2_with fail
              go_ret
              exact ⟨rfl, Below.chain hbH hw10⟩
        · have qk : ((e2 : Int) != 0) = true := neT (by omega)
          clear k2 HP HQ
          go_wp2_with fail
          refine (H1.out _ (hr.below hb1)).mono ?_
          rintro e w2 ⟨v1, rfl, hs1, hb2⟩
          have hbB := Below.chain (Below.chain hb1 hb2) (below_new w2 (.cells #[.int .i64 p, .int .i64 q] 26))
          go_wp2_with fail
          refine (H2.out _ (hr.below hbB)).mono ?_
          rintro e w3 ⟨v2, rfl, hs2, hb3⟩
          have hbC := Below.chain (Below.chain (Below.chain hb1 hb2) (below_call hb3)) (below_new w3 (.cells #[.int .i64 p2, .int .i64 q2] 26))
          clear hs1 hs2
          go_wp2_with fail
          go_ret
          exact ⟨rfl, hbC⟩
      · have qk : ((e : Int) != 0) = true := neT (by omega)
        clear k1 HP HQ
        go_wp2_with fail
        refine (H1.out _ (hr.below hb1)).mono ?_
        rintro e w2 ⟨v1, rfl, hs1, hb2⟩
        have hbB := Below.chain (Below.chain hb1 hb2) (below_new w2 (.cells #[.int .i64 p, .int .i64 q] 26))
        go_wp2_with fail
        refine (H2.out _ (hr.below hbB)).mono ?_
        rintro e w3 ⟨v2, rfl, hs2, hb3⟩
        have hbC := Below.chain (Below.chain (Below.chain hb1 hb2) (below_call hb3)) (below_new w3 (.cells #[.int .i64 p2, .int .i64 q2] 26))
        clear hs1 hs2
        go_wp2_with fail
        go_ret
        exact ⟨rfl, hbC⟩
end Go.Proofs.YtheomoamobcaeaaGreatDoor
