/- The laws LexQuotes, LexAgain. -/
import Derived.Test.YtheomoamobcaeaaGreatDoorLexLaw1
import Derived.Test.YtheomoamobcaeaaGreatDoorRefQuote
namespace Go.Proofs.YtheomoamobcaeaaGreatDoor
set_option maxRecDepth 100000
open Go.RowKit

theorem quoted_is (s : List UInt8) (m : Nat) (hm : m < 9) (hs : s.length ≤ 500) (hne : quoteL s ≠ []) : allT (List.replicate m 32 ++ quoteL s) = ([(3, s, (1, 1 + m))], 0, (0, 0)) := by
  have hb : s.any badQ = false := by
    cases h : s.any badQ with
    | false => rfl
    | true => exact absurd (by unfold quoteL; rw [if_pos h]) hne
  have hl : (quoteL s).length ≤ 2 * s.length + 2 := by
    rw [quote_len hb]; have := sizeB_le s s.length; rw [sizeB_end] at this; omega
  rw [all_good (by rw [List.length_append, List.length_replicate]; omega), lex_quote m hb]
set_option maxHeartbeats 1000000 in
theorem law_quotes (s : List UInt8) (hs : s.length ≤ 140737488351232) (k : Nat) (hk : k ≤ 255) (w : World) (hr : RangeAt w) :
    Calls Tryz.prog 4 #[.string (bs s), .int .u8 k] w fun e w' => e = .returned (.bool true) ∧ Below w.heap.size w w' := by
  have Ha := hid (alive_any w hr)
  by_cases hc : 500 < s.length
  · go_enter Tryz.func4, Tryz.ntmps4
    go_wp2_with fail
    refine Ha.out.mono ?_
    rintro e w1 ⟨rfl, hb1⟩
    go_wp2_with fail
    go_ret
    exact ⟨rfl, hb1⟩
  · obtain ⟨x, hx⟩ : ∃ x, quoteL s = x := ⟨_, rfl⟩
    have HQ := hid (fun W => quote_any s (by omega) x hx W)
    have HR := hid (fun W => rquote_any s (by omega) x hx W)
    by_cases h0 : x = []
    · subst h0
      clear hx
      go_enter Tryz.func4, Tryz.ntmps4
      go_wp2_with fail
      refine Ha.out.mono ?_
      rintro e w1 ⟨rfl, hb1⟩
      go_wp2_with fail
      refine (HQ.out _).mono ?_
      rintro e w2 ⟨rfl, hb2⟩
      go_wp2_with fail
      refine (HR.out _).mono ?_
      rintro e w3 ⟨rfl, rfl⟩
      go_wp2_with fail
      go_ret
      exact ⟨rfl, Below.chain hb1 hb2⟩
    · obtain ⟨m, hm, hm9⟩ : ∃ m : Nat, (k : Int) % 9 = (m : Int) ∧ m < 9 := ⟨k % 9, by omega, by omega⟩
      have hq := quoted_is s m hm9 (by omega) (by rw [hx]; exact h0)
      rw [hx] at hq
      have hxl : x.length ≤ 1002 := by
        have hb : s.any badQ = false := by
          cases h : s.any badQ with
          | false => rfl
          | true => exact absurd (by rw [← hx]; unfold quoteL; rw [if_pos h]) h0
        have := sizeB_le s s.length
        rw [sizeB_end] at this
        rw [← hx, quote_len hb]; omega
      have HA := hid (fun W (hW : RangeAt W) => all_is (List.replicate m 32 ++ x) (by rw [List.length_append, List.length_replicate]; omega) hq W hW)
      have q0 : (x == []) = false := by simpa using h0
      have q1 : x.isEmpty = false := by simpa using h0
      clear hx hq h0
      go_enter Tryz.func4, Tryz.ntmps4
      go_wp2_with fail
      refine Ha.out.mono ?_
      rintro e w1 ⟨rfl, hb1⟩
      go_wp2_with fail
      refine (HQ.out _).mono ?_
      rintro e w2 ⟨rfl, hb2⟩
      go_wp2_with fail
      refine (HR.out _).mono ?_
      rintro e w3 ⟨rfl, rfl⟩
      have hbC := Below.chain hb1 hb2
      clear hb1 hb2
      go_wp2_with fail
      go_loopw [6, 7] (fun a i wr => ∃ j : Nat, j ≤ m ∧ i = .int .i64 j ∧ a = .string (bs (List.replicate j 32)) ∧ Drawn w2 wr) (fun _ i _ => m - (intOf i).toNat)
      case atStart => exact ⟨0, by omega, rfl, rfl, Drawn.refl _⟩
      case round =>
        obtain ⟨j, hj, rfl, rfl, hd⟩ := hrel
        by_cases hlt : j < m
        · have hsn : List.replicate (j + 1) (32 : UInt8) = List.replicate j 32 ++ [32] := List.replicate_succ'
          have HSN := hid hsn
          clear hsn
          go_wp2_with fail
          exact ⟨⟨j + 1, by omega, by go_num, by rw [HSN.out], hd⟩, by simp [intOf]; omega⟩
        · obtain rfl : j = m := by omega
          have hbD := Below.chain hbC hd.below
          clear hd
          go_wp2_with fail
          refine (HA.out _ (hr.below hbD)).mono ?_
          rintro e w4 ⟨v4, rfl, hs4, hb4⟩
          obtain ⟨-, x4, c4, hv4, -, -, hx4⟩ := hs4.toks
          obtain ⟨q4, o4, rfl, hq4, hcl4⟩ := hx4 0 (by simp)
          obtain ⟨a0, a1, a2, a3⟩ := hcl4 0 (by simp)
          replace a0 : ∀ o, (w4.alloc o).cell? ⟨q4, o4, none⟩ = some (.int .i64 3) := fun o => Below.keeps (below_new w4 o) a0
          replace a1 : ∀ o, (w4.alloc o).cell? ⟨q4, o4 + 1, none⟩ = some (.string (bs s)) := fun o => Below.keeps (below_new w4 o) a1
          replace a2 : ∀ o, (w4.alloc o).cell? ⟨q4, o4 + 2, none⟩ = some (.int .i64 1) := fun o => Below.keeps (below_new w4 o) a2
          replace a3 : ∀ o, (w4.alloc o).cell? ⟨q4, o4 + 3, none⟩ = some (.int .i64 (1 + (j : Int))) := fun o => by rw [Below.keeps (below_new w4 o) a3]; rfl
          replace hv4 : v4 = .slice (some ⟨q4, o4, none⟩) 1 c4 := hv4
          subst hv4
          clear hs4 hx4 hcl4
          go_wp2_with fail
          go_ret
          exact ⟨rfl, (Below.chain hbD hb4).alloc (Below.chain hbD hb4).size _⟩

theorem lex_err : ∀ (p : Pl) (s : List UInt8), (lexL p s).2.1 ≠ 0 → (lexL p s).1 = []
  | _, [], h => absurd rfl h
  | p, c :: r, h => by
    obtain ⟨kd, t, n, e, hp⟩ : ∃ kd t n, ∃ e, pieceL (c :: r) = (kd, t, n, e) := ⟨_, _, _, _, rfl⟩
    by_cases he : e = 0
    · subst he
      rw [lex_piece hp] at h ⊢
      unfold finT at h ⊢
      split at h
      · exact absurd rfl h
      · rename_i h2; rw [if_neg h2]
    · rw [lex_bad hp he]
set_option maxHeartbeats 1000000 in
theorem written_any (k : Nat) (t : List UInt8) (a b : Nat) (ht : t.length ≤ 1000000) (w : World) :
    Calls Tryz.prog 14 #[.agg #[.int .i64 k, .string (bs t), .int .i64 a, .int .i64 b]] w fun e w' => e = .returned (.string (bs (writ k t))) ∧ Below w.heap.size w w' := by
  by_cases hk : k = 3
  · have HQ := hid (fun W => rquote_any t (by omega) (writ k t) (by unfold writ; rw [if_pos hk]) W)
    generalize writ k t = x at *
    subst hk
    go_enter Tryz.func14, Tryz.ntmps14
    go_wp2_with fail
    refine (HQ.out _).mono ?_
    rintro e w1 ⟨rfl, rfl⟩
    go_wp2_with fail
    go_ret
    exact ⟨rfl, below_new w _⟩
  · have HE : Hid (writ k t = t) := hid (by unfold writ; rw [if_neg hk])
    have hk1 : ((k : Int) == 3) = false := eqF (by omega)
    clear hk
    go_enter Tryz.func14, Tryz.ntmps14
    go_wp2_with fail
    go_ret
    exact ⟨by rw [HE.out]; rfl, below_new w _⟩
theorem bare_get {a b : List Tok} (h : bare a = bare b) (k : Nat) (ha : k < a.length) (hb : k < b.length) : a[k].1 = b[k].1 ∧ a[k].2.1 = b[k].2.1 := by
  have h1 : (bare a)[k]'(by unfold bare; simpa using ha) = (bare b)[k]'(by unfold bare; simpa using hb) := by simp only [h]
  unfold bare at h1
  simp only [List.getElem_map, Prod.mk.injEq] at h1
  exact h1
theorem bare_len {a b : List Tok} (h : bare a = bare b) : a.length = b.length := by
  have := congrArg List.length h
  unfold bare at this
  simpa using this
set_option maxHeartbeats 2000000 in
theorem law_again (s : List UInt8) (hs : s.length ≤ 140737488351232) (w : World) (hr : RangeAt w) :
    Calls Tryz.prog 5 #[.string (bs s)] w fun e w' => e = .returned (.bool true) ∧ Below w.heap.size w w' := by
  have Ha := hid (alive_any w hr)
  by_cases hc : 600 < s.length
  · go_enter Tryz.func5, Tryz.ntmps5
    go_wp2_with fail
    refine Ha.out.mono ?_
    rintro e w1 ⟨rfl, hb1⟩
    go_wp2_with fail
    go_ret
    exact ⟨rfl, hb1⟩
  · obtain ⟨l, k, p, q, h⟩ : ∃ l e p q, allT s = (l, e, (p, q)) := ⟨_, _, _, _, rfl⟩
    have H1 := hid (fun W (hW : RangeAt W) => all_is s (by omega) h W hW)
    rw [all_good (by omega)] at h
    by_cases hk : k = 0
    · subst hk
      have hag := lex_again s.length s (1, 1) (Nat.le_refl _) (by rw [h])
      have hsh := lex_short s.length s (1, 1) (Nat.le_refl _)
      rw [h] at hag hsh
      simp only at hag hsh
      obtain ⟨hal, hag⟩ := hag
      have hag := hag (1, 1)
      obtain ⟨m, k2, p2, q2, h2⟩ : ∃ m e p q, lexL (1, 1) (againL l) = (m, e, (p, q)) := ⟨_, _, _, _, rfl⟩
      rw [h2] at hag
      simp only at hag
      obtain ⟨rfl, hbare⟩ := hag
      rw [← all_good (by omega)] at h2
      have H2 := hid (fun W (hW : RangeAt W) => all_is (againL l) (by omega) h2 W hW)
      have hml1 : m.length ≤ l.length := Nat.le_of_eq (bare_len hbare)
      have hml2 : l.length ≤ m.length := Nat.le_of_eq (bare_len hbare).symm
      have Hbare := hid (fun j (hj : j < l.length) => bare_get hbare j (by omega) hj)
      have Hsh := hid hsh
      have Htk := hid (fun j => again_take l j)
      have Hsn := hid (fun j hj => again_snoc l j hj)
      have Hen : Hid (againL (l.take l.length) = againL l) := hid (by rw [List.take_length])
      have qml : ((m.length : Int) != (l.length : Int)) = false := neF (by omega)
      obtain ⟨X, hX⟩ : ∃ X, againL l = X := ⟨_, rfl⟩
      rw [hX] at H2 Htk Hen hal
      clear h h2 hbare hsh hX hag
      go_enter Tryz.func5, Tryz.ntmps5
      go_wp2_with fail
      refine Ha.out.mono ?_
      rintro e w1 ⟨rfl, hb1⟩
      go_wp2_with fail
      refine (H1.out _ (hr.below hb1)).mono ?_
      rintro e w2 ⟨v1, rfl, hs1, hb2⟩
      obtain ⟨W0, hW0⟩ : ∃ W0, W0 = w2.alloc (.cells #[.int .i64 p, .int .i64 q] 26) := ⟨_, rfl⟩
      have hB0 : Below w2.heap.size w2 W0 := by rw [hW0]; exact below_new _ _
      have hs0 := hs1.below hB0 (Nat.le_refl _)
      have hbC := Below.chain (Below.chain hb1 hb2) hB0
      obtain ⟨-, x1, c1, hv1, hlc1, hcm1, -⟩ := hs0.toks
      subst hv1
      have HS0 := hid (fun W (hW : Below W0.heap.size W0 W) => hs0.below hW (Nat.le_refl _))
      unfold maxLen at hcm1
      clear hs1 hs0 hB0 hb1 hb2
      go_wp2_with fail
      rw [← hW0]
      clear hW0
      go_loopw [6, 7] (fun a i wr => ∃ j : Nat, j ≤ l.length ∧ i = .int .i64 j ∧ a = .string (bs (againL (l.take j))) ∧ Below W0.heap.size W0 wr) (fun _ i _ => l.length - (intOf i).toNat)
      case atStart => exact ⟨0, by omega, rfl, rfl, Below.refl _ _⟩
      case round =>
        obtain ⟨j, hj, rfl, rfl, hbw⟩ := hrel
        have hjl := Htk.out j
        by_cases hlt : j < l.length
        · obtain ⟨-, a1, d1, hv1, -, -, hx1⟩ := (HS0.out _ hbw).toks
          obtain ⟨q1, o1, rfl, hq1, hcl1⟩ := hx1 j hlt
          obtain ⟨rfl, rfl⟩ : x1 = some ⟨q1, o1, none⟩ ∧ c1 = d1 := by simpa using hv1
          obtain ⟨e0, e1, e2, e3⟩ := hcl1 j hlt
          have hsh := Hsh.out l[j] (List.getElem_mem hlt)
          have HSN := hid (Hsn.out j hlt)
          have HW := hid (fun W => written_any l[j].1 l[j].2.1 l[j].2.2.1 l[j].2.2.2 (by omega) W)
          have hjn := Htk.out (j + 1)
          rw [HSN.out, List.length_append, List.length_append] at hjn
          replace hjn : (againL (l.take j)).length + ((writ l[j].1 l[j].2.1).length + 1) ≤ X.length := hjn
          clear hcl1 hx1 hv1 hsh
          go_wp2_with fail
          refine (HW.out _).mono ?_
          rintro e w3 ⟨rfl, hb3⟩
          go_wp2_with fail
          exact ⟨⟨j + 1, by omega, by go_num, by rw [HSN.out, ← List.append_assoc], Below.chain hbw hb3⟩, by simp [intOf]; omega⟩
        · obtain rfl : j = l.length := by omega
          rw [Hen.out]
          go_wp2_with fail
          refine (H2.out _ (hr.below (Below.chain hbC hbw))).mono ?_
          rintro e w4 ⟨v4, rfl, hs4, hb4⟩
          obtain ⟨W5, hW5⟩ : ∃ W5, W5 = w4.alloc (.cells #[.int .i64 p2, .int .i64 q2] 26) := ⟨_, rfl⟩
          have hB5 : Below w4.heap.size w4 W5 := by rw [hW5]; exact below_new _ _
          have hs5 := hs4.below hB5 (Nat.le_refl _)
          have hb5 := Below.chain (Below.chain hbw hb4) hB5
          have hbD := Below.chain hbC hb5
          obtain ⟨-, x4, c4, hv4, hlc4, hcm4, hx4⟩ := hs5.toks
          subst hv4
          obtain ⟨-, a1, d1, hv1, -, -, hx1⟩ := (HS0.out _ hb5).toks
          obtain ⟨rfl, rfl⟩ : x1 = a1 ∧ c1 = d1 := by simpa using hv1
          unfold maxLen at hcm4
          clear hs4 hs5 hB5 hb4 hb5 hbw hv1
          go_wp2_with fail
          rw [← hW5]
          clear hW5
          go_loopw [11] (fun i wr => ∃ j : Nat, j ≤ l.length ∧ i = .int .i64 j ∧ Drawn W5 wr) (fun i _ => l.length - (intOf i).toNat)
          case atStart => exact ⟨0, by omega, rfl, Drawn.refl _⟩
          case round =>
            obtain ⟨i, hi, rfl, d, rfl⟩ := hrel
            by_cases hlt : i < l.length
            · obtain ⟨q1, o1, rfl, hq1, hcl1⟩ := hx1 i hlt
              obtain ⟨q4, o4, rfl, hq4, hcl4⟩ := hx4 i (by omega)
              obtain ⟨e0, e1, -, -⟩ := hcl1 i hlt
              obtain ⟨f0, f1, -, -⟩ := hcl4 i (by omega)
              obtain ⟨b0, b1⟩ := Hbare.out i hlt
              rw [b0] at f0
              rw [b1] at f1
              have hlm : i < m.length := by omega
              clear hcl1 hcl4 b0 b1 hx1 hx4
              go_wp2_with fail
              any_goals go_quiet (fail)
              any_goals go_wp2_with fail
              exact ⟨⟨i + 1, by omega, by go_num, ⟨_, rfl⟩⟩, by simp [intOf]; omega⟩
            · go_wp2_with fail
              go_ret
              exact ⟨rfl, Below.chain hbD (Drawn.below ⟨_, rfl⟩)⟩
    · have hl0 := lex_err (1, 1) s (by rw [h]; exact hk)
      rw [h] at hl0
      simp only at hl0
      subst hl0
      have qk : ((k : Int) != 0) = true := neT (by omega)
      clear h hk
      go_enter Tryz.func5, Tryz.ntmps5
      go_wp2_with fail
      refine Ha.out.mono ?_
      rintro e w1 ⟨rfl, hb1⟩
      go_wp2_with fail
      refine (H1.out _ (hr.below hb1)).mono ?_
      rintro e w2 ⟨v1, rfl, hs1, hb2⟩
      obtain ⟨-, x1, c1, hv1, -⟩ := hs1.toks
      subst hv1
      have hbC := Below.chain hb1 hb2
      clear hs1
      go_wp2_with fail
      go_ret
      exact ⟨rfl, hbC.alloc hbC.size _⟩
end Go.Proofs.YtheomoamobcaeaaGreatDoor
