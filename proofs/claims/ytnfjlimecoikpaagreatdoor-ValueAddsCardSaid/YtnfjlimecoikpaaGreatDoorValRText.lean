/- The document's walk over values: text. -/
import Derived.Test.YtnfjlimecoikpaaGreatDoorValText0
import Derived.Test.YtnfjlimecoikpaaGreatDoorValMay5
import Derived.Test.YtnfjlimecoikpaaGreatDoorMPlain
import Derived.Test.YtnfjlimecoikpaaGreatDoorRefQuote
namespace Go.Proofs.YtnfjlimecoikpaaGreatDoor
set_option maxRecDepth 100000
open Go.RowKit

def RTextC (N : Nat) : Prop := ∀ (k n : Int) (s : List UInt8) (lv kv : Value) (l : List VM) (ks : List (List UInt8)), dep (.mk k n s lv kv l ks) ≤ N → nodesB (.mk k n s lv kv l ks) = true → fitB (.mk k n s lv kv l ks) = true → cnt (.mk k n s lv kv l ks) ≤ 20000 → ∀ w, Held w (.mk k n s lv kv l ks) →
    Calls Tryz.prog 24 #[valA k n s lv kv] w fun e w' => e = .returned (.string (bs (textV (.mk k n s lv kv l ks)))) ∧ Below w.heap.size w w'
theorem node_kinds {k n : Int} {s : List UInt8} {m : Nat} {ks : List (List UInt8)} (h : nodeB k n s m ks = true) : k = 0 ∨ k = 1 ∨ k = 2 ∨ k = 3 ∨ k = 4 ∨ (k = 5 ∧ m = ks.length) := by
  by_cases h0 : k = 0
  · exact .inl h0
  by_cases h1 : k = 1
  · exact .inr (.inl h1)
  by_cases h2 : k = 2
  · exact .inr (.inr (.inl h2))
  by_cases h3 : k = 3
  · exact .inr (.inr (.inr (.inl h3)))
  by_cases h4 : k = 4
  · subst h4
    exact .inr (.inr (.inr (.inr (.inl rfl))))
  by_cases h5 : k = 5
  · subst h5
    rw [node5] at h
    simp only [Bool.and_eq_true, beq_iff_eq] at h
    exact .inr (.inr (.inr (.inr (.inr ⟨rfl, h.2.1⟩))))
  unfold nodeB at h
  rw [if_neg h0, if_neg h1, if_neg h2, if_neg h3, if_neg h4, if_neg h5] at h
  cases h
set_option maxHeartbeats 2000000 in
theorem rtext_step (N : Nat) (IH : RTextC N) : RTextC (N + 1) := by
  intro k n s lv kv l ks hN hnb hft hcn w hH
  obtain ⟨hl, hk, hL⟩ := held_mk hH
  have hdep : depL l ≤ N := by rw [dep_mk] at hN; omega
  have hno : nodesL l = true ∧ nodeB k n s l.length ks = true := by simpa [nodesB] using hnb
  have hfi : (-9223372036854775808 ≤ k ∧ k ≤ 9223372036854775807 ∧ -9223372036854775808 ≤ n ∧ n ≤ 9223372036854775807) ∧ fitL l = true := by simpa [fitB] using hft
  have hcl : cntL l ≤ 20000 := by rw [cnt_mk] at hcn; omega
  have htl := textL_le l hno.1 hfi.2
  obtain ⟨hsl, hkl⟩ := node_text hno.2
  have hll := len_cntL l
  have hkinds := node_kinds hno.2
  have HC := hid (fun j (hj : j < l.length) W (hW : Below w.heap.size w W) => show Calls Tryz.prog 24 #[l[j].val] W (fun e w' => e = .returned (.string (bs (textV l[j]))) ∧ Below W.heap.size W w') by
    have h1 := heldL_get (HeldL.below hW (Nat.le_refl _) hL) j hj
    have h2 := dep_get hdep j hj
    have h3 := nodesL_get hno.1 j hj
    have h4 := fitL_get hfi.2 j hj
    have h5 := cntL_get hcl j hj
    generalize l[j] = x at *
    cases x with
    | mk a b c d e f g => exact IH a b c d e f g h2 h3 h4 h5 W h1)
  have HS := hid (fun W (hW : Below w.heap.size w W) => hl.below hW (Nat.le_refl _))
  have HKS := hid (fun W (hW : Below w.heap.size w W) => hk.below hW (Nat.le_refl _))
  obtain ⟨-, la, lc, rfl, hlc, hlm, -⟩ := hl.vms
  obtain ⟨-, ka, kc, rfl, hkc, hkm, -⟩ := hk.str
  unfold maxLen at hlm hkm
  have HB := hid (box_new w k n s (.slice la l.length lc) (.slice ka ks.length kc) 25 (0, 0))
  obtain ⟨c0, c1, c2, c3, c4⟩ := HB.out
  have htm := textL_map l
  have htot := fun j (hj : j < (textL' l).length) => Nat.le_trans (tot_get j hj) htl
  have htg : ∀ j (hj : j < l.length) (hj2 : j < (textL' l).length), (textL' l)[j] = textV l[j] := by intro j hj hj2; simp only [htm, List.getElem_map]
  have hlen : (textL' l).length = l.length := by rw [htm, List.length_map]
  have hs1 := joinC_sl (textL' l)
  have hst := sl_tot (textL' l)
  clear hk hL hH hN hnb hft hcn IH hdep
  rcases hkinds with rfl | rfl | rfl | rfl | rfl | ⟨rfl, hlk⟩
  · have HF : Hid (textV (.mk 0 n s (.slice la l.length lc) (.slice ka ks.length kc) l ks) = [110, 111, 110, 101]) := hid (text_k0 (by decide) ..)
    clear hno hfi htm htot htg hlen hs1 hst
    go_enter Tryz.func24, Tryz.ntmps24
    go_wp2_with fail
    go_ret
    exact ⟨by rw [HF.out]; rfl, below_new w _⟩
  · clear hno hfi htm htot htg hlen hs1 hst
    by_cases hn : n = 1
    · subst hn
      have HF : Hid (textV (.mk 1 1 s (.slice la l.length lc) (.slice ka ks.length kc) l ks) = [116, 114, 117, 101]) := hid (by rw [text_k1, if_pos rfl])
      go_enter Tryz.func24, Tryz.ntmps24
      go_wp2_with fail
      go_ret
      exact ⟨by rw [HF.out]; rfl, below_new w _⟩
    · have HF : Hid (textV (.mk 1 n s (.slice la l.length lc) (.slice ka ks.length kc) l ks) = [102, 97, 108, 115, 101]) := hid (by rw [text_k1, if_neg hn])
      have u1 : (n == 1) = false := eqF hn
      clear hn
      go_enter Tryz.func24, Tryz.ntmps24
      go_wp2_with fail
      go_ret
      exact ⟨by rw [HF.out]; rfl, below_new w _⟩
  · have HN := hid (fun W => refNum_any n.natAbs n W (Nat.le_refl _) hfi.1.2.2.1 hfi.1.2.2.2)
    have HF : Hid (textV (.mk 2 n s (.slice la l.length lc) (.slice ka ks.length kc) l ks) = Lib.itoa n) := hid (text_k2 ..)
    clear hno hfi htm htot htg hlen hs1 hst
    go_enter Tryz.func24, Tryz.ntmps24
    go_wp2_with fail
    refine (HN.out _).mono ?_
    rintro e w1 ⟨rfl, hb1⟩
    go_wp2_with fail
    go_ret
    exact ⟨by rw [HF.out]; rfl, below_call hb1⟩
  · have HQ := hid (fun W => rquote_any s (by omega) _ rfl W)
    have HF : Hid (textV (.mk 3 n s (.slice la l.length lc) (.slice ka ks.length kc) l ks) = quoteL s) := hid (text_k3 ..)
    clear hno hfi htm htot htg hlen hs1 hst
    go_enter Tryz.func24, Tryz.ntmps24
    go_wp2_with fail
    refine (HQ.out _).mono ?_
    rintro e w1 ⟨rfl, rfl⟩
    go_wp2_with fail
    go_ret
    exact ⟨by rw [HF.out]; rfl, below_new w _⟩
  · have HF : Hid (textV (.mk 4 n s (.slice la l.length lc) (.slice ka ks.length kc) l ks) = 91 :: (joinC (textL' l) ++ [93])) := hid (text_k4 ..)
    have HEj := hid (fun j (hj : j < l.length) (hj2 : j < (textL' l).length) => htg j hj hj2)
    have HSl := hid (fun j => Nat.le_trans (joinC_sl ((textL' l).take j)) (Nat.le_trans (sl_take (textL' l) j) hst))
    have hl1 : l.length ≤ (textL' l).length := by omega
    have hl2 : (textL' l).length ≤ l.length := by omega
    generalize textL' l = E at *
    clear hno hfi htm htot htg hlen hs1 hst
    obtain ⟨jt, hjt⟩ : ∃ jt, joinC E = jt := ⟨_, rfl⟩
    have HJT := hid hjt
    rw [hjt] at HF
    have hjl : jt.length ≤ 8000000000 := by have := HSl.out E.length; rw [List.take_length, hjt] at this; omega
    clear hjt
    go_enter Tryz.func24, Tryz.ntmps24
    go_wp2_with fail
    go_loopw [3, 27] (fun x i wr => ∃ (j : Nat) (o : List UInt8), j ≤ l.length ∧ i = .int .i64 j ∧ x = .string (bs o) ∧ Hid (o = joinC (E.take j)) ∧ o.length ≤ 8000000000 ∧ Below w.heap.size w wr ∧ Box wr w.heap.size 4 n s (.slice la l.length lc) (.slice ka ks.length kc)) (fun _ i _ => l.length - (intOf i).toNat)
    case atStart => exact ⟨0, [], by omega, rfl, rfl, hid rfl, by simp, below_new w _, HB.out⟩
    case round =>
      obtain ⟨j, o, hj, rfl, rfl, HO, hol, hbw, hbx⟩ := hrel
      have HBX := hid hbx
      obtain ⟨d0, d1, d2, d3, d4⟩ := hbx
      clear c0 c1 c2 c3 c4
      by_cases hlt : j < l.length
      · have hjE : j < E.length := by omega
        have hsn := HSl.out (j + 1)
        have hej := HEj.out j hlt hjE
        obtain ⟨-, la', lc', hv, -, -, hx⟩ := (HS.out _ hbw).vms
        obtain ⟨lb, lo, rfl, hlb, hcl2⟩ := hx j hlt
        obtain ⟨rfl, rfl⟩ : la = some ⟨lb, lo, none⟩ ∧ lc = lc' := by simpa using hv
        have hfc := hcl2 j hlt
        have HCj := hid (HC.out j hlt _ hbw)
        have ev : l[j].val = valA l[j].k l[j].n l[j].s l[j].lv l[j].kv := by cases l[j]; rfl
        rw [ev] at HCj
        obtain ⟨p0, p1, p2, p3, p4⟩ := hfc
        by_cases h0 : j = 0
        · have HNx : Hid (o ++ textV l[j] = joinC (E.take (j + 1))) := hid (by
            have h1 := HO.out
            subst h0
            rw [join_first E hjE, hej, h1]; rfl)
          have hlx : (o ++ textV l[j]).length ≤ 8000000000 := by rw [HNx.out]; omega
          have hj0 : ¬ 0 < j := by omega
          simp only [List.length_append, List.length_cons] at hlx
          generalize textV l[j] = t at *
          generalize l[j].k = xk at *
          generalize l[j].n = xn at *
          generalize l[j].s = xs at *
          generalize l[j].lv = xl at *
          generalize l[j].kv = xv at *
          clear hcl2 hx hv ev h0 hsn hej
          go_wp2_with fail
          refine HCj.out.mono ?_
          rintro e w1 ⟨rfl, hb1⟩
          go_wp2_with fail
          exact ⟨⟨j + 1, _, by omega, by go_num, rfl, HNx, by simp only [List.length_append, List.length_cons]; omega, Below.chain hbw hb1, HBX.out.keeps hb1⟩, by simp [intOf]; omega⟩
        · have HNx : Hid (o ++ 44 :: 32 :: textV l[j] = joinC (E.take (j + 1))) := hid (by
            rw [join_more E j h0 hjE, hej, ← HO.out])
          have hlx : (o ++ 44 :: 32 :: textV l[j]).length ≤ 8000000000 := by rw [HNx.out]; omega
          have hj0 : 0 < j := by omega
          simp only [List.length_append, List.length_cons] at hlx
          generalize textV l[j] = t at *
          generalize l[j].k = xk at *
          generalize l[j].n = xn at *
          generalize l[j].s = xs at *
          generalize l[j].lv = xl at *
          generalize l[j].kv = xv at *
          clear hcl2 hx hv ev h0 hsn hej
          go_wp2_with fail
          refine HCj.out.mono ?_
          rintro e w1 ⟨rfl, hb1⟩
          go_wp2_with fail
          exact ⟨⟨j + 1, _, by omega, by go_num, rfl, HNx, by simp only [List.length_append, List.length_cons]; omega, Below.chain hbw hb1, HBX.out.keeps hb1⟩, by simp [intOf]; omega⟩
      · obtain rfl : j = l.length := by omega
        have HOE : Hid (o = jt) := hid (by rw [HO.out, List.take_of_length_le (by omega)]; exact HJT.out)
        have ho := HOE.out
        subst ho
        go_wp2_with fail
        go_ret
        exact ⟨by rw [HF.out]; rfl, hbw⟩
  · have HF : Hid (textV (.mk 5 n s (.slice la l.length lc) (.slice ka ks.length kc) l ks) = 123 :: (joinC (entries ks (textL' l)) ++ [125])) := hid (text_k5 ..)
    have htk : ks.length = (textL' l).length := by omega
    have hel := entries_len ks (textL' l) htk
    have HEj := hid (fun j (hj : j < l.length) (hj2 : j < (entries ks (textL' l)).length) (hjk : j < ks.length) => show (entries ks (textL' l))[j] = quoteL ks[j] ++ 58 :: 32 :: textV l[j] by rw [entries_get ks (textL' l) htk j (by omega), htg j hj (by omega)])
    have hse := sl_entries ks (textL' l) hkl
    have HSl := hid (fun j => Nat.le_trans (joinC_sl ((entries ks (textL' l)).take j)) (Nat.le_trans (sl_take (entries ks (textL' l)) j) hse))
    have hl1 : l.length ≤ (entries ks (textL' l)).length := by omega
    have hl2 : (entries ks (textL' l)).length ≤ l.length := by omega
    have hk1 : l.length ≤ ks.length := by omega
    have hk2 : ks.length ≤ l.length := by omega
    generalize entries ks (textL' l) = E at *
    generalize textL' l = ts at *
    clear hno hfi htm htot htg hlen hs1 hst hlk htk hel hse
    obtain ⟨jt, hjt⟩ : ∃ jt, joinC E = jt := ⟨_, rfl⟩
    have HJT := hid hjt
    rw [hjt] at HF
    have hjl : jt.length ≤ 8000000000 := by have := HSl.out E.length; rw [List.take_length, hjt] at this; omega
    clear hjt
    go_enter Tryz.func24, Tryz.ntmps24
    go_wp2_with fail
    go_loopw [3, 27] (fun x i wr => ∃ (j : Nat) (o : List UInt8), j ≤ l.length ∧ i = .int .i64 j ∧ x = .string (bs o) ∧ Hid (o = joinC (E.take j)) ∧ o.length ≤ 8000000000 ∧ Below w.heap.size w wr ∧ Box wr w.heap.size 5 n s (.slice la l.length lc) (.slice ka ks.length kc)) (fun _ i _ => l.length - (intOf i).toNat)
    case atStart => exact ⟨0, [], by omega, rfl, rfl, hid rfl, by simp, below_new w _, HB.out⟩
    case round =>
      obtain ⟨j, o, hj, rfl, rfl, HO, hol, hbw, hbx⟩ := hrel
      have HBX := hid hbx
      obtain ⟨d0, d1, d2, d3, d4⟩ := hbx
      clear c0 c1 c2 c3 c4
      by_cases hlt : j < l.length
      · have hjE : j < E.length := by omega
        have hsn := HSl.out (j + 1)
        have hjk : j < ks.length := by omega
        have hej := HEj.out j hlt hjE hjk
        obtain ⟨-, ka', kc', hvk, -, -, hxk⟩ := (HKS.out _ hbw).str
        obtain ⟨kb, ko, rfl, hkb, hclk⟩ := hxk j hjk
        obtain ⟨rfl, rfl⟩ : ka = some ⟨kb, ko, none⟩ ∧ kc = kc' := by simpa using hvk
        have ek := hclk j hjk
        have HQ := hid (fun W => rquote_any ks[j] (by have := hkl ks[j] (List.getElem_mem hjk); omega) _ rfl W)
        clear hvk hxk hclk
        obtain ⟨-, la', lc', hv, -, -, hx⟩ := (HS.out _ hbw).vms
        obtain ⟨lb, lo, rfl, hlb, hcl2⟩ := hx j hlt
        obtain ⟨rfl, rfl⟩ : la = some ⟨lb, lo, none⟩ ∧ lc = lc' := by simpa using hv
        have hfc := hcl2 j hlt
        have HCj := hid (HC.out j hlt _ hbw)
        have ev : l[j].val = valA l[j].k l[j].n l[j].s l[j].lv l[j].kv := by cases l[j]; rfl
        rw [ev] at HCj
        obtain ⟨p0, p1, p2, p3, p4⟩ := hfc
        by_cases h0 : j = 0
        · have HNx : Hid (o ++ (quoteL ks[j] ++ 58 :: 32 :: textV l[j]) = joinC (E.take (j + 1))) := hid (by
            have h1 := HO.out
            subst h0
            rw [join_first E hjE, hej, h1]; rfl)
          have hlx : (o ++ (quoteL ks[j] ++ 58 :: 32 :: textV l[j])).length ≤ 8000000000 := by rw [HNx.out]; omega
          have hj0 : ¬ 0 < j := by omega
          simp only [List.length_append, List.length_cons] at hlx
          generalize quoteL ks[j] = qt at *
          generalize textV l[j] = t at *
          generalize l[j].k = xk at *
          generalize l[j].n = xn at *
          generalize l[j].s = xs at *
          generalize l[j].lv = xl at *
          generalize l[j].kv = xv at *
          clear hcl2 hx hv ev h0 hsn hej
          go_wp2_with fail
          refine (HQ.out _).mono ?_
          rintro e w0 ⟨rfl, rfl⟩
          go_wp2_with fail
          refine HCj.out.mono ?_
          rintro e w1 ⟨rfl, hb1⟩
          go_wp2_with fail
          exact ⟨⟨j + 1, _, by omega, by go_num, rfl, HNx, by simp only [List.length_append, List.length_cons]; omega, Below.chain hbw hb1, HBX.out.keeps hb1⟩, by simp [intOf]; omega⟩
        · have HNx : Hid (o ++ 44 :: 32 :: (quoteL ks[j] ++ 58 :: 32 :: textV l[j]) = joinC (E.take (j + 1))) := hid (by
            rw [join_more E j h0 hjE, hej, ← HO.out])
          have hlx : (o ++ 44 :: 32 :: (quoteL ks[j] ++ 58 :: 32 :: textV l[j])).length ≤ 8000000000 := by rw [HNx.out]; omega
          have hj0 : 0 < j := by omega
          simp only [List.length_append, List.length_cons] at hlx
          generalize quoteL ks[j] = qt at *
          generalize textV l[j] = t at *
          generalize l[j].k = xk at *
          generalize l[j].n = xn at *
          generalize l[j].s = xs at *
          generalize l[j].lv = xl at *
          generalize l[j].kv = xv at *
          clear hcl2 hx hv ev h0 hsn hej
          go_wp2_with fail
          refine (HQ.out _).mono ?_
          rintro e w0 ⟨rfl, rfl⟩
          go_wp2_with fail
          refine HCj.out.mono ?_
          rintro e w1 ⟨rfl, hb1⟩
          go_wp2_with fail
          exact ⟨⟨j + 1, _, by omega, by go_num, rfl, HNx, by simp only [List.length_append, List.length_cons]; omega, Below.chain hbw hb1, HBX.out.keeps hb1⟩, by simp [intOf]; omega⟩
      · obtain rfl : j = l.length := by omega
        have HOE : Hid (o = jt) := hid (by rw [HO.out, List.take_of_length_le (by omega)]; exact HJT.out)
        have ho := HOE.out
        subst ho
        go_wp2_with fail
        go_ret
        exact ⟨by rw [HF.out]; rfl, hbw⟩
end Go.Proofs.YtnfjlimecoikpaaGreatDoor
