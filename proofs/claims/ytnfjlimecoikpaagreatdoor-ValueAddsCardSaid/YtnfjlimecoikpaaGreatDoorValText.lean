/- The program's walk over values: text. -/
import Derived.Test.YtnfjlimecoikpaaGreatDoorValText0
import Derived.Test.YtnfjlimecoikpaaGreatDoorValMay5
import Derived.Test.YtnfjlimecoikpaaGreatDoorMQuiet
namespace Go.Proofs.YtnfjlimecoikpaaGreatDoor
set_option maxRecDepth 100000
open Go.RowKit

set_option maxHeartbeats 2000000 in
theorem text_step (N : Nat) (IH : TextC N) : TextC (N + 1) := by
  intro k n s lv kv l ks hN hnb hft hcn w hH ht
  obtain ⟨hl, hk, hL⟩ := held_mk hH
  have hdep : depL l ≤ N := by rw [dep_mk] at hN; omega
  have hno : nodesL l = true ∧ nodeB k n s l.length ks = true := by simpa [nodesB] using hnb
  have hfi : (-9223372036854775808 ≤ k ∧ k ≤ 9223372036854775807 ∧ -9223372036854775808 ≤ n ∧ n ≤ 9223372036854775807) ∧ fitL l = true := by simpa [fitB] using hft
  have hcl : cntL l ≤ 20000 := by rw [cnt_mk] at hcn; omega
  have htl := textL_le l hno.1 hfi.2
  obtain ⟨hsl, hkl⟩ := node_text hno.2
  have hll := len_cntL l
  have HLV : Hid (∃ a c, lv = .slice a l.length c) := hid (by obtain ⟨-, a, c, e, -⟩ := hl.vms; exact ⟨a, c, e⟩)
  have HA := hid (fun W (hW : Below w.heap.size w W) => all_texts N IH l lv hdep hno.1 hfi.2 hcl W (hl.below hW (Nat.le_refl _)) (HeldL.below hW (Nat.le_refl _) hL) (ht.below hW))
  have HKS := hid (fun W (hW : Below w.heap.size w W) => hk.below hW (Nat.le_refl _))
  have HB := hid (box_new w k n s lv kv 25 (0, 0))
  obtain ⟨c0, c1, c2, c3, c4⟩ := HB.out
  clear hl hH hN hnb hft hcn IH hdep
  by_cases h1 : k = 1
  · subst h1
    by_cases hn : n = 1
    · subst hn
      have HF : Hid (textV (.mk 1 1 s lv kv l ks) = [116, 114, 117, 101]) := hid (by rw [text_k1, if_pos rfl])
      go_enter Tryz.func23, Tryz.ntmps23
      go_wp2_with fail
      go_ret
      exact ⟨by rw [HF.out]; rfl, below_new w _⟩
    · have HF : Hid (textV (.mk 1 n s lv kv l ks) = [102, 97, 108, 115, 101]) := hid (by rw [text_k1, if_neg hn])
      have u1 : (n == 1) = false := eqF hn
      clear hn
      go_enter Tryz.func23, Tryz.ntmps23
      go_wp2_with fail
      go_ret
      exact ⟨by rw [HF.out]; rfl, below_new w _⟩
  by_cases h2 : k = 2
  · subst h2
    have HN := hid (num_any n hfi.1.2.2.1 hfi.1.2.2.2 _ (ht.below (below_new w (.cells #[.int .i64 2, .int .i64 n, .string (bs s), lv, kv] 25))))
    have HF : Hid (textV (.mk 2 n s lv kv l ks) = Lib.itoa n) := hid (text_k2 ..)
    clear hno hfi htl
    go_enter Tryz.func23, Tryz.ntmps23
    go_wp2_with fail
    refine HN.out.mono ?_
    rintro e w1 ⟨rfl, hb1⟩
    go_wp2_with fail
    go_ret
    exact ⟨by rw [HF.out]; rfl, below_call hb1⟩
  by_cases h3 : k = 3
  · subst h3
    have HQ := hid (fun W => quote_any s (by omega) _ rfl W)
    have HF : Hid (textV (.mk 3 n s lv kv l ks) = quoteL s) := hid (text_k3 ..)
    clear hno hfi htl
    go_enter Tryz.func23, Tryz.ntmps23
    go_wp2_with fail
    refine (HQ.out _).mono ?_
    rintro e w1 ⟨rfl, hb1⟩
    go_wp2_with fail
    go_ret
    exact ⟨by rw [HF.out]; rfl, below_call hb1⟩
  by_cases h4 : k = 4
  · subst h4
    have HF : Hid (textV (.mk 4 n s lv kv l ks) = 91 :: (joinC (textL' l) ++ [93])) := hid (text_k4 ..)
    have hjl := joinC_le (textL' l)
    have htn : (textL' l).length = l.length := by rw [textL_map, List.length_map]
    have HJ := hid (fun v W (h : SliceAt W 1 v (textL' l).length (strCells (textL' l))) => joined v _ (textL' l) W h (by omega) (by omega))
    have hjs : (joinC (textL' l)).length ≤ 8000000000 := by omega
    generalize textL' l = ts at *
    generalize joinC ts = jt at *
    have htn2 : ts.length ≤ 20000 := by omega
    clear hno hfi htl hjl hsl hkl htn
    go_enter Tryz.func23, Tryz.ntmps23
    go_wp2_with fail
    refine (HA.out _ (below_new w _)).mono ?_
    rintro e w1 ⟨v1, rfl, hown, hb1⟩
    have hs1 := SliceAt.of_owns hown (by unfold maxLen; omega)
    obtain ⟨-, x1, y1, hv1, -⟩ := hs1.str
    subst hv1
    have HS1 := hid hs1
    clear hs1 hown
    go_wp2_with fail
    refine (HJ.out _ _ HS1.out).mono ?_
    rintro e w2 ⟨rfl, hb2⟩
    go_wp2_with fail
    go_ret
    exact ⟨by rw [HF.out]; rfl, Below.chain (below_call hb1) hb2⟩
  by_cases h5 : k = 5
  · subst h5
    have hnd := hno.2
    rw [node5] at hnd
    simp only [Bool.and_eq_true, beq_iff_eq] at hnd
    have hlk : l.length = ks.length := hnd.2.1
    have HF : Hid (textV (.mk 5 n s lv kv l ks) = 123 :: (joinC (entries ks (textL' l)) ++ [125])) := hid (text_k5 ..)
    have hjl := entries_le ks (textL' l) hkl
    have htn : (textL' l).length = l.length := by rw [textL_map, List.length_map]
    have htk : ks.length = (textL' l).length := by omega
    have HJ := hid (fun v W (h : SliceAt W 1 v (entries ks (textL' l)).length (strCells (entries ks (textL' l)))) => joined v _ (entries ks (textL' l)) W h (by omega) (by rw [entries_len ks _ htk]; omega))
    have hjs : (joinC (entries ks (textL' l))).length ≤ 8000000000 := by omega
    obtain ⟨E, hE⟩ : ∃ E, entries ks (textL' l) = E := ⟨_, rfl⟩
    have HTot := hid (fun j (hj : j < (textL' l).length) => Nat.le_trans (tot_get j hj) htl)
    have HStep := hid (mix_step hE htk)
    have HE2 := hid (mix_ends hE htk)
    rw [hE] at HF HJ hjs hjl
    generalize textL' l = ts at *
    obtain ⟨-, ka, kc, hkv, hkc, hkm, -⟩ := (HKS.out w (Below.refl _ _)).str
    subst hkv
    obtain ⟨la, lc, hlv⟩ := HLV.out
    subst hlv
    unfold maxLen at hkm
    have hk2 : ks.length ≤ 20000 := by omega
    have hk3 : ts.length ≤ ks.length := by omega
    have hk4 : ks.length ≤ ts.length := by omega
    have hk5 : l.length ≤ ks.length := by omega
    have hk6 : ks.length ≤ l.length := by omega
    generalize hjt : joinC E = jt at *
    clear hno hfi htl hjl hnd hjt htk htn hE hlk
    go_enter Tryz.func23, Tryz.ntmps23
    go_wp2_with fail
    refine (HA.out _ (below_new w _)).mono ?_
    rintro e w1 ⟨v1, rfl, hown, hb1⟩
    have hb1' := below_call hb1
    have hbk := HB.out.keeps hb1
    by_cases h0 : ks.length = 0
    · have hts : ts = [] := List.length_eq_zero_iff.1 (by omega)
      have hkz : ks = [] := List.length_eq_zero_iff.1 h0
      have hEz : E = [] := List.length_eq_zero_iff.1 (by have := HE2.out.2.2; omega)
      have hs1 := SliceAt.of_owns hown (by unfold maxLen; omega)
      subst hts hkz hEz
      obtain ⟨-, x1, y1, hv1, -⟩ := hs1.str
      subst hv1
      have HS1 := hid hs1
      obtain ⟨d0, d1, d2, d3, d4⟩ := hbk
      clear hs1 hown h0
      go_wp2_with fail
      go_loop [39] (fun i => i = .int .i64 0) (fun _ => 0)
      case atStart => rfl
      case round =>
        subst hrel
        go_wp2_with fail
        refine (HJ.out _ _ HS1.out).mono ?_
        rintro e w2 ⟨rfl, hb2⟩
        go_wp2_with fail
        go_ret
        exact ⟨by rw [HF.out]; rfl, Below.chain hb1' hb2⟩
    · obtain ⟨g, cap, rfl, hgb', hcap, hcm, hrw⟩ := own_rw hown rfl (by unfold maxLen; omega) (by omega)
      have hgb : w.heap.size ≤ g := by rw [World.size_alloc] at hgb'; omega
      unfold maxLen at hcm
      obtain ⟨d0, d1, d2, d3, d4⟩ := hbk
      have hrw0 : Rw w1 g (mix E ts 0) := by rw [HE2.out.1]; exact hrw
      clear hown hb1 hrw hgb' c0 c1 c2 c3 c4
      go_wp2_with fail
      go_loopw [39] (fun i wr => ∃ j : Nat, j ≤ ks.length ∧ i = .int .i64 j ∧ Rw wr g (mix E ts j) ∧ Below w.heap.size w wr) (fun i _ => ks.length - (intOf i).toNat)
      case atStart => exact ⟨0, by omega, rfl, hrw0, hb1'⟩
      case round =>
        obtain ⟨j, hj, rfl, hrj, hbw⟩ := hrel
        have HRw := hid hrj
        clear hrj
        by_cases hlt : j < ks.length
        · obtain ⟨-, ka', kc', hv, -, -, hx⟩ := (HKS.out _ hbw).str
          obtain ⟨kb, ko, rfl, hkb, hcl2⟩ := hx j hlt
          obtain ⟨rfl, rfl⟩ : ka = some ⟨kb, ko, none⟩ ∧ kc = kc' := by simpa using hv
          have e0 := hcl2 j hlt
          have hjts : j < ts.length := by omega
          obtain ⟨hjm, hmg, hms⟩ := HStep.out j hjts hlt
          have HG := hid hmg
          have HM := hid hms
          have HQ := hid (fun W => quote_any ks[j] (by have := hkl ks[j] (List.getElem_mem hlt); omega) _ rfl W)
          have hkj := hkl ks[j] (List.getElem_mem hlt)
          have hqj := quoteL_le ks[j]
          have htj := HTot.out j hjts
          have r0 := HRw.out.c j hjm
          rw [HG.out] at r0
          clear hcl2 hx hv hmg hms d0 d1 d2 d3 d4
          go_wp2_with fail
          refine wp_region_wh (S := fun _ => True) (by kernel_rfl) ?_
          refine WH.take 0 (some 44) rfl rfl (by kernel_rfl) (by kernel_rfl) (by kernel_rfl) (fun _ _ _ _ h => h) trivial ?_
          apply Exists.intro
          refine ⟨⟨(by kernel_rfl), fun W hW => ?_⟩, ?_⟩
          · go_simp
            try (first | rfl | (rw [if_neg (by (try simp only [List.length_append, List.length_cons, List.length_nil]); omega)]; try rfl))
          try simp only [Act.put, List.setIfInBounds_toArray, List.set_cons_zero, List.set_cons_succ]
          refine WH.take 1 (some 45) rfl rfl (by kernel_rfl) (by kernel_rfl) (by kernel_rfl) (fun _ _ _ _ h => h) trivial ?_
          apply Exists.intro
          refine ⟨⟨(by kernel_rfl), fun W hW => ?_⟩, ?_⟩
          · go_simp
            try (first | rfl | (rw [if_neg (by (try simp only [List.length_append, List.length_cons, List.length_nil]); omega)]; try rfl))
          try simp only [Act.put, List.setIfInBounds_toArray, List.set_cons_zero, List.set_cons_succ]
          refine WH.take 2 (some 46) rfl rfl (by kernel_rfl) (by kernel_rfl) (by kernel_rfl) (fun _ _ _ _ h => h) trivial ?_
          apply Exists.intro
          refine ⟨⟨(by kernel_rfl), fun W hW => ?_⟩, ?_⟩
          · go_simp
            try (first | rfl | (rw [if_neg (by (try simp only [List.length_append, List.length_cons, List.length_nil]); omega)]; try rfl))
          try simp only [Act.put, List.setIfInBounds_toArray, List.set_cons_zero, List.set_cons_succ]
          refine WH.take 5 (some 49) rfl rfl (by kernel_rfl) (by kernel_rfl) (by kernel_rfl) (fun _ _ _ _ h => h) trivial ?_
          apply Exists.intro
          refine ⟨⟨(by kernel_rfl), fun W hW => ?_⟩, ?_⟩
          · go_simp
            try (first | rfl | (rw [if_neg (by (try simp only [List.length_append, List.length_cons, List.length_nil]); omega)]; try rfl))
          try simp only [Act.put, List.setIfInBounds_toArray, List.set_cons_zero, List.set_cons_succ]
          refine WH.take 6 (some 50) rfl rfl (by kernel_rfl) (by kernel_rfl) (by kernel_rfl) (fun _ _ _ _ h => h) trivial ?_
          apply Exists.intro
          refine ⟨⟨(by kernel_rfl), fun W hW => ?_⟩, ?_⟩
          · go_simp
            try (first | rfl | (rw [if_neg (by (try simp only [List.length_append, List.length_cons, List.length_nil]); omega)]; try rfl))
          try simp only [Act.put, List.setIfInBounds_toArray, List.set_cons_zero, List.set_cons_succ]
          refine WH.take 7 (some 51) rfl rfl (by kernel_rfl) (by kernel_rfl) (by kernel_rfl) (fun _ _ _ _ h => h) trivial ?_
          apply Exists.intro
          refine ⟨⟨(by kernel_rfl), fun W hW => ?_⟩, ?_⟩
          · go_simp
            try (first | rfl | (rw [if_neg (by (try simp only [List.length_append, List.length_cons, List.length_nil]); omega)]; try rfl))
          try simp only [Act.put, List.setIfInBounds_toArray, List.set_cons_zero, List.set_cons_succ]
          refine WH.two 3 8 (by kernel_rfl) rfl (by kernel_rfl) rfl (by kernel_rfl) ?_ ?_
          · intro K hK
            go_simp
            refine (HQ.out _).mono ?_
            rintro e w8 ⟨rfl, hb8⟩
            go_wp2_with fail
            refine hK.out _ _ trivial ?_
            clear hK K
            have hr8 := HRw.out.drew.keep hb8
            have f8 := hr8.f j
            have l8 := hr8.c j hjm
            rw [HG.out] at l8
            try simp only [Act.put, List.setIfInBounds_toArray, List.set_cons_zero, List.set_cons_succ]
            refine WH.take 4 (some 48) rfl rfl (by kernel_rfl) (by kernel_rfl) (by kernel_rfl) (fun _ _ _ _ h => h) trivial ?_
            apply Exists.intro
            refine ⟨⟨(by kernel_rfl), fun W hW => ?_⟩, ?_⟩
            · go_simp
              try (first | rfl | (rw [if_neg (by (try simp only [List.length_append, List.length_cons, List.length_nil]); omega)]; try rfl))
            try simp only [Act.put, List.setIfInBounds_toArray, List.set_cons_zero, List.set_cons_succ]
            refine WH.one 8 (by kernel_rfl) rfl (by kernel_rfl) ?_
            intro K hK
            go_simp
            refine hK.out _ _ trivial ?_
            clear hK K
            try simp only [Act.put, List.setIfInBounds_toArray, List.set_cons_zero, List.set_cons_succ]
            refine WH.take 9 (some 53) rfl rfl (by kernel_rfl) (by kernel_rfl) (by kernel_rfl) (fun _ _ _ _ h => h) trivial ?_
            apply Exists.intro
            refine ⟨⟨(by kernel_rfl), fun W hW => ?_⟩, ?_⟩
            · go_simp
              try (first | rfl | (rw [if_neg (by (try simp only [List.length_append, List.length_cons, List.length_nil]); omega)]; try rfl))
            try simp only [Act.put, List.setIfInBounds_toArray, List.set_cons_zero, List.set_cons_succ]
            refine WH.take 10 (some 54) rfl rfl (by kernel_rfl) (by kernel_rfl) (by kernel_rfl) (fun _ _ _ _ h => h) trivial ?_
            apply Exists.intro
            refine ⟨⟨(by kernel_rfl), fun W hW => ?_⟩, ?_⟩
            · go_simp
              try (first | rfl | (rw [if_neg (by (try simp only [List.length_append, List.length_cons, List.length_nil]); omega)]; try rfl))
            try simp only [Act.put, List.setIfInBounds_toArray, List.set_cons_zero, List.set_cons_succ]
            refine WH.one 11 (by kernel_rfl) rfl (by kernel_rfl) ?_
            intro K hK
            go_simp
            refine hK.out _ _ trivial ?_
            clear hK K
            try simp only [Act.put, List.setIfInBounds_toArray, List.set_cons_zero, List.set_cons_succ]
            refine WH.done (by kernel_rfl) ?_
            have hr9 := hr8.set j hjm (quoteL ks[j] ++ 58 :: 32 :: ts[j])
            rw [HM.out] at hr9
            have hb9 : Below w.heap.size w (w8.setCell ⟨g, j, none⟩ (.string (bs (quoteL ks[j] ++ 58 :: 32 :: ts[j])))) := ((hbw.trans (Below.refl _ _).drew).trans (hb8.mono hbw.size)).setCell (p := ⟨g, j, none⟩) hgb _
            clear hr8 f8 l8
            go_wp2_with fail
            (try simp only [List.append_assoc, List.cons_append, List.nil_append])
            exact ⟨⟨j + 1, by omega, by go_num, hr9, hb9⟩, by simp [intOf]; omega⟩
          · intro K hK
            go_simp
            refine hK.out _ _ trivial ?_
            clear hK K
            try simp only [Act.put, List.setIfInBounds_toArray, List.set_cons_zero, List.set_cons_succ]
            refine WH.one 3 (by kernel_rfl) rfl (by kernel_rfl) ?_
            intro K hK
            go_simp
            refine (HQ.out _).mono ?_
            rintro e w8 ⟨rfl, hb8⟩
            go_wp2_with fail
            refine hK.out _ _ trivial ?_
            clear hK K
            have hr8 := HRw.out.drew.keep hb8
            have f8 := hr8.f j
            have l8 := hr8.c j hjm
            rw [HG.out] at l8
            try simp only [Act.put, List.setIfInBounds_toArray, List.set_cons_zero, List.set_cons_succ]
            refine WH.take 4 (some 48) rfl rfl (by kernel_rfl) (by kernel_rfl) (by kernel_rfl) (fun _ _ _ _ h => h) trivial ?_
            apply Exists.intro
            refine ⟨⟨(by kernel_rfl), fun W hW => ?_⟩, ?_⟩
            · go_simp
              try (first | rfl | (rw [if_neg (by (try simp only [List.length_append, List.length_cons, List.length_nil]); omega)]; try rfl))
            try simp only [Act.put, List.setIfInBounds_toArray, List.set_cons_zero, List.set_cons_succ]
            refine WH.take 9 (some 53) rfl rfl (by kernel_rfl) (by kernel_rfl) (by kernel_rfl) (fun _ _ _ _ h => h) trivial ?_
            apply Exists.intro
            refine ⟨⟨(by kernel_rfl), fun W hW => ?_⟩, ?_⟩
            · go_simp
              try (first | rfl | (rw [if_neg (by (try simp only [List.length_append, List.length_cons, List.length_nil]); omega)]; try rfl))
            try simp only [Act.put, List.setIfInBounds_toArray, List.set_cons_zero, List.set_cons_succ]
            refine WH.take 10 (some 54) rfl rfl (by kernel_rfl) (by kernel_rfl) (by kernel_rfl) (fun _ _ _ _ h => h) trivial ?_
            apply Exists.intro
            refine ⟨⟨(by kernel_rfl), fun W hW => ?_⟩, ?_⟩
            · go_simp
              try (first | rfl | (rw [if_neg (by (try simp only [List.length_append, List.length_cons, List.length_nil]); omega)]; try rfl))
            try simp only [Act.put, List.setIfInBounds_toArray, List.set_cons_zero, List.set_cons_succ]
            refine WH.one 11 (by kernel_rfl) rfl (by kernel_rfl) ?_
            intro K hK
            go_simp
            refine hK.out _ _ trivial ?_
            clear hK K
            try simp only [Act.put, List.setIfInBounds_toArray, List.set_cons_zero, List.set_cons_succ]
            refine WH.done (by kernel_rfl) ?_
            have hr9 := hr8.set j hjm (quoteL ks[j] ++ 58 :: 32 :: ts[j])
            rw [HM.out] at hr9
            have hb9 : Below w.heap.size w (w8.setCell ⟨g, j, none⟩ (.string (bs (quoteL ks[j] ++ 58 :: 32 :: ts[j])))) := ((hbw.trans (Below.refl _ _).drew).trans (hb8.mono hbw.size)).setCell (p := ⟨g, j, none⟩) hgb _
            clear hr8 f8 l8
            go_wp2_with fail
            (try simp only [List.append_assoc, List.cons_append, List.nil_append])
            exact ⟨⟨j + 1, by omega, by go_num, hr9, hb9⟩, by simp [intOf]; omega⟩
        · obtain rfl : j = ks.length := by omega
          have hrE : Rw wr g E := by
            have := HRw.out
            have e : ks.length = ts.length := by omega
            rw [e, HE2.out.2.1] at this
            exact this
          have heE : E.length = ts.length := HE2.out.2.2
          have hsE : SliceAt wr 1 (.slice (some ⟨g, 0, none⟩) ts.length cap) ts.length (strCells E) :=
            ⟨by rw [Nat.mul_one]; unfold strCells; rw [List.length_map]; exact heE, _, cap, rfl, hcap, by unfold maxLen; omega, fun h => (by cases h), fun _ => ⟨g, 0, rfl, hrE.lt, fun j' u hu => by
              unfold strCells at hu
              rw [List.getElem?_map, Option.map_eq_some_iff] at hu
              obtain ⟨y, hy, rfl⟩ := hu
              obtain ⟨hjl, rfl⟩ := List.getElem?_eq_some_iff.1 hy
              rw [Nat.zero_add]; exact hrE.c j' hjl⟩⟩
          have HSE := hid hsE
          have HJE := hid (fun (h : SliceAt wr 1 (.slice (some ⟨g, 0, none⟩) ts.length cap) ts.length (strCells E)) => HJ.out (.slice (some ⟨g, 0, none⟩) ts.length cap) wr (by rw [heE]; exact h))
          clear hsE hrE heE d0 d1 d2 d3 d4
          go_wp2_with fail
          refine (HJE.out HSE.out).mono ?_
          rintro e w2 ⟨rfl, hb2⟩
          go_wp2_with fail
          go_ret
          exact ⟨by rw [HF.out]; rfl, Below.chain hbw hb2⟩
  have HF : Hid (textV (.mk k n s lv kv l ks) = [110, 111, 110, 101]) := hid (text_k0 ⟨h1, h2, h3, h4, h5⟩ ..)
  have u1 : (k == 1) = false := eqF h1
  have u2 : (k == 2) = false := eqF h2
  have u3 : (k == 3) = false := eqF h3
  have u4 : (k == 4) = false := eqF h4
  have u5 : (k == 5) = false := eqF h5
  clear h1 h2 h3 h4 h5 hno
  go_enter Tryz.func23, Tryz.ntmps23
  go_wp2_with fail
  go_ret
  exact ⟨by rw [HF.out]; rfl, below_new w _⟩
end Go.Proofs.YtnfjlimecoikpaaGreatDoor
