/- The walks of the reference of trees: Check; the law's texts and fixed. -/
import Derived.Test.YtilkneajohpgiaaDoorTreeCheck
import Derived.Test.YtilkneajohpgiaaDoorPathRefs
namespace Go.Proofs.YtilkneajohpgiaaDoor
open Go.RowKit

set_option maxHeartbeats 4000000 in
set_option maxRecDepth 100000 in
theorem refCheck_any (v0 : Value) (n0 : Nat) (fs : List FileL) (w : World) (h0 : SliceAt w 2 v0 n0 (fileCells fs)) (hbig : ∀ f ∈ fs, f.1.length ≤ 1000000000000 ∧ f.2.length ≤ 1000000000000) :
    Calls Tryd.prog 13 #[v0] w fun e w' => e = .returned (.int .i64 (checkL fs)) ∧ Below w.heap.size w w' := by
  have h00 := h0
  obtain ⟨rfl, a0, c0, rfl, hc0, hm0, -⟩ := h0.files
  clear h0
  unfold maxLen at hm0
  by_cases h1024 : 1024 < fs.length
  · go_enter Tryd.func13, Tryd.ntmps13
    go_wp2
    go_ret
    exact ⟨by rw [checkL, if_pos h1024]; rfl, Below.refl _ _⟩
  · have Hcl : Hid (checkL fs = checkFrom [] true fs) := by apply hid; rw [checkL, if_neg h1024]
    go_enter Tryd.func13, Tryd.ntmps13
    go_wp2
    go_loopw [10] (fun i wr => ∃ (k : Nat) (ahead : List UInt8), k ≤ fs.length ∧ i = .int .i64 k ∧ (∀ j (hj : j < fs.length), k = j + 1 → fs[j].1 = ahead) ∧ checkL fs = checkFrom ahead (k == 0) (fs.drop k) ∧ Below w.heap.size w wr) (fun i _ => fs.length - (intOf i).toNat)
    case atStart => exact ⟨0, [], by omega, rfl, fun j hj h => by omega, Hcl.out, Below.refl _ _⟩
    case round =>
      obtain ⟨k, ahead, hk, rfl, hah, hg, hbw⟩ := hrel
      have Hg := hid hg; clear hg
      have Hah := hid hah; clear hah
      have hsz := hbw.size
      by_cases hlt : k < fs.length
      · have hsl := h00.below hbw (Nat.le_refl _)
        obtain ⟨-, a1, c1, hv, -, -, hx1⟩ := hsl.files
        obtain ⟨b0, o0, rfl, hb0, hcl0⟩ := hx1 k hlt
        obtain ⟨rfl, rfl⟩ : a0 = some ⟨b0, o0, none⟩ ∧ c0 = c1 := by simpa using hv
        have Hsl := hid hsl; clear hsl
        have e0 := (hcl0 k hlt).1
        clear hcl0 hx1 hv
        have hl := hbig fs[k] (List.getElem_mem hlt)
        have Hd := hid (drop_at fs k hlt)
        obtain ⟨f, hf⟩ : ∃ f, fs[k] = f := ⟨_, rfl⟩
        rw [hf] at hl Hd e0
        have Hcells : Hid (∀ W, Below wr.heap.size wr W → ∀ j (hj : j < fs.length), W.cell? ⟨b0, o0 + j * 2, none⟩ = some (.string (bs fs[j].1)) ∧ W.cell? ⟨b0, o0 + j * 2 + 1, none⟩ = some (.string (bs fs[j].2))) := by
          apply hid
          intro W hW j hj
          obtain ⟨-, a2, c2, hv2, -, -, hx2⟩ := (Hsl.out.below hW (Nat.le_refl _)).files
          obtain ⟨b2, o2, rfl, hb2, hcl2⟩ := hx2 j hj
          obtain ⟨⟨rfl, rfl⟩, rfl⟩ : (b0 = b2 ∧ o0 = o2) ∧ c0 = c2 := by simpa using hv2
          exact hcl2 j hj
        have Hf := hid hf; clear hf Hsl
        obtain ⟨p, d⟩ := f
        simp only at hl e0
        obtain ⟨bm, hbm⟩ : ∃ bm, mayB p = bm := ⟨_, rfl⟩
        obtain ⟨bo, hbo⟩ : ∃ bo, (p == outL) = bo := ⟨_, rfl⟩
        obtain ⟨bu, hbu⟩ : ∃ bu, underB p outL = bu := ⟨_, rfl⟩
        have Hm := hid (refMay_is p hl.1 bm hbm)
        have Hu := hid (refUnder_is p outL hl.1 (by decide) bu hbu)
        have Hbad : Hid (badName p = (!bm || bo || bu)) := by apply hid; rw [badName, hbm, hbo, hbu]
        have hbo' : (p == [111, 117, 116]) = bo := hbo
        clear hbm hbo hbu
        have fin : Hid (∀ W n, Below w.heap.size w W → lookE (p, d) ahead (k == 0) = n → n ≠ 0 → Ending.returned (.int .i64 n) = Ending.returned (.int .i64 (checkL fs)) ∧ Below w.heap.size w W) := by
          apply hid; intro W n hb h hn
          rw [Hg.out, Hd.out, checkFrom, if_neg (by rw [h]; exact hn), h]; exact ⟨rfl, hb⟩
        have nxt : Hid (lookE (p, d) ahead (k == 0) = 0 → ∀ W, Below w.heap.size w W → ∃ k_1 ahead_1, k_1 ≤ fs.length ∧ Value.int IntKind.i64 (↑k + 1) = Value.int IntKind.i64 ↑k_1 ∧ (∀ j (hj : j < fs.length), k_1 = j + 1 → fs[j].1 = ahead_1) ∧ checkL fs = checkFrom ahead_1 (k_1 == 0) (fs.drop k_1) ∧ Below w.heap.size w W) := by
          apply hid; intro h W hb
          refine ⟨k + 1, p, by omega, by go_num, fun j hj h => ?_, ?_, hb⟩
          · obtain rfl : j = k := by omega
            rw [Hf.out]
          · rw [Hg.out, Hd.out, checkFrom, if_pos h, show (k + 1 == 0) = false from by simp]
        have hzero : ∀ {x : Nat}, fs.length - ((k : Int) + 1).toNat < fs.length - (k : Int).toNat := by intro _; omega
        clear hzero
        cases bm with
        | false =>
          go_wp2_with fail
          refine (Hm.out _).mono ?_
          rintro e w2 ⟨rfl, hb2⟩
          have hb3 := hbw.trans (hb2.mono hsz)
          go_wp2_with fail
          go_ret
          exact fin.out _ 7 hb3 (by unfold lookE; rw [if_pos (by rw [Hbad.out]; rfl)]) (by decide)
        | true =>
          cases bo with
          | true =>
            go_wp2_with fail
            refine (Hm.out _).mono ?_
            rintro e w2 ⟨rfl, hb2⟩
            have hb3 := hbw.trans (hb2.mono hsz)
            go_wp2_with fail
            go_ret
            exact fin.out _ 7 hb3 (by unfold lookE; rw [if_pos (by rw [Hbad.out]; rfl)]) (by decide)
          | false =>
            cases bu with
            | true =>
              go_wp2_with fail
              refine (Hm.out _).mono ?_
              rintro e w2 ⟨rfl, hb2⟩
              go_wp2_with fail
              refine (Hu.out _).mono ?_
              rintro e w3 ⟨rfl, hb3'⟩
              have hb3 := hbw.trans ((Below.chain hb2 hb3').mono hsz)
              go_wp2_with fail
              go_ret
              exact fin.out _ 7 hb3 (by unfold lookE; rw [if_pos (by rw [Hbad.out]; rfl)]) (by decide)
            | false =>
              have Hnb : Hid (¬ badName p = true) := by apply hid; rw [Hbad.out]; simp
              by_cases hd : 65536 < d.length
              all_goals
                rcases Nat.eq_zero_or_pos k with hk0 | hk0
                · have hq : decide ((0 : Int) < k) = false := decide_eq_false (by omega)
                  have Hk0 := hid hk0; clear hk0
                  have hk1 : (k : Int) ≤ 0 := by rw [Hk0.out]; decide
                  go_wp2_with fail
                  refine (Hm.out _).mono ?_
                  rintro e w2 ⟨rfl, hb2⟩
                  go_wp2_with fail
                  refine (Hu.out _).mono ?_
                  rintro e w3 ⟨rfl, hb3'⟩
                  have hb23 := Below.chain hb2 hb3'
                  have e1 := (Hcells.out _ hb23 k hlt).2
                  rw [Hf.out] at e1
                  have hb3 := hbw.trans (hb23.mono hsz)
                  clear hb2 hb3' hb23
                  go_wp2_with fail
                  first
                    | (go_ret; exact fin.out _ 6 hb3 (by unfold lookE; rw [if_neg Hnb.out]; simp [hd, Hk0.out]; done) (by decide))
                    | exact ⟨nxt.out (by unfold lookE; rw [if_neg Hnb.out]; simp [hd, Hk0.out]; done) _ hb3, by simp [intOf]; omega⟩
                    | go_goals
                · obtain ⟨k, rfl⟩ : ∃ j, k = j + 1 := ⟨k - 1, by omega⟩
                  have hk' : k < fs.length := by omega
                  obtain ⟨be, hbe⟩ : ∃ be, (p == ahead) = be := ⟨_, rfl⟩
                  obtain ⟨bl, hbl⟩ : ∃ bl, Op.bytesLess p ahead = bl := ⟨_, rfl⟩
                  have Hbe := hid hbe
                  have Hbl := hid hbl
                  cases be <;> cases bl
                  all_goals
                    go_wp2_with fail
                    refine (Hm.out _).mono ?_
                    rintro e w2 ⟨rfl, hb2⟩
                    go_wp2_with fail
                    refine (Hu.out _).mono ?_
                    rintro e w3 ⟨rfl, hb3'⟩
                    have hb23 := Below.chain hb2 hb3'
                    have e1 := (Hcells.out _ hb23 (k + 1) hlt).2
                    have e2 := (Hcells.out _ hb23 k hk').1
                    rw [Hf.out] at e1
                    rw [Hah.out k hk' rfl] at e2
                    have hb3 := hbw.trans (hb23.mono hsz)
                    clear hb2 hb3' hb23
                    go_wp2_with fail
                    first
                      | (go_ret; exact fin.out _ 8 hb3 (by unfold lookE; rw [if_neg Hnb.out]; simp [Hbe.out]; done) (by decide))
                      | (go_ret; exact fin.out _ 2 hb3 (by unfold lookE; rw [if_neg Hnb.out]; simp [Hbe.out, Hbl.out]; done) (by decide))
                      | (go_ret; exact fin.out _ 6 hb3 (by unfold lookE; rw [if_neg Hnb.out]; simp [Hbe.out, Hbl.out, hd]; done) (by decide))
                      | exact ⟨nxt.out (by unfold lookE; rw [if_neg Hnb.out]; simp [Hbe.out, Hbl.out, hd]; done) _ hb3, by simp [intOf]; omega⟩
                      | go_goals
      · go_wp2
        go_ret
        exact ⟨by rw [Hg.out, List.drop_eq_nil_of_le (by omega)]; rfl, hbw⟩
end Go.Proofs.YtilkneajohpgiaaDoor
