/- The document's walks over values: Check; how many as far as some; long texts; Great. -/
import Derived.Test.YtnfjlimecoikpaaGreatDoorValRef3
namespace Go.Proofs.YtnfjlimecoikpaaGreatDoor
set_option maxRecDepth 100000
open Go.RowKit

mutual
/-- Texts of more than 100 bytes, or more than 60 keys? -/
def longB : VM → Bool
  | .mk _ _ s _ _ l ks => decide (100 < s.length) || decide (60 < ks.length) || ks.any (fun t => decide (100 < t.length)) || longL l
def longL : List VM → Bool
  | [] => false
  | v :: r => longB v || longL r
end
theorem longL_app (a b : List VM) : longL (a ++ b) = (longL a || longL b) := by
  induction a with
  | nil => simp [longL]
  | cons v r ih => simp [longL, ih, Bool.or_assoc]
theorem longL_take (l : List VM) (k : Nat) (h : k < l.length) : longL (l.take (k + 1)) = (longL (l.take k) || longB l[k]) := by rw [take_at l k h, longL_app]; simp [longL]
theorem longL_bad {l : List VM} {k : Nat} (hk : k < l.length) (h : longB l[k] = true) : longL l = true := by
  have : l = l.take k ++ (l[k] :: l.drop (k + 1)) := by rw [← drop_at l k hk, List.take_append_drop]
  rw [this, longL_app]; simp [longL, h]
/-- What count answers: never more than there are; exact as far as 60. -/
def CountIs (x : Int) (c : Nat) : Prop := 1 ≤ x ∧ x ≤ c ∧ (x ≤ 60 → x = c)
set_option maxHeartbeats 1000000 in
theorem rcheck_any (k n : Int) (s : List UInt8) (lv kv : Value) (l : List VM) (ks : List (List UInt8)) (w : World) (hH : Held w (.mk k n s lv kv l ks)) (b : Bool) (hb : okB (.mk k n s lv kv l ks) = b) :
    Calls Tryz.prog 14 #[valA k n s lv kv] w fun e w' => e = .returned (.bool b) ∧ Below w.heap.size w w' := by
  have HM := hid (fun W (hW : Below w.heap.size w W) => rmany_any _ k n s lv kv l ks (Nat.le_refl _) W (Held.below hW (Nat.le_refl _) hH) 20000 20000 rfl (by omega))
  have HDp := hid (fun W (hW : Below w.heap.size w W) => rdeep_any _ k n s lv kv l ks (Nat.le_refl _) W (Held.below hW (Nat.le_refl _) hH) 60 60 rfl (by omega))
  have HN := hid (fun W (hW : Below w.heap.size w W) => rnodes_any _ k n s lv kv l ks (Nat.le_refl _) W (Held.below hW (Nat.le_refl _) hH))
  obtain ⟨x, hx⟩ : ∃ x, min (cnt (.mk k n s lv kv l ks)) (20000 + 1) = x := ⟨_, rfl⟩
  obtain ⟨y, hy⟩ : ∃ y, min (dep (.mk k n s lv kv l ks)) (60 + 1) = y := ⟨_, rfl⟩
  obtain ⟨z, hz⟩ : ∃ z, nodesB (.mk k n s lv kv l ks) = z := ⟨_, rfl⟩
  rw [hx] at HM
  rw [hy] at HDp
  rw [hz] at HN
  have HE : Hid ((decide (x ≤ 20000) && decide (y ≤ 60) && z) = b) := hid (by
    rw [← hb, ← hx, ← hy, ← hz]
    unfold okB
    congr 1
    rw [Bool.eq_iff_iff]
    simp only [Bool.and_eq_true, decide_eq_true_eq]; omega)
  have HB := hid (box_new w k n s lv kv 25 (0, 0))
  clear hx hy hz hb hH
  obtain ⟨c0, c1, c2, c3, c4⟩ := HB.out
  by_cases h1 : x ≤ 20000
  · have h1' : (x : Int) ≤ 20000 := by omega
    by_cases h2 : y ≤ 60
    · have h2' : (y : Int) ≤ 60 := by omega
      have HF : Hid (z = b) := hid (by rw [← HE.out]; simp [h1, h2])
      clear h1 h2
      go_enter Tryz.func14, Tryz.ntmps14
      go_wp2_with fail
      refine (HM.out _ (below_new w _)).mono ?_
      rintro e w1 ⟨rfl, hb1⟩
      have hbw1 := below_call hb1
      obtain ⟨d0, d1, d2, d3, d4⟩ := HB.out.keeps hb1
      clear c0 c1 c2 c3 c4 hb1
      go_wp2_with fail
      refine (HDp.out _ hbw1).mono ?_
      rintro e w2 ⟨rfl, hb2⟩
      have hbw2 := Below.chain hbw1 hb2
      have f0 := keeps_of hb2 d0
      have f1 := keeps_of hb2 d1
      have f2 := keeps_of hb2 d2
      have f3 := keeps_of hb2 d3
      have f4 := keeps_of hb2 d4
      clear d0 d1 d2 d3 d4
      go_wp2_with fail
      refine (HN.out _ hbw2).mono ?_
      rintro e w3 ⟨rfl, hb3⟩
      go_wp2_with fail
      all_goals
        go_ret
        exact ⟨by rw [← HF.out]; rfl, Below.chain hbw2 hb3⟩
    · have h2' : ¬ (y : Int) ≤ 60 := by omega
      have HF : Hid (b = false) := hid (by rw [← HE.out]; simp [h2])
      clear h1 h2
      go_enter Tryz.func14, Tryz.ntmps14
      go_wp2_with fail
      refine (HM.out _ (below_new w _)).mono ?_
      rintro e w1 ⟨rfl, hb1⟩
      have hbw1 := below_call hb1
      obtain ⟨d0, d1, d2, d3, d4⟩ := HB.out.keeps hb1
      clear c0 c1 c2 c3 c4 hb1
      go_wp2_with fail
      refine (HDp.out _ hbw1).mono ?_
      rintro e w2 ⟨rfl, hb2⟩
      go_wp2_with fail
      go_ret
      exact ⟨by rw [HF.out]; rfl, Below.chain hbw1 hb2⟩
  · have h1' : ¬ (x : Int) ≤ 20000 := by omega
    have HF : Hid (b = false) := hid (by rw [← HE.out]; simp [h1])
    clear h1
    go_enter Tryz.func14, Tryz.ntmps14
    go_wp2_with fail
    refine (HM.out _ (below_new w _)).mono ?_
    rintro e w1 ⟨rfl, hb1⟩
    go_wp2_with fail
    go_ret
    exact ⟨by rw [HF.out]; rfl, below_call hb1⟩
/-- Some number; where there are not too many, what count tells. -/
def CountRet (c : Nat) (w : World) (e : Ending) (w' : World) : Prop := ∃ x : Int, e = .returned (.int .i64 x) ∧ (-9223372036854775808 ≤ x ∧ x ≤ 9223372036854775807) ∧ (c ≤ 20000 → CountIs x c) ∧ Below w.heap.size w w'
theorem count_step {x r : Int} {c d : Nat} (h1 : 1 ≤ x ∧ x ≤ c ∧ (x ≤ 60 → x = c)) (h0 : x ≤ 60) (h2 : CountIs r d) : 1 ≤ x + r ∧ x + r ≤ (c + d : Nat) ∧ (x + r ≤ 60 → x + r = (c + d : Nat)) := by
  obtain ⟨a1, a2, a3⟩ := h1
  obtain ⟨b1, b2, b3⟩ := h2
  refine ⟨by omega, by omega, fun h => ?_⟩
  have := a3 (by omega)
  have := b3 (by omega)
  omega
set_option maxHeartbeats 1000000 in
theorem rcount_any : ∀ (N : Nat) (k n : Int) (s : List UInt8) (lv kv : Value) (l : List VM) (ks : List (List UInt8)), dep (.mk k n s lv kv l ks) ≤ N → ∀ w, Held w (.mk k n s lv kv l ks) →
    Calls Tryz.prog 20 #[valA k n s lv kv, .int .i64 60] w (CountRet (cnt (.mk k n s lv kv l ks)) w)
  | 0, k, n, s, lv, kv, l, ks, h, _, _ => by have := dep_pos (.mk k n s lv kv l ks); omega
  | N + 1, k, n, s, lv, kv, l, ks, hN, w, hH => by
    obtain ⟨hl, hk, hL⟩ := held_mk hH
    have hdep : depL l ≤ N := by rw [dep_mk] at hN; omega
    have HS := hid (fun W (hW : Below w.heap.size w W) => hl.below hW (Nat.le_refl _))
    have HL := hid (fun W (hW : Below w.heap.size w W) => HeldL.below hW (Nat.le_refl _) hL)
    have HD := hid (fun j hj => dep_get hdep j hj)
    obtain ⟨-, la, lc, rfl, hlc, hlm, -⟩ := hl.vms
    unfold maxLen at hlm
    have HB := hid (box_new w k n s (.slice la l.length lc) kv 25 (0, 0))
    obtain ⟨c0, c1, c2, c3, c4⟩ := HB.out
    have IH := hid (rcount_any N)
    have HC := hid (cnt_mk k n s (.slice la l.length lc) kv l ks)
    clear hl hk hL hH hN hdep
    go_enter Tryz.func20, Tryz.ntmps20
    go_wp2_with fail
    go_loopw [5, 10] (fun x i wr => ∃ (j : Nat) (c : Int), j ≤ l.length ∧ i = .int .i64 j ∧ x = .int .i64 c ∧ -9223372036854775808 ≤ c ∧ c ≤ 9223372036854775807 ∧ Hid (1 + cntL l ≤ 20000 → CountIs c (1 + cntL (l.take j))) ∧ Below w.heap.size w wr ∧ Box wr w.heap.size k n s (.slice la l.length lc) kv) (fun _ i _ => l.length - (intOf i).toNat)
    case atStart => exact ⟨0, 1, by omega, rfl, rfl, by omega, by omega, hid (fun _ => by unfold CountIs; simp [cntL]), below_new w _, HB.out⟩
    case round =>
      obtain ⟨j, c, hj, rfl, rfl, hc1, hc2, HA, hbw, hbx⟩ := hrel
      have HBX := hid hbx
      obtain ⟨d0, d1, d2, d3, d4⟩ := hbx
      clear c0 c1 c2 c3 c4
      by_cases hlt : j < l.length
      · by_cases hle : 60 < c
        · have HF : Hid (1 + cntL l ≤ 20000 → CountIs c (cnt (.mk k n s (.slice la l.length lc) kv l ks))) := hid (fun h => by
            have h1 := HA.out h
            rw [HC.out]
            unfold CountIs at *
            have := cntL_le l j
            omega)
          go_wp2_with fail
          go_ret
          exact ⟨c, rfl, ⟨hc1, hc2⟩, fun h => HF.out (by rw [← HC.out]; exact h), hbw⟩
        · obtain ⟨-, la', lc', hv, -, -, hx⟩ := (HS.out _ hbw).vms
          obtain ⟨lb, lo, rfl, hlb, hcl⟩ := hx j hlt
          obtain ⟨rfl, rfl⟩ : la = some ⟨lb, lo, none⟩ ∧ lc = lc' := by simpa using hv
          have hfc := hcl j hlt
          have hdj := HD.out j hlt
          obtain ⟨k', n', s', lv', kv', l', ks', hq⟩ : ∃ k' n' s' lv' kv' l' ks', l[j] = .mk k' n' s' lv' kv' l' ks' := by
            cases h : l[j] with
            | mk a b c d e f g => exact ⟨a, b, c, d, e, f, g, rfl⟩
          obtain ⟨e0, e1, e2, e3, e4⟩ := hfc.open hq
          rw [hq] at hdj
          have HT := hid (cntL_take l j hlt)
          rw [hq] at HT
          have hcd := cntL_le l (j + 1)
          rw [HT.out] at hcd
          have HCD := hid hcd
          have IHj := hid (IH.out k' n' s' lv' kv' l' ks' hdj _ (heldL_mem (HL.out _ hbw) j hlt hq))
          clear hcl hx hv hfc hq IH hcd
          generalize cnt (.mk k' n' s' lv' kv' l' ks') = cv at *
          go_wp2_with fail
          refine IHj.out.mono ?_
          rintro e w1 ⟨r, rfl, ⟨hr1, hr2⟩, hr3, hb1⟩
          have HNx : Hid (1 + cntL l ≤ 20000 → -9223372036854775808 ≤ c + r ∧ c + r ≤ 9223372036854775807 ∧ CountIs (c + r) (1 + cntL (l.take (j + 1)))) := hid (fun h => by
            have h1 := HA.out h
            have h4 := HCD.out
            have h2 := hr3 (by omega)
            have := count_step h1 (by omega) h2
            rw [HT.out]
            unfold CountIs at *
            omega)
          have HR3 := hid hr3
          clear hr3
          go_wp2_with fail
          exact ⟨⟨j + 1, wrap64 (c + r), by omega, by go_num, rfl, by unfold wrap64; omega, by unfold wrap64; omega, hid (fun h => by
            have h2 := HNx.out h
            have e : wrap64 (c + r) = c + r := by unfold wrap64; omega
            rw [e]; exact h2.2.2), Below.chain hbw hb1, HBX.out.keeps hb1⟩, by simp [intOf]; omega⟩
      · obtain rfl : j = l.length := by omega
        have HF : Hid (1 + cntL l ≤ 20000 → CountIs c (cnt (.mk k n s (.slice la l.length lc) kv l ks))) := hid (fun h => by
          have h1 := HA.out h
          rw [List.take_length] at h1
          rw [HC.out]; exact h1)
        go_wp2_with fail
        go_ret
        exact ⟨c, rfl, ⟨hc1, hc2⟩, fun h => HF.out (by rw [← HC.out]; exact h), hbw⟩
set_option maxHeartbeats 1000000 in
theorem rlong_any : ∀ (N : Nat) (k n : Int) (s : List UInt8) (lv kv : Value) (l : List VM) (ks : List (List UInt8)), dep (.mk k n s lv kv l ks) ≤ N → ∀ w, Held w (.mk k n s lv kv l ks) →
    Calls Tryz.prog 21 #[valA k n s lv kv] w fun e w' => e = .returned (.bool (longB (.mk k n s lv kv l ks))) ∧ Below w.heap.size w w'
  | 0, k, n, s, lv, kv, l, ks, h, _, _ => by have := dep_pos (.mk k n s lv kv l ks); omega
  | N + 1, k, n, s, lv, kv, l, ks, hN, w, hH => by
    obtain ⟨hl, hk, hL⟩ := held_mk hH
    have hdep : depL l ≤ N := by rw [dep_mk] at hN; omega
    have HS := hid (fun W (hW : Below w.heap.size w W) => hl.below hW (Nat.le_refl _))
    have HL := hid (fun W (hW : Below w.heap.size w W) => HeldL.below hW (Nat.le_refl _) hL)
    have HD := hid (fun j hj => dep_get hdep j hj)
    have HK := hid (fun W (hW : Below w.heap.size w W) => hk.below hW (Nat.le_refl _))
    obtain ⟨-, ka, kc, rfl, hkc, hkm, -⟩ := hk.str
    obtain ⟨-, la, lc, rfl, hlc, hlm, -⟩ := hl.vms
    unfold maxLen at hlm hkm
    have HB := hid (box_new w k n s (.slice la l.length lc) (.slice ka ks.length kc) 25 (0, 0))
    obtain ⟨c0, c1, c2, c3, c4⟩ := HB.out
    have IH := hid (rlong_any N)
    have HG : Hid (longB (.mk k n s (.slice la l.length lc) (.slice ka ks.length kc) l ks) = (decide (100 < s.length) || decide (60 < ks.length) || ks.any (fun t => decide (100 < t.length)) || longL l)) := hid (by simp [longB])
    clear hl hk hL hH hN hdep
    by_cases h1 : 100 < s.length ∨ 60 < ks.length
    · have HF : Hid (longB (.mk k n s (.slice la l.length lc) (.slice ka ks.length kc) l ks) = true) := hid (by rw [HG.out]; rcases h1 with h | h <;> simp [h])
      have h2 : (100 : Int) < (s.length : Int) ∨ ((s.length : Int) ≤ 100 ∧ (60 : Int) < (ks.length : Int)) := by omega
      clear h1
      rcases h2 with h2 | ⟨h2, h3⟩
      all_goals
        go_enter Tryz.func21, Tryz.ntmps21
        go_wp2_with fail
        go_ret
        exact ⟨by rw [HF.out]; rfl, below_new w _⟩
    · have h2 : (s.length : Int) ≤ 100 := by omega
      have h3 : (ks.length : Int) ≤ 60 := by omega
      have HG2 : Hid (longB (.mk k n s (.slice la l.length lc) (.slice ka ks.length kc) l ks) = (ks.any (fun t => decide (100 < t.length)) || longL l)) := hid (by
        rw [HG.out, decide_eq_false (by omega), decide_eq_false (by omega)]; rfl)
      clear h1
      go_enter Tryz.func21, Tryz.ntmps21
      go_wp2_with fail
      go_loopw [18] (fun i wr => ∃ j : Nat, j ≤ ks.length ∧ i = .int .i64 j ∧ Hid ((ks.take j).any (fun t => decide (100 < t.length)) = false) ∧ Below w.heap.size w wr ∧ Box wr w.heap.size k n s (.slice la l.length lc) (.slice ka ks.length kc)) (fun i _ => ks.length - (intOf i).toNat)
      case atStart => exact ⟨0, by omega, rfl, hid (by simp), below_new w _, HB.out⟩
      case round =>
        obtain ⟨j, hj, rfl, HA, hbw, hbx⟩ := hrel
        have HBX := hid hbx
        obtain ⟨d0, d1, d2, d3, d4⟩ := hbx
        clear c0 c1 c2 c3 c4
        by_cases hlt : j < ks.length
        · obtain ⟨-, ka', kc', hv, -, -, hx⟩ := (HK.out _ hbw).str
          obtain ⟨kb, ko, rfl, hkb, hcl⟩ := hx j hlt
          obtain ⟨rfl, rfl⟩ : ka = some ⟨kb, ko, none⟩ ∧ kc = kc' := by simpa using hv
          have e0 := hcl j hlt
          by_cases h4 : 100 < ks[j].length
          · have HF : Hid (longB (.mk k n s (.slice la l.length lc) (.slice (some ⟨kb, ko, none⟩) ks.length kc) l ks) = true) := hid (by
              rw [HG2.out, List.any_eq_true.2 ⟨ks[j], List.getElem_mem hlt, decide_eq_true h4⟩]; rfl)
            have h4' : (100 : Int) < (ks[j].length : Int) := by omega
            clear hcl hx hv h4
            go_wp2_with fail
            go_ret
            exact ⟨by rw [HF.out]; rfl, hbw⟩
          · have HNx : Hid ((ks.take (j + 1)).any (fun t => decide (100 < t.length)) = false) := hid (by rw [take_at ks j hlt, List.any_append, HA.out]; simp; omega)
            have h4' : (ks[j].length : Int) ≤ 100 := by omega
            clear hcl hx hv h4
            go_wp2_with fail
            exact ⟨⟨j + 1, by omega, by go_num, HNx, hbw, HBX.out⟩, by simp [intOf]; omega⟩
        · obtain rfl : j = ks.length := by omega
          have HG3 : Hid (longB (.mk k n s (.slice la l.length lc) (.slice ka ks.length kc) l ks) = longL l) := hid (by rw [HG2.out]; have := HA.out; rw [List.take_length] at this; rw [this]; rfl)
          obtain ⟨wo, rfl⟩ : ∃ wo : World, wo = wr := ⟨_, rfl⟩
          go_wp2_with fail
          go_loopw [32] (fun i wr => ∃ j : Nat, j ≤ l.length ∧ i = .int .i64 j ∧ Hid (longL (l.take j) = false) ∧ Below w.heap.size w wr ∧ Box wr w.heap.size k n s (.slice la l.length lc) (.slice ka ks.length kc)) (fun i _ => l.length - (intOf i).toNat)
          case atStart => exact ⟨0, by omega, rfl, hid (by simp [longL]), hbw, HBX.out⟩
          case round =>
            clear hbw d0 d1 d2 d3 d4 HBX
            obtain ⟨j, hj, rfl, HA2, hbw, hbx⟩ := hrel
            have HBX := hid hbx
            obtain ⟨d0, d1, d2, d3, d4⟩ := hbx
            by_cases hlt2 : j < l.length
            · obtain ⟨-, la', lc', hv, -, -, hx⟩ := (HS.out _ hbw).vms
              obtain ⟨lb, lo, rfl, hlb, hcl⟩ := hx j hlt2
              obtain ⟨rfl, rfl⟩ : la = some ⟨lb, lo, none⟩ ∧ lc = lc' := by simpa using hv
              have hfc := hcl j hlt2
              have hdj := HD.out j hlt2
              obtain ⟨k', n', s', lv', kv', l', ks', hq⟩ : ∃ k' n' s' lv' kv' l' ks', l[j] = .mk k' n' s' lv' kv' l' ks' := by
                cases h : l[j] with
                | mk a b c d e f g => exact ⟨a, b, c, d, e, f, g, rfl⟩
              obtain ⟨e0, e1, e2, e3, e4⟩ := hfc.open hq
              rw [hq] at hdj
              have HT := hid (longL_take l j hlt2)
              have HBad := hid (fun h => longL_bad (l := l) hlt2 h)
              rw [hq] at HT HBad
              have IHj := hid (IH.out k' n' s' lv' kv' l' ks' hdj _ (heldL_mem (HL.out _ hbw) j hlt2 hq))
              clear hcl hx hv hfc hq IH
              cases hb : longB (.mk k' n' s' lv' kv' l' ks') with
              | true =>
                have HF : Hid (longB (.mk k n s (.slice (some ⟨lb, lo, none⟩) l.length lc) (.slice ka ks.length kc) l ks) = true) := hid (by rw [HG3.out]; exact HBad.out hb)
                rw [hb] at IHj
                clear hb
                go_wp2_with fail
                refine IHj.out.mono ?_
                rintro e w1 ⟨rfl, hb1⟩
                go_wp2_with fail
                go_ret
                exact ⟨by rw [HF.out]; rfl, Below.chain hbw hb1⟩
              | false =>
                have HNx : Hid (longL (l.take (j + 1)) = false) := hid (by rw [HT.out, HA2.out, hb]; rfl)
                rw [hb] at IHj
                clear hb
                go_wp2_with fail
                refine IHj.out.mono ?_
                rintro e w1 ⟨rfl, hb1⟩
                go_wp2_with fail
                exact ⟨⟨j + 1, by omega, by go_num, HNx, Below.chain hbw hb1, HBX.out.keeps hb1⟩, by simp [intOf]; omega⟩
            · obtain rfl : j = l.length := by omega
              have HF : Hid (longB (.mk k n s (.slice la l.length lc) (.slice ka ks.length kc) l ks) = false) := hid (by rw [HG3.out]; have := HA2.out; rw [List.take_length] at this; exact this)
              go_wp2_with fail
              go_ret
              exact ⟨by rw [HF.out]; rfl, hbw⟩
/-- Whether a value is too great: some answer; the true one where it may be. -/
def GreatRet (v : VM) (w : World) (e : Ending) (w' : World) : Prop := ∃ b : Bool, e = .returned (.bool b) ∧ (cnt v ≤ 20000 → b = (decide (60 < cnt v) || longB v)) ∧ Below w.heap.size w w'
set_option maxHeartbeats 1000000 in
theorem rgreat_any (k n : Int) (s : List UInt8) (lv kv : Value) (l : List VM) (ks : List (List UInt8)) (w : World) (hH : Held w (.mk k n s lv kv l ks)) :
    Calls Tryz.prog 8 #[valA k n s lv kv] w (GreatRet (.mk k n s lv kv l ks) w) := by
  have HC := hid (fun W (hW : Below w.heap.size w W) => rcount_any _ k n s lv kv l ks (Nat.le_refl _) W (Held.below hW (Nat.le_refl _) hH))
  have HLg := hid (fun W (hW : Below w.heap.size w W) => rlong_any _ k n s lv kv l ks (Nat.le_refl _) W (Held.below hW (Nat.le_refl _) hH))
  have HB := hid (box_new w k n s lv kv 25 (0, 0))
  obtain ⟨V, hV⟩ : ∃ V, VM.mk k n s lv kv l ks = V := ⟨_, rfl⟩
  rw [hV] at HC HLg ⊢
  clear hH hV
  obtain ⟨c0, c1, c2, c3, c4⟩ := HB.out
  go_enter Tryz.func8, Tryz.ntmps8
  go_wp2_with fail
  refine (HC.out _ (below_new w _)).mono ?_
  rintro e w1 ⟨x, rfl, ⟨hx1, hx2⟩, hx3, hb1⟩
  have hbw1 := below_call hb1
  obtain ⟨d0, d1, d2, d3, d4⟩ := HB.out.keeps hb1
  have HX := hid hx3
  clear c0 c1 c2 c3 c4 hb1 hx3
  by_cases h : 60 < x
  · have HF : Hid (cnt V ≤ 20000 → true = (decide (60 < cnt V) || longB V)) := hid (fun h1 => by
      have := HX.out h1
      unfold CountIs at this
      rw [decide_eq_true (by omega)]; rfl)
    go_wp2_with fail
    go_ret
    exact ⟨true, rfl, HF.out, hbw1⟩
  · have HF : Hid (cnt V ≤ 20000 → longB V = (decide (60 < cnt V) || longB V)) := hid (fun h1 => by
      have := HX.out h1
      unfold CountIs at this
      rw [decide_eq_false (by omega)]; rfl)
    go_wp2_with fail
    refine (HLg.out _ hbw1).mono ?_
    rintro e w2 ⟨rfl, hb2⟩
    go_wp2_with fail
    all_goals
      go_ret
      exact ⟨(decide (60 < x) || longB V), rfl, fun h1 => by rw [decide_eq_false (by omega : ¬ 60 < x)]; exact HF.out h1, Below.chain hbw1 hb2⟩
end Go.Proofs.YtnfjlimecoikpaaGreatDoor
