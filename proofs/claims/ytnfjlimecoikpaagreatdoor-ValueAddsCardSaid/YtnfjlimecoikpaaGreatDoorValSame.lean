/- The program's walk over two values: are they the same? -/
import Derived.Test.YtnfjlimecoikpaaGreatDoorValRSame
import Derived.Test.YtnfjlimecoikpaaGreatDoorValAll
import Derived.Test.YtnfjlimecoikpaaGreatDoorShelf
namespace Go.Proofs.YtnfjlimecoikpaaGreatDoor
set_option maxRecDepth 100000
open Go.RowKit

theorem str_get (ks : List (List UInt8)) : ∀ j, (ks.map bs).getD j ByteArray.empty = bs (ks.getD j []) := fun j => by
  rw [List.getD_eq_getElem?_getD, List.getD_eq_getElem?_getD, List.getElem?_map]
  cases ks[j]? <;> rfl
theorem bs_inj' {a b : List UInt8} (h : bs a = bs b) : a = b := by
  have := congrArg (fun x => x.data.toList) h
  simpa [bs] using this
theorem map_bs_inj {a b : List (List UInt8)} : a.map bs = b.map bs ↔ a = b :=
  ⟨fun h => List.map_inj_right (fun _ _ e => bs_inj' e) |>.1 h, fun h => by rw [h]⟩
/-- slices.Equal at two rows of texts. -/
theorem keys_eq (v v' : Value) (ks ks' : List (List UInt8)) (w : World) (h : SliceAt w 1 v ks.length (strCells ks)) (h' : SliceAt w 1 v' ks'.length (strCells ks')) :
    Calls Tryz.prog 25 #[v, v'] w fun e w' => e = .returned (.bool (decide (ks = ks'))) ∧ Below w.heap.size w w' := by
  obtain ⟨-, a, c, rfl, hc, hm, hx⟩ := h.str
  obtain ⟨-, a', c', rfl, hc', hm', hx'⟩ := h'.str
  unfold maxLen at hm hm'
  by_cases hl : ks.length = ks'.length
  · by_cases h0 : ks.length = 0
    · have e1 : ks = [] := List.length_eq_zero_iff.1 h0
      have e2 : ks' = [] := List.length_eq_zero_iff.1 (by omega)
      subst e1 e2
      refine (Any.slices_Equal_string_empty Tryz.lays193 a a' c 0 c' w (by omega)).mono ?_
      rintro e w' ⟨rfl, rfl⟩
      exact ⟨rfl, Below.refl _ _⟩
    · obtain ⟨b, off, rfl, hb, hcl⟩ := hx 0 (by omega)
      obtain ⟨b', off', rfl, hb', hcl'⟩ := hx' 0 (by omega)
      refine (Tryz.slices_Equal_string b off ks.length c b' off' ks'.length c' (ks.map bs) (ks'.map bs) w (by simp) (by simp) (by omega) (by omega) (fun j hj => ?_) (fun j hj => ?_)).mono ?_
      · rw [List.length_map] at hj
        rw [str_get, List.getD_eq_getElem?_getD, List.getElem?_eq_getElem hj]
        exact hcl j hj
      · rw [List.length_map] at hj
        rw [str_get, List.getD_eq_getElem?_getD, List.getElem?_eq_getElem hj]
        exact hcl' j hj
      rintro e w' ⟨rfl, q, rfl⟩
      refine ⟨?_, Drawn.below ⟨q, rfl⟩⟩
      rw [List.take_of_length_le (by simp), List.take_of_length_le (by simp)]
      congr 2
      exact decide_eq_decide.2 map_bs_inj
  · refine (Any.slices_Equal_string_lens Tryz.lays193 a a' ks.length c ks'.length c' w hl).mono ?_
    rintro e w' ⟨rfl, rfl⟩
    exact ⟨by rw [decide_eq_false (fun e => hl (by rw [e]))], Below.refl _ _⟩
def PSameC (N : Nat) : Prop := ∀ (k n : Int) (s : List UInt8) (lv kv : Value) (l : List VM) (ks : List (List UInt8)) (k' n' : Int) (s' : List UInt8) (lv' kv' : Value) (l' : List VM) (ks' : List (List UInt8)), dep (.mk k n s lv kv l ks) ≤ N → ∀ w, Held w (.mk k n s lv kv l ks) → Held w (.mk k' n' s' lv' kv' l' ks') →
    Calls Tryz.prog 13 #[valA k n s lv kv, valA k' n' s' lv' kv'] w fun e w' => e = .returned (.bool (sameB (.mk k n s lv kv l ks) (.mk k' n' s' lv' kv' l' ks'))) ∧ Below w.heap.size w w'
set_option maxHeartbeats 2000000 in
theorem equal_func (l l' : List VM) (lv lv' : Value) (w : World) (hl : SliceAt w 5 lv l.length (vmCells l)) (hl' : SliceAt w 5 lv' l'.length (vmCells l')) (hH : HeldL w l) (hH' : HeldL w l')
    (HC : Hid (∀ j (hj : j < l.length) (hj' : j < l'.length) W, Below w.heap.size w W → Calls Tryz.prog 13 #[l[j].val, l'[j].val] W fun e w' => e = .returned (.bool (sameB l[j] l'[j])) ∧ Below W.heap.size W w')) :
    Calls Tryz.prog 26 #[lv, lv', .func (.func 13) #[] #[]] w fun e w' => e = .returned (.bool (sameL l l')) ∧ Below w.heap.size w w' := by
  have HS := hid (fun W (hW : Below w.heap.size w W) => hl.below hW (Nat.le_refl _))
  have HS' := hid (fun W (hW : Below w.heap.size w W) => hl'.below hW (Nat.le_refl _))
  have HE1 := hid (fun j hj => held_slices (heldL_get hH j hj))
  have HE2 := hid (fun j hj => held_slices (heldL_get hH' j hj))
  obtain ⟨-, la, lc, rfl, hlc, hlm, -⟩ := hl.vms
  obtain ⟨-, la', lc', rfl, hlc', hlm', -⟩ := hl'.vms
  unfold maxLen at hlm hlm'
  clear hl hl' hH hH'
  by_cases hc : l.length = l'.length
  case neg =>
    have HF : Hid (sameL l l' = false) := hid (sameL_len hc)
    have q : ((l.length : Int) != (l'.length : Int)) = true := neT (by omega)
    clear hc
    go_enter Tryz.func26, Tryz.ntmps26
    go_wp2_with fail
    go_ret
    exact ⟨by rw [HF.out]; rfl, Below.refl _ _⟩
  have hll := hid hc
  have u1 : ((l.length : Int) != (l'.length : Int)) = false := neF (by omega)
  have hll1 : l.length ≤ l'.length := by omega
  clear hc
  obtain ⟨bb, HE⟩ : ∃ bb, Hid (bb = sameL l l') := ⟨_, hid rfl⟩
  rw [← HE.out]
  go_enter Tryz.func26, Tryz.ntmps26
  go_wp2_with fail
  go_loopw [17] (fun i wr => ∃ j : Nat, j ≤ l.length ∧ i = .int .i64 j ∧ Hid (sameL (l.take j) (l'.take j) = true) ∧ Below w.heap.size w wr) (fun i _ => l.length - (intOf i).toNat)
  case atStart => exact ⟨0, by omega, rfl, hid (by simp [sameL]), Below.refl _ _⟩
  case round =>
    obtain ⟨j, hj, rfl, HA, hbw⟩ := hrel
    by_cases hlt : j < l.length
    · have hlt' : j < l'.length := by omega
      obtain ⟨-, la2, lc2, hv, -, -, hx⟩ := (HS.out _ hbw).vms
      obtain ⟨lb, lo, rfl, hlb, hcl⟩ := hx j hlt
      obtain ⟨rfl, rfl⟩ : la = some ⟨lb, lo, none⟩ ∧ lc = lc2 := by simpa using hv
      obtain ⟨p0, p1, p2, p3, p4⟩ := hcl j hlt
      clear hx hv hcl
      obtain ⟨-, la2', lc2', hv, -, -, hx⟩ := (HS'.out _ hbw).vms
      obtain ⟨lb', lo', rfl, hlb', hcl⟩ := hx j hlt'
      obtain ⟨rfl, rfl⟩ : la' = some ⟨lb', lo', none⟩ ∧ lc' = lc2' := by simpa using hv
      obtain ⟨r0, r1, r2, r3, r4⟩ := hcl j hlt'
      clear hx hv hcl
      have HCj := hid (fun W hW => HC.out j hlt hlt' W (Below.chain hbw hW))
      have ev : l[j].val = valA l[j].k l[j].n l[j].s l[j].lv l[j].kv := by cases l[j]; rfl
      have ev' : l'[j].val = valA l'[j].k l'[j].n l'[j].s l'[j].lv l'[j].kv := by cases l'[j]; rfl
      rw [ev, ev'] at HCj
      have HBad := hid (fun h => sameL_bad (l := l) (l' := l') j hlt hlt' h)
      have HNx := hid (fun h => sameL_take (l := l) (l' := l') j hlt hlt' HA.out h)
      generalize sameB l[j] l'[j] = sb at *
      obtain ⟨hs1, hs2⟩ := HE1.out j hlt
      obtain ⟨hs1', hs2'⟩ := HE2.out j hlt'
      generalize l[j].k = xk at *
      generalize l[j].n = xn at *
      generalize l[j].s = xs at *
      generalize l[j].lv = xl at *
      generalize l[j].kv = xv at *
      generalize l'[j].k = yk at *
      generalize l'[j].n = yn at *
      generalize l'[j].s = ys at *
      generalize l'[j].lv = yl at *
      generalize l'[j].kv = yv at *
      obtain ⟨la3, ln3, lc3, rfl⟩ := hs1
      obtain ⟨ka3, kn3, kc3, rfl⟩ := hs2
      obtain ⟨la4, ln4, lc4, rfl⟩ := hs1'
      obtain ⟨ka4, kn4, kc4, rfl⟩ := hs2'
      clear ev ev'
      have hbA := below_new wr (.cells #[.int .i64 xk, .int .i64 xn, .string (bs xs), .slice la3 ln3 lc3, .slice ka3 kn3 kc3] 25 (0, 0))
      have k0 := keeps_of hbA r0
      have k1 := keeps_of hbA r1
      have k2 := keeps_of hbA r2
      have k3 := keeps_of hbA r3
      have k4 := keeps_of hbA r4
      have hbB := below_new2 wr (.cells #[.int .i64 xk, .int .i64 xn, .string (bs xs), .slice la3 ln3 lc3, .slice ka3 kn3 kc3] 25 (0, 0)) (.cells #[.int .i64 yk, .int .i64 yn, .string (bs ys), .slice la4 ln4 lc4, .slice ka4 kn4 kc4] 25 (0, 0))
      have hbx := box_two wr xk xn xs (.slice la3 ln3 lc3) (.slice ka3 kn3 kc3) (.cells #[.int .i64 yk, .int .i64 yn, .string (bs ys), .slice la4 ln4 lc4, .slice ka4 kn4 kc4] 25 (0, 0)) 25 (0, 0)
      have hby := box_next wr yk yn ys (.slice la4 ln4 lc4) (.slice ka4 kn4 kc4) (.cells #[.int .i64 xk, .int .i64 xn, .string (bs xs), .slice la3 ln3 lc3, .slice ka3 kn3 kc3] 25 (0, 0)) 25 (0, 0)
      obtain ⟨a0, a1, a2, a3, a4⟩ := hbx
      obtain ⟨b0, b1, b2, b3, b4⟩ := hby
      go_wp2_with fail
      refine (HCj.out _ hbB).mono ?_
      rintro e w1 ⟨rfl, hb1⟩
      have hbq := Below.chain hbw (Below.chain hbB hb1)
      cases sb with
      | true =>
        have HN := hid (HNx.out rfl)
        go_wp2_with fail
        exact ⟨⟨j + 1, by omega, by go_num, HN, hbq⟩, by simp [intOf]; omega⟩
      | false =>
        have HF : Hid (bb = false) := hid (by rw [HE.out]; exact HBad.out rfl)
        go_wp2_with fail
        go_ret
        exact ⟨by rw [HF.out]; rfl, hbq⟩
    · obtain rfl : j = l.length := by omega
      have HF : Hid (bb = true) := hid (by rw [HE.out]; have := HA.out; rwa [List.take_length, hll.out, List.take_length] at this)
      go_wp2_with fail
      go_ret
      exact ⟨by rw [HF.out]; rfl, hbw⟩
set_option maxHeartbeats 2000000 in
theorem psame_step (N : Nat) (IH : PSameC N) : PSameC (N + 1) := by
  intro k n s lv kv l ks k' n' s' lv' kv' l' ks' hN w hH hH'
  obtain ⟨hl, hk, hL⟩ := held_mk hH
  obtain ⟨hl', hk', hL'⟩ := held_mk hH'
  have hdep : depL l ≤ N := by rw [dep_mk] at hN; omega
  have HC : ∀ W0, Below w.heap.size w W0 → Hid (∀ j (hj : j < l.length) (hj' : j < l'.length) W, Below W0.heap.size W0 W → Calls Tryz.prog 13 #[l[j].val, l'[j].val] W (fun e w' => e = .returned (.bool (sameB l[j] l'[j])) ∧ Below W.heap.size W w')) := fun W0 hW0 => hid (fun j hj hj' W hW => by
    have hWW := Below.chain hW0 hW
    have h1 := heldL_get (HeldL.below hWW (Nat.le_refl _) hL) j hj
    have h1' := heldL_get (HeldL.below hWW (Nat.le_refl _) hL') j hj'
    have h2 := dep_get hdep j hj
    generalize l[j] = x at *
    generalize l'[j] = y at *
    cases x with
    | mk a b c d e f g =>
    cases y with
    | mk a' b' c' d' e' f' g' => exact IH a b c d e f g a' b' c' d' e' f' g' h2 W h1 h1')
  have CF := hid (fun W0 (hW0 : Below w.heap.size w W0) => equal_func l l' lv lv' W0 (hl.below hW0 (Nat.le_refl _)) (hl'.below hW0 (Nat.le_refl _)) (HeldL.below hW0 (Nat.le_refl _) hL) (HeldL.below hW0 (Nat.le_refl _) hL') (HC W0 hW0))
  have CK := hid (fun W0 (hW0 : Below w.heap.size w W0) => keys_eq kv kv' ks ks' W0 (hk.below hW0 (Nat.le_refl _)) (hk'.below hW0 (Nat.le_refl _)))
  obtain ⟨-, la, lc, rfl, hlc, hlm, -⟩ := hl.vms
  obtain ⟨-, ka, kc, rfl, hkc, hkm, -⟩ := hk.str
  obtain ⟨-, la', lc', rfl, hlc', hlm', -⟩ := hl'.vms
  obtain ⟨-, ka', kc', rfl, hkc', hkm', -⟩ := hk'.str
  unfold maxLen at hlm hkm hlm' hkm'
  have HBA := hid (box_two w k n s (.slice la l.length lc) (.slice ka ks.length kc) (.cells #[.int .i64 k', .int .i64 n', .string (bs s'), .slice la' l'.length lc', .slice ka' ks'.length kc'] 25 (0, 0)) 25 (0, 0))
  have HBB := hid (box_next w k' n' s' (.slice la' l'.length lc') (.slice ka' ks'.length kc') (.cells #[.int .i64 k, .int .i64 n, .string (bs s), .slice la l.length lc, .slice ka ks.length kc] 25 (0, 0)) 25 (0, 0))
  have hb2n := below_new2 w (.cells #[.int .i64 k, .int .i64 n, .string (bs s), .slice la l.length lc, .slice ka ks.length kc] 25 (0, 0)) (.cells #[.int .i64 k', .int .i64 n', .string (bs s'), .slice la' l'.length lc', .slice ka' ks'.length kc'] 25 (0, 0))
  have hba := HBA.out
  have hbb := HBB.out
  obtain ⟨a0, a1, a2, a3, a4⟩ := hba
  obtain ⟨b0, b1, b2, b3, b4⟩ := hbb
  have HE := hid (same_mk k n s (.slice la l.length lc) (.slice ka ks.length kc) l ks k' n' s' (.slice la' l'.length lc') (.slice ka' ks'.length kc') l' ks')
  clear hk hl hL hH hk' hl' hL' hH' hN IH hdep HC
  generalize sameB (.mk k n s (.slice la l.length lc) (.slice ka ks.length kc) l ks) (.mk k' n' s' (.slice la' l'.length lc') (.slice ka' ks'.length kc') l' ks') = bb at *
  generalize decide (ks = ks') = kb at *
  generalize sameL l l' = sb at *
  by_cases hc : k = k'
  case neg =>
    have HF : Hid (bb = false) := hid (by rw [HE.out]; rw [decide_eq_false hc]; rfl)
    have q : (k == k') = false := eqF hc
    clear hc
    go_enter Tryz.func13, Tryz.ntmps13
    go_wp2_with fail
    go_ret
    exact ⟨by rw [HF.out]; rfl, hb2n⟩
  subst hc
  by_cases hc : n = n'
  case neg =>
    have HF : Hid (bb = false) := hid (by rw [HE.out]; rw [decide_eq_false hc]; simp)
    have q : (n == n') = false := eqF hc
    clear hc
    go_enter Tryz.func13, Tryz.ntmps13
    go_wp2_with fail
    go_ret
    exact ⟨by rw [HF.out]; rfl, hb2n⟩
  subst hc
  by_cases hc : s = s'
  case neg =>
    have HF : Hid (bb = false) := hid (by rw [HE.out]; rw [decide_eq_false hc]; simp)
    have q : (s == s') = false := beq_eq_false_iff_ne.2 hc
    clear hc
    go_enter Tryz.func13, Tryz.ntmps13
    go_wp2_with fail
    go_ret
    exact ⟨by rw [HF.out]; rfl, hb2n⟩
  subst hc
  cases kb with
  | false =>
    have HF : Hid (bb = false) := hid (by rw [HE.out]; simp)
    go_enter Tryz.func13, Tryz.ntmps13
    go_wp2_with fail
    refine (CK.out _ hb2n).mono ?_
    rintro e w1 ⟨rfl, hb1⟩
    have hbq := Below.chain hb2n hb1
    obtain ⟨a0, a1, a2, a3, a4⟩ := HBA.out.keeps hb1
    obtain ⟨b0, b1, b2, b3, b4⟩ := HBB.out.keeps hb1
    go_wp2_with fail
    go_ret
    exact ⟨by rw [HF.out]; rfl, hbq⟩
  | true =>
    have HF : Hid (bb = sb) := hid (by rw [HE.out]; simp)
    go_enter Tryz.func13, Tryz.ntmps13
    go_wp2_with fail
    refine (CK.out _ hb2n).mono ?_
    rintro e w1 ⟨rfl, hb1⟩
    have hbq := Below.chain hb2n hb1
    obtain ⟨a0, a1, a2, a3, a4⟩ := HBA.out.keeps hb1
    obtain ⟨b0, b1, b2, b3, b4⟩ := HBB.out.keeps hb1
    go_wp2_with fail
    refine (CF.out _ hbq).mono ?_
    rintro e w2 ⟨rfl, hb2⟩
    go_wp2_with fail
    go_ret
    exact ⟨by rw [HF.out]; rfl, Below.chain hbq hb2⟩
theorem psame_all : ∀ N, PSameC N
  | 0 => by
    intro k n s lv kv l ks k' n' s' lv' kv' l' ks' hN
    have := dep_pos (.mk k n s lv kv l ks)
    omega
  | N + 1 => psame_step N (psame_all N)
theorem psame_any (x y : VM) (w : World) (hx : Held w x) (hy : Held w y) :
    Calls Tryz.prog 13 #[x.val, y.val] w fun e w' => e = .returned (.bool (sameB x y)) ∧ Below w.heap.size w w' := by
  cases x with
  | mk k n s lv kv l ks =>
  cases y with
  | mk k' n' s' lv' kv' l' ks' => exact psame_all (dep (.mk k n s lv kv l ks)) k n s lv kv l ks k' n' s' lv' kv' l' ks' (Nat.le_refl _) w hx hy
end Go.Proofs.YtnfjlimecoikpaaGreatDoor
