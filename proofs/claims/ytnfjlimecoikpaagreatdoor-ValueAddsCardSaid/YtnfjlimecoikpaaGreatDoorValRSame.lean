/- The document's walk over two values: are they the same? -/
import Derived.Test.YtnfjlimecoikpaaGreatDoorValRef2
import Derived.Test.YtnfjlimecoikpaaGreatDoorMSame
namespace Go.Proofs.YtnfjlimecoikpaaGreatDoor
set_option maxRecDepth 100000
open Go.RowKit

theorem below_new2 (w : World) (o o' : Obj) : Below w.heap.size w ((w.alloc o).alloc o') := (below_new w o).alloc (by simp) _
/-- Two boxes, one behind the other. -/
theorem box_two (w : World) (k n : Int) (s : List UInt8) (lv kv : Value) (o : Obj) (e : TypeId) (fr : Nat × Nat) : Box ((w.alloc (.cells #[.int .i64 k, .int .i64 n, .string (bs s), lv, kv] e fr)).alloc o) w.heap.size k n s lv kv :=
  (box_new w k n s lv kv e fr).keeps (below_new _ o)
theorem box_next (w : World) (k n : Int) (s : List UInt8) (lv kv : Value) (o : Obj) (e : TypeId) (fr : Nat × Nat) : Box ((w.alloc o).alloc (.cells #[.int .i64 k, .int .i64 n, .string (bs s), lv, kv] e fr)) (w.heap.size + 1) k n s lv kv := by
  have := box_new (w.alloc o) k n s lv kv e fr
  simpa using this
def RSameC (N : Nat) : Prop := ∀ (k n : Int) (s : List UInt8) (lv kv : Value) (l : List VM) (ks : List (List UInt8)) (k' n' : Int) (s' : List UInt8) (lv' kv' : Value) (l' : List VM) (ks' : List (List UInt8)), dep (.mk k n s lv kv l ks) ≤ N → ∀ w, Held w (.mk k n s lv kv l ks) → Held w (.mk k' n' s' lv' kv' l' ks') →
    Calls Tryz.prog 12 #[valA k n s lv kv, valA k' n' s' lv' kv'] w fun e w' => e = .returned (.bool (sameB (.mk k n s lv kv l ks) (.mk k' n' s' lv' kv' l' ks'))) ∧ Below w.heap.size w w'
set_option maxHeartbeats 2000000 in
theorem rsame_step (N : Nat) (IH : RSameC N) : RSameC (N + 1) := by
  intro k n s lv kv l ks k' n' s' lv' kv' l' ks' hN w hH hH'
  obtain ⟨hl, hk, hL⟩ := held_mk hH
  obtain ⟨hl', hk', hL'⟩ := held_mk hH'
  have hdep : depL l ≤ N := by rw [dep_mk] at hN; omega
  have HC := hid (fun j (hj : j < l.length) (hj' : j < l'.length) W (hW : Below w.heap.size w W) => show Calls Tryz.prog 12 #[l[j].val, l'[j].val] W (fun e w' => e = .returned (.bool (sameB l[j] l'[j])) ∧ Below W.heap.size W w') by
    have h1 := heldL_get (HeldL.below hW (Nat.le_refl _) hL) j hj
    have h1' := heldL_get (HeldL.below hW (Nat.le_refl _) hL') j hj'
    have h2 := dep_get hdep j hj
    generalize l[j] = x at *
    generalize l'[j] = y at *
    cases x with
    | mk a b c d e f g =>
    cases y with
    | mk a' b' c' d' e' f' g' => exact IH a b c d e f g a' b' c' d' e' f' g' h2 W h1 h1')
  have HS := hid (fun W (hW : Below w.heap.size w W) => hl.below hW (Nat.le_refl _))
  have HKS := hid (fun W (hW : Below w.heap.size w W) => hk.below hW (Nat.le_refl _))
  have HS' := hid (fun W (hW : Below w.heap.size w W) => hl'.below hW (Nat.le_refl _))
  have HKS' := hid (fun W (hW : Below w.heap.size w W) => hk'.below hW (Nat.le_refl _))
  obtain ⟨-, la, lc, rfl, hlc, hlm, -⟩ := hl.vms
  obtain ⟨-, ka, kc, rfl, hkc, hkm, -⟩ := hk.str
  obtain ⟨-, la', lc', rfl, hlc', hlm', -⟩ := hl'.vms
  obtain ⟨-, ka', kc', rfl, hkc', hkm', -⟩ := hk'.str
  unfold maxLen at hlm hkm hlm' hkm'
  have HBA := hid (box_two w k n s (.slice la l.length lc) (.slice ka ks.length kc) (.cells #[.int .i64 k', .int .i64 n', .string (bs s'), .slice la' l'.length lc', .slice ka' ks'.length kc'] 25 (0, 0)) 25 (0, 0))
  have HBB := hid (box_next w k' n' s' (.slice la' l'.length lc') (.slice ka' ks'.length kc') (.cells #[.int .i64 k, .int .i64 n, .string (bs s), .slice la l.length lc, .slice ka ks.length kc] 25 (0, 0)) 25 (0, 0))
  have hb2n := below_new2 w (.cells #[.int .i64 k, .int .i64 n, .string (bs s), .slice la l.length lc, .slice ka ks.length kc] 25 (0, 0)) (.cells #[.int .i64 k', .int .i64 n', .string (bs s'), .slice la' l'.length lc', .slice ka' ks'.length kc'] 25 (0, 0))
  have hba := HBA.out
  have hbb := HBB.out
  obtain ⟨a0, a1, a2, a3, a4⟩ := hba
  obtain ⟨b0, b1, b2, b3, b4⟩ := hbb
  have HE := hid (same_mk k n s (.slice la l.length lc) (.slice ka ks.length kc) l ks k' n' s' (.slice la' l'.length lc') (.slice ka' ks'.length kc') l' ks')
  clear hk hl hL hH hk' hl' hL' hH' hN IH hdep
  generalize sameB (.mk k n s (.slice la l.length lc) (.slice ka ks.length kc) l ks) (.mk k' n' s' (.slice la' l'.length lc') (.slice ka' ks'.length kc') l' ks') = bb at *
  by_cases hc : k = k'
  case neg =>
    have HF : Hid (bb = false) := hid (by rw [HE.out]; rw [decide_eq_false hc]; rfl)
    have q : (k != k') = true := neT hc
    clear hc
    go_enter Tryz.func12, Tryz.ntmps12
    go_wp2_with fail
    go_ret
    exact ⟨by rw [HF.out]; rfl, hb2n⟩
  subst hc
  by_cases hc : n = n'
  case neg =>
    have HF : Hid (bb = false) := hid (by rw [HE.out]; rw [decide_eq_false hc]; simp)
    have q : (n != n') = true := neT hc
    clear hc
    go_enter Tryz.func12, Tryz.ntmps12
    go_wp2_with fail
    go_ret
    exact ⟨by rw [HF.out]; rfl, hb2n⟩
  subst hc
  by_cases hc : s = s'
  case neg =>
    have HF : Hid (bb = false) := hid (by rw [HE.out]; rw [decide_eq_false hc]; simp)
    have q : (s == s') = false := beq_eq_false_iff_ne.2 hc
    have q2 : (s != s') = true := bne_iff_ne.2 hc
    clear hc
    go_enter Tryz.func12, Tryz.ntmps12
    go_wp2_with fail
    go_ret
    exact ⟨by rw [HF.out]; rfl, hb2n⟩
  subst hc
  by_cases hc : l.length = l'.length
  case neg =>
    have HF : Hid (bb = false) := hid (by rw [HE.out]; rw [sameL_len hc]; simp)
    have q : ((l.length : Int) != (l'.length : Int)) = true := neT (by omega)
    clear hc
    go_enter Tryz.func12, Tryz.ntmps12
    go_wp2_with fail
    go_ret
    exact ⟨by rw [HF.out]; rfl, hb2n⟩
  have hll := hid hc
  have u1 : ((l.length : Int) != (l'.length : Int)) = false := neF (by omega)
  clear hc
  by_cases hc : ks.length = ks'.length
  case neg =>
    have HF : Hid (bb = false) := hid (by rw [HE.out]; rw [decide_eq_false (fun h => hc (congrArg List.length h))]; simp)
    have q : ((ks.length : Int) != (ks'.length : Int)) = true := neT (by omega)
    clear hc
    go_enter Tryz.func12, Tryz.ntmps12
    go_wp2_with fail
    go_ret
    exact ⟨by rw [HF.out]; rfl, hb2n⟩
  have hkk := hid hc
  have u2 : ((ks.length : Int) != (ks'.length : Int)) = false := neF (by omega)
  have hkl1 : ks.length ≤ ks'.length := by omega
  have hll1 : l.length ≤ l'.length := by have := hll.out; omega
  clear hc
  have HE1 : Hid (bb = (decide (ks = ks') && sameL l l')) := hid (by rw [HE.out]; simp)
  clear HE
  go_enter Tryz.func12, Tryz.ntmps12
  go_wp2_with fail
  go_loopw [47] (fun i wr => ∃ j : Nat, j ≤ ks.length ∧ i = .int .i64 j ∧ Hid (ks.take j = ks'.take j) ∧ Below w.heap.size w wr ∧ Box wr w.heap.size k n s (.slice la l.length lc) (.slice ka ks.length kc) ∧ Box wr (w.heap.size + 1) k n s (.slice la' l'.length lc') (.slice ka' ks'.length kc')) (fun i _ => ks.length - (intOf i).toNat)
  case atStart => exact ⟨0, by omega, rfl, hid rfl, hb2n, HBA.out, HBB.out⟩
  case round =>
    obtain ⟨j, hj, rfl, HA, hbw, hba, hbb⟩ := hrel
    have HXA := hid hba
    have HXB := hid hbb
    clear a0 a1 a2 a3 a4 b0 b1 b2 b3 b4
    obtain ⟨a0, a1, a2, a3, a4⟩ := hba
    obtain ⟨b0, b1, b2, b3, b4⟩ := hbb
    by_cases hlt : j < ks.length
    · have hlt' : j < ks'.length := by omega
      obtain ⟨-, ka2, kc2, hv, -, -, hx⟩ := (HKS.out _ hbw).str
      obtain ⟨kb, ko, rfl, hkb, hcl⟩ := hx j hlt
      obtain ⟨rfl, rfl⟩ : ka = some ⟨kb, ko, none⟩ ∧ kc = kc2 := by simpa using hv
      have e0 := hcl j hlt
      clear hx hv hcl
      obtain ⟨-, ka2', kc2', hv, -, -, hx⟩ := (HKS'.out _ hbw).str
      obtain ⟨kb', ko', rfl, hkb', hcl⟩ := hx j hlt'
      obtain ⟨rfl, rfl⟩ : ka' = some ⟨kb', ko', none⟩ ∧ kc' = kc2' := by simpa using hv
      have e1 := hcl j hlt'
      clear hx hv hcl
      by_cases he : ks[j] = ks'[j]
      · have HN := hid (keys_take j hlt hlt' HA.out he)
        have q : (ks[j] != ks'[j]) = false := by rw [he]; exact bne_self_eq_false _
        have q2 : (ks[j] == ks'[j]) = true := beq_iff_eq.2 he
        clear he
        go_wp2_with fail
        refine wp_region_wq (by kernel_rfl) (by kernel_rfl) ?_
        repeat (refine WQ.step (fun K hK => ?_); go_simp; first | (refine hK _ ?_; clear hK K) | (apply Exists.intro; refine ⟨fun W hW => ?_, hK _ ?_⟩; (first | with_reducible rfl | (have zz0 := Below.keeps hW a0; have zz1 := Below.keeps hW a1; have zz2 := Below.keeps hW a2; have zz3 := Below.keeps hW a3; have zz4 := Below.keeps hW a4; have zz5 := Below.keeps hW b0; have zz6 := Below.keeps hW b1; have zz7 := Below.keeps hW b2; have zz8 := Below.keeps hW b3; have zz9 := Below.keeps hW b4; have zz10 := Below.keeps hW e0; have zz11 := Below.keeps hW e1; go_simp; first | rfl | exact ⟨rfl, rfl⟩ | (rw [if_neg (by omega)]; exact ⟨rfl, rfl⟩))); clear hK K))
        refine WQ.nil ?_
        intro wq hwq
        have hbq := Below.chain hbw hwq
        have hxa := HXA.out.keeps hwq
        have hxb := HXB.out.keeps hwq
        go_wp2_with fail
        exact ⟨⟨j + 1, by omega, by go_num, HN, hbq, hxa, hxb⟩, by simp [intOf]; omega⟩
      · have HF : Hid (bb = false) := hid (by rw [HE1.out, decide_eq_false (fun h => he (by simp only [h]))]; rfl)
        have q : (ks[j] != ks'[j]) = true := bne_iff_ne.2 he
        have q2 : (ks[j] == ks'[j]) = false := beq_eq_false_iff_ne.2 he
        clear he
        go_wp2_with fail
        refine wp_region_wq (by kernel_rfl) (by kernel_rfl) ?_
        repeat (refine WQ.step (fun K hK => ?_); go_simp; first | (refine hK _ ?_; clear hK K) | (apply Exists.intro; refine ⟨fun W hW => ?_, hK _ ?_⟩; (first | with_reducible rfl | (have zz0 := Below.keeps hW a0; have zz1 := Below.keeps hW a1; have zz2 := Below.keeps hW a2; have zz3 := Below.keeps hW a3; have zz4 := Below.keeps hW a4; have zz5 := Below.keeps hW b0; have zz6 := Below.keeps hW b1; have zz7 := Below.keeps hW b2; have zz8 := Below.keeps hW b3; have zz9 := Below.keeps hW b4; have zz10 := Below.keeps hW e0; have zz11 := Below.keeps hW e1; go_simp; first | rfl | exact ⟨rfl, rfl⟩ | (rw [if_neg (by omega)]; exact ⟨rfl, rfl⟩))); clear hK K))
        refine WQ.nil ?_
        intro wq hwq
        have hbq := Below.chain hbw hwq
        go_wp2_with fail
        go_ret
        exact ⟨by rw [HF.out]; rfl, hbq⟩
    · obtain rfl : j = ks.length := by omega
      have hks : ks = ks' := by have := HA.out; rwa [List.take_length, hkk.out, List.take_length] at this
      have HE2 : Hid (bb = sameL l l') := hid (by rw [HE1.out, decide_eq_true hks]; rfl)
      clear HE1 hks HA
      have HBW := hid hbw
      clear hbw
      go_wp2_with fail
      obtain ⟨w1, hw1⟩ : ∃ w1 : World, w1 = wr := ⟨_, rfl⟩
      go_loopw [65] (fun i wr => ∃ j : Nat, j ≤ l.length ∧ i = .int .i64 j ∧ Hid (sameL (l.take j) (l'.take j) = true) ∧ Below w.heap.size w wr ∧ Box wr w.heap.size k n s (.slice la l.length lc) (.slice ka ks.length kc) ∧ Box wr (w.heap.size + 1) k n s (.slice la' l'.length lc') (.slice ka' ks'.length kc')) (fun i _ => l.length - (intOf i).toNat)
      case atStart => exact ⟨0, by omega, rfl, hid (by simp [sameL]), HBW.out, HXA.out, HXB.out⟩
      case round =>
        obtain ⟨j, hj, rfl, HA, hbw, hba, hbb⟩ := hrel
        have HXA := hid hba
        have HXB := hid hbb
        clear a0 a1 a2 a3 a4 b0 b1 b2 b3 b4
        obtain ⟨a0, a1, a2, a3, a4⟩ := hba
        obtain ⟨b0, b1, b2, b3, b4⟩ := hbb
        by_cases hlt : j < l.length
        · have hlt' : j < l'.length := by omega
          obtain ⟨-, la2, lc2, hv, -, -, hx⟩ := (HS.out _ hbw).vms
          obtain ⟨lb, lo, rfl, hlb, hcl⟩ := hx j hlt
          obtain ⟨rfl, rfl⟩ : la = some ⟨lb, lo, none⟩ ∧ lc = lc2 := by simpa using hv
          obtain ⟨p0, p1, p2, p3, p4⟩ := hcl j hlt
          clear hx hv hcl
          obtain ⟨-, la2', lc2', hv, -, -, hx⟩ := (HS'.out _ hbw).vms
          obtain ⟨lb', lo', rfl, hlb', hcl⟩ := hx j hlt'
          obtain ⟨rfl, rfl⟩ : la' = some ⟨lb', lo', none⟩ ∧ lc' = lc2' := by simpa using hv
          obtain ⟨r0, r1, r2, r3, r4⟩ := hcl j hlt'
          clear hx hv hcl
          have HCj := hid (fun W hW => HC.out j hlt hlt' W (Below.chain hbw hW))
          have ev : l[j].val = valA l[j].k l[j].n l[j].s l[j].lv l[j].kv := by cases l[j]; rfl
          have ev' : l'[j].val = valA l'[j].k l'[j].n l'[j].s l'[j].lv l'[j].kv := by cases l'[j]; rfl
          rw [ev, ev'] at HCj
          have HBad := hid (fun h => sameL_bad (l := l) (l' := l') j hlt hlt' h)
          have HNx := hid (fun h => sameL_take (l := l) (l' := l') j hlt hlt' HA.out h)
          generalize sameB l[j] l'[j] = sb at *
          generalize l[j].k = xk at *
          generalize l[j].n = xn at *
          generalize l[j].s = xs at *
          generalize l[j].lv = xl at *
          generalize l[j].kv = xv at *
          generalize l'[j].k = yk at *
          generalize l'[j].n = yn at *
          generalize l'[j].s = ys at *
          generalize l'[j].lv = yl at *
          generalize l'[j].kv = yv at *
          clear ev ev'
          go_wp2_with fail
          refine wp_region_wq (by kernel_rfl) (by kernel_rfl) ?_
          repeat (refine WQ.step (fun K hK => ?_); go_simp; first | (refine hK _ ?_; clear hK K) | (apply Exists.intro; refine ⟨fun W hW => ?_, hK _ ?_⟩; (first | (go_at_call 12; exact Calls.quiet_below hW (HCj.out W hW)) | (first | with_reducible rfl | (have zz0 := Below.keeps hW a0; have zz1 := Below.keeps hW a1; have zz2 := Below.keeps hW a2; have zz3 := Below.keeps hW a3; have zz4 := Below.keeps hW a4; have zz5 := Below.keeps hW b0; have zz6 := Below.keeps hW b1; have zz7 := Below.keeps hW b2; have zz8 := Below.keeps hW b3; have zz9 := Below.keeps hW b4; have zz10 := Below.keeps hW p0; have zz11 := Below.keeps hW p1; have zz12 := Below.keeps hW p2; have zz13 := Below.keeps hW p3; have zz14 := Below.keeps hW p4; have zz15 := Below.keeps hW r0; have zz16 := Below.keeps hW r1; have zz17 := Below.keeps hW r2; have zz18 := Below.keeps hW r3; have zz19 := Below.keeps hW r4; go_simp; first | rfl | exact ⟨rfl, rfl⟩ | (rw [if_neg (by omega)]; exact ⟨rfl, rfl⟩)))); clear hK K))
          refine WQ.nil ?_
          intro wq hwq
          have hbq := Below.chain hbw hwq
          have hxa := HXA.out.keeps hwq
          have hxb := HXB.out.keeps hwq
          cases sb with
          | true =>
            have HN := hid (HNx.out rfl)
            go_wp2_with fail
            exact ⟨⟨j + 1, by omega, by go_num, HN, hbq, hxa, hxb⟩, by simp [intOf]; omega⟩
          | false =>
            have HF : Hid (bb = false) := hid (by rw [HE2.out]; exact HBad.out rfl)
            go_wp2_with fail
            go_ret
            exact ⟨by rw [HF.out]; rfl, hbq⟩
        · obtain rfl : j = l.length := by omega
          have HF : Hid (bb = true) := hid (by rw [HE2.out]; have := HA.out; rwa [List.take_length, hll.out, List.take_length] at this)
          go_wp2_with fail
          go_ret
          exact ⟨by rw [HF.out]; rfl, hbw⟩
theorem rsame_all : ∀ N, RSameC N
  | 0 => by
    intro k n s lv kv l ks k' n' s' lv' kv' l' ks' hN
    have := dep_pos (.mk k n s lv kv l ks)
    omega
  | N + 1 => rsame_step N (rsame_all N)
theorem rsame_any (x y : VM) (w : World) (hx : Held w x) (hy : Held w y) :
    Calls Tryz.prog 12 #[x.val, y.val] w fun e w' => e = .returned (.bool (sameB x y)) ∧ Below w.heap.size w w' := by
  cases x with
  | mk k n s lv kv l ks =>
  cases y with
  | mk k' n' s' lv' kv' l' ks' => exact rsame_all (dep (.mk k n s lv kv l ks)) k n s lv kv l ks k' n' s' lv' kv' l' ks' (Nat.le_refl _) w hx hy
end Go.Proofs.YtnfjlimecoikpaaGreatDoor
