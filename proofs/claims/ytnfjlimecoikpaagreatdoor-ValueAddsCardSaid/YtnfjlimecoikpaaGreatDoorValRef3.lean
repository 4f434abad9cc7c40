/- The document's walks over values: what may be in them, how many, how deep; too great. -/
import Derived.Test.YtnfjlimecoikpaaGreatDoorValRef2
namespace Go.Proofs.YtnfjlimecoikpaaGreatDoor
set_option maxRecDepth 100000
open Go.RowKit

theorem heldL_mem {w : World} {l : List VM} (h : HeldL w l) (j : Nat) (hj : j < l.length) {k n : Int} {s : List UInt8} {lv kv : Value} {m : List VM} {ks : List (List UInt8)} (e : l[j] = .mk k n s lv kv m ks) : Held w (.mk k n s lv kv m ks) := by
  rw [← e]; exact heldL_get h j hj
theorem FiveC.open {w : World} {b o : Nat} {v : VM} (h : FiveC w b o v) {k n : Int} {s : List UInt8} {lv kv : Value} {m : List VM} {ks : List (List UInt8)} (e : v = .mk k n s lv kv m ks) :
    w.cell? ⟨b, o, none⟩ = some (.int .i64 k) ∧ w.cell? ⟨b, o + 1, none⟩ = some (.int .i64 n) ∧ w.cell? ⟨b, o + 2, none⟩ = some (.string (bs s)) ∧ w.cell? ⟨b, o + 3, none⟩ = some lv ∧ w.cell? ⟨b, o + 4, none⟩ = some kv := by
  subst e; exact ⟨h.c0, h.c1, h.c2, h.c3, h.c4⟩
set_option maxHeartbeats 1000000 in
theorem rnodes_any : ∀ (N : Nat) (k n : Int) (s : List UInt8) (lv kv : Value) (l : List VM) (ks : List (List UInt8)), dep (.mk k n s lv kv l ks) ≤ N → ∀ w, Held w (.mk k n s lv kv l ks) →
    Calls Tryz.prog 29 #[valA k n s lv kv] w fun e w' => e = .returned (.bool (nodesB (.mk k n s lv kv l ks))) ∧ Below w.heap.size w w'
  | 0, k, n, s, lv, kv, l, ks, h, _, _ => by have := dep_pos (.mk k n s lv kv l ks); omega
  | N + 1, k, n, s, lv, kv, l, ks, hN, w, hH => by
    obtain ⟨hl, hk, hL⟩ := held_mk hH
    have hdep : depL l ≤ N := by rw [dep_mk] at hN; omega
    have HS := hid (fun W (hW : Below w.heap.size w W) => hl.below hW (Nat.le_refl _))
    have HL := hid (fun W (hW : Below w.heap.size w W) => HeldL.below hW (Nat.le_refl _) hL)
    have HD := hid (fun j hj => dep_get hdep j hj)
    have HNd := hid (fun b (hb : nodeB k n s l.length ks = b) W (hW : Below w.heap.size w W) => rnode_any k n s lv kv l.length l rfl ks b hb W (hl.below hW (Nat.le_refl _)) (hk.below hW (Nat.le_refl _)))
    obtain ⟨-, la, lc, rfl, hlc, hlm, -⟩ := hl.vms
    unfold maxLen at hlm
    have HB := hid (box_new w k n s (.slice la l.length lc) kv 25 (0, 0))
    obtain ⟨c0, c1, c2, c3, c4⟩ := HB.out
    have IH := hid (rnodes_any N)
    clear hl hk hL hH hN hdep
    go_enter Tryz.func29, Tryz.ntmps29
    go_wp2_with fail
    go_loopw [7] (fun i wr => ∃ j : Nat, j ≤ l.length ∧ i = .int .i64 j ∧ Hid (nodesL (l.take j) = true) ∧ Below w.heap.size w wr ∧ Box wr w.heap.size k n s (.slice la l.length lc) kv) (fun i _ => l.length - (intOf i).toNat)
    case atStart => exact ⟨0, by omega, rfl, hid (by simp [nodesL]), below_new w _, HB.out⟩
    case round =>
      obtain ⟨j, hj, rfl, HA, hbw, hbx⟩ := hrel
      have HBX := hid hbx
      obtain ⟨d0, d1, d2, d3, d4⟩ := hbx
      clear c0 c1 c2 c3 c4
      by_cases hlt : j < l.length
      · obtain ⟨-, la', lc', hv, -, -, hx⟩ := (HS.out _ hbw).vms
        obtain ⟨lb, lo, rfl, hlb, hcl⟩ := hx j hlt
        obtain ⟨rfl, rfl⟩ : la = some ⟨lb, lo, none⟩ ∧ lc = lc' := by simpa using hv
        have hfc := hcl j hlt
        have hdj := HD.out j hlt
        obtain ⟨k', n', s', lv', kv', l', ks', hq⟩ : ∃ k' n' s' lv' kv' l' ks', l[j] = .mk k' n' s' lv' kv' l' ks' := by
          cases h : l[j] with
          | mk a b c d e f g => exact ⟨a, b, c, d, e, f, g, rfl⟩
        obtain ⟨e0, e1, e2, e3, e4⟩ := hfc.open hq
        rw [hq] at hdj
        have HT := hid (nodesL_take l j hlt)
        have HBad := hid (fun h => nodesL_bad (l := l) hlt h)
        rw [hq] at HT HBad
        have IHj := hid (IH.out k' n' s' lv' kv' l' ks' hdj _ (heldL_mem (HL.out _ hbw) j hlt hq))
        clear hcl hx hv hfc hq IH
        cases hb : nodesB (.mk k' n' s' lv' kv' l' ks') with
        | false =>
          have HF : Hid (nodesB (.mk k n s (.slice (some ⟨lb, lo, none⟩) l.length lc) kv l ks) = false) := hid (by unfold nodesB; rw [HBad.out hb]; rfl)
          rw [hb] at IHj
          clear hb
          go_wp2_with fail
          refine IHj.out.mono ?_
          rintro e w1 ⟨rfl, hb1⟩
          go_wp2_with fail
          go_ret
          exact ⟨by rw [HF.out]; rfl, Below.chain hbw hb1⟩
        | true =>
          have HNx : Hid (nodesL (l.take (j + 1)) = true) := hid (by rw [HT.out, HA.out, hb]; rfl)
          rw [hb] at IHj
          clear hb
          go_wp2_with fail
          refine IHj.out.mono ?_
          rintro e w1 ⟨rfl, hb1⟩
          go_wp2_with fail
          exact ⟨⟨j + 1, by omega, by go_num, HNx, Below.chain hbw hb1, HBX.out.keeps hb1⟩, by simp [intOf]; omega⟩
      · obtain rfl : j = l.length := by omega
        have HF : Hid (nodesB (.mk k n s (.slice la l.length lc) kv l ks) = nodeB k n s l.length ks) := hid (by unfold nodesB; have := HA.out; rw [List.take_length] at this; rw [this]; rfl)
        go_wp2_with fail
        refine (HNd.out _ rfl _ hbw).mono ?_
        rintro e w1 ⟨rfl, hb1⟩
        go_wp2_with fail
        go_ret
        exact ⟨by rw [HF.out]; rfl, Below.chain hbw hb1⟩
theorem many_step (c x m : Nat) : min (1 + (c + x)) (m + 1) = (if min (1 + c) (m + 1) ≤ m then min (1 + c) (m + 1) + min x (m - min (1 + c) (m + 1) + 1) else m + 1) := by
  split <;> omega
set_option maxHeartbeats 1000000 in
theorem rmany_any : ∀ (N : Nat) (k n : Int) (s : List UInt8) (lv kv : Value) (l : List VM) (ks : List (List UInt8)), dep (.mk k n s lv kv l ks) ≤ N → ∀ w, Held w (.mk k n s lv kv l ks) → ∀ (m : Nat) (y : Int), y = m → m ≤ 1000000 →
    Calls Tryz.prog 27 #[valA k n s lv kv, .int .i64 y] w fun e w' => e = .returned (.int .i64 (min (cnt (.mk k n s lv kv l ks)) (m + 1) : Nat)) ∧ Below w.heap.size w w'
  | 0, k, n, s, lv, kv, l, ks, h, _, _ => by have := dep_pos (.mk k n s lv kv l ks); omega
  | N + 1, k, n, s, lv, kv, l, ks, hN, w, hH => by
    intro m y hy hm
    subst hy
    obtain ⟨hl, hk, hL⟩ := held_mk hH
    have hdep : depL l ≤ N := by rw [dep_mk] at hN; omega
    have HS := hid (fun W (hW : Below w.heap.size w W) => hl.below hW (Nat.le_refl _))
    have HL := hid (fun W (hW : Below w.heap.size w W) => HeldL.below hW (Nat.le_refl _) hL)
    have HD := hid (fun j hj => dep_get hdep j hj)
    obtain ⟨-, la, lc, rfl, hlc, hlm, -⟩ := hl.vms
    unfold maxLen at hlm
    have HB := hid (box_new w k n s (.slice la l.length lc) kv 25 (0, 0))
    obtain ⟨c0, c1, c2, c3, c4⟩ := HB.out
    have IH := hid (rmany_any N)
    have HC := hid (cnt_mk k n s (.slice la l.length lc) kv l ks)
    clear hl hk hL hH hN hdep
    go_enter Tryz.func27, Tryz.ntmps27
    go_wp2_with fail
    go_loopw [5, 6] (fun x i wr => ∃ j c : Nat, j ≤ l.length ∧ i = .int .i64 j ∧ x = .int .i64 c ∧ Hid (c = min (1 + cntL (l.take j)) (m + 1)) ∧ 1 ≤ c ∧ c ≤ m + 1 ∧ Below w.heap.size w wr ∧ Box wr w.heap.size k n s (.slice la l.length lc) kv) (fun _ i _ => l.length - (intOf i).toNat)
    case atStart => exact ⟨0, 1, by omega, rfl, rfl, hid (by simp [cntL]), by omega, by omega, below_new w _, HB.out⟩
    case round =>
      obtain ⟨j, c, hj, rfl, rfl, HA, hc1, hcm, hbw, hbx⟩ := hrel
      have HBX := hid hbx
      obtain ⟨d0, d1, d2, d3, d4⟩ := hbx
      clear c0 c1 c2 c3 c4
      by_cases hlt : j < l.length
      · by_cases hle : c ≤ m
        · obtain ⟨-, la', lc', hv, -, -, hx⟩ := (HS.out _ hbw).vms
          obtain ⟨lb, lo, rfl, hlb, hcl⟩ := hx j hlt
          obtain ⟨rfl, rfl⟩ : la = some ⟨lb, lo, none⟩ ∧ lc = lc' := by simpa using hv
          have hfc := hcl j hlt
          have hdj := HD.out j hlt
          obtain ⟨k', n', s', lv', kv', l', ks', hq⟩ : ∃ k' n' s' lv' kv' l' ks', l[j] = .mk k' n' s' lv' kv' l' ks' := by
            cases h : l[j] with
            | mk a b c d e f g => exact ⟨a, b, c, d, e, f, g, rfl⟩
          obtain ⟨e0, e1, e2, e3, e4⟩ := hfc.open hq
          rw [hq] at hdj
          have HT := hid (cntL_take l j hlt)
          rw [hq] at HT
          obtain ⟨r, hr⟩ : ∃ r : Nat, (m : Int) - (c : Int) = (r : Int) ∧ r = m - c := ⟨m - c, by omega, rfl⟩
          have IHj := hid (IH.out k' n' s' lv' kv' l' ks' hdj _ (heldL_mem (HL.out _ hbw) j hlt hq) r r rfl (by omega))
          obtain ⟨x, hx'⟩ : ∃ x, min (cnt (.mk k' n' s' lv' kv' l' ks')) (r + 1) = x := ⟨_, rfl⟩
          rw [hx'] at IHj
          have HNx : Hid (c + x = min (1 + cntL (l.take (j + 1))) (m + 1)) := hid (by
            have h1 := HA.out
            rw [HT.out, many_step]
            rw [← h1, if_pos hle, ← hx', hr.2])
          have hx1 : c + x ≤ m + 1 := by have := hr.2; omega
          have hr1 := hr.1
          have hle' : (c : Int) ≤ (m : Int) := by omega
          clear hcl hx hv hfc hq IH hr hx'
          go_wp2_with fail
          refine IHj.out.mono ?_
          rintro e w1 ⟨rfl, hb1⟩
          clear hr1
          go_wp2_with fail
          exact ⟨⟨j + 1, c + x, by omega, by go_num, by go_num, HNx, by omega, hx1, Below.chain hbw hb1, HBX.out.keeps hb1⟩, by simp [intOf]; omega⟩
        · have HF : Hid (min (cnt (.mk k n s (.slice la l.length lc) kv l ks)) (m + 1) = c) := hid (by rw [HC.out]; have h1 := HA.out; have h2 := cntL_le l j; omega)
          have hle' : ¬ (c : Int) ≤ (m : Int) := by omega
          go_wp2_with fail
          go_ret
          exact ⟨by rw [HF.out]; rfl, hbw⟩
      · obtain rfl : j = l.length := by omega
        have HF : Hid (min (cnt (.mk k n s (.slice la l.length lc) kv l ks)) (m + 1) = c) := hid (by rw [HC.out]; have h1 := HA.out; rw [List.take_length] at h1; omega)
        go_wp2_with fail
        go_ret
        exact ⟨by rw [HF.out]; rfl, hbw⟩
set_option maxHeartbeats 1000000 in
theorem rdeep_any : ∀ (N : Nat) (k n : Int) (s : List UInt8) (lv kv : Value) (l : List VM) (ks : List (List UInt8)), dep (.mk k n s lv kv l ks) ≤ N → ∀ w, Held w (.mk k n s lv kv l ks) → ∀ (m : Nat) (y : Int), y = m → m ≤ 1000000 →
    Calls Tryz.prog 28 #[valA k n s lv kv, .int .i64 y] w fun e w' => e = .returned (.int .i64 (min (dep (.mk k n s lv kv l ks)) (m + 1) : Nat)) ∧ Below w.heap.size w w'
  | 0, k, n, s, lv, kv, l, ks, h, _, _ => by have := dep_pos (.mk k n s lv kv l ks); omega
  | N + 1, k, n, s, lv, kv, l, ks, hN, w, hH => by
    intro m y hy hm
    subst hy
    obtain ⟨hl, hk, hL⟩ := held_mk hH
    have hdep : depL l ≤ N := by rw [dep_mk] at hN; omega
    have HS := hid (fun W (hW : Below w.heap.size w W) => hl.below hW (Nat.le_refl _))
    have HL := hid (fun W (hW : Below w.heap.size w W) => HeldL.below hW (Nat.le_refl _) hL)
    have HD := hid (fun j hj => dep_get hdep j hj)
    obtain ⟨-, la, lc, rfl, hlc, hlm, -⟩ := hl.vms
    unfold maxLen at hlm
    have HB := hid (box_new w k n s (.slice la l.length lc) kv 25 (0, 0))
    have IH := hid (rdeep_any N)
    have HC := hid (dep_mk k n s (.slice la l.length lc) kv l ks)
    have hbox := hid (below_new w (.cells #[.int .i64 k, .int .i64 n, .string (bs s), .slice la l.length lc, kv] 25))
    clear hl hk hL hH hN hdep
    by_cases hm0 : m = 0
    · have HF : Hid (min (dep (.mk k n s (.slice la l.length lc) kv l ks)) (m + 1) = 1) := hid (by rw [HC.out]; omega)
      have hm1 : ¬ 0 < m := by omega
      go_enter Tryz.func28, Tryz.ntmps28
      go_wp2_with fail
      go_ret
      exact ⟨by rw [HF.out]; rfl, hbox.out⟩
    · have hm1 : 0 < m := by omega
      obtain ⟨r, hr1, hr2⟩ : ∃ r : Nat, (m : Int) - 1 = (r : Int) ∧ r + 1 = m := ⟨m - 1, by omega, by omega⟩
      have HR1 := hid hr1
      clear hr1
      obtain ⟨c0, c1, c2, c3, c4⟩ := HB.out
      go_enter Tryz.func28, Tryz.ntmps28
      go_wp2_with fail
      go_loopw [5, 13] (fun x i wr => ∃ j c : Nat, j ≤ l.length ∧ i = .int .i64 j ∧ x = .int .i64 c ∧ Hid (c = min (depL (l.take j)) m) ∧ c ≤ m ∧ Below w.heap.size w wr ∧ Box wr w.heap.size k n s (.slice la l.length lc) kv) (fun _ i _ => l.length - (intOf i).toNat)
      case atStart => exact ⟨0, 0, by omega, rfl, rfl, hid (by simp [depL]), by omega, below_new w _, HB.out⟩
      case round =>
        obtain ⟨j, c, hj, rfl, rfl, HA, hcm, hbw, hbx⟩ := hrel
        have HBX := hid hbx
        obtain ⟨d0, d1, d2, d3, d4⟩ := hbx
        clear c0 c1 c2 c3 c4
        by_cases hlt : j < l.length
        · obtain ⟨-, la', lc', hv, -, -, hx⟩ := (HS.out _ hbw).vms
          obtain ⟨lb, lo, rfl, hlb, hcl⟩ := hx j hlt
          obtain ⟨rfl, rfl⟩ : la = some ⟨lb, lo, none⟩ ∧ lc = lc' := by simpa using hv
          have hfc := hcl j hlt
          have hdj := HD.out j hlt
          obtain ⟨k', n', s', lv', kv', l', ks', hq⟩ : ∃ k' n' s' lv' kv' l' ks', l[j] = .mk k' n' s' lv' kv' l' ks' := by
            cases h : l[j] with
            | mk a b c d e f g => exact ⟨a, b, c, d, e, f, g, rfl⟩
          obtain ⟨e0, e1, e2, e3, e4⟩ := hfc.open hq
          rw [hq] at hdj
          have HT := hid (depL_take l j hlt)
          rw [hq] at HT
          have IHj := hid (IH.out k' n' s' lv' kv' l' ks' hdj _ (heldL_mem (HL.out _ hbw) j hlt hq) r r rfl (by omega))
          obtain ⟨x, hx'⟩ : ∃ x, min (dep (.mk k' n' s' lv' kv' l' ks')) (r + 1) = x := ⟨_, rfl⟩
          rw [hx'] at IHj
          have HNx : Hid (max c x = min (depL (l.take (j + 1))) m) := hid (by
            have h1 := HA.out
            rw [HT.out]; omega)
          have hx1 : x ≤ m := by omega
          have hr1 := HR1.out
          clear hcl hx hv hfc hq IH hx'
          go_wp2_with fail
          refine IHj.out.mono ?_
          rintro e w1 ⟨rfl, hb1⟩
          clear hr1
          by_cases hcx : c < x
          · have e1 : max c x = x := by omega
            rw [e1] at HNx
            clear e1
            go_wp2_with fail
            exact ⟨⟨j + 1, x, by omega, by go_num, rfl, HNx, hx1, Below.chain hbw hb1, HBX.out.keeps hb1⟩, by simp [intOf]; omega⟩
          · have e1 : max c x = c := by omega
            rw [e1] at HNx
            clear e1
            go_wp2_with fail
            exact ⟨⟨j + 1, c, by omega, by go_num, rfl, HNx, hcm, Below.chain hbw hb1, HBX.out.keeps hb1⟩, by simp [intOf]; omega⟩
        · obtain rfl : j = l.length := by omega
          have HF : Hid (min (dep (.mk k n s (.slice la l.length lc) kv l ks)) (m + 1) = c + 1) := hid (by rw [HC.out]; have h1 := HA.out; rw [List.take_length] at h1; omega)
          go_wp2_with fail
          go_ret
          exact ⟨by rw [HF.out]; rfl, hbw⟩
end Go.Proofs.YtnfjlimecoikpaaGreatDoor
