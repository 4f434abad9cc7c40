/- Lemmas for TopWire: W7, PackPlain, PackLaws, NumPlain, W8. -/
import Derived.Test.YtlbipokkdiiaiaaGreatDoorT16
import Derived.Test.YtlbipokkdiiaiaaGreatDoorT11
import Derived.Lib.ItoaNum
import Derived.Lib.ParseIntBCases
import Derived.Test.YtlbipokkdiiaiaaGreatDoorT13
import Derived.Laws.BitsAllLaws
import Derived.Deep.OwnRows
/- trace.outs and trace.Check. -/
namespace Go.Proofs.YtlbipokkdiiaiaaGreatDoor
open Go.RowKit Go.Proofs.YtlbipokkdiiaiaaGreatDoor.Exec
set_option maxRecDepth 100000
/-- The path ahead. -/
def aheadL (l : List MdL) : Nat → Option (List UInt8)
  | 0 => none
  | j + 1 => (l[j]?).map (·.path)
set_option maxHeartbeats 2000000 in
theorem outs_any (v : Value) (l : List MdL) (w : World) (h : RowsOf w 33 MdL.cells v l) (hs : SmallM l) :
    Calls Tryz.prog 43 #[v] w fun e w' => e = .returned (.int .i64 (outsE none l)) ∧ Below w.heap.size w w' := by
  obtain ⟨a0, c0, rfl, hc0, hm0, -, hx⟩ := h.out MdL.len (by omega)
  unfold maxLen at hm0
  have HX := hid hx
  have HS := hid hs
  clear h hs hx
  go_enter Tryz.func43, Tryz.ntmps43
  go_wp2_with fail
  go_loopw [7] (fun i wr => ∃ k : Nat, k ≤ l.length ∧ i = .int .i64 k ∧ outsE none l = outsE (aheadL l k) (l.drop k) ∧ Below w.heap.size w wr) (fun i _ => l.length - (intOf i).toNat)
  case atStart => exact ⟨0, by omega, rfl, rfl, Below.refl _ _⟩
  case round =>
    obtain ⟨k, hk, rfl, he, hbe⟩ := hrel
    have He := hid he
    clear he
    by_cases hlt : k < l.length
    · obtain ⟨b, off, rfl, hbw, hcl⟩ := HX.out k hlt
      have L0 := range_keeps hbe (hcl k hlt)
      have HL := hid (HS.out l[k] (List.getElem_mem hlt))
      have HD := hid (drop_at l k hlt)
      rw [HD.out] at He
      have HA := hid (show aheadL l (k + 1) = some l[k].path by simp [aheadL, hlt])
      have HB := hid hbe
      clear HD
      cases hX : l[k] with | mk p d =>
      rw [hX] at L0 HL He HA
      by_cases hu : underB p [111, 117, 116] = true
      · by_cases h0 : k = 0
        · have HE0 := hid (show aheadL l k = none by rw [h0]; rfl)
          have hgt : decide (0 < k) = false := decide_eq_false (by omega)
          have H0 := hid h0
          clear hcl hX HX HS h0
          go_wp2_with first | (refine wl_ld rt54 L0 (MdL.len _) ?_) | (refine wl_al rt54 ?_; intro zs W1 hzs hb1 hn1 hs1) | (refine wl_st (xs := (MdL.cells ⟨p, d⟩).toArray) rt54 hn1 hzs (by rw [List.size_toArray]; exact MdL.len _) (MdL.one _) ?_; intro W2 ht2 hn2 hs2; obtain ⟨z0, z1⟩ := MdL.parts0 hn2; have hb2 := hb1.trans (ht2.below (Nat.le_refl _))) | (go_at_call 89; refine (under_is p [111, 117, 116] HL.out (by decide) true hu W2).mono ?_; rintro e W3 ⟨rfl, hb3⟩; have y0 := Below.keeps hb3 z0)
          refine wp_region_wq (by kernel_rfl) (by kernel_rfl) ?_
          repeat (refine WQ.step (fun K hK => ?_); go_simp; first | (refine hK _ ?_; clear hK K) | (apply Exists.intro; refine ⟨fun W hW => ?_, hK _ ?_⟩; (first | with_reducible rfl | (go_simp; first | rfl | exact ⟨rfl, rfl⟩ | (rw [if_neg (by omega)]; exact ⟨rfl, rfl⟩))); clear hK K))
          refine WQ.nil ?_
          intro wq hwq
          go_wp2_with fail
          refine wp_region_wq (by kernel_rfl) (by kernel_rfl) ?_
          repeat (refine WQ.step (fun K hK => ?_); go_simp; first | (refine hK _ ?_; clear hK K) | (apply Exists.intro; refine ⟨fun W hW => ?_, hK _ ?_⟩; (first | with_reducible rfl | (go_simp; first | rfl | exact ⟨rfl, rfl⟩ | (rw [if_neg (by omega)]; exact ⟨rfl, rfl⟩))); clear hK K))
          refine WQ.nil ?_
          intro wr hwr
          go_wp2_with fail
          exact ⟨⟨k + 1, by omega, by go_num, by rw [He.out, HA.out, HE0.out]; simp [outsE, hu], Below.chain HB.out (Below.chain (Below.chain (Below.chain hb2 hb3) hwq) hwr)⟩, by simp [intOf]; omega⟩
        · obtain ⟨j, hj⟩ : ∃ j, k = j + 1 := ⟨k - 1, by omega⟩
          have hgt : decide (0 < k) = true := decide_eq_true (by omega)
          have hjl : j < l.length := by omega
          have hkj : IntKind.i64.wrap ((k : Int) - 1) = (j : Int) := by
            rw [show (k : Int) - 1 = (j : Int) by omega]
            simp only [IntKind.wrap, IntKind.bits, IntKind.signed]
            simp
            omega
          have Q0 := (MdL.parts (range_keeps hbe (hcl j hjl))).1
          generalize hQ : (l[j]).path = q at Q0
          have HE0 := hid (show aheadL l k = some q by rw [hj, ← hQ]; simp [aheadL, hjl])
          have HJ := hid hj
          have H0 := hid h0
          clear hcl hX HX HS hQ hj h0
          by_cases hpq : p = q
          · have HP := hid hpq
            have E8 : (p == q) = true := by rw [hpq]; simp
            clear hpq
            go_wp2_with first | (refine wl_ld rt54 L0 (MdL.len _) ?_) | (refine wl_al rt54 ?_; intro zs W1 hzs hb1 hn1 hs1) | (refine wl_st (xs := (MdL.cells ⟨p, d⟩).toArray) rt54 hn1 hzs (by rw [List.size_toArray]; exact MdL.len _) (MdL.one _) ?_; intro W2 ht2 hn2 hs2; obtain ⟨z0, z1⟩ := MdL.parts0 hn2; have hb2 := hb1.trans (ht2.below (Nat.le_refl _))) | (go_at_call 89; refine (under_is p [111, 117, 116] HL.out (by decide) true hu W2).mono ?_; rintro e W3 ⟨rfl, hb3⟩; have y0 := Below.keeps hb3 z0; have q1 := Below.keeps (Below.chain hb2 hb3) Q0)
            refine wp_region_wq (by kernel_rfl) (by kernel_rfl) ?_
            repeat (refine WQ.step (fun K hK => ?_); go_simp; first | (refine hK _ ?_; clear hK K) | (apply Exists.intro; refine ⟨fun W hW => ?_, hK _ ?_⟩; (first | with_reducible rfl | (have zz0 := Below.keeps hW y0; have zz1 := Below.keeps hW q1; go_simp; first | rfl | exact ⟨rfl, rfl⟩ | (rw [if_neg (by omega)]; exact ⟨rfl, rfl⟩))); clear hK K))
            refine WQ.nil ?_
            intro wq hwq
            go_wp2_with fail
            go_ret
            have hu2 := HP.out ▸ hu
            exact ⟨by rw [He.out, HE0.out]; simp [outsE, hu2, HP.out], Below.chain HB.out (Below.chain (Below.chain hb2 hb3) hwq)⟩
          · have HP := hid hpq
            have E8 : (p == q) = false := by simpa using hpq
            clear hpq
            by_cases hls : less p q = true
            · go_wp2_with first | (refine wl_ld rt54 L0 (MdL.len _) ?_) | (refine wl_al rt54 ?_; intro zs W1 hzs hb1 hn1 hs1) | (refine wl_st (xs := (MdL.cells ⟨p, d⟩).toArray) rt54 hn1 hzs (by rw [List.size_toArray]; exact MdL.len _) (MdL.one _) ?_; intro W2 ht2 hn2 hs2; obtain ⟨z0, z1⟩ := MdL.parts0 hn2; have hb2 := hb1.trans (ht2.below (Nat.le_refl _))) | (go_at_call 89; refine (under_is p [111, 117, 116] HL.out (by decide) true hu W2).mono ?_; rintro e W3 ⟨rfl, hb3⟩; have y0 := Below.keeps hb3 z0; have q1 := Below.keeps (Below.chain hb2 hb3) Q0)
              refine wp_region_wq (by kernel_rfl) (by kernel_rfl) ?_
              repeat (refine WQ.step (fun K hK => ?_); go_simp; first | (refine hK _ ?_; clear hK K) | (apply Exists.intro; refine ⟨fun W hW => ?_, hK _ ?_⟩; (first | with_reducible rfl | (have zz0 := Below.keeps hW y0; have zz1 := Below.keeps hW q1; go_simp; first | rfl | exact ⟨rfl, rfl⟩ | (rw [if_neg (by omega)]; exact ⟨rfl, rfl⟩))); clear hK K))
              refine WQ.nil ?_
              intro wq hwq
              go_wp2_with fail
              have y2 := Below.keeps hwq y0
              have q2 := Below.keeps hwq q1
              refine wp_region_wq (by kernel_rfl) (by kernel_rfl) ?_
              repeat (refine WQ.step (fun K hK => ?_); go_simp; first | (refine hK _ ?_; clear hK K) | (apply Exists.intro; refine ⟨fun W hW => ?_, hK _ ?_⟩; (first | with_reducible rfl | (have zz0 := Below.keeps hW y2; have zz1 := Below.keeps hW q2; go_simp; first | rfl | exact ⟨rfl, rfl⟩ | (rw [if_neg (by omega)]; exact ⟨rfl, rfl⟩))); clear hK K))
              refine WQ.nil ?_
              intro wr hwr
              go_wp2_with fail
              go_ret
              exact ⟨by rw [He.out, HE0.out]; simp [outsE, hu, HP.out, hls], Below.chain HB.out (Below.chain (Below.chain (Below.chain hb2 hb3) hwq) hwr)⟩
            · have hls2 : less p q = false := by simpa using hls
              have HLS := hid hls
              clear hls
              go_wp2_with first | (refine wl_ld rt54 L0 (MdL.len _) ?_) | (refine wl_al rt54 ?_; intro zs W1 hzs hb1 hn1 hs1) | (refine wl_st (xs := (MdL.cells ⟨p, d⟩).toArray) rt54 hn1 hzs (by rw [List.size_toArray]; exact MdL.len _) (MdL.one _) ?_; intro W2 ht2 hn2 hs2; obtain ⟨z0, z1⟩ := MdL.parts0 hn2; have hb2 := hb1.trans (ht2.below (Nat.le_refl _))) | (go_at_call 89; refine (under_is p [111, 117, 116] HL.out (by decide) true hu W2).mono ?_; rintro e W3 ⟨rfl, hb3⟩; have y0 := Below.keeps hb3 z0; have q1 := Below.keeps (Below.chain hb2 hb3) Q0)
              refine wp_region_wq (by kernel_rfl) (by kernel_rfl) ?_
              repeat (refine WQ.step (fun K hK => ?_); go_simp; first | (refine hK _ ?_; clear hK K) | (apply Exists.intro; refine ⟨fun W hW => ?_, hK _ ?_⟩; (first | with_reducible rfl | (have zz0 := Below.keeps hW y0; have zz1 := Below.keeps hW q1; go_simp; first | rfl | exact ⟨rfl, rfl⟩ | (rw [if_neg (by omega)]; exact ⟨rfl, rfl⟩))); clear hK K))
              refine WQ.nil ?_
              intro wq hwq
              go_wp2_with fail
              have y2 := Below.keeps hwq y0
              have q2 := Below.keeps hwq q1
              refine wp_region_wq (by kernel_rfl) (by kernel_rfl) ?_
              repeat (refine WQ.step (fun K hK => ?_); go_simp; first | (refine hK _ ?_; clear hK K) | (apply Exists.intro; refine ⟨fun W hW => ?_, hK _ ?_⟩; (first | with_reducible rfl | (have zz0 := Below.keeps hW y2; have zz1 := Below.keeps hW q2; go_simp; first | rfl | exact ⟨rfl, rfl⟩ | (rw [if_neg (by omega)]; exact ⟨rfl, rfl⟩))); clear hK K))
              refine WQ.nil ?_
              intro wr hwr
              go_wp2_with fail
              exact ⟨⟨k + 1, by omega, by go_num, by rw [He.out, HA.out, HE0.out]; simp [outsE, hu, HP.out, HLS.out], Below.chain HB.out (Below.chain (Below.chain (Below.chain hb2 hb3) hwq) hwr)⟩, by simp [intOf]; omega⟩
      · clear hcl hX HX HS
        go_wp2_with first | (refine wl_ld rt54 L0 (MdL.len _) ?_) | (refine wl_al rt54 ?_; intro zs W1 hzs hb1 hn1 hs1) | (refine wl_st (xs := (MdL.cells ⟨p, d⟩).toArray) rt54 hn1 hzs (by rw [List.size_toArray]; exact MdL.len _) (MdL.one _) ?_; intro W2 ht2 hn2 hs2; obtain ⟨z0, z1⟩ := MdL.parts0 hn2; have hb2 := hb1.trans (ht2.below (Nat.le_refl _))) | (go_at_call 89; refine (under_is p [111, 117, 116] HL.out (by decide) false (by simpa using hu) W2).mono ?_; rintro e W3 ⟨rfl, hb3⟩; have y0 := Below.keeps hb3 z0)
        go_ret
        exact ⟨by rw [He.out]; simp [outsE, hu], Below.chain HB.out (Below.chain hb2 hb3)⟩
    · obtain rfl : k = l.length := by omega
      go_wp2_with fail
      go_ret
      exact ⟨by rw [He.out, List.drop_length]; rfl, hbe⟩
theorem outs_is (v : Value) (l : List MdL) (w : World) (h : RowsOf w 33 MdL.cells v l) (hs : SmallM l) (r : Int) (hr : outsE none l = r) :
    Calls Tryz.prog 43 #[v] w fun e w' => e = .returned (.int .i64 r) ∧ Below w.heap.size w w' := hr ▸ outs_any v l w h hs
theorem reads_is (v : Value) (l : List RdL) (w : World) (h : RowsOf w 34 RdL.cells v l) (hs : SmallR l) (r : Int) (hr : readsE [] l = r) :
    Calls Tryz.prog 42 #[v] w fun e w' => e = .returned (.int .i64 r) ∧ Below w.heap.size w w' := hr ▸ reads_any v l w h hs
/-- A trace whose texts fit in memory. -/
structure SmallT (t : TcL) : Prop where
  rd : SmallR t.reads
  ou : SmallM t.outs
theorem rows_len {w : World} {sz : Nat} {α : Type} {f : α → List Value} {v : Value} {l : List α} (h : RowsOf w sz f v l) : ∃ a c, v = .slice a l.length c ∧ l.length ≤ 9223372036854775807 := by
  obtain ⟨_, a, c, rfl, h1, h2, _⟩ := h
  exact ⟨a, c, rfl, by unfold maxLen at h2; omega⟩
set_option maxHeartbeats 2000000 in
theorem checkT_any (x : TcM) (w : World) (hx : HeldT w x) (hs : SmallT x.t) :
    Calls Tryz.prog 15 #[x.val] w fun e w' => e = .returned (.int .i64 (checkT x.t)) ∧ Below w.heap.size w w' := by
  unfold TcM.val
  obtain ⟨ra, rc, hrv, hr63⟩ := rows_len hx.1
  obtain ⟨oa, oc, hov, ho63⟩ := rows_len hx.2
  have HX := hid hx
  have HS := hid hs
  clear hx hs
  go_enter Tryz.func15, Tryz.ntmps15
  go_upto_region 1 with fail
  obtain ⟨W0, hW0, hb0, hn0⟩ := an0 w (.cells x.cells.toArray 44)
  rw [← hW0.out]
  clear hW0
  obtain ⟨x0, x1, x2⟩ := TcM.parts0 hn0
  rw [hrv] at x1
  rw [hov] at x2
  have HB := hid hb0
  have HX0 := hid (HX.out.keep hb0)
  rw [HeldT, hrv, hov] at HX0
  clear hn0 HX hb0 hrv hov
  by_cases h1 : x.t.reads.length ≤ 500
  · have e1 : decide ((500 : Int) < (x.t.reads.length : Int)) = false := decide_eq_false (by omega)
    by_cases h2 : x.t.outs.length ≤ 1000
    · have e2 : decide ((1000 : Int) < (x.t.outs.length : Int)) = false := decide_eq_false (by omega)
      by_cases h3 : readsE [] x.t.reads = 0
      · have HR := hid (reads_is _ _ W0 HX0.out.1 HS.out.rd 0 h3)
        have HC := hid (show checkT x.t = outsE none x.t.outs by unfold checkT; rw [if_neg (by omega), if_neg (by simp [h3])])
        clear h3 h1 h2
        go_wp2_with first | (go_at_call 42; refine (HR.out).mono ?_; rintro e w1 ⟨rfl, hb1⟩; have x2' := Below.keeps hb1 x2) | (go_at_call 43; refine (outs_any _ _ _ (HX0.out.2.below hb1 (Nat.le_refl _)) HS.out.ou).mono ?_; rintro e w2 ⟨rfl, hb2⟩)
        go_ret
        exact ⟨by rw [HC.out]; rfl, Below.chain HB.out (Below.chain hb1 hb2)⟩
      · obtain ⟨r, hr⟩ : ∃ r, readsE [] x.t.reads = r := ⟨_, rfl⟩
        have HR := hid (reads_is _ _ W0 HX0.out.1 HS.out.rd r hr)
        have HC := hid (show checkT x.t = r by unfold checkT; rw [if_neg (by omega), if_pos h3, hr])
        have hne : (r != 0) = true := neT (by rw [← hr]; exact h3)
        clear h3 h1 h2 hr
        go_wp2_with first | (go_at_call 42; refine (HR.out).mono ?_; rintro e w1 ⟨rfl, hb1⟩; have x2' := Below.keeps hb1 x2)
        go_ret
        exact ⟨by rw [HC.out]; rfl, Below.chain HB.out hb1⟩
    · have e2 : decide ((1000 : Int) < (x.t.outs.length : Int)) = true := decide_eq_true (by omega)
      have HC := hid (show checkT x.t = 6 by unfold checkT; rw [if_pos (by omega)])
      clear h1 h2
      go_wp2_with fail
      go_ret
      exact ⟨by rw [HC.out]; rfl, HB.out⟩
  · have e1 : decide ((500 : Int) < (x.t.reads.length : Int)) = true := decide_eq_true (by omega)
    have HC := hid (show checkT x.t = 6 by unfold checkT; rw [if_pos (by omega)])
    clear h1
    go_wp2_with fail
    go_ret
    exact ⟨by rw [HC.out]; rfl, HB.out⟩
end Go.Proofs.YtlbipokkdiiaiaaGreatDoor
/- Plain words of rows: digits, a row's bytes, a text's row. -/
namespace Go.Proofs.YtlbipokkdiiaiaaGreatDoor
open Go.RowKit
/-- A number's digits. -/
def dig (n : Nat) : List UInt8 := if n < 10 then [UInt8.ofNat (48 + n)] else dig (n / 10) ++ [UInt8.ofNat (48 + n % 10)]
theorem dig_lt {n : Nat} (h : n < 10) : dig n = [UInt8.ofNat (48 + n)] := by rw [dig, if_pos h]
theorem dig_ge {n : Nat} (h : ¬ n < 10) : dig n = dig (n / 10) ++ [UInt8.ofNat (48 + n % 10)] := by rw [dig, if_neg h]
theorem dig_ge' {n : Nat} (h : ¬ n < 10) : dig n = dig (n / 10) ++ dig (n % 10) := by rw [dig_ge h, dig_lt (n := n % 10) (by omega)]
theorem dig_len_le (k : Nat) : ∀ n, n < 10 ^ (k + 1) → (dig n).length ≤ k + 1 := by
  induction k with
  | zero => intro n h; rw [dig_lt (by simpa using h)]; simp
  | succ k ih =>
    intro n h
    by_cases hn : n < 10
    · rw [dig_lt hn]; simp
    · rw [dig_ge hn, List.length_append]
      have := ih (n / 10) (by rw [Nat.pow_succ] at h; omega)
      simp; omega
theorem dig_len (n : Nat) : (dig n).length ≤ n + 1 := by
  refine dig_len_le n n ?_
  have : n < 10 ^ n := Nat.lt_pow_self (by omega)
  rw [Nat.pow_succ]; omega
theorem dig_len20 {n : Nat} (h : n ≤ 9223372036854775807) : (dig n).length ≤ 19 := dig_len_le 18 n (by omega)
theorem dig_eq (k : Nat) : ∀ n, n ≤ k → dig n = Lib.decDigits n := by
  induction k with
  | zero => intro n h; obtain rfl : n = 0 := by omega
            rw [dig_lt (by omega), Lib.decDigits, dif_pos (by omega)]
  | succ k ih =>
    intro n h
    by_cases hn : n < 10
    · rw [dig_lt hn, Lib.decDigits, dif_pos hn]
    · rw [dig_ge hn, Lib.decDigits, dif_neg hn, ih (n / 10) (by omega)]
theorem itoa_nat (n : Nat) : Lib.itoa n = dig n := by
  rw [Lib.itoa, if_neg (by omega), dig_eq n n (Nat.le_refl _)]; rfl
/-- A row's bytes. -/
def rowL (ss : List (List UInt8)) : List UInt8 := ss.flatMap fun s => dig s.length ++ 58 :: s
theorem rowL_append (a b : List (List UInt8)) : rowL (a ++ b) = rowL a ++ rowL b := by simp [rowL]
theorem rowL_take_succ (ss : List (List UInt8)) (k : Nat) (h : k < ss.length) : rowL (ss.take (k + 1)) = rowL (ss.take k) ++ (dig ss[k].length ++ 58 :: ss[k]) := by
  rw [take_at _ _ h, rowL_append]; simp [rowL]
theorem rowL_take_le (ss : List (List UInt8)) (k : Nat) : (rowL (ss.take k)).length ≤ (rowL ss).length := by
  have h : rowL ss = rowL (ss.take k) ++ rowL (ss.drop k) := by rw [← rowL_append, List.take_append_drop]
  rw [h, List.length_append]; omega
def headFrom (i n : Nat) : List UInt8 → Nat × List UInt8 × Nat
  | [] => (0, [], 4)
  | c :: r =>
    if c.toNat = 58 ∧ 0 < i then (n, r, 0)
    else if c.toNat < 48 ∨ 57 < c.toNat ∨ i = 9 ∨ (0 < i ∧ n = 0) then (0, [], 3)
    else headFrom (i + 1) (10 * n + (c.toNat - 48)) r
theorem headFrom_done {k m : Nat} {c : UInt8} {r : List UInt8} (h : c.toNat = 58) (hk : 0 < k) : headFrom k m (c :: r) = (m, r, 0) := by
  rw [headFrom, if_pos ⟨h, hk⟩]
theorem headFrom_bad {k m : Nat} {c : UInt8} {r : List UInt8} (h : ¬ (c.toNat = 58 ∧ 0 < k)) (hk : c.toNat < 48 ∨ 57 < c.toNat ∨ k = 9 ∨ (0 < k ∧ m = 0)) : headFrom k m (c :: r) = (0, [], 3) := by
  rw [headFrom, if_neg h, if_pos hk]
theorem headFrom_more {k m : Nat} {c : UInt8} {r : List UInt8} (h : ¬ (c.toNat = 58 ∧ 0 < k)) (hk : ¬ (c.toNat < 48 ∨ 57 < c.toNat ∨ k = 9 ∨ (0 < k ∧ m = 0))) : headFrom k m (c :: r) = headFrom (k + 1) (10 * m + (c.toNat - 48)) r := by
  rw [headFrom, if_neg h, if_neg hk]
theorem headFrom_len (l : List UInt8) : ∀ k m, (headFrom k m l).2.2 = 0 → (headFrom k m l).2.1.length < l.length := by
  induction l with
  | nil => intro k m h; simp [headFrom] at h
  | cons c r ih =>
    intro k m
    unfold headFrom
    split
    · intro _; simp
    · split
      · intro h; simp at h
      · intro h; have := ih _ _ h; simp; omega
/-- What is behind a row that has been read. -/
def fin (out : List (List UInt8)) (p : List (List UInt8) × Nat) : List (List UInt8) × Nat := if p.2 = 0 then (out ++ p.1, 0) else ([], p.2)
theorem fin_fin (a b : List (List UInt8)) (p : List (List UInt8) × Nat) : fin a (fin b p) = fin (a ++ b) p := by
  unfold fin; by_cases h : p.2 = 0 <;> simp [h]
/-- The row of a text. -/
def textsL (l : List UInt8) : List (List UInt8) × Nat :=
  if l = [] then ([], 0)
  else if _h : (headFrom 0 0 l).2.2 = 0 then
    if (headFrom 0 0 l).2.1.length < (headFrom 0 0 l).1 then ([], 4)
    else fin [(headFrom 0 0 l).2.1.take (headFrom 0 0 l).1] (textsL ((headFrom 0 0 l).2.1.drop (headFrom 0 0 l).1))
  else ([], (headFrom 0 0 l).2.2)
termination_by l.length
decreasing_by
  have := headFrom_len l 0 0 _h
  rw [List.length_drop]; omega
theorem textsL_nil : textsL [] = ([], 0) := by rw [textsL]; simp
theorem textsL_err {l t : List UInt8} {n c : Nat} (h : headFrom 0 0 l = (n, t, c)) (hl : l ≠ []) (hc : c ≠ 0) : textsL l = ([], c) := by
  rw [textsL, if_neg hl, h]; simp [hc]
theorem textsL_short {l t : List UInt8} {n : Nat} (h : headFrom 0 0 l = (n, t, 0)) (hl : l ≠ []) (hc : t.length < n) : textsL l = ([], 4) := by
  rw [textsL, if_neg hl, h]; simp [hc]
theorem textsL_more {l t : List UInt8} {n : Nat} (h : headFrom 0 0 l = (n, t, 0)) (hl : l ≠ []) (hc : ¬ t.length < n) : textsL l = fin [t.take n] (textsL (t.drop n)) := by
  rw [textsL, if_neg hl, h]; simp [hc]
theorem fin_nil (l : List UInt8) : fin [] (textsL l) = textsL l := by
  rw [textsL]
  split
  · rfl
  · split
    · split
      · rfl
      · rw [fin_fin]; rfl
    · rename_i h; simp [fin, h]
/-- Is a byte a digit? -/
def isDig (c : UInt8) : Bool := 48 ≤ c.toNat && c.toNat ≤ 57
end Go.Proofs.YtlbipokkdiiaiaaGreatDoor
/- Plain laws of rows: a row is read back from its bytes, and bytes that are read are the row's. -/
namespace Go.Proofs.YtlbipokkdiiaiaaGreatDoor
open Go.RowKit
theorem toNat_ofNat {n : Nat} (h : n < 256) : (UInt8.ofNat n).toNat = n := by simp [UInt8.toNat_ofNat']; omega
theorem dig_pos (n : Nat) : 0 < (dig n).length := by
  by_cases h : n < 10
  · rw [dig_lt h]; simp
  · rw [dig_ge h]; simp
theorem head_dig (k : Nat) : ∀ n, n ≤ k → n < 1000000000 → ∀ r, headFrom 0 0 (dig n ++ r) = headFrom (dig n).length n r := by
  induction k with
  | zero =>
    intro n h _ r
    obtain rfl : n = 0 := by omega
    rw [dig_lt (by omega)]
    show headFrom 0 0 (UInt8.ofNat (48 + 0) :: r) = _
    rw [headFrom_more (by rw [toNat_ofNat (by omega)]; omega) (by rw [toNat_ofNat (by omega)]; omega), toNat_ofNat (by omega)]; rfl
  | succ k ih =>
    intro n h hn r
    by_cases h10 : n < 10
    · rw [dig_lt h10]
      show headFrom 0 0 (UInt8.ofNat (48 + n) :: r) = _
      rw [headFrom_more (by rw [toNat_ofNat (by omega)]; omega) (by rw [toNat_ofNat (by omega)]; omega), toNat_ofNat (by omega)]
      show headFrom 1 _ r = headFrom 1 n r
      rw [show 10 * 0 + (48 + n - 48) = n by omega]
    · have hl : (dig (n / 10)).length ≤ 8 := dig_len_le 7 (n / 10) (by omega)
      have hp := dig_pos (n / 10)
      rw [dig_ge h10, List.append_assoc, ih (n / 10) (by omega) (by omega), List.singleton_append]
      rw [headFrom_more (by rw [toNat_ofNat (by omega)]; omega) (by rw [toNat_ofNat (by omega)]; omega), toNat_ofNat (by omega), List.length_append]
      rw [show 10 * (n / 10) + (48 + n % 10 - 48) = n by omega]; rfl
theorem head_of {n : Nat} (hn : n < 1000000000) (r : List UInt8) : headFrom 0 0 (dig n ++ 58 :: r) = (n, r, 0) := by
  rw [head_dig n n (Nat.le_refl _) hn, headFrom_done rfl (dig_pos n)]
theorem of_head (l : List UInt8) : ∀ (i m : Nat) (P : List UInt8) (n : Nat) (t : List UInt8), (P = [] ∧ i = 0 ∧ m = 0 ∨ P = dig m ∧ 0 < i) → headFrom i m l = (n, t, 0) → P ++ l = dig n ++ 58 :: t := by
  induction l with
  | nil => intro i m P n t _ h; simp [headFrom] at h
  | cons c r ih =>
    intro i m P n t hP h
    by_cases h1 : c.toNat = 58 ∧ 0 < i
    · rw [headFrom_done h1.1 h1.2] at h
      simp only [Prod.mk.injEq] at h
      obtain ⟨rfl, rfl, -⟩ := h
      have hc : c = 58 := by apply UInt8.toNat_inj.1; exact h1.1
      rcases hP with ⟨_, h0, _⟩ | ⟨rfl, _⟩
      · omega
      · rw [hc]
    · by_cases h2 : c.toNat < 48 ∨ 57 < c.toNat ∨ i = 9 ∨ (0 < i ∧ m = 0)
      · rw [headFrom_bad h1 h2] at h; simp at h
      · rw [headFrom_more h1 h2] at h
        have hc : c = UInt8.ofNat (48 + (c.toNat - 48)) := by
          apply UInt8.toNat_inj.1; rw [toNat_ofNat (by omega)]; omega
        have := ih (i + 1) (10 * m + (c.toNat - 48)) (P ++ [c]) n t (.inr ⟨?_, by omega⟩) h
        · rw [List.append_assoc, List.singleton_append] at this
          exact this
        · rcases hP with ⟨rfl, rfl, rfl⟩ | ⟨rfl, hi⟩
          · rw [dig_lt (by omega)]
            show [c] = _
            rw [show 48 + (10 * 0 + (c.toNat - 48)) = 48 + (c.toNat - 48) by omega, ← hc]
          · rw [dig_ge (n := 10 * m + (c.toNat - 48)) (by omega), show (10 * m + (c.toNat - 48)) / 10 = m by omega, show (10 * m + (c.toNat - 48)) % 10 = c.toNat - 48 by omega, ← hc]
theorem of_head0 {l t : List UInt8} {n : Nat} (h : headFrom 0 0 l = (n, t, 0)) : l = dig n ++ 58 :: t := by
  exact of_head l 0 0 [] n t (.inl ⟨rfl, rfl, rfl⟩) h
theorem texts_row (ss : List (List UInt8)) (h : ∀ s ∈ ss, s.length < 1000000000) : textsL (rowL ss) = (ss, 0) := by
  induction ss with
  | nil => exact textsL_nil
  | cons s ss ih =>
    have e : rowL (s :: ss) = dig s.length ++ 58 :: (s ++ rowL ss) := by simp [rowL]
    rw [e, textsL_more (head_of (h s (by simp)) _) (by simp) (by simp), List.take_left' rfl, List.drop_left' rfl, ih (fun x hx => h x (by simp [hx]))]
    rfl
theorem row_texts (k : Nat) : ∀ l : List UInt8, l.length ≤ k → (textsL l).2 = 0 → rowL (textsL l).1 = l := by
  induction k with
  | zero => intro l hl _; rw [List.eq_nil_of_length_eq_zero (by omega : l.length = 0), textsL_nil]; rfl
  | succ k ih =>
    intro l hl h
    by_cases h0 : l = []
    · subst h0; rw [textsL_nil]; rfl
    · obtain ⟨n, t, c, hh⟩ : ∃ n t c, headFrom 0 0 l = (n, t, c) := ⟨_, _, _, rfl⟩
      by_cases hc : c = 0
      · subst hc
        by_cases hlt : t.length < n
        · rw [textsL_short hh h0 hlt] at h; simp at h
        · have ht := headFrom_len l 0 0 (by rw [hh])
          rw [hh] at ht
          rw [textsL_more hh h0 hlt] at h ⊢
          unfold fin at h ⊢
          by_cases h2 : (textsL (t.drop n)).2 = 0
          · rw [if_pos h2]
            have := ih (t.drop n) (by rw [List.length_drop]; simp at ht; omega) h2
            have hn : (t.take n).length = n := List.length_take_of_le (by omega)
            simp only [List.singleton_append]
            rw [show rowL (t.take n :: (textsL (t.drop n)).1) = dig (t.take n).length ++ 58 :: (t.take n ++ rowL (textsL (t.drop n)).1) by simp [rowL], this, hn, List.take_append_drop]
            exact (of_head0 hh).symm
          · rw [if_neg h2] at h; exact absurd h h2
      · rw [textsL_err hh h0 hc] at h; exact absurd h hc
theorem row_texts' {l : List UInt8} (h : (textsL l).2 = 0) : rowL (textsL l).1 = l := row_texts _ l (Nat.le_refl _) h
theorem row_inj {a b : List (List UInt8)} (ha : ∀ s ∈ a, s.length < 1000000000) (hb : ∀ s ∈ b, s.length < 1000000000) (h : rowL a = rowL b) : a = b := by
  have h1 := texts_row a ha
  rw [h, texts_row b hb] at h1
  simpa using h1.symm
theorem row_nil {a : List (List UInt8)} (h : (rowL a).length = 0) : a = [] := by
  cases a with
  | nil => rfl
  | cons s a => simp [rowL] at h
theorem dig_take (k : Nat) : ∀ n, n ≤ k → ∀ j, 0 < j → j ≤ (dig n).length → ∃ m, m ≤ n ∧ (dig n).take j = dig m := by
  induction k with
  | zero =>
    intro n h j h0 hj
    obtain rfl : n = 0 := by omega
    rw [dig_lt (by omega)] at hj ⊢
    obtain rfl : j = 1 := by simp at hj; omega
    exact ⟨0, by omega, by rw [dig_lt (by omega)]; rfl⟩
  | succ k ih =>
    intro n h j h0 hj
    by_cases hl : j = (dig n).length
    · exact ⟨n, by omega, by rw [hl, List.take_length]⟩
    · by_cases h10 : n < 10
      · rw [dig_lt h10] at hj hl; simp at hj hl; omega
      · have e := dig_ge h10
        rw [e, List.length_append] at hj hl
        simp at hj hl
        obtain ⟨m, hm, he⟩ := ih (n / 10) (by omega) j h0 (by omega)
        exact ⟨m, by omega, by rw [e, List.take_append_of_le_length (by omega), he]⟩
theorem cut_row (ss : List (List UInt8)) (h : ∀ s ∈ ss, s.length < 1000000000) : ∀ k, k < (rowL ss).length → textsL ((rowL ss).take k) = ([], 4) ∨ ∃ j, j < ss.length ∧ textsL ((rowL ss).take k) = (ss.take j, 0) := by
  induction ss with
  | nil => intro k hk; simp [rowL] at hk
  | cons s ss ih =>
    intro k hk
    have e : rowL (s :: ss) = dig s.length ++ 58 :: (s ++ rowL ss) := by simp [rowL]
    have hs := h s (by simp)
    rw [e] at hk ⊢
    by_cases hk0 : k = 0
    · subst hk0
      exact .inr ⟨0, by simp, by rw [List.take_zero, textsL_nil]; rfl⟩
    · by_cases hk1 : k ≤ (dig s.length).length
      · obtain ⟨m, hm, he⟩ := dig_take _ s.length (Nat.le_refl _) k (by omega) hk1
        rw [List.take_append_of_le_length hk1, he]
        left
        refine textsL_err (n := 0) (t := []) (c := 4) ?_ ?_ (by omega)
        · have := head_dig m m (Nat.le_refl _) (by omega) []
          rw [List.append_nil] at this
          rw [this]; rfl
        · intro e0; have := dig_pos m; rw [e0] at this; simp at this
      · obtain ⟨k1, rfl⟩ : ∃ k1, k = (dig s.length).length + (1 + k1) := ⟨k - (dig s.length).length - 1, by omega⟩
        have e2 : (dig s.length ++ 58 :: (s ++ rowL ss)).take ((dig s.length).length + (1 + k1)) = dig s.length ++ 58 :: (s ++ rowL ss).take k1 := by
          rw [List.take_length_add_append, Nat.add_comm 1 k1, List.take_succ_cons]
        rw [e2]
        by_cases hk2 : k1 < s.length
        · left
          exact textsL_short (head_of hs _) (by simp) (by rw [List.length_take]; omega)
        · obtain ⟨k2, rfl⟩ : ∃ k2, k1 = s.length + k2 := ⟨k1 - s.length, by omega⟩
          have hk3 : k2 < (rowL ss).length := by simp at hk; omega
          rw [List.take_length_add_append, textsL_more (head_of hs _) (by simp) (by simp), List.take_left' rfl, List.drop_left' rfl]
          rcases ih (fun x hx => h x (by simp [hx])) k2 hk3 with h4 | ⟨j, hj, h4⟩
          · left; rw [h4]; rfl
          · right; exact ⟨j + 1, by simp; omega, by rw [h4]; rfl⟩
end Go.Proofs.YtlbipokkdiiaiaaGreatDoor
/- Plain words of numbers: a number's text, and the number of a text. -/
namespace Go.Proofs.YtlbipokkdiiaiaaGreatDoor
open Go.RowKit
/-- The value of digits, on top of what stands ahead. -/
def valD (a : Nat) : List UInt8 → Nat
  | [] => a
  | c :: r => valD (10 * a + (c.toNat - 48)) r
theorem valD_append (x y : List UInt8) : ∀ a, valD a (x ++ y) = valD (valD a x) y := by
  induction x with
  | nil => intro a; rfl
  | cons c x ih => intro a; exact ih _
theorem valD_le (x : List UInt8) : ∀ a, a ≤ valD a x := by
  induction x with
  | nil => intro a; exact Nat.le_refl _
  | cons c x ih => intro a; have := ih (10 * a + (c.toNat - 48)); show a ≤ valD _ x; omega
def allDig (l : List UInt8) : Bool := l.all isDig
theorem ofNat48 {n : Nat} (h : n < 10) : (UInt8.ofNat (48 + n)).toNat = 48 + n := by
  rw [UInt8.toNat_ofNat']; omega
theorem isDig_of {n : Nat} (h : n < 10) : isDig (UInt8.ofNat (48 + n)) = true := by
  unfold isDig
  rw [ofNat48 h]
  simp only [Bool.and_eq_true, decide_eq_true_eq]; omega
theorem ofNat_val {n : Nat} (h : n < 10) : (UInt8.ofNat (48 + n)).toNat - 48 = n := by
  rw [ofNat48 h]; omega
theorem dig_all (k : Nat) : ∀ n, n ≤ k → allDig (dig n) = true := by
  induction k with
  | zero => intro n h; rw [dig_lt (by omega)]; simp only [allDig, List.all_cons, List.all_nil, isDig_of (show n < 10 by omega), Bool.and_true]
  | succ k ih =>
    intro n h
    by_cases hn : n < 10
    · rw [dig_lt hn]; simp only [allDig, List.all_cons, List.all_nil, isDig_of hn, Bool.and_true]
    · have := ih (n / 10) (by omega)
      rw [dig_ge hn]
      unfold allDig at *
      rw [List.all_append, this]; simp only [List.all_cons, List.all_nil, isDig_of (show n % 10 < 10 by omega), Bool.and_true]
theorem dig_val (k : Nat) : ∀ n, n ≤ k → valD 0 (dig n) = n := by
  induction k with
  | zero => intro n h; obtain rfl : n = 0 := by omega
            rw [dig_lt (by omega)]; rfl
  | succ k ih =>
    intro n h
    by_cases hn : n < 10
    · rw [dig_lt hn]; show 10 * 0 + _ = n; rw [ofNat_val hn]; omega
    · rw [dig_ge hn, valD_append, ih (n / 10) (by omega)]
      show 10 * (n / 10) + _ = n
      rw [ofNat_val (show n % 10 < 10 by omega)]; omega
theorem dig_ne (n : Nat) : dig n ≠ [] := by
  by_cases hn : n < 10
  · rw [dig_lt hn]; simp
  · rw [dig_ge hn]; simp
theorem itoa_neg' (u : Nat) (h : 1 ≤ u) : Lib.itoa (-(u : Int)) = 45 :: dig u := by
  unfold Lib.itoa; rw [if_pos (by omega), dig_eq u u (Nat.le_refl _)]; simp
theorem itoa_cases (v : Int) : (∃ u : Nat, v = u ∧ Lib.itoa v = dig u) ∨ (∃ u : Nat, 1 ≤ u ∧ v = -(u : Int) ∧ Lib.itoa v = 45 :: dig u) := by
  rcases Int.lt_or_le v 0 with h | h
  · refine .inr ⟨v.natAbs, by omega, by omega, ?_⟩
    have e : v = -(v.natAbs : Int) := by omega
    rw [e, itoa_neg' _ (by omega)]; simp
  · refine .inl ⟨v.toNat, by omega, ?_⟩
    have e : v = (v.toNat : Int) := by omega
    rw [e, itoa_nat]; rfl
theorem itoa_inj {a b : Int} (h : Lib.itoa a = Lib.itoa b) : a = b := by
  have d45 : ∀ (u : Nat) (l : List UInt8), dig u ≠ 45 :: l := fun u l e => by
    have := dig_all u u (Nat.le_refl _)
    rw [e] at this
    simp [allDig, isDig] at this
  rcases itoa_cases a with ⟨u, rfl, e⟩ | ⟨u, hu, rfl, e⟩ <;> rcases itoa_cases b with ⟨x, rfl, f⟩ | ⟨x, hx, rfl, f⟩ <;> rw [e, f] at h
  · have h1 := dig_val u u (Nat.le_refl _)
    have h2 := dig_val x x (Nat.le_refl _)
    rw [h] at h1; omega
  · exact absurd h (d45 _ _)
  · exact absurd h.symm (d45 _ _)
  · have h1 := dig_val u u (Nat.le_refl _)
    have h2 := dig_val x x (Nat.le_refl _)
    rw [(List.cons.inj h).2] at h1; omega
/-- What strconv says of digits. -/
theorem parse_dig (M : Nat) (hM : M < 18446744073709551616) : ∀ (l : List UInt8) (a : Nat), allDig l = true → valD a l ≤ M → Lib.parseUintM M a l = .ok (valD a l)
  | [], a, _, _ => rfl
  | c :: r, a, h, hv => by
    have hc : isDig c = true := by unfold allDig at h; simp only [List.all_cons, Bool.and_eq_true] at h; exact h.1
    have hr : allDig r = true := by unfold allDig at *; simp only [List.all_cons, Bool.and_eq_true] at h; exact h.2
    have hcd : 48 ≤ c.toNat ∧ c.toNat ≤ 57 := by simp [isDig] at hc; omega
    have hv' : valD (10 * a + (c.toNat - 48)) r ≤ M := hv
    have hle := valD_le r (10 * a + (c.toNat - 48))
    rw [Lib.parseUintM, if_pos hcd, if_neg (by omega), if_neg (by omega), Nat.mul_comm a 10]
    exact parse_dig M hM r _ hr hv'
theorem parse_itoa {v : Int} (h1 : -9223372036854775808 ≤ v) (h2 : v ≤ 9223372036854775807) : Lib.parseIntB 64 (Lib.itoa v) = .ok v := by
  have pd : ∀ u : Nat, u ≤ 9223372036854775808 → Lib.parseUintB 64 (dig u) = .ok u := fun u hu => by
    have := parse_dig (2 ^ 64 - 1) (by decide) (dig u) 0 (dig_all u u (Nat.le_refl _)) (by rw [dig_val u u (Nat.le_refl _)]; omega)
    rw [dig_val u u (Nat.le_refl _)] at this
    rw [Lib.parseUintB, if_neg (dig_ne u), this]
  rcases itoa_cases v with ⟨u, rfl, e⟩ | ⟨u, hu, rfl, e⟩
  · rw [e]
    have hp := pd u (by omega)
    cases hd : dig u with
    | nil => exact absurd hd (dig_ne u)
    | cons c r =>
      have hall := dig_all u u (Nat.le_refl _)
      rw [hd] at hall
      have hc : isDig c = true := by unfold allDig at hall; simp only [List.all_cons, Bool.and_eq_true] at hall; exact hall.1
      have hcd : 48 ≤ c.toNat ∧ c.toNat ≤ 57 := by simp [isDig] at hc; omega
      rw [hd] at hp
      rw [Lib.parseIntB_plain 64 c r (by omega) (by omega), hp]
      unfold Lib.signlessC
      simp only
      rw [if_neg (by omega)]
  · rw [e, Lib.parseIntB_minus, pd u (by omega)]
    unfold Lib.signedC
    simp only
    rw [if_neg (by omega)]
/-- The number of a text; false. -/
def intL (s : List UInt8) : Int × Bool := match Lib.parseIntB 64 s with
  | .ok v => if Lib.itoa v = s then (v, true) else (0, false)
  | _ => (0, false)
theorem parse_bounds {s : List UInt8} {v : Int} (h : Lib.parseIntB 64 s = .ok v) : -9223372036854775808 ≤ v ∧ v ≤ 9223372036854775807 := by
  cases s with
  | nil => simp [Lib.parseIntB] at h
  | cons c r =>
    unfold Lib.parseIntB at h
    simp only at h
    split at h
    · cases h
    · cases h
    · rename_i u hu
      split at h
      · cases h
      · split at h
        · cases h
        · rename_i k1 k2
          by_cases hc : c.toNat = 45
          · simp [hc] at h k1 k2; omega
          · simp [hc] at h k1 k2; omega
theorem intL_itoa {v : Int} (h1 : -9223372036854775808 ≤ v) (h2 : v ≤ 9223372036854775807) : intL (Lib.itoa v) = (v, true) := by
  unfold intL; rw [parse_itoa h1 h2]; simp
theorem intL_none {s : List UInt8} (h : ∀ v, -9223372036854775808 ≤ v → v ≤ 9223372036854775807 → Lib.itoa v ≠ s) : intL s = (0, false) := by
  unfold intL
  cases e : Lib.parseIntB 64 s with
  | ok v => have hb := parse_bounds e; simp only; rw [if_neg (h v hb.1 hb.2)]
  | _ => rfl
theorem intL_true {s : List UInt8} (h : (intL s).2 = true) : Lib.itoa (intL s).1 = s ∧ -9223372036854775808 ≤ (intL s).1 ∧ (intL s).1 ≤ 9223372036854775807 := by
  unfold intL at *
  cases e : Lib.parseIntB 64 s with
  | ok v =>
    rw [e] at h; simp only at h ⊢
    by_cases hv : Lib.itoa v = s
    · rw [if_pos hv]; exact ⟨hv, parse_bounds e⟩
    · rw [if_neg hv] at h; cases h
  | _ => rw [e] at h; cases h
end Go.Proofs.YtlbipokkdiiaiaaGreatDoor
/- wire.number and wire.big. -/
namespace Go.Proofs.YtlbipokkdiiaiaaGreatDoor
open Go.RowKit Go.Proofs.YtlbipokkdiiaiaaGreatDoor.Exec
set_option maxRecDepth 100000
/-- A number in so many bytes, the highest first. -/
def numB : Nat → Nat → List UInt8
  | _, 0 => []
  | n, k + 1 => numB (n / 256) k ++ [UInt8.ofNat (n % 256)]
theorem numB_len : ∀ (k n : Nat), (numB n k).length = k
  | 0, _ => rfl
  | k + 1, n => by simp [numB, numB_len k]
def bigL (s : List UInt8) : Nat := s.foldl (fun n b => n * 256 + b.toNat) 0
theorem big_num : ∀ (k n : Nat), bigL (numB n k) = n % 256 ^ k
  | 0, n => by simp [numB, bigL, Nat.mod_one]
  | k + 1, n => by
    have ih := big_num k (n / 256)
    unfold bigL at ih ⊢
    rw [numB, List.foldl_append, ih]
    simp only [List.foldl_cons, List.foldl_nil]
    rw [toNat_ofNat (by omega), Nat.pow_succ, Nat.mul_comm (256 ^ k) 256, Nat.mod_mul]
    omega
theorem big_take (s : List UInt8) (k : Nat) (h : k < s.length) : bigL (s.take (k + 1)) = bigL (s.take k) * 256 + s[k].toNat := by
  unfold bigL
  rw [take_at _ _ h, List.foldl_append]; rfl
theorem big_lt (s : List UInt8) : bigL s < 256 ^ s.length := by
  have : ∀ (l : List UInt8) (a : Nat), l.foldl (fun n b => n * 256 + b.toNat) a < (a + 1) * 256 ^ l.length := by
    intro l
    induction l with
    | nil => intro a; simp
    | cons b l ih =>
      intro a
      rw [List.foldl_cons]
      refine Nat.lt_of_lt_of_le (ih _) ?_
      rw [List.length_cons, Nat.pow_succ, Nat.mul_comm (256 ^ l.length) 256, ← Nat.mul_assoc]
      refine Nat.mul_le_mul_right _ ?_
      have := b.toNat_lt
      omega
  simpa [bigL] using this s 0
theorem numB_step : ∀ (d k n i : Nat), k = i + 1 + d → (numB n k).drop i = UInt8.ofNat (n / 256 ^ d % 256) :: (numB n k).drop (i + 1)
  | 0, k, n, i, h => by
    subst h
    have hl := numB_len i (n / 256)
    simp [numB, List.drop_append, hl]
  | d + 1, k, n, i, h => by
    obtain ⟨m, rfl⟩ : ∃ m, k = m + 1 := ⟨k - 1, by omega⟩
    have ih := numB_step d m (n / 256) i (by omega)
    have hl := numB_len m (n / 256)
    simp only [numB]
    rw [List.drop_append_of_le_length (by omega), List.drop_append_of_le_length (by omega), ih, Nat.div_div_eq_div_mul, ← Nat.pow_succ']
    rfl
theorem numB_get (k n i : Nat) (h : i < k) : (Lib.byteCells (numB n k))[i]? = some (.int .u8 ((n / 256 ^ (k - (i + 1)) % 256 : Nat) : Int)) := by
  have hs := numB_step (k - (i + 1)) k n i (by omega)
  have hd : (numB n k)[i]? = some (UInt8.ofNat (n / 256 ^ (k - (i + 1)) % 256)) := by
    have := congrArg List.head? hs
    simpa using this
  simp only [Lib.byteCells, List.getElem?_map, hd, Option.map_some]
  rw [toNat_ofNat (by omega)]
/-- The bytes from j on are set. -/
def numF (n k j : Nat) : Nat → Value := fun i => if i < j then .int .u8 0 else .int .u8 ((n / 256 ^ (k - (i + 1)) % 256 : Nat) : Int)
theorem slice_of_row {w : World} {b k : Nat} {t : TypeId} {f : Nat → Value} {xs : List Value} (h : w.rowIs b t k f) (hl : xs.length = k) (hx : ∀ i, i < k → xs[i]? = some (f i)) (hk : k ≤ maxLen) : SliceAt w 1 (.slice (some ⟨b, 0, none⟩) k k) k xs := by
  refine ⟨by omega, some ⟨b, 0, none⟩, k, rfl, Nat.le_refl _, hk, fun e => (by cases e), fun _ => ⟨b, 0, rfl, h.lt, fun j u hu => ?_⟩⟩
  have hj : j < k := by rw [← hl]; exact (List.getElem?_eq_some_iff.1 hu).1
  rw [hx j hj] at hu
  rw [Nat.zero_add, ← hu]
  exact h.cell hj
set_option maxHeartbeats 1000000 in
theorem number_any (n k : Nat) (_hn : n < 18446744073709551616) (hk : k ≤ 8) (w : World) :
    Calls Tryz.prog 37 #[.int .u64 n, .int .i64 k] w fun e w' => ∃ v, e = .returned v ∧ SliceAt w' 1 v k (Lib.byteCells (numB n k)) ∧ Below w.heap.size w w' := by
  have hmk := run_make_row' (P := Tryz.prog) 49 5 (.int .u8 0) 1 (by kernel_rfl) (by kernel_rfl) rfl .i64 .i64 k (by omega) (by omega)
  go_enter Tryz.func37, Tryz.ntmps37
  go_upto_region 2 with fail
  obtain ⟨W0, hW0, hb0, hn0⟩ := an0 w (.cells (madeCells #[.int .u8 0] k) 5)
  rw [← hW0.out]
  clear hW0 hmk
  have HB0 := hid hb0
  have HR0 := hid (show W0.rowIs w.heap.size 5 k (numF n k k) from by
    have := World.rowIs_alloc w (madeCells #[.int .u8 0] k) 5 (numF n k k) (fun i hi => by
      rw [size_madeCells] at hi
      have hi : i < k := by simpa using hi
      unfold numF
      rw [if_pos hi]
      simp [madeCells, hi, Nat.mod_one])
    obtain ⟨c, h1, h2, h3⟩ := this
    exact ⟨c, hn0.trans ((heap_alloc_new w _).symm.trans h1), by simpa [size_madeCells] using h2, fun i hi => h3 i (by simpa [size_madeCells] using hi)⟩)
  clear hb0 hn0
  go_wp2_with fail
  go_loopw [6, 0] (fun i x wr => ∃ j : Nat, j ≤ k ∧ i = .int .i64 ((j : Int) - 1) ∧ x = .int .u64 ((n / 256 ^ (k - j) : Nat) : Int) ∧ wr.rowIs w.heap.size 5 k (numF n k j) ∧ Below w.heap.size w wr) (fun i _ _ => (intOf i + 1).toNat)
  case atStart => exact ⟨k, Nat.le_refl _, rfl, by simp, HR0.out, HB0.out⟩
  case round =>
    obtain ⟨j, hj, rfl, rfl, hr, hb⟩ := hrel
    have HB := hid hb
    have HR := hid hr
    clear hr hb HR0 HB0
    by_cases h0 : 0 < j
    · obtain ⟨d, rfl⟩ : ∃ d, j = d + 1 := ⟨j - 1, by omega⟩
      have hi1 : ((d + 1 : Nat) : Int) - 1 = (d : Int) := by omega
      rw [hi1]
      have ck := HR.out.cell (i := d) (by omega)
      have fz : wr.frozen? ⟨w.heap.size, d, none⟩ = false := by
        obtain ⟨c, hc, _, _⟩ := HR.out
        exact Lib.frozen_of_heap hc d
      have e1 : Hid (((n : Int) / 256 ^ (k - (d + 1)) / 256 : Int) = ((n / 256 ^ (k - d) : Nat) : Int)) := hid (by
        rw [show k - d = (k - (d + 1)) + 1 by omega, Nat.pow_succ, ← Nat.div_div_eq_div_mul]
        push_cast
        rfl)
      have e2 : Hid (((n : Int) / 256 ^ (k - (d + 1)) % 256 : Int) = ((n / 256 ^ (k - (d + 1)) % 256 : Nat) : Int)) := hid (by push_cast; rfl)
      have e3 : Hid ((fun i => if i = d then .int .u8 ((n / 256 ^ (k - (d + 1)) % 256 : Nat) : Int) else numF n k (d + 1) i) = numF n k d) := hid (by
        funext i
        unfold numF
        by_cases e : i = d
        · subst e; simp
        · rw [if_neg e]
          by_cases e4 : i < d
          · rw [if_pos (by omega), if_pos e4]
          · rw [if_neg (by omega), if_neg e4])
      go_wp2
      rw [e1.out, e2.out]
      exact ⟨⟨d, by omega, rfl, rfl, by rw [← e3.out]; exact HR.out.set d _, HB.out.setCell (Nat.le_refl _) _⟩, by simp [intOf]⟩
    · obtain rfl : j = 0 := by omega
      go_wp2
      go_ret
      exact ⟨_, rfl, slice_of_row HR.out (by rw [byteCells_len, numB_len]) (fun i hi => by rw [numB_get k n i hi]; simp [numF]) (by unfold maxLen; omega), HB.out⟩
theorem shl_or (m : Nat) (b : UInt8) (h : m < 2 ^ 56) : bits .or .u64 (IntKind.u64.wrap ((m : Int) * 256)) (IntKind.u64.wrap (b.toNat : Int)) = ((m * 256 + b.toNat : Nat) : Int) := by
  have hb := b.toNat_lt
  have h1 : IntKind.u64.wrap ((m : Int) * 256) = ((m * 256 : Nat) : Int) := by
    simp only [IntKind.wrap, IntKind.bits, IntKind.signed]
    simp
    omega
  have h2 : IntKind.u64.wrap (b.toNat : Int) = (b.toNat : Int) := by
    simp only [IntKind.wrap, IntKind.bits, IntKind.signed]
    simp
    omega
  rw [h1, h2, u64_or_nat _ _ (by omega) (by omega)]
  have := Nat.shiftLeft_add_eq_or_of_lt (i := 8) hb m
  rw [Nat.shiftLeft_eq] at this
  rw [← this]
set_option maxHeartbeats 1000000 in
theorem big_any (s : List UInt8) (hs : s.length ≤ 8) (w : World) :
    Calls Tryz.prog 38 #[.string (bs s)] w fun e w' => e = .returned (.int .u64 (bigL s)) ∧ w' = w := by
  go_enter Tryz.func38, Tryz.ntmps38
  go_wp2
  go_loopw [6, 2] (fun i x wr => ∃ j : Nat, j ≤ s.length ∧ i = .int .i64 j ∧ x = .int .u64 (bigL (s.take j)) ∧ wr = w) (fun i _ _ => s.length - (intOf i).toNat)
  case atStart => exact ⟨0, by omega, rfl, rfl, rfl⟩
  case round =>
    obtain ⟨j, hj, rfl, rfl, rfl⟩ := hrel
    by_cases h0 : j < s.length
    · have hB : Hid (bigL (s.take j) < 2 ^ 56) := hid (by
        refine Nat.lt_of_lt_of_le (big_lt _) ?_
        rw [show (2 : Nat) ^ 56 = 256 ^ 7 from by decide]
        exact Nat.pow_le_pow_right (by omega) (by rw [List.length_take]; omega))
      have hT := hid (big_take s j h0)
      go_wp2
      rw [shl_or _ _ hB.out, ← hT.out]
      exact ⟨⟨j + 1, by omega, rfl, rfl, trivial⟩, by simp [intOf]; omega⟩
    · obtain rfl : j = s.length := by omega
      rw [List.take_length]
      go_wp2
      go_ret
      exact ⟨rfl, rfl⟩
end Go.Proofs.YtlbipokkdiiaiaaGreatDoor
