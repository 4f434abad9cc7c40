/- The walks of numbers: a number's text, the number of a text; the program's, and the document's. -/
import Derived.Test.YtnfjlimecoikpaaGreatDoorNumPlain
import Derived.Test.YtnfjlimecoikpaaGreatDoorRowCore
import Derived.Shelf.Strconv.ErrVarParseInt
import Derived.Lib.ItoaLen
namespace Go.Proofs.YtnfjlimecoikpaaGreatDoor
set_option maxRecDepth 100000
open Go.RowKit

theorem num_any (n : Int) (h0 : -9223372036854775808 ≤ n) (h1 : n ≤ 9223372036854775807) (w : World) (ht : PowTab w) :
    Calls Tryz.prog 38 #[.int .i64 n] w fun e w' => e = .returned (.string (bs (Lib.itoa n))) ∧ Below w.heap.size w w' := by
  have Hc : Calls Tryz.prog 58 #[.int .i64 n, .int .i64 10] w fun e w' => e = .returned (.string (bs (Lib.itoa n))) ∧ Below w.heap.size w w' := by
    refine (Tryz.strconv_FormatInt_10 n h0 h1 w ht).mono ?_
    rintro e w' ⟨rfl, k, os, rfl⟩
    exact ⟨rfl, grow_below w k os⟩
  go_enter Tryz.func38, Tryz.ntmps38
  go_wp2_with fail
  refine Hc.mono ?_
  rintro e w1 ⟨rfl, hb1⟩
  go_wp2_with fail
  go_ret
  exact ⟨rfl, hb1⟩

/-- The two errors of strconv, as they lie. -/
def ErrsAt (w : World) : Prop := (∃ t p, w.var? Tryz.prog "strconv.ErrSyntax" = some #[.iface t p]) ∧ ∃ t p, w.var? Tryz.prog "strconv.ErrRange" = some #[.iface t p]
theorem ErrsAt.below {w w' : World} (h : ErrsAt w) (hb : Below w.heap.size w w') : ErrsAt w' := by
  obtain ⟨⟨t, p, h1⟩, t2, p2, h2⟩ := h
  exact ⟨⟨t, p, var?_kept h1 hb⟩, t2, p2, var?_kept h2 hb⟩
def BadNum (w : World) (e : Ending) (w' : World) : Prop := ∃ n t p, e = .returned (.tuple #[.int .i64 n, .iface t p]) ∧ Below w.heap.size w w'
theorem parse_bad (l : List UInt8) (hl : l.length ≤ 281474976710656) (w : World) (he : ErrsAt w) (h : ∀ v, Lib.parseIntB 64 l ≠ .ok v) :
    Calls Tryz.prog 73 #[.string (bs l), .int .i64 10, .int .i64 64] w (BadNum w) := by
  obtain ⟨⟨t, p, h1⟩, t2, p2, h2⟩ := he
  cases e : Lib.parseIntB 64 l with
  | ok v => exact absurd e (h v)
  | range =>
    refine (Any.strconv_ParseInt_10_at64_range_var Tryz.laysC174 (bs l) hl e t2 p2 w h2).mono ?_
    rintro e w' ⟨N, rfl, -, -, hb⟩
    exact ⟨_, _, _, rfl, hb⟩
  | _ =>
    refine (Any.strconv_ParseInt_10_at64_syntax_var Tryz.laysC174 (bs l) hl e t p w h1).mono ?_
    rintro e w' ⟨N, rfl, -, -, hb⟩
    exact ⟨_, _, _, rfl, hb⟩

set_option maxHeartbeats 400000 in
theorem int_any (l : List UInt8) (hl : l.length ≤ 281474976710656) (v : Int) (b : Bool) (h : intL l = (v, b)) (w : World) (ht : PowTab w) (he : ErrsAt w) :
    Calls Tryz.prog 53 #[.string (bs l)] w fun e w' => e = .returned (.tuple #[.int .i64 v, .bool b]) ∧ Below w.heap.size w w' := by
  by_cases hv : ∃ v0, Lib.parseIntB 64 l = .ok v0
  · obtain ⟨v0, hv⟩ := hv
    have hb := parse_bounds hv
    have Hc : Calls Tryz.prog 73 #[.string (bs l), .int .i64 10, .int .i64 64] w fun e w' => e = .returned (.tuple #[.int .i64 v0, .nilIface]) ∧ Below w.heap.size w w' := by
      refine (Tryz.strconv_ParseInt_10_at64_ok (bs l) (by rw [bs_size]; omega) v0 hv w).mono ?_
      rintro e w' ⟨rfl, rfl | ⟨t, rfl⟩⟩
      · exact ⟨rfl, Below.refl _ _⟩
      · exact ⟨rfl, Lib.bytesWorld_below _ _ _⟩
    have HC := hid Hc
    have Hn := hid (fun W hW => num_any v0 hb.1 hb.2 W (ht.below hW))
    have hl2 : (Lib.itoa v0).length ≤ 100 := by
      have := Lib.itoa_length_le v0 hb.1 hb.2; omega
    unfold intL at h
    rw [hv] at h
    simp only at h
    clear Hc hv
    cases q : (Lib.itoa v0 == l) with
    | true =>
      have hq : Lib.itoa v0 = l := by simpa using q
      rw [if_pos hq] at h
      obtain ⟨rfl, rfl⟩ := Prod.mk.inj h
      clear h hq
      go_enter Tryz.func53, Tryz.ntmps53
      go_wp2_with fail
      refine HC.out.mono ?_
      rintro e w1 ⟨rfl, hb1⟩
      go_wp2_with fail
      refine (Hn.out _ hb1).mono ?_
      rintro e w2 ⟨rfl, hb2⟩
      go_wp2_with fail
      go_ret2
      exact ⟨rfl, Below.chain hb1 hb2⟩
    | false =>
      have hq : ¬ Lib.itoa v0 = l := by simpa using q
      rw [if_neg hq] at h
      obtain ⟨rfl, rfl⟩ := Prod.mk.inj h
      clear h hq
      go_enter Tryz.func53, Tryz.ntmps53
      go_wp2_with fail
      refine HC.out.mono ?_
      rintro e w1 ⟨rfl, hb1⟩
      go_wp2_with fail
      refine (Hn.out _ hb1).mono ?_
      rintro e w2 ⟨rfl, hb2⟩
      go_wp2_with fail
      go_ret2
      exact ⟨rfl, Below.chain hb1 hb2⟩
  · have hn : ∀ v, Lib.parseIntB 64 l ≠ .ok v := fun v e => hv ⟨v, e⟩
    have HC := hid (parse_bad l hl w he hn)
    have e0 : intL l = (0, false) := by
      unfold intL
      cases e : Lib.parseIntB 64 l with
      | ok v => exact absurd e (hn v)
      | _ => rfl
    rw [e0] at h
    obtain ⟨rfl, rfl⟩ := Prod.mk.inj h
    clear h hv hn e0
    go_enter Tryz.func53, Tryz.ntmps53
    go_wp2_with fail
    refine HC.out.mono ?_
    rintro e w1 ⟨n, t, p, rfl, hb1⟩
    go_wp2_with fail
    go_ret2
    exact ⟨rfl, hb1⟩

set_option maxHeartbeats 400000 in
theorem refNum_small (n : Nat) (w : World) (hn : n < 10) :
    Calls Tryz.prog 42 #[.int .i64 n] w fun e w' => e = .returned (.string (bs (Lib.itoa n))) ∧ Below w.heap.size w w' := by
  have hcv := run_conv_one 68 9 5 5 Tryz.underlying68 Tryz.underlying5 Tryz.underlying9
  have he := hid (itoa_nat n)
  go_enter Tryz.func42, Tryz.ntmps42
  go_wp2_with fail
  go_ret
  exact ⟨by rw [he.out, dig_lt hn]; rfl, (Below.refl _ _).alloc (Nat.le_refl _) _⟩
set_option maxHeartbeats 1000000 in
theorem refNum_any (k : Nat) : ∀ (n : Int) (w : World), n.natAbs ≤ k → -9223372036854775808 ≤ n → n ≤ 9223372036854775807 →
    Calls Tryz.prog 42 #[.int .i64 n] w fun e w' => e = .returned (.string (bs (Lib.itoa n))) ∧ Below w.heap.size w w' := by
  induction k with
  | zero =>
    intro n w hk h0 hm
    obtain rfl : n = 0 := by omega
    exact refNum_small 0 w (by omega)
  | succ k ih =>
    intro n w hk h0 hm
    rcases Int.lt_or_le n 0 with hneg | hpos
    · obtain ⟨u, hu, rfl⟩ : ∃ u : Nat, 1 ≤ u ∧ n = -(u : Int) := ⟨n.natAbs, by omega, by omega⟩
      by_cases h10 : u < 10
      · have H := hid (fun W => refNum_small u W h10)
        have he := hid (itoa_neg' u hu)
        rw [itoa_nat u] at H
        have hl1 := dig_len20 (n := u) (by omega)
        clear ih
        have t1 : ¬ (0 : Int) ≤ -(u : Int) := by omega
        have t2 : -10 < -(u : Int) := by omega
        go_enter Tryz.func42, Tryz.ntmps42
        go_wp2_with fail
        refine (H.out _).mono ?_
        rintro e w1 ⟨rfl, hb1⟩
        go_wp2_with fail
        go_ret
        exact ⟨by rw [he.out]; rfl, hb1⟩
      · have Ih := hid ih; clear ih
        have t1 : ¬ (0 : Int) ≤ -(u : Int) := by omega
        have t2 : ¬ -10 < -(u : Int) := by omega
        have H1 := hid (fun W => Ih.out (-((u : Int) / 10)) W (by omega) (by omega) (by omega))
        have e1 := hid (itoa_neg' u hu)
        have e2 : Lib.itoa (-((u : Int) / 10)) = 45 :: dig (u / 10) := itoa_neg' (u / 10) (by omega)
        have e4 := hid (dig_ge' h10)
        have hl1 := dig_len20 (n := u / 10) (by omega)
        have hl2 := dig_len20 (n := u % 10) (by omega)
        rw [e2] at H1
        clear e2
        by_cases hz : u % 10 = 0
        · have t3 : ¬ (0 : Int) < (u : Int) % 10 := by omega
          have H2 := hid (fun W => Ih.out (-((u : Int) % 10)) W (by omega) (by omega) (by omega))
          have e3 : Lib.itoa (-((u : Int) % 10)) = dig (u % 10) := by
            have : -((u : Int) % 10) = ((u % 10 : Nat) : Int) := by omega
            rw [this, itoa_nat]
          rw [e3] at H2
          clear e3 hz Ih
          go_enter Tryz.func42, Tryz.ntmps42
          go_wp2_with fail
          refine (H1.out _).mono ?_
          rintro e w1 ⟨rfl, hb1⟩
          go_wp2_with fail
          refine (H2.out _).mono ?_
          rintro e w2 ⟨rfl, hb2⟩
          go_wp2_with fail
          go_ret
          exact ⟨by rw [e1.out, e4.out]; rfl, Below.chain hb1 hb2⟩
        · have t3 : (0 : Int) < (u : Int) % 10 := by omega
          have H2 := hid (fun W => Ih.out ((u : Int) % 10) W (by omega) (by omega) (by omega))
          have e3 : Lib.itoa ((u : Int) % 10) = dig (u % 10) := by
            have : (u : Int) % 10 = ((u % 10 : Nat) : Int) := by omega
            rw [this, itoa_nat]
          rw [e3] at H2
          clear e3 hz Ih
          go_enter Tryz.func42, Tryz.ntmps42
          go_wp2_with fail
          refine (H1.out _).mono ?_
          rintro e w1 ⟨rfl, hb1⟩
          go_wp2_with fail
          refine (H2.out _).mono ?_
          rintro e w2 ⟨rfl, hb2⟩
          go_wp2_with fail
          go_ret
          exact ⟨by rw [e1.out, e4.out]; rfl, Below.chain hb1 hb2⟩
    · obtain ⟨u, rfl⟩ := Int.eq_ofNat_of_zero_le hpos
      by_cases h10 : u < 10
      · exact refNum_small u w h10
      · have Ih := hid ih; clear ih
        have t1 : ¬ (u : Int) < 10 := by omega
        have H1 := hid (fun W => Ih.out ((u : Int) / 10) W (by omega) (by omega) (by omega))
        have H2 := hid (fun W => Ih.out ((u : Int) % 10) W (by omega) (by omega) (by omega))
        have e1 := hid (itoa_nat u)
        have e2 : Lib.itoa ((u : Int) / 10) = dig (u / 10) := itoa_nat (u / 10)
        have e3 : Lib.itoa ((u : Int) % 10) = dig (u % 10) := itoa_nat (u % 10)
        have e4 := hid (dig_ge' h10)
        have hl1 := dig_len20 (n := u / 10) (by omega)
        have hl2 := dig_len20 (n := u % 10) (by omega)
        rw [e2] at H1
        rw [e3] at H2
        clear e2 e3 Ih
        go_enter Tryz.func42, Tryz.ntmps42
        go_wp2_with fail
        refine (H1.out _).mono ?_
        rintro e w1 ⟨rfl, hb1⟩
        go_wp2_with fail
        refine (H2.out _).mono ?_
        rintro e w2 ⟨rfl, hb2⟩
        go_wp2_with fail
        go_ret
        exact ⟨by rw [e1.out, e4.out]; rfl, Below.chain hb1 hb2⟩
end Go.Proofs.YtnfjlimecoikpaaGreatDoor
