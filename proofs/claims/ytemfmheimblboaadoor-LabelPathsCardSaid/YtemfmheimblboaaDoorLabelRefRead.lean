/- The walk of the reference's Read of a label. -/
import Derived.Test.YtemfmheimblboaaDoorLabelRef
namespace Go.Proofs.YtemfmheimblboaaDoor
open Go.RowKit

theorem rread_res {w : World} {tmps : Array Value} {b : Nat} {p n : List UInt8} {k : Int} (h4 : tmps[4]?.getD undef = .pointer (some ⟨b, 0, none⟩)) (h5 : tmps[5]?.getD undef = .int .i64 k) (h0 : w.cell? ⟨b, 0, none⟩ = some (.string (bs p))) (h1 : w.cell? ⟨b, 1, none⟩ = some (.string (bs n))) :
    (results Tryd.f9 tmps).run Tryd.prog w = .ok (.tuple #[labV p n, .int .i64 k]) w := by
  simp [results, Tryd.f9, go_sem, h4, h5, h0, h1]

theorem take_two {s : List UInt8} (h : Lib.hasPrefix s [47, 47] = false) (_ : 2 ≤ s.length) : (s.take 2 == [47, 47]) = false := by
  rw [beq_eq_false_iff_ne]
  intro e
  have : Lib.hasPrefix s [47, 47] = true := (prefix_iff _ _).2 ⟨s.drop 2, by rw [← e, List.take_append_drop]⟩
  rw [h] at this; cases this

set_option maxHeartbeats 1000000 in
theorem rread_own (s pkg : List UInt8) (hs : s.length ≤ 1000000000000) (hp : pkg.length ≤ 1000000000000) (h : Lib.indexByte s 58 = 0) (w : World) :
    Calls Tryd.prog 9 #[.string (bs s), .string (bs pkg)] w fun e w' => e = .returned (readV (readL s pkg)) ∧ Below w.heap.size w w' := by
  have H0 := hid (first_zero s)
  rw [h] at H0
  obtain ⟨r, hsr⟩ := byte_zero.1 h
  have hn : List.take (s.length - 1) s.tail = r := by rw [hsr]; simp
  have hrl : r.length ≤ 1000000000000 := by rw [hsr] at hs; simp at hs; omega
  have hs1 : 1 ≤ s.length := by rw [hsr]; simp
  have H2 : Hid (2 ≤ s.length → (s.take 2 == [47, 47]) = false) := hid (take_two (by rw [hsr]; rfl))
  obtain ⟨b, hb⟩ : ∃ b, pkgB pkg = b := ⟨_, rfl⟩
  have Hb := hid (rPkg_is pkg hp b hb)
  obtain ⟨c, hc⟩ : ∃ c, labB pkg r = c := ⟨_, rfl⟩
  have Hm := hid (rlmay_is pkg r hp hrl c hc)
  have Hr : Hid (readL s pkg = if b = true then (if c = true then (pkg, r, 0) else ([], [], 7)) else ([], [], 1)) := by
    apply hid; rw [hsr, readL_own, hb, ← hc, labB, hb]; cases b <;> simp
  rw [← hn] at Hm Hr
  clear hb hc h hn hsr hrl
  cases b with
  | false =>
    by_cases hlen : s.length < 2
    · clear H2
      go_enter Tryd.func9, Tryd.ntmps9
      go_wp2_with fail
      go_loop [6, 7] (fun c i => ∃ k : Nat, k ≤ s.length ∧ i = .int .i64 ((k : Int) - 1) ∧ c = .int .i64 (firstFrom s k)) (fun _ i => (intOf i + 1).toNat)
      case atStart => exact ⟨s.length, Nat.le_refl _, rfl, by rw [first_end]⟩
      case round =>
        obtain ⟨k, hk, rfl, rfl⟩ := hrel
        cases k with
        | succ m =>
          have hm : m < s.length := by omega
          have e1 : ((m + 1 : Nat) : Int) - 1 = (m : Int) := by omega
          rw [e1]
          by_cases hc : s[m] = 58
          · have q1 : ((s[m].toNat : Int) == 58) = true := eqT (by rw [hc]; rfl)
            have hf := hid (first_hit hm hc)
            clear hc
            go_wp2_with fail
            exact ⟨⟨m, by omega, rfl, by rw [hf.out]⟩, by simp [intOf]⟩
          · have q1 : ((s[m].toNat : Int) == 58) = false := eqF (fun e => hc (by apply UInt8.toNat_inj.1; have h58 : (58 : UInt8).toNat = 58 := rfl; omega))
            have hf := hid (first_miss hm hc)
            clear hc
            go_wp2_with fail
            exact ⟨⟨m, by omega, rfl, by rw [hf.out]⟩, by simp [intOf]⟩
        | zero =>
          rw [H0.out]
          clear hk
          go_wp2_with fail
          refine (Hb.out _).mono ?_
          rintro e w4 ⟨rfl, hb4⟩
          have hz4 := hb4.size
          simp only [World.size_alloc] at hz4
          obtain ⟨⟨k0, k1, f0, f1⟩, ⟨l0, l1⟩, hbx⟩ := res_cells (d := 0) (a := []) (b := []) hb4
          clear hb4
          go_wp2_with fail
          refine bodyPost_ret (rread_res rfl rfl (res_set k0 k1 _ _).1 (res_set k0 k1 _ _).2) rfl ⟨?_, (hbx.setCell (p := ⟨w.heap.size, 0, none⟩) (Nat.le_refl _) _).setCell (p := ⟨w.heap.size, 1, none⟩) (Nat.le_refl _) _⟩
          rw [Hr.out]; rfl
    · have h2 : 2 ≤ s.length := by omega
      have h3 := H2.out h2
      clear hlen H2
      go_enter Tryd.func9, Tryd.ntmps9
      go_wp2_with fail
      go_loop [6, 7] (fun c i => ∃ k : Nat, k ≤ s.length ∧ i = .int .i64 ((k : Int) - 1) ∧ c = .int .i64 (firstFrom s k)) (fun _ i => (intOf i + 1).toNat)
      case atStart => exact ⟨s.length, Nat.le_refl _, rfl, by rw [first_end]⟩
      case round =>
        obtain ⟨k, hk, rfl, rfl⟩ := hrel
        cases k with
        | succ m =>
          have hm : m < s.length := by omega
          have e1 : ((m + 1 : Nat) : Int) - 1 = (m : Int) := by omega
          rw [e1]
          by_cases hc : s[m] = 58
          · have q1 : ((s[m].toNat : Int) == 58) = true := eqT (by rw [hc]; rfl)
            have hf := hid (first_hit hm hc)
            clear hc
            go_wp2_with fail
            exact ⟨⟨m, by omega, rfl, by rw [hf.out]⟩, by simp [intOf]⟩
          · have q1 : ((s[m].toNat : Int) == 58) = false := eqF (fun e => hc (by apply UInt8.toNat_inj.1; have h58 : (58 : UInt8).toNat = 58 := rfl; omega))
            have hf := hid (first_miss hm hc)
            clear hc
            go_wp2_with fail
            exact ⟨⟨m, by omega, rfl, by rw [hf.out]⟩, by simp [intOf]⟩
        | zero =>
          rw [H0.out]
          clear hk
          go_wp2_with fail
          refine (Hb.out _).mono ?_
          rintro e w4 ⟨rfl, hb4⟩
          have hz4 := hb4.size
          simp only [World.size_alloc] at hz4
          obtain ⟨⟨k0, k1, f0, f1⟩, ⟨l0, l1⟩, hbx⟩ := res_cells (d := 0) (a := []) (b := []) hb4
          clear hb4
          go_wp2_with fail
          refine bodyPost_ret (rread_res rfl rfl (res_set k0 k1 _ _).1 (res_set k0 k1 _ _).2) rfl ⟨?_, (hbx.setCell (p := ⟨w.heap.size, 0, none⟩) (Nat.le_refl _) _).setCell (p := ⟨w.heap.size, 1, none⟩) (Nat.le_refl _) _⟩
          rw [Hr.out]; rfl
  | true =>
    cases c with
    | false =>
      by_cases hlen : s.length < 2
      · clear H2
        go_enter Tryd.func9, Tryd.ntmps9
        go_wp2_with fail
        go_loop [6, 7] (fun c i => ∃ k : Nat, k ≤ s.length ∧ i = .int .i64 ((k : Int) - 1) ∧ c = .int .i64 (firstFrom s k)) (fun _ i => (intOf i + 1).toNat)
        case atStart => exact ⟨s.length, Nat.le_refl _, rfl, by rw [first_end]⟩
        case round =>
          obtain ⟨k, hk, rfl, rfl⟩ := hrel
          cases k with
          | succ m =>
            have hm : m < s.length := by omega
            have e1 : ((m + 1 : Nat) : Int) - 1 = (m : Int) := by omega
            rw [e1]
            by_cases hc : s[m] = 58
            · have q1 : ((s[m].toNat : Int) == 58) = true := eqT (by rw [hc]; rfl)
              have hf := hid (first_hit hm hc)
              clear hc
              go_wp2_with fail
              exact ⟨⟨m, by omega, rfl, by rw [hf.out]⟩, by simp [intOf]⟩
            · have q1 : ((s[m].toNat : Int) == 58) = false := eqF (fun e => hc (by apply UInt8.toNat_inj.1; have h58 : (58 : UInt8).toNat = 58 := rfl; omega))
              have hf := hid (first_miss hm hc)
              clear hc
              go_wp2_with fail
              exact ⟨⟨m, by omega, rfl, by rw [hf.out]⟩, by simp [intOf]⟩
          | zero =>
            rw [H0.out]
            clear hk
            go_wp2_with fail
            refine (Hb.out _).mono ?_
            rintro e w4 ⟨rfl, hb4⟩
            have hz4 := hb4.size
            simp only [World.size_alloc] at hz4
            obtain ⟨⟨k0, k1, f0, f1⟩, ⟨l0, l1⟩, hbx⟩ := res_cells (d := 0) (a := []) (b := []) hb4
            clear hb4
            go_wp2_with fail
            refine (Hm.out _).mono ?_
            rintro e w5 ⟨rfl, hb5⟩
            have hlt := hbx.size
            have m0 := (hb5.cell (p := ⟨w.heap.size, 0, none⟩) (by show w.heap.size < _; omega)).trans k0
            have m1 := (hb5.cell (p := ⟨w.heap.size, 1, none⟩) (by show w.heap.size < _; omega)).trans k1
            have g0 := (hb5.frozen (p := ⟨w.heap.size, 0, none⟩) (by show w.heap.size < _; omega)).trans f0
            have g1 := (hb5.frozen (p := ⟨w.heap.size, 1, none⟩) (by show w.heap.size < _; omega)).trans f1
            have n0 := (hb5.cell (p := ⟨w.heap.size + 1, 0, none⟩) (by show w.heap.size + 1 < _; omega)).trans l0
            have n1 := (hb5.cell (p := ⟨w.heap.size + 1, 1, none⟩) (by show w.heap.size + 1 < _; omega)).trans l1
            have hby := Below.chain hbx hb5
            clear hb5 hbx k0 k1 f0 f1 l0 l1 hlt hz4
            go_wp2_with fail
            refine bodyPost_ret (rread_res rfl rfl (res_set m0 m1 _ _).1 (res_set m0 m1 _ _).2) rfl ⟨?_, (hby.setCell (p := ⟨w.heap.size, 0, none⟩) (Nat.le_refl _) _).setCell (p := ⟨w.heap.size, 1, none⟩) (Nat.le_refl _) _⟩
            rw [Hr.out]; rfl
      · have h2 : 2 ≤ s.length := by omega
        have h3 := H2.out h2
        clear hlen H2
        go_enter Tryd.func9, Tryd.ntmps9
        go_wp2_with fail
        go_loop [6, 7] (fun c i => ∃ k : Nat, k ≤ s.length ∧ i = .int .i64 ((k : Int) - 1) ∧ c = .int .i64 (firstFrom s k)) (fun _ i => (intOf i + 1).toNat)
        case atStart => exact ⟨s.length, Nat.le_refl _, rfl, by rw [first_end]⟩
        case round =>
          obtain ⟨k, hk, rfl, rfl⟩ := hrel
          cases k with
          | succ m =>
            have hm : m < s.length := by omega
            have e1 : ((m + 1 : Nat) : Int) - 1 = (m : Int) := by omega
            rw [e1]
            by_cases hc : s[m] = 58
            · have q1 : ((s[m].toNat : Int) == 58) = true := eqT (by rw [hc]; rfl)
              have hf := hid (first_hit hm hc)
              clear hc
              go_wp2_with fail
              exact ⟨⟨m, by omega, rfl, by rw [hf.out]⟩, by simp [intOf]⟩
            · have q1 : ((s[m].toNat : Int) == 58) = false := eqF (fun e => hc (by apply UInt8.toNat_inj.1; have h58 : (58 : UInt8).toNat = 58 := rfl; omega))
              have hf := hid (first_miss hm hc)
              clear hc
              go_wp2_with fail
              exact ⟨⟨m, by omega, rfl, by rw [hf.out]⟩, by simp [intOf]⟩
          | zero =>
            rw [H0.out]
            clear hk
            go_wp2_with fail
            refine (Hb.out _).mono ?_
            rintro e w4 ⟨rfl, hb4⟩
            have hz4 := hb4.size
            simp only [World.size_alloc] at hz4
            obtain ⟨⟨k0, k1, f0, f1⟩, ⟨l0, l1⟩, hbx⟩ := res_cells (d := 0) (a := []) (b := []) hb4
            clear hb4
            go_wp2_with fail
            refine (Hm.out _).mono ?_
            rintro e w5 ⟨rfl, hb5⟩
            have hlt := hbx.size
            have m0 := (hb5.cell (p := ⟨w.heap.size, 0, none⟩) (by show w.heap.size < _; omega)).trans k0
            have m1 := (hb5.cell (p := ⟨w.heap.size, 1, none⟩) (by show w.heap.size < _; omega)).trans k1
            have g0 := (hb5.frozen (p := ⟨w.heap.size, 0, none⟩) (by show w.heap.size < _; omega)).trans f0
            have g1 := (hb5.frozen (p := ⟨w.heap.size, 1, none⟩) (by show w.heap.size < _; omega)).trans f1
            have n0 := (hb5.cell (p := ⟨w.heap.size + 1, 0, none⟩) (by show w.heap.size + 1 < _; omega)).trans l0
            have n1 := (hb5.cell (p := ⟨w.heap.size + 1, 1, none⟩) (by show w.heap.size + 1 < _; omega)).trans l1
            have hby := Below.chain hbx hb5
            clear hb5 hbx k0 k1 f0 f1 l0 l1 hlt hz4
            go_wp2_with fail
            refine bodyPost_ret (rread_res rfl rfl (res_set m0 m1 _ _).1 (res_set m0 m1 _ _).2) rfl ⟨?_, (hby.setCell (p := ⟨w.heap.size, 0, none⟩) (Nat.le_refl _) _).setCell (p := ⟨w.heap.size, 1, none⟩) (Nat.le_refl _) _⟩
            rw [Hr.out]; rfl
    | true =>
      by_cases hlen : s.length < 2
      · clear H2
        go_enter Tryd.func9, Tryd.ntmps9
        go_wp2_with fail
        go_loop [6, 7] (fun c i => ∃ k : Nat, k ≤ s.length ∧ i = .int .i64 ((k : Int) - 1) ∧ c = .int .i64 (firstFrom s k)) (fun _ i => (intOf i + 1).toNat)
        case atStart => exact ⟨s.length, Nat.le_refl _, rfl, by rw [first_end]⟩
        case round =>
          obtain ⟨k, hk, rfl, rfl⟩ := hrel
          cases k with
          | succ m =>
            have hm : m < s.length := by omega
            have e1 : ((m + 1 : Nat) : Int) - 1 = (m : Int) := by omega
            rw [e1]
            by_cases hc : s[m] = 58
            · have q1 : ((s[m].toNat : Int) == 58) = true := eqT (by rw [hc]; rfl)
              have hf := hid (first_hit hm hc)
              clear hc
              go_wp2_with fail
              exact ⟨⟨m, by omega, rfl, by rw [hf.out]⟩, by simp [intOf]⟩
            · have q1 : ((s[m].toNat : Int) == 58) = false := eqF (fun e => hc (by apply UInt8.toNat_inj.1; have h58 : (58 : UInt8).toNat = 58 := rfl; omega))
              have hf := hid (first_miss hm hc)
              clear hc
              go_wp2_with fail
              exact ⟨⟨m, by omega, rfl, by rw [hf.out]⟩, by simp [intOf]⟩
          | zero =>
            rw [H0.out]
            clear hk
            go_wp2_with fail
            refine (Hb.out _).mono ?_
            rintro e w4 ⟨rfl, hb4⟩
            have hz4 := hb4.size
            simp only [World.size_alloc] at hz4
            obtain ⟨⟨k0, k1, f0, f1⟩, ⟨l0, l1⟩, hbx⟩ := res_cells (d := 0) (a := []) (b := []) hb4
            clear hb4
            go_wp2_with fail
            refine (Hm.out _).mono ?_
            rintro e w5 ⟨rfl, hb5⟩
            have hlt := hbx.size
            have m0 := (hb5.cell (p := ⟨w.heap.size, 0, none⟩) (by show w.heap.size < _; omega)).trans k0
            have m1 := (hb5.cell (p := ⟨w.heap.size, 1, none⟩) (by show w.heap.size < _; omega)).trans k1
            have g0 := (hb5.frozen (p := ⟨w.heap.size, 0, none⟩) (by show w.heap.size < _; omega)).trans f0
            have g1 := (hb5.frozen (p := ⟨w.heap.size, 1, none⟩) (by show w.heap.size < _; omega)).trans f1
            have n0 := (hb5.cell (p := ⟨w.heap.size + 1, 0, none⟩) (by show w.heap.size + 1 < _; omega)).trans l0
            have n1 := (hb5.cell (p := ⟨w.heap.size + 1, 1, none⟩) (by show w.heap.size + 1 < _; omega)).trans l1
            have hby := Below.chain hbx hb5
            clear hb5 hbx k0 k1 f0 f1 l0 l1 hlt hz4
            go_wp2_with fail
            refine bodyPost_ret (rread_res rfl rfl (res_set m0 m1 _ _).1 (res_set m0 m1 _ _).2) rfl ⟨?_, (hby.setCell (p := ⟨w.heap.size, 0, none⟩) (Nat.le_refl _) _).setCell (p := ⟨w.heap.size, 1, none⟩) (Nat.le_refl _) _⟩
            rw [Hr.out]; rfl
      · have h2 : 2 ≤ s.length := by omega
        have h3 := H2.out h2
        clear hlen H2
        go_enter Tryd.func9, Tryd.ntmps9
        go_wp2_with fail
        go_loop [6, 7] (fun c i => ∃ k : Nat, k ≤ s.length ∧ i = .int .i64 ((k : Int) - 1) ∧ c = .int .i64 (firstFrom s k)) (fun _ i => (intOf i + 1).toNat)
        case atStart => exact ⟨s.length, Nat.le_refl _, rfl, by rw [first_end]⟩
        case round =>
          obtain ⟨k, hk, rfl, rfl⟩ := hrel
          cases k with
          | succ m =>
            have hm : m < s.length := by omega
            have e1 : ((m + 1 : Nat) : Int) - 1 = (m : Int) := by omega
            rw [e1]
            by_cases hc : s[m] = 58
            · have q1 : ((s[m].toNat : Int) == 58) = true := eqT (by rw [hc]; rfl)
              have hf := hid (first_hit hm hc)
              clear hc
              go_wp2_with fail
              exact ⟨⟨m, by omega, rfl, by rw [hf.out]⟩, by simp [intOf]⟩
            · have q1 : ((s[m].toNat : Int) == 58) = false := eqF (fun e => hc (by apply UInt8.toNat_inj.1; have h58 : (58 : UInt8).toNat = 58 := rfl; omega))
              have hf := hid (first_miss hm hc)
              clear hc
              go_wp2_with fail
              exact ⟨⟨m, by omega, rfl, by rw [hf.out]⟩, by simp [intOf]⟩
          | zero =>
            rw [H0.out]
            clear hk
            go_wp2_with fail
            refine (Hb.out _).mono ?_
            rintro e w4 ⟨rfl, hb4⟩
            have hz4 := hb4.size
            simp only [World.size_alloc] at hz4
            obtain ⟨⟨k0, k1, f0, f1⟩, ⟨l0, l1⟩, hbx⟩ := res_cells (d := 0) (a := []) (b := []) hb4
            clear hb4
            go_wp2_with fail
            refine (Hm.out _).mono ?_
            rintro e w5 ⟨rfl, hb5⟩
            have hlt := hbx.size
            have m0 := (hb5.cell (p := ⟨w.heap.size, 0, none⟩) (by show w.heap.size < _; omega)).trans k0
            have m1 := (hb5.cell (p := ⟨w.heap.size, 1, none⟩) (by show w.heap.size < _; omega)).trans k1
            have g0 := (hb5.frozen (p := ⟨w.heap.size, 0, none⟩) (by show w.heap.size < _; omega)).trans f0
            have g1 := (hb5.frozen (p := ⟨w.heap.size, 1, none⟩) (by show w.heap.size < _; omega)).trans f1
            have n0 := (hb5.cell (p := ⟨w.heap.size + 1, 0, none⟩) (by show w.heap.size + 1 < _; omega)).trans l0
            have n1 := (hb5.cell (p := ⟨w.heap.size + 1, 1, none⟩) (by show w.heap.size + 1 < _; omega)).trans l1
            have hby := Below.chain hbx hb5
            clear hb5 hbx k0 k1 f0 f1 l0 l1 hlt hz4
            go_wp2_with fail
            refine bodyPost_ret (rread_res rfl rfl (res_set m0 m1 _ _).1 (res_set m0 m1 _ _).2) rfl ⟨?_, (hby.setCell (p := ⟨w.heap.size, 0, none⟩) (Nat.le_refl _) _).setCell (p := ⟨w.heap.size, 1, none⟩) (Nat.le_refl _) _⟩
            rw [Hr.out]; rfl

set_option maxHeartbeats 1000000 in
theorem rread_farNo (s pkg : List UInt8) (hs : s.length ≤ 1000000000000) (h : Lib.indexByte s 58 = -1) (h3 : (s.take 2 == [47, 47]) = true) (h2 : 2 ≤ s.length) (hr : readL s pkg = ([], [], 3)) (w : World) :
    Calls Tryd.prog 9 #[.string (bs s), .string (bs pkg)] w fun e w' => e = .returned (readV (readL s pkg)) ∧ Below w.heap.size w w' := by
  have H0 := hid (first_zero s)
  rw [h] at H0
  have Hr := hid hr
  clear h hr
  go_enter Tryd.func9, Tryd.ntmps9
  go_wp2_with fail
  go_loop [6, 7] (fun c i => ∃ k : Nat, k ≤ s.length ∧ i = .int .i64 ((k : Int) - 1) ∧ c = .int .i64 (firstFrom s k)) (fun _ i => (intOf i + 1).toNat)
  case atStart => exact ⟨s.length, Nat.le_refl _, rfl, by rw [first_end]⟩
  case round =>
    obtain ⟨k, hk, rfl, rfl⟩ := hrel
    cases k with
    | succ m =>
      have hm : m < s.length := by omega
      have e1 : ((m + 1 : Nat) : Int) - 1 = (m : Int) := by omega
      rw [e1]
      by_cases hc : s[m] = 58
      · have q1 : ((s[m].toNat : Int) == 58) = true := eqT (by rw [hc]; rfl)
        have hf := hid (first_hit hm hc)
        clear hc
        go_wp2_with fail
        exact ⟨⟨m, by omega, rfl, by rw [hf.out]⟩, by simp [intOf]⟩
      · have q1 : ((s[m].toNat : Int) == 58) = false := eqF (fun e => hc (by apply UInt8.toNat_inj.1; have h58 : (58 : UInt8).toNat = 58 := rfl; omega))
        have hf := hid (first_miss hm hc)
        clear hc
        go_wp2_with fail
        exact ⟨⟨m, by omega, rfl, by rw [hf.out]⟩, by simp [intOf]⟩
    | zero =>
      rw [H0.out]
      clear hk
      obtain ⟨k0, k1, f0, f1, hbx⟩ := res_new (w := w) (e := 24) (a := []) (b := []) 0
      change (w.alloc (.cells #[.string (bs []), .string (bs [])] 24)).cell? _ = _ at k0 k1
      change (w.alloc (.cells #[.string (bs []), .string (bs [])] 24)).frozen? _ = _ at f0 f1
      change Below _ _ (w.alloc (.cells #[.string (bs []), .string (bs [])] 24)) at hbx
      go_wp2_with fail
      refine bodyPost_ret (rread_res rfl rfl (p := []) (n := []) k0 k1) rfl ⟨?_, hbx⟩
      rw [Hr.out]; rfl

set_option maxHeartbeats 1000000 in
theorem rread_no (s pkg : List UInt8) (hs : s.length ≤ 1000000000000) (h0 : Lib.indexByte s 58 ≠ 0) (h1 : Lib.hasPrefix s [47, 47] = false) (w : World) :
    Calls Tryd.prog 9 #[.string (bs s), .string (bs pkg)] w fun e w' => e = .returned (readV (readL s pkg)) ∧ Below w.heap.size w w' := by
  have H0 := hid (first_zero s)
  have Hr := hid (readL_no s pkg h0 h1)
  have H2 := hid (take_two (s := s) h1)
  have hg := indexByte_ge s 58
  by_cases hm : Lib.indexByte s 58 = -1
  · rw [hm] at H0
    clear h0 h1 hm hg
    by_cases hlen : s.length < 2
    · clear H2
      go_enter Tryd.func9, Tryd.ntmps9
      go_wp2_with fail
      go_loop [6, 7] (fun c i => ∃ k : Nat, k ≤ s.length ∧ i = .int .i64 ((k : Int) - 1) ∧ c = .int .i64 (firstFrom s k)) (fun _ i => (intOf i + 1).toNat)
      case atStart => exact ⟨s.length, Nat.le_refl _, rfl, by rw [first_end]⟩
      case round =>
        obtain ⟨k, hk, rfl, rfl⟩ := hrel
        cases k with
        | succ m =>
          have hm : m < s.length := by omega
          have e1 : ((m + 1 : Nat) : Int) - 1 = (m : Int) := by omega
          rw [e1]
          by_cases hc : s[m] = 58
          · have q1 : ((s[m].toNat : Int) == 58) = true := eqT (by rw [hc]; rfl)
            have hf := hid (first_hit hm hc)
            clear hc
            go_wp2_with fail
            exact ⟨⟨m, by omega, rfl, by rw [hf.out]⟩, by simp [intOf]⟩
          · have q1 : ((s[m].toNat : Int) == 58) = false := eqF (fun e => hc (by apply UInt8.toNat_inj.1; have h58 : (58 : UInt8).toNat = 58 := rfl; omega))
            have hf := hid (first_miss hm hc)
            clear hc
            go_wp2_with fail
            exact ⟨⟨m, by omega, rfl, by rw [hf.out]⟩, by simp [intOf]⟩
        | zero =>
          rw [H0.out]
          clear hk
          obtain ⟨k0, k1, f0, f1, hbx⟩ := res_new (w := w) (e := 24) (a := []) (b := []) 0
          change (w.alloc (.cells #[.string (bs []), .string (bs [])] 24)).cell? _ = _ at k0 k1
          change (w.alloc (.cells #[.string (bs []), .string (bs [])] 24)).frozen? _ = _ at f0 f1
          change Below _ _ (w.alloc (.cells #[.string (bs []), .string (bs [])] 24)) at hbx
          go_wp2_with fail
          refine bodyPost_ret (rread_res rfl rfl (p := []) (n := []) k0 k1) rfl ⟨?_, hbx⟩
          rw [Hr.out]; rfl
    · have h2 : 2 ≤ s.length := by omega
      have h3 := H2.out h2
      clear hlen H2
      go_enter Tryd.func9, Tryd.ntmps9
      go_wp2_with fail
      go_loop [6, 7] (fun c i => ∃ k : Nat, k ≤ s.length ∧ i = .int .i64 ((k : Int) - 1) ∧ c = .int .i64 (firstFrom s k)) (fun _ i => (intOf i + 1).toNat)
      case atStart => exact ⟨s.length, Nat.le_refl _, rfl, by rw [first_end]⟩
      case round =>
        obtain ⟨k, hk, rfl, rfl⟩ := hrel
        cases k with
        | succ m =>
          have hm : m < s.length := by omega
          have e1 : ((m + 1 : Nat) : Int) - 1 = (m : Int) := by omega
          rw [e1]
          by_cases hc : s[m] = 58
          · have q1 : ((s[m].toNat : Int) == 58) = true := eqT (by rw [hc]; rfl)
            have hf := hid (first_hit hm hc)
            clear hc
            go_wp2_with fail
            exact ⟨⟨m, by omega, rfl, by rw [hf.out]⟩, by simp [intOf]⟩
          · have q1 : ((s[m].toNat : Int) == 58) = false := eqF (fun e => hc (by apply UInt8.toNat_inj.1; have h58 : (58 : UInt8).toNat = 58 := rfl; omega))
            have hf := hid (first_miss hm hc)
            clear hc
            go_wp2_with fail
            exact ⟨⟨m, by omega, rfl, by rw [hf.out]⟩, by simp [intOf]⟩
        | zero =>
          rw [H0.out]
          clear hk
          obtain ⟨k0, k1, f0, f1, hbx⟩ := res_new (w := w) (e := 24) (a := []) (b := []) 0
          change (w.alloc (.cells #[.string (bs []), .string (bs [])] 24)).cell? _ = _ at k0 k1
          change (w.alloc (.cells #[.string (bs []), .string (bs [])] 24)).frozen? _ = _ at f0 f1
          change Below _ _ (w.alloc (.cells #[.string (bs []), .string (bs [])] 24)) at hbx
          go_wp2_with fail
          refine bodyPost_ret (rread_res rfl rfl (p := []) (n := []) k0 k1) rfl ⟨?_, hbx⟩
          rw [Hr.out]; rfl
  · obtain ⟨j, hj⟩ : ∃ j : Nat, Lib.indexByte s 58 = j := ⟨(Lib.indexByte s 58).toNat, by omega⟩
    have hj0 : 0 < j := by omega
    rw [hj] at H0
    clear h0 h1 hm hg hj
    by_cases hlen : s.length < 2
    · clear H2
      go_enter Tryd.func9, Tryd.ntmps9
      go_wp2_with fail
      go_loop [6, 7] (fun c i => ∃ k : Nat, k ≤ s.length ∧ i = .int .i64 ((k : Int) - 1) ∧ c = .int .i64 (firstFrom s k)) (fun _ i => (intOf i + 1).toNat)
      case atStart => exact ⟨s.length, Nat.le_refl _, rfl, by rw [first_end]⟩
      case round =>
        obtain ⟨k, hk, rfl, rfl⟩ := hrel
        cases k with
        | succ m =>
          have hm : m < s.length := by omega
          have e1 : ((m + 1 : Nat) : Int) - 1 = (m : Int) := by omega
          rw [e1]
          by_cases hc : s[m] = 58
          · have q1 : ((s[m].toNat : Int) == 58) = true := eqT (by rw [hc]; rfl)
            have hf := hid (first_hit hm hc)
            clear hc
            go_wp2_with fail
            exact ⟨⟨m, by omega, rfl, by rw [hf.out]⟩, by simp [intOf]⟩
          · have q1 : ((s[m].toNat : Int) == 58) = false := eqF (fun e => hc (by apply UInt8.toNat_inj.1; have h58 : (58 : UInt8).toNat = 58 := rfl; omega))
            have hf := hid (first_miss hm hc)
            clear hc
            go_wp2_with fail
            exact ⟨⟨m, by omega, rfl, by rw [hf.out]⟩, by simp [intOf]⟩
        | zero =>
          rw [H0.out]
          clear hk
          obtain ⟨k0, k1, f0, f1, hbx⟩ := res_new (w := w) (e := 24) (a := []) (b := []) 0
          change (w.alloc (.cells #[.string (bs []), .string (bs [])] 24)).cell? _ = _ at k0 k1
          change (w.alloc (.cells #[.string (bs []), .string (bs [])] 24)).frozen? _ = _ at f0 f1
          change Below _ _ (w.alloc (.cells #[.string (bs []), .string (bs [])] 24)) at hbx
          go_wp2_with fail
          refine bodyPost_ret (rread_res rfl rfl (p := []) (n := []) k0 k1) rfl ⟨?_, hbx⟩
          rw [Hr.out]; rfl
    · have h2 : 2 ≤ s.length := by omega
      have h3 := H2.out h2
      clear hlen H2
      go_enter Tryd.func9, Tryd.ntmps9
      go_wp2_with fail
      go_loop [6, 7] (fun c i => ∃ k : Nat, k ≤ s.length ∧ i = .int .i64 ((k : Int) - 1) ∧ c = .int .i64 (firstFrom s k)) (fun _ i => (intOf i + 1).toNat)
      case atStart => exact ⟨s.length, Nat.le_refl _, rfl, by rw [first_end]⟩
      case round =>
        obtain ⟨k, hk, rfl, rfl⟩ := hrel
        cases k with
        | succ m =>
          have hm : m < s.length := by omega
          have e1 : ((m + 1 : Nat) : Int) - 1 = (m : Int) := by omega
          rw [e1]
          by_cases hc : s[m] = 58
          · have q1 : ((s[m].toNat : Int) == 58) = true := eqT (by rw [hc]; rfl)
            have hf := hid (first_hit hm hc)
            clear hc
            go_wp2_with fail
            exact ⟨⟨m, by omega, rfl, by rw [hf.out]⟩, by simp [intOf]⟩
          · have q1 : ((s[m].toNat : Int) == 58) = false := eqF (fun e => hc (by apply UInt8.toNat_inj.1; have h58 : (58 : UInt8).toNat = 58 := rfl; omega))
            have hf := hid (first_miss hm hc)
            clear hc
            go_wp2_with fail
            exact ⟨⟨m, by omega, rfl, by rw [hf.out]⟩, by simp [intOf]⟩
        | zero =>
          rw [H0.out]
          clear hk
          obtain ⟨k0, k1, f0, f1, hbx⟩ := res_new (w := w) (e := 24) (a := []) (b := []) 0
          change (w.alloc (.cells #[.string (bs []), .string (bs [])] 24)).cell? _ = _ at k0 k1
          change (w.alloc (.cells #[.string (bs []), .string (bs [])] 24)).frozen? _ = _ at f0 f1
          change Below _ _ (w.alloc (.cells #[.string (bs []), .string (bs [])] 24)) at hbx
          go_wp2_with fail
          refine bodyPost_ret (rread_res rfl rfl (p := []) (n := []) k0 k1) rfl ⟨?_, hbx⟩
          rw [Hr.out]; rfl

set_option maxHeartbeats 1000000 in
theorem rread_far (s pkg : List UInt8) (hs : s.length ≤ 1000000000000) (j : Nat) (h : Lib.indexByte s 58 = j) (hj2 : 2 ≤ j) (hjs : j < s.length) (h3 : (s.take 2 == [47, 47]) = true) (p n : List UInt8) (hp1 : List.take (j - 2) (List.drop 2 s) = p) (hn1 : List.take (s.length - (j + 1)) (List.drop (j + 1) s) = n)
    (hr : readL s pkg = if labB p n = true then (p, n, 0) else ([], [], 7)) (hp : p.length ≤ 1000000000000) (hn : n.length ≤ 1000000000000) (w : World) :
    Calls Tryd.prog 9 #[.string (bs s), .string (bs pkg)] w fun e w' => e = .returned (readV (readL s pkg)) ∧ Below w.heap.size w w' := by
  have H0 := hid (first_zero s)
  rw [h] at H0
  obtain ⟨c, hc⟩ : ∃ c, labB p n = c := ⟨_, rfl⟩
  have Hm := hid (rlmay_is p n hp hn c hc)
  rw [hc] at hr
  have Hr := hid hr
  rw [← hp1, ← hn1] at Hm Hr
  clear h hr hc hp1 hn1 hp hn
  have h2 : 2 ≤ s.length := by omega
  have hj0 : 0 < j := by omega
  cases c with
  | false =>
    go_enter Tryd.func9, Tryd.ntmps9
    go_wp2_with fail
    go_loop [6, 7] (fun c i => ∃ k : Nat, k ≤ s.length ∧ i = .int .i64 ((k : Int) - 1) ∧ c = .int .i64 (firstFrom s k)) (fun _ i => (intOf i + 1).toNat)
    case atStart => exact ⟨s.length, Nat.le_refl _, rfl, by rw [first_end]⟩
    case round =>
      obtain ⟨k, hk, rfl, rfl⟩ := hrel
      cases k with
      | succ m =>
        have hm : m < s.length := by omega
        have e1 : ((m + 1 : Nat) : Int) - 1 = (m : Int) := by omega
        rw [e1]
        by_cases hc : s[m] = 58
        · have q1 : ((s[m].toNat : Int) == 58) = true := eqT (by rw [hc]; rfl)
          have hf := hid (first_hit hm hc)
          clear hc
          go_wp2_with fail
          exact ⟨⟨m, by omega, rfl, by rw [hf.out]⟩, by simp [intOf]⟩
        · have q1 : ((s[m].toNat : Int) == 58) = false := eqF (fun e => hc (by apply UInt8.toNat_inj.1; have h58 : (58 : UInt8).toNat = 58 := rfl; omega))
          have hf := hid (first_miss hm hc)
          clear hc
          go_wp2_with fail
          exact ⟨⟨m, by omega, rfl, by rw [hf.out]⟩, by simp [intOf]⟩
      | zero =>
        rw [H0.out]
        clear hk
        go_wp2_with fail
        refine (Hm.out _).mono ?_
        rintro e w4 ⟨rfl, hb4⟩
        have hz4 := hb4.size
        simp only [World.size_alloc] at hz4
        obtain ⟨⟨k0, k1, f0, f1⟩, ⟨l0, l1⟩, hbx⟩ := res_cells (d := 0) (a := []) (b := []) hb4
        clear hb4
        go_wp2_with fail
        refine bodyPost_ret (rread_res rfl rfl (res_set k0 k1 _ _).1 (res_set k0 k1 _ _).2) rfl ⟨?_, (hbx.setCell (p := ⟨w.heap.size, 0, none⟩) (Nat.le_refl _) _).setCell (p := ⟨w.heap.size, 1, none⟩) (Nat.le_refl _) _⟩
        rw [Hr.out]; rfl
  | true =>
    go_enter Tryd.func9, Tryd.ntmps9
    go_wp2_with fail
    go_loop [6, 7] (fun c i => ∃ k : Nat, k ≤ s.length ∧ i = .int .i64 ((k : Int) - 1) ∧ c = .int .i64 (firstFrom s k)) (fun _ i => (intOf i + 1).toNat)
    case atStart => exact ⟨s.length, Nat.le_refl _, rfl, by rw [first_end]⟩
    case round =>
      obtain ⟨k, hk, rfl, rfl⟩ := hrel
      cases k with
      | succ m =>
        have hm : m < s.length := by omega
        have e1 : ((m + 1 : Nat) : Int) - 1 = (m : Int) := by omega
        rw [e1]
        by_cases hc : s[m] = 58
        · have q1 : ((s[m].toNat : Int) == 58) = true := eqT (by rw [hc]; rfl)
          have hf := hid (first_hit hm hc)
          clear hc
          go_wp2_with fail
          exact ⟨⟨m, by omega, rfl, by rw [hf.out]⟩, by simp [intOf]⟩
        · have q1 : ((s[m].toNat : Int) == 58) = false := eqF (fun e => hc (by apply UInt8.toNat_inj.1; have h58 : (58 : UInt8).toNat = 58 := rfl; omega))
          have hf := hid (first_miss hm hc)
          clear hc
          go_wp2_with fail
          exact ⟨⟨m, by omega, rfl, by rw [hf.out]⟩, by simp [intOf]⟩
      | zero =>
        rw [H0.out]
        clear hk
        go_wp2_with fail
        refine (Hm.out _).mono ?_
        rintro e w4 ⟨rfl, hb4⟩
        have hz4 := hb4.size
        simp only [World.size_alloc] at hz4
        obtain ⟨⟨k0, k1, f0, f1⟩, ⟨l0, l1⟩, hbx⟩ := res_cells (d := 0) (a := []) (b := []) hb4
        clear hb4
        go_wp2_with fail
        refine bodyPost_ret (rread_res rfl rfl (res_set k0 k1 _ _).1 (res_set k0 k1 _ _).2) rfl ⟨?_, (hbx.setCell (p := ⟨w.heap.size, 0, none⟩) (Nat.le_refl _) _).setCell (p := ⟨w.heap.size, 1, none⟩) (Nat.le_refl _) _⟩
        rw [Hr.out]; rfl

theorem rread_any (s pkg : List UInt8) (hs : s.length ≤ 1000000000000) (hp : pkg.length ≤ 1000000000000) (w : World) :
    Calls Tryd.prog 9 #[.string (bs s), .string (bs pkg)] w fun e w' => e = .returned (readV (readL s pkg)) ∧ Below w.heap.size w w' := by
  by_cases h0 : Lib.indexByte s 58 = 0
  · exact rread_own s pkg hs hp h0 w
  · cases h2 : Lib.hasPrefix s [47, 47] with
    | false => exact rread_no s pkg hs h0 h2 w
    | true =>
      obtain ⟨t, rfl⟩ := prefix2.1 h2
      have hg := indexByte_ge t 58
      have hfar := far_at t
      have hl : t.length + 2 ≤ 1000000000000 := by simpa using hs
      by_cases h : Lib.indexByte t 58 = -1
      · exact rread_farNo _ pkg hs (by rw [hfar, if_pos h]) (by simp) (by simp) (readL_farNo t pkg h) w
      · obtain ⟨i, hi⟩ : ∃ i : Nat, Lib.indexByte t 58 = i := ⟨(Lib.indexByte t 58).toNat, by omega⟩
        have hil := (byte_at hi).2.2
        refine rread_far _ pkg hs (i + 2) (by rw [hfar, if_neg h, hi]; omega) (by omega) (by simp; omega) (by simp) (t.take i) (t.drop (i + 1)) (by simp) ?_ (readL_far t pkg i hi) (by rw [List.length_take]; omega) (by rw [List.length_drop]; omega) w
        rw [show List.drop (i + 2 + 1) (47 :: 47 :: t) = t.drop (i + 1) by simp, List.take_of_length_le (by simp)]
theorem rread_is (s pkg : List UInt8) (hs : s.length ≤ 1000000000000) (hp : pkg.length ≤ 1000000000000) (p n : List UInt8) (k : Nat) (h : readL s pkg = (p, n, k)) (w : World) :
    Calls Tryd.prog 9 #[.string (bs s), .string (bs pkg)] w fun e w' => e = .returned (.tuple #[labV p n, .int .i64 k]) ∧ Below w.heap.size w w' := by
  have := rread_any s pkg hs hp w
  rw [h] at this; exact this
end Go.Proofs.YtemfmheimblboaaDoor
