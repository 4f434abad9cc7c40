/- The walk of label.Sees at one pattern that begins with two strokes. -/
import Derived.Test.YtijgcoedohhlnaaGreatDoorLabelRead
import Derived.Deep.RegionWith
namespace Go.Proofs.YtijgcoedohhlnaaGreatDoor
open Go.RowKit

theorem cutPre (t : List UInt8) (w : World) : Calls Tryz.prog 19 #[.string (bs (47 :: 47 :: t)), .string ⟨#[47, 47]⟩] w fun e w' => e = .returned (.tuple #[.string (bs t), .bool true]) ∧ w' = w := by
  have Hc := Tryz.strings_CutPrefix (bs (47 :: 47 :: t)) (bs [47, 47]) w
  have hf : Lib.hasPrefix (47 :: 47 :: t) [47, 47] = true := by rfl
  rw [list_bs, list_bs, hf, show Lib.trimPrefix (47 :: 47 :: t) [47, 47] = t by simp [Lib.trimPrefix, hf]] at Hc
  exact Hc
theorem cutSuf (d : List UInt8) (hd : d.length ≤ 1000000000000) (w : World) : Calls Tryz.prog 48 #[.string (bs (d ++ [47, 46, 46, 46])), .string ⟨#[47, 46, 46, 46]⟩] w fun e w' => e = .returned (.tuple #[.string (bs d), .bool true]) ∧ w' = w := by
  have Hc := Tryz.strings_CutSuffix (bs (d ++ [47, 46, 46, 46])) (bs [47, 46, 46, 46]) w (by rw [bs_size]; simp; omega)
  have hf : Lib.hasSuffix (d ++ [47, 46, 46, 46]) [47, 46, 46, 46] = true := by simp [Lib.hasSuffix]
  rw [list_bs, list_bs, hf, show Lib.trimSuffix (d ++ [47, 46, 46, 46]) [47, 46, 46, 46] = d by simp [Lib.trimSuffix, hf]] at Hc
  exact Hc
theorem cutSufNo (t : List UInt8) (ht : t.length ≤ 1000000000000) (h : Lib.hasSuffix t [47, 46, 46, 46] = false) (w : World) : Calls Tryz.prog 48 #[.string (bs t), .string ⟨#[47, 46, 46, 46]⟩] w fun e w' => e = .returned (.tuple #[.string (bs t), .bool false]) ∧ w' = w := by
  have Hc := Tryz.strings_CutSuffix (bs t) (bs [47, 46, 46, 46]) w (by rw [bs_size]; omega)
  rw [list_bs, list_bs, h, show Lib.trimSuffix t [47, 46, 46, 46] = t by simp [Lib.trimSuffix, h]] at Hc
  exact Hc

set_option maxHeartbeats 400000 in
theorem meant_all (w : World) : Calls Tryz.prog 24 #[.string (bs [47, 47, 46, 46, 46])] w fun e w' => e = .returned (.func (.func 47) #[] #[]) ∧ Below w.heap.size w w' := by
  have H := hid (cutPre [46, 46, 46])
  go_enter Tryz.func24, Tryz.ntmps24
  go_wp2_with fail
  refine (H.out _).mono ?_
  rintro e w1 ⟨rfl, rfl⟩
  go_wp2_with fail
  go_ret
  exact ⟨rfl, (Below.refl _ _).alloc (Nat.le_refl _) _⟩

set_option maxHeartbeats 400000 in
theorem meant_dir (d : List UInt8) (hd : d.length ≤ 1000000000000) (w : World) : Calls Tryz.prog 24 #[.string (bs (47 :: 47 :: (d ++ [47, 46, 46, 46])))] w fun e w' => e = .returned (.func (.func 49) #[] #[.pointer (some ⟨w.heap.size + 1, 0, none⟩)]) ∧ w.heap.size + 1 < w'.heap.size ∧ w'.cell? ⟨w.heap.size + 1, 0, none⟩ = some (.string (bs d)) ∧ Below w.heap.size w w' := by
  have H := hid (cutPre (d ++ [47, 46, 46, 46]))
  have H2 := hid (cutSuf d hd)
  have q0 : (d ++ [47, 46, 46, 46] == [46, 46, 46]) = false := by
    rw [beq_eq_false_iff_ne]; intro e; have := congrArg List.length e; simp at this
  generalize d ++ [47, 46, 46, 46] = t at H H2 q0
  go_enter Tryz.func24, Tryz.ntmps24
  go_wp2_with fail
  refine (H.out _).mono ?_
  rintro e w1 ⟨rfl, rfl⟩
  go_wp2_with fail
  refine (H2.out _).mono ?_
  rintro e w2 ⟨rfl, rfl⟩
  go_wp2_with fail
  go_ret
  refine ⟨by simp, by simp, ?_, ((Below.refl _ _).alloc (Nat.le_refl _) _).alloc (by simp) _⟩
  have := (cell_new (w1.alloc (.cells #[.string (bs t)] 9)) (.string (bs d)) 9).1
  rw [World.size_alloc] at this
  exact this

set_option maxHeartbeats 400000 in
theorem meant_own (t : List UInt8) (ht : t.length ≤ 1000000000000) (q0 : (t == [46, 46, 46]) = false) (h : Lib.hasSuffix t [47, 46, 46, 46] = false) (w : World) : Calls Tryz.prog 24 #[.string (bs (47 :: 47 :: t))] w fun e w' => e = .returned (.func (.func 51) #[] #[.pointer (some ⟨w.heap.size, 0, none⟩)]) ∧ w.heap.size < w'.heap.size ∧ w'.cell? ⟨w.heap.size, 0, none⟩ = some (.string (bs t)) ∧ Below w.heap.size w w' := by
  have H := hid (cutPre t)
  have H2 := hid (cutSufNo t ht h)
  clear h
  go_enter Tryz.func24, Tryz.ntmps24
  go_wp2_with fail
  refine (H.out _).mono ?_
  rintro e w1 ⟨rfl, rfl⟩
  go_wp2_with fail
  refine (H2.out _).mono ?_
  rintro e w2 ⟨rfl, rfl⟩
  go_wp2_with fail
  go_ret
  refine ⟨rfl, by simp; omega, (cell_old _ (by simp) (cell_new w1 (.string (bs t)) 9)).1, ((Below.refl _ _).alloc (Nat.le_refl _) _).alloc (by simp) _⟩

/-! What the patterns' functions tell. -/
set_option maxHeartbeats 400000 in
theorem says_all (pkg : List UInt8) (w : World) : Calls Tryz.prog 47 #[.string (bs pkg)] w fun e w' => e = .returned (.bool true) ∧ Below w.heap.size w w' := by
  go_enter Tryz.func47, Tryz.ntmps47
  go_wp2_with fail
  go_ret
  exact ⟨rfl, Below.refl _ _⟩
set_option maxHeartbeats 400000 in
theorem says_own (pkg t : List UInt8) (q : Nat) (w : World) (hq : w.cell? ⟨q, 0, none⟩ = some (.string (bs t))) (b : Bool) (hb : (pkg == t) = b) : Calls Tryz.prog 51 #[.string (bs pkg), .pointer (some ⟨q, 0, none⟩)] w fun e w' => e = .returned (.bool b) ∧ Below w.heap.size w w' := by
  go_enter Tryz.func51, Tryz.ntmps51
  go_wp2_with fail
  go_ret
  exact ⟨rfl, Below.refl _ _⟩
set_option maxHeartbeats 400000 in
theorem says_dir (pkg d : List UInt8) (hp : pkg.length ≤ 1000000000000) (hd : d.length ≤ 1000000000000) (hm : mayB d = true) (q : Nat) (w : World) (hq : w.cell? ⟨q, 0, none⟩ = some (.string (bs d))) (hqs : q < w.heap.size) (b : Bool) (hb : (pkg == d || underB pkg d) = b) : Calls Tryz.prog 49 #[.string (bs pkg), .pointer (some ⟨q, 0, none⟩)] w fun e w' => e = .returned (.bool b) ∧ Below w.heap.size w w' := by
  have Hm := hid (may_is d hd true hm)
  clear hm
  cases he : (pkg == d) with
  | true =>
    have hbt : b = true := by rw [← hb, he]; rfl
    subst hbt
    clear hb
    go_enter Tryz.func49, Tryz.ntmps49
    go_wp2_with fail
    refine (Hm.out _).mono ?_
    rintro e w1 ⟨rfl, hb1⟩
    have hq1 := (hb1.cell (p := ⟨q, 0, none⟩) hqs).trans hq
    go_wp2_with fail
    go_ret
    exact ⟨rfl, hb1⟩
  | false =>
    have Hu := hid (under_is pkg d hp hd b (by rw [← hb, he]; rfl))
    clear hb
    go_enter Tryz.func49, Tryz.ntmps49
    go_wp2_with fail
    refine (Hm.out _).mono ?_
    rintro e w1 ⟨rfl, hb1⟩
    have hq1 := (hb1.cell (p := ⟨q, 0, none⟩) hqs).trans hq
    go_wp2_with fail
    refine (Hu.out _).mono ?_
    rintro e w2 ⟨rfl, hb2⟩
    go_wp2_with fail
    go_ret
    exact ⟨rfl, Below.chain hb1 hb2⟩

theorem below_drew {w w1 : World} (h : Below w.drew.heap.size w.drew w1) : Below w.heap.size w w1 := (show Below w.heap.size w w.drew from ⟨rfl, rfl, rfl, Nat.le_refl _, fun _ _ => rfl⟩).trans h

set_option maxHeartbeats 400000 in
theorem clo_all (pkg : List UInt8) (q : Nat) (w : World) (hq : w.cell? ⟨q, 0, none⟩ = some (.string (bs pkg))) (hqs : q < w.heap.size) : Calls Tryz.prog 23 #[.string (bs [47, 47, 46, 46, 46]), .pointer (some ⟨q, 0, none⟩)] w fun e w' => e = .returned (.bool true) ∧ Below w.heap.size w w' := by
  have Hm := hid meant_all
  have Hs := hid (says_all pkg)
  go_enter Tryz.func23, Tryz.ntmps23
  go_wp2_with fail
  go_region_with (first
    | (go_at_call 24; refine (Hm.out _).mono ?_; rintro e w1 ⟨rfl, hb1⟩; have hq1 := (hb1.cell (p := ⟨q, 0, none⟩) hqs).trans hq)
    | (go_at_call 47; refine (Hs.out _).mono ?_; rintro e w2 ⟨rfl, hb2⟩))
  all_goals (go_wp2_with fail)
  all_goals (go_ret; exact ⟨rfl, Below.chain (below_drew hb1) hb2⟩)

set_option maxHeartbeats 400000 in
theorem clo_dir (pkg d : List UInt8) (hp : pkg.length ≤ 1000000000000) (hd : d.length ≤ 1000000000000) (hm : mayB d = true) (b : Bool) (hb : (pkg == d || underB pkg d) = b) (q : Nat) (w : World) (hq : w.cell? ⟨q, 0, none⟩ = some (.string (bs pkg))) (hqs : q < w.heap.size) : Calls Tryz.prog 23 #[.string (bs (47 :: 47 :: (d ++ [47, 46, 46, 46]))), .pointer (some ⟨q, 0, none⟩)] w fun e w' => e = .returned (.bool b) ∧ Below w.heap.size w w' := by
  have Hm := hid (meant_dir d hd)
  have Hs := hid (fun q w hq hqs => says_dir pkg d hp hd hm q w hq hqs b hb)
  clear hm hb
  go_enter Tryz.func23, Tryz.ntmps23
  go_wp2_with fail
  go_region_with (first
    | (go_at_call 24; refine (Hm.out _).mono ?_; rintro e w1 ⟨rfl, hz1, hc1, hb1⟩; have hq1 := (hb1.cell (p := ⟨q, 0, none⟩) hqs).trans hq)
    | (go_at_call 49; refine (Hs.out _ _ hc1 hz1).mono ?_; rintro e w2 ⟨rfl, hb2⟩))
  all_goals (go_wp2_with fail)
  all_goals (go_ret; exact ⟨rfl, Below.chain (below_drew hb1) hb2⟩)

set_option maxHeartbeats 400000 in
theorem clo_own (pkg t : List UInt8) (ht : t.length ≤ 1000000000000) (q0 : (t == [46, 46, 46]) = false) (h : Lib.hasSuffix t [47, 46, 46, 46] = false) (b : Bool) (hb : (pkg == t) = b) (q : Nat) (w : World) (hq : w.cell? ⟨q, 0, none⟩ = some (.string (bs pkg))) (hqs : q < w.heap.size) : Calls Tryz.prog 23 #[.string (bs (47 :: 47 :: t)), .pointer (some ⟨q, 0, none⟩)] w fun e w' => e = .returned (.bool b) ∧ Below w.heap.size w w' := by
  have Hm := hid (meant_own t ht q0 h)
  have Hs := hid (fun q w hq => says_own pkg t q w hq b hb)
  clear h hb q0
  go_enter Tryz.func23, Tryz.ntmps23
  go_wp2_with fail
  go_region_with (first
    | (go_at_call 24; refine (Hm.out _).mono ?_; rintro e w1 ⟨rfl, hz1, hc1, hb1⟩; have hq1 := (hb1.cell (p := ⟨q, 0, none⟩) hqs).trans hq)
    | (go_at_call 51; refine (Hs.out _ _ hc1).mono ?_; rintro e w2 ⟨rfl, hb2⟩))
  all_goals (go_wp2_with fail)
  all_goals (go_ret; exact ⟨rfl, Below.chain (below_drew hb1) hb2⟩)

/-! Sees, at one pattern. -/
set_option maxHeartbeats 1000000 in
theorem index_one (pat : List UInt8) (q : Nat) (b : Bool) (v0 : Value) (n0 : Nat) (w : World) (h0 : SliceAt w 1 v0 n0 (strCells [pat]))
    (hc : ∀ W, Below w.heap.size w W → Calls Tryz.prog 23 #[.string (bs pat), .pointer (some ⟨q, 0, none⟩)] W fun e w' => e = .returned (.bool b) ∧ Below W.heap.size W w') :
    Calls Tryz.prog 45 #[v0, .func (.func 23) #[] #[.pointer (some ⟨q, 0, none⟩)]] w fun e w' => e = .returned (.int .i64 (if b = true then 0 else -1)) ∧ Below w.heap.size w w' := by
  have h00 := h0
  have Hc := hid hc
  clear hc
  obtain ⟨rfl, a0, c0, rfl, hc0, hm0, -⟩ := h0.str
  clear h0
  have H00 := hid h00
  clear h00
  simp only [List.length_cons, List.length_nil, Nat.zero_add] at *
  unfold maxLen at hm0
  go_enter Tryz.func45, Tryz.ntmps45
  go_wp2_with fail
  go_loopw [8] (fun i wr => ∃ (k : Nat), k ≤ 1 ∧ i = .int .i64 k ∧ (k = 1 → b = false) ∧ Below w.heap.size w wr) (fun i _ => 1 - (intOf i).toNat)
  case atStart => exact ⟨0, by omega, rfl, by omega, Below.refl _ _⟩
  case round =>
    obtain ⟨k, hk, rfl, hg, hbw⟩ := hrel
    have hsz := hbw.size
    have Hg := hid hg; clear hg
    by_cases hlt : k < 1
    · obtain rfl : k = 0 := by omega
      obtain ⟨-, a1, c1, hv, -, -, hx⟩ := (H00.out.below hbw (Nat.le_refl _)).str
      obtain ⟨rfl, rfl⟩ : a0 = a1 ∧ c0 = c1 := by simpa using hv
      obtain ⟨b0, o0, rfl, hb0, hcl⟩ := hx 0 (by simp)
      have e0 : wr.cell? ⟨b0, o0, none⟩ = some (.string (bs pat)) := hcl 0 (by simp)
      clear hx hcl hv
      have Hcw := hid (Hc.out wr hbw)
      cases b with
      | true =>
        go_wp2_with fail
        refine Hcw.out.mono ?_
        rintro e w2 ⟨rfl, hb2⟩
        go_wp2_with fail
        go_ret
        exact ⟨rfl, Below.chain hbw hb2⟩
      | false =>
        go_wp2_with fail
        refine Hcw.out.mono ?_
        rintro e w2 ⟨rfl, hb2⟩
        go_wp2_with fail
        exact ⟨⟨1, by omega, by go_num, by simp, Below.chain hbw hb2⟩, by simp [intOf]⟩
    · obtain rfl : k = 1 := by omega
      have hbf := Hg.out rfl
      subst hbf
      go_wp2_with fail
      go_ret
      exact ⟨rfl, hbw⟩

set_option maxHeartbeats 1000000 in
theorem sees_one (pat pkg : List UInt8) (hp : pkg.length ≤ 1000000000000) (hk : pkgB pkg = true) (b : Bool) (v0 : Value) (n0 : Nat) (w : World) (h0 : SliceAt w 1 v0 n0 (strCells [pat]))
    (hc : ∀ q W, W.cell? ⟨q, 0, none⟩ = some (.string (bs pkg)) → q < W.heap.size → Calls Tryz.prog 23 #[.string (bs pat), .pointer (some ⟨q, 0, none⟩)] W fun e w' => e = .returned (.bool b) ∧ Below W.heap.size W w') :
    Calls Tryz.prog 10 #[v0, .string (bs pkg)] w fun e w' => e = .returned (.bool b) ∧ Below w.heap.size w w' := by
  have Hk := hid (isPkg_is pkg hp true hk)
  clear hk
  have Hx := hid (fun W (hW : Below w.heap.size w W) (hq : W.cell? ⟨w.heap.size, 0, none⟩ = some (.string (bs pkg))) (hqs : w.heap.size < W.heap.size) =>
    index_one pat w.heap.size b v0 n0 W (h0.below hW (Nat.le_refl _)) (fun W2 hW2 => hc _ W2 ((hW2.cell (p := ⟨w.heap.size, 0, none⟩) hqs).trans hq) (Nat.lt_of_lt_of_le hqs hW2.size)))
  obtain ⟨rfl, a0, c0, rfl, -⟩ := h0.str
  clear hc h0
  have Hcf : Hid (∀ W, Below w.heap.size w W → W.cell? ⟨w.heap.size, 0, none⟩ = some (.string (bs pkg)) → w.heap.size < W.heap.size →
      Calls Tryz.prog 22 #[.slice a0 1 c0, .func (.func 23) #[] #[.pointer (some ⟨w.heap.size, 0, none⟩)]] W fun e w' => e = .returned (.bool b) ∧ Below W.heap.size W w') := by
    apply hid
    intro W hW hq hqs
    have Hxx := hid (Hx.out W hW hq hqs)
    clear Hx hW hq hqs
    cases b with
    | true =>
      go_enter Tryz.func22, Tryz.ntmps22
      go_wp2_with fail
      refine Hxx.out.mono ?_
      rintro e w2 ⟨rfl, hb2⟩
      go_wp2_with fail
      go_ret
      exact ⟨rfl, hb2⟩
    | false =>
      go_enter Tryz.func22, Tryz.ntmps22
      go_wp2_with fail
      refine Hxx.out.mono ?_
      rintro e w2 ⟨rfl, hb2⟩
      go_wp2_with fail
      go_ret
      exact ⟨rfl, hb2⟩
  clear Hx
  go_enter Tryz.func10, Tryz.ntmps10
  go_wp2_with fail
  refine (Hk.out _).mono ?_
  rintro e w1 ⟨rfl, hb1⟩
  have hc1 := (hb1.cell (p := ⟨w.heap.size, 0, none⟩) (by simp)).trans (cell_new w (.string (bs pkg)) 9).1
  have hz1 := hb1.size
  rw [World.size_alloc] at hz1
  have hbx := ((Below.refl w.heap.size w).alloc (Nat.le_refl _) (.cells #[.string (bs pkg)] 9)).trans (hb1.mono (by simp))
  go_wp2_with fail
  refine (Hcf.out _ hbx hc1 hz1).mono ?_
  rintro e w2 ⟨rfl, hb2⟩
  go_wp2_with fail
  go_ret
  exact ⟨rfl, Below.chain hbx hb2⟩
end Go.Proofs.YtijgcoedohhlnaaGreatDoor
