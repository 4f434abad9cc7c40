/- The walks of package tree: look, Check, Paths; of its reference: Great; and the chapter's example. -/
import Derived.Test.YtilkneajohpgiaaDoorTreePlain
import Derived.Test.YtilkneajohpgiaaDoorPathMay
namespace Go.Proofs.YtilkneajohpgiaaDoor
open Go.RowKit

theorem may_is (s : List UInt8) (hs : s.length ≤ 1000000000000) (b : Bool) (h : mayB s = b) (w : World) :
    Calls Tryd.prog 30 #[.string (bs s)] w fun e w' => e = .returned (.bool b) ∧ Below w.heap.size w w' := by
  subst h; exact may_any s hs w

set_option maxHeartbeats 400000 in
theorem under_any (s d : List UInt8) (hs : s.length ≤ 1000000000000) (hd : d.length ≤ 1000000000000) (w : World) :
    Calls Tryd.prog 16 #[.string (bs s), .string (bs d)] w fun e w' => e = .returned (.bool (underB s d)) ∧ Below w.heap.size w w' := by
  obtain ⟨bm, hbm⟩ : ∃ bm, mayB s = bm := ⟨_, rfl⟩
  obtain ⟨bd, hbd⟩ : ∃ bd, mayB d = bd := ⟨_, rfl⟩
  have Hm := hid (may_is s hs bm hbm)
  have Hd := hid (may_is d hd bd hbd)
  obtain ⟨bp, hbp⟩ : ∃ bp, Lib.hasPrefix s (d ++ [47]) = bp := ⟨_, rfl⟩
  have Hu : Hid (underB s d = (bm && (d.isEmpty || (bd && bp)))) := by apply hid; rw [underB, hbm, hbd, hbp]
  have Hp : Hid (∀ w, Calls Tryd.prog 31 #[.string (bs s), .string (bs (d ++ [47]))] w fun e w' => e = .returned (.bool bp) ∧ w' = w) := by
    apply hid; intro w; rw [← hbp]; exact Tryd.strings_HasPrefix (bs s) (bs (d ++ [47])) w
  clear hbm hbd hbp
  cases bm with
  | false =>
    go_enter Tryd.func16, Tryd.ntmps16
    go_wp2_with fail
    refine (Hm.out _).mono ?_
    rintro e w1 ⟨rfl, hb1⟩
    go_wp2_with fail
    go_ret
    exact ⟨by rw [Hu.out]; rfl, hb1⟩
  | true =>
    by_cases h0 : d = []
    · subst h0
      go_enter Tryd.func16, Tryd.ntmps16
      go_wp2_with fail
      refine (Hm.out _).mono ?_
      rintro e w1 ⟨rfl, hb1⟩
      go_wp2_with fail
      go_ret
      exact ⟨by rw [Hu.out]; rfl, hb1⟩
    · have h0' : d.isEmpty = false := by simpa using h0
      clear h0
      cases bd with
      | false =>
        go_enter Tryd.func16, Tryd.ntmps16
        go_wp2_with fail
        refine (Hm.out _).mono ?_
        rintro e w1 ⟨rfl, hb1⟩
        go_wp2_with fail
        refine (Hd.out _).mono ?_
        rintro e w2 ⟨rfl, hb2⟩
        go_wp2_with fail
        go_ret
        exact ⟨by rw [Hu.out, h0']; rfl, Below.chain hb1 hb2⟩
      | true =>
        go_enter Tryd.func16, Tryd.ntmps16
        go_wp2_with fail
        refine (Hm.out _).mono ?_
        rintro e w1 ⟨rfl, hb1⟩
        go_wp2_with fail
        refine (Hd.out _).mono ?_
        rintro e w2 ⟨rfl, hb2⟩
        go_wp2_with fail
        refine (Hp.out _).mono ?_
        rintro e w3 ⟨rfl, rfl⟩
        go_wp2_with fail
        go_ret
        exact ⟨by rw [Hu.out, h0']; simp, Below.chain hb1 hb2⟩
theorem under_is (s d : List UInt8) (hs : s.length ≤ 1000000000000) (hd : d.length ≤ 1000000000000) (b : Bool) (h : underB s d = b) (w : World) :
    Calls Tryd.prog 16 #[.string (bs s), .string (bs d)] w fun e w' => e = .returned (.bool b) ∧ Below w.heap.size w w' := by
  subst h; exact under_any s d hs hd w

set_option maxHeartbeats 400000 in
theorem great_any (v0 : Value) (n0 : Nat) (fs : List FileL) (w : World) (h0 : SliceAt w 2 v0 n0 (fileCells fs)) :
    Calls Tryd.prog 4 #[v0] w fun e w' => e = .returned (.bool (greatB fs)) ∧ w = w' := by
  obtain ⟨rfl, a0, c0, rfl, hc0, hm0, hx0⟩ := h0.files
  clear h0
  unfold maxLen at hm0
  by_cases h60 : 60 < fs.length
  · go_enter Tryd.func4, Tryd.ntmps4
    go_wp2
    go_ret
    exact ⟨by rw [greatB, decide_eq_true h60]; rfl, rfl⟩
  · go_enter Tryd.func4, Tryd.ntmps4
    go_wp2
    go_loop [9] (fun i => ∃ k : Nat, k ≤ fs.length ∧ i = .int .i64 k ∧ greatB fs = (fs.drop k).any fun f => decide (300 < f.1.length) || decide (300 < f.2.length)) (fun i => fs.length - (intOf i).toNat)
    case atStart => exact ⟨0, by omega, rfl, by rw [greatB, decide_eq_false h60]; rfl⟩
    case round =>
      obtain ⟨k, hk, rfl, hg⟩ := hrel
      have Hg := hid hg; clear hg
      by_cases hlt : k < fs.length
      · obtain ⟨b0, o0, rfl, hb0, hcl0⟩ := hx0 k hlt
        have e0 := (hcl0 k hlt).1
        have e1 := (hcl0 k hlt).2
        clear hcl0 hx0
        have Hd := hid (drop_at fs k hlt)
        go_wp2
        · go_ret
          refine ⟨?_, rfl⟩
          rw [Hg.out, Hd.out, List.any_cons, decide_eq_true (by omega : 300 < fs[k].2.length)]; simp
        · refine ⟨⟨k + 1, by omega, by go_num, ?_⟩, by simp [intOf]; omega⟩
          rw [Hg.out, Hd.out, List.any_cons, decide_eq_false (by omega : ¬ 300 < fs[k].1.length), decide_eq_false (by omega : ¬ 300 < fs[k].2.length)]; rfl
        · go_ret
          refine ⟨?_, rfl⟩
          rw [Hg.out, Hd.out, List.any_cons, decide_eq_true (by omega : 300 < fs[k].1.length)]; rfl
      · go_wp2
        go_ret
        refine ⟨?_, rfl⟩
        rw [Hg.out, List.drop_eq_nil_of_le (by omega)]; rfl

theorem great_is (v0 : Value) (n0 : Nat) (fs : List FileL) (b : Bool) (h : greatB fs = b) (w : World) (h0 : SliceAt w 2 v0 n0 (fileCells fs)) :
    Calls Tryd.prog 4 #[v0] w fun e w' => e = .returned (.bool b) ∧ w = w' := by
  subst h; exact great_any v0 n0 fs w h0

set_option maxHeartbeats 1000000 in
theorem look_any (f : FileL) (ahead : List UInt8) (first : Bool) (hf : f.1.length ≤ 1000000000000) (hf2 : f.2.length ≤ 1000000000000) (w : World) :
    Calls Tryd.prog 17 #[.agg #[.string (bs f.1), .string (bs f.2)], .string (bs ahead), .bool first] w fun e w' => e = .returned (.int .i64 (lookE f ahead first)) ∧ Below w.heap.size w w' := by
  obtain ⟨p, d⟩ := f
  simp only at hf hf2 ⊢
  obtain ⟨bm, hbm⟩ : ∃ bm, mayB p = bm := ⟨_, rfl⟩
  obtain ⟨bo, hbo⟩ : ∃ bo, (p == outL) = bo := ⟨_, rfl⟩
  obtain ⟨bu, hbu⟩ : ∃ bu, underB p outL = bu := ⟨_, rfl⟩
  have Hm := hid (may_is p hf bm hbm)
  have Hu := hid (under_is p outL hf (by decide) bu hbu)
  have Hbad : Hid (badName p = (!bm || bo || bu)) := by apply hid; rw [badName, hbm, hbo, hbu]
  have hbo' : (p == [111, 117, 116]) = bo := hbo
  clear hbm hbo hbu
  have fin : Hid (∀ W n, Below w.heap.size w W → lookE (p, d) ahead first = n → Ending.returned (.int .i64 n) = Ending.returned (.int .i64 (lookE (p, d) ahead first)) ∧ Below w.heap.size w W) := by
    apply hid; intro W n hb h; rw [h]; exact ⟨rfl, hb⟩
  have hb0 : Below w.heap.size w (w.alloc (.cells #[.string (bs p), .string (bs d)] 30)) := (Below.refl _ _).alloc (Nat.le_refl _) _
  have hcell : ∀ w1, Below (w.heap.size + 1) (w.alloc (.cells #[.string (bs p), .string (bs d)] 30)) w1 → w1.cell? ⟨w.heap.size, 0, none⟩ = some (.string (bs p)) ∧ w1.cell? ⟨w.heap.size, 1, none⟩ = some (.string (bs d)) := by
    intro w1 hb1
    exact ⟨(hb1.cell (by simp)).trans (by rw [World.cell?_alloc_mark]; rfl), (hb1.cell (by simp)).trans (by rw [World.cell?_alloc_mark]; rfl)⟩
  have Hb0 := hid hb0; clear hb0
  have Hcell := hid hcell; clear hcell
  cases bm with
  | false =>
    go_enter Tryd.func17, Tryd.ntmps17
    go_wp2_with fail
    refine (Hm.out _).mono ?_
    rintro e w1 ⟨rfl, hb1⟩
    rw [World.size_alloc] at hb1
    have hb2 := Hb0.out.trans (hb1.mono (by omega))
    go_wp2_with fail
    go_ret
    exact fin.out _ 7 hb2 (by unfold lookE; rw [if_pos (by rw [Hbad.out]; rfl)])
  | true =>
    cases bo with
    | true =>
      go_enter Tryd.func17, Tryd.ntmps17
      go_wp2_with fail
      refine (Hm.out _).mono ?_
      rintro e w1 ⟨rfl, hb1⟩
      rw [World.size_alloc] at hb1
      obtain ⟨d0, d1⟩ := Hcell.out _ hb1
      have hb2 := Hb0.out.trans (hb1.mono (by omega))
      clear hb1
      go_wp2_with fail
      go_ret
      exact fin.out _ 7 hb2 (by unfold lookE; rw [if_pos (by rw [Hbad.out]; rfl)])
    | false =>
      cases bu with
      | true =>
        go_enter Tryd.func17, Tryd.ntmps17
        go_wp2_with fail
        refine (Hm.out _).mono ?_
        rintro e w1 ⟨rfl, hb1⟩
        rw [World.size_alloc] at hb1
        obtain ⟨d0, d1⟩ := Hcell.out _ hb1
        have hs1 := hb1.size
        rw [World.size_alloc] at hs1
        have hb2 := Hb0.out.trans (hb1.mono (by omega))
        go_wp2_with fail
        refine (Hu.out _).mono ?_
        rintro e w2 ⟨rfl, hb3⟩
        have hb4 := hb2.trans (hb3.mono (by omega))
        obtain ⟨d0', d1'⟩ := Hcell.out _ (hb1.trans (hb3.mono hs1))
        clear hb1 hb3 d0 d1
        go_wp2_with fail
        go_ret
        exact fin.out _ 7 hb4 (by unfold lookE; rw [if_pos (by rw [Hbad.out]; rfl)])
      | false =>
        have Hnb : Hid (¬ badName p = true) := by apply hid; rw [Hbad.out]; simp
        obtain ⟨be, hbe⟩ : ∃ be, (p == ahead) = be := ⟨_, rfl⟩
        obtain ⟨bl, hbl⟩ : ∃ bl, Op.bytesLess p ahead = bl := ⟨_, rfl⟩
        have Hbe := hid hbe
        have Hbl := hid hbl
        by_cases hd : 65536 < d.length
        all_goals
          cases first <;> cases be <;> cases bl
          all_goals
            go_enter Tryd.func17, Tryd.ntmps17
            go_wp2_with fail
            refine (Hm.out _).mono ?_
            rintro e w1 ⟨rfl, hb1⟩
            rw [World.size_alloc] at hb1
            obtain ⟨d0, d1⟩ := Hcell.out _ hb1
            have hs1 := hb1.size
            rw [World.size_alloc] at hs1
            have hb2 := Hb0.out.trans (hb1.mono (by omega))
            go_wp2_with fail
            refine (Hu.out _).mono ?_
            rintro e w2 ⟨rfl, hb3⟩
            have hb4 := hb2.trans (hb3.mono (by omega))
            obtain ⟨d0', d1'⟩ := Hcell.out _ (hb1.trans (hb3.mono hs1))
            clear hb1 hb3 d0 d1
            go_wp2_with fail
            go_ret
            first
              | exact fin.out _ 8 hb4 (by unfold lookE; rw [if_neg Hnb.out]; simp [Hbe.out]; done)
              | exact fin.out _ 2 hb4 (by unfold lookE; rw [if_neg Hnb.out]; simp [Hbe.out, Hbl.out]; done)
              | exact fin.out _ 6 hb4 (by unfold lookE; rw [if_neg Hnb.out]; simp [Hbe.out, Hbl.out, hd]; done)
              | exact fin.out _ 0 hb4 (by unfold lookE; rw [if_neg Hnb.out]; simp [Hbe.out, Hbl.out, hd]; done)
              | go_goals
end Go.Proofs.YtilkneajohpgiaaDoor
