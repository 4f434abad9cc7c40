/- The law TreePuts. -/
import Derived.Test.YtffmjjocjcomnaaDoorPutBetween
import Derived.Test.YtffmjjocjcomnaaDoorTreeGetsLaw
namespace Go.Proofs.YtffmjjocjcomnaaDoor
set_option maxRecDepth 100000
open Go.RowKit

theorem one_file (W : World) (a b : List UInt8) : SliceAt (W.alloc (.cells #[.string (bs a), .string (bs b)] 40)) 2 (.slice (some ⟨W.heap.size, 0, none⟩) 1 1) 1 (fileCells [(a, b)]) :=
  ⟨rfl, _, 1, rfl, Nat.le_refl _, by unfold maxLen; omega, fun h => (by cases h), fun _ => ⟨W.heap.size, 0, rfl, by simp, fun j u hu => by rw [Nat.zero_add, World.cell?_alloc_mark]; simpa [fileCells] using hu⟩⟩
theorem one_file2 (w : World) (a b : List UInt8) : SliceAt ((w.alloc (.cells #[.string (bs a), .string (bs b)] 40)).alloc (.cells #[.string (bs a), .string (bs b)] 40)) 2 (.slice (some ⟨w.heap.size + 1, 0, none⟩) 1 1) 1 (fileCells [(a, b)]) := by
  have h := one_file (w.alloc (.cells #[.string (bs a), .string (bs b)] 40)) a b
  rwa [World.size_alloc] at h
/-- What a law comes to. -/
def Fine (w : World) (e : Ending) (w' : World) : Prop := e = .returned (.bool true) ∧ Below w.heap.size w w'
theorem putT_cases (fs : List FileL) (f : FileL) : putT fs f = [] ∨ (checkL fs = 0 ∧ checkL (withL fs f) = 0 ∧ putT fs f = withL fs f) := by
  unfold putT
  by_cases h : checkL fs = 0
  · by_cases h2 : checkL (withL fs f) = 0
    · exact .inr ⟨h, h2, by rw [if_pos h, if_pos h2]⟩
    · exact .inl (by rw [if_pos h, if_neg h2])
  · exact .inl (by rw [if_neg h])

set_option maxHeartbeats 1000000 in
theorem puts_great (v0 : Value) (n0 : Nat) (fs : List FileL) (fp fd p : List UInt8) (hp : p.length ≤ 140737488351232) (w : World) (h0 : SliceAt w 2 v0 n0 (fileCells fs)) (hc : greatB fs = true ∨ greatB [(fp, fd)] = true ∨ 300 < p.length) :
    Calls Tryd.prog 6 #[v0, .agg #[.string (bs fp), .string (bs fd)], .string (bs p)] w (Fine w) := by
  have hW1 : Below w.heap.size w (w.alloc (.cells #[.string (bs fp), .string (bs fd)] 40)) := (Below.refl _ _).alloc (Nat.le_refl _) _
  have hs1 := h0.below hW1 (Nat.le_refl _)
  cases hg : greatB fs with
  | true =>
    have Hg := hid (great_is v0 n0 fs true hg)
    clear hg hc
    go_enter Tryd.func6, Tryd.ntmps6
    go_wp2_with fail
    refine (Hg.out _ hs1).mono ?_
    rintro e w1 ⟨rfl, rfl⟩
    go_wp2_with fail
    refine (fixed_any _).mono ?_
    rintro e w2 ⟨rfl, hb2⟩
    go_wp2_with fail
    go_ret
    exact ⟨rfl, hW1.trans (hb2.mono hW1.size)⟩
  | false =>
    have Hg := hid (great_is v0 n0 fs false hg)
    have hW2 : Below w.heap.size w ((w.alloc (.cells #[.string (bs fp), .string (bs fd)] 40)).alloc (.cells #[.string (bs fp), .string (bs fd)] 40)) := hW1.alloc hW1.size _
    have hsf := one_file2 w fp fd
    cases hg2 : greatB [(fp, fd)] with
    | true =>
      have Hg2 := hid (great_is _ _ _ true hg2 _ hsf)
      clear hg hg2 hc
      go_enter Tryd.func6, Tryd.ntmps6
      go_wp2_with fail
      refine (Hg.out _ hs1).mono ?_
      rintro e w1 ⟨rfl, rfl⟩
      go_wp2_with fail
      refine Hg2.out.mono ?_
      rintro e w1 ⟨rfl, rfl⟩
      go_wp2_with fail
      refine (fixed_any _).mono ?_
      rintro e w2 ⟨rfl, hb2⟩
      go_wp2_with fail
      go_ret
      exact ⟨rfl, hW2.trans (hb2.mono hW2.size)⟩
    | false =>
      have Hg2 := hid (great_is _ _ _ false hg2 _ hsf)
      have hp3 : 300 < p.length := by simpa [hg, hg2] using hc
      clear hg hg2 hc
      go_enter Tryd.func6, Tryd.ntmps6
      go_wp2_with fail
      refine (Hg.out _ hs1).mono ?_
      rintro e w1 ⟨rfl, rfl⟩
      go_wp2_with fail
      refine Hg2.out.mono ?_
      rintro e w1 ⟨rfl, rfl⟩
      go_wp2_with fail
      refine (fixed_any _).mono ?_
      rintro e w2 ⟨rfl, hb2⟩
      go_wp2_with fail
      go_ret
      exact ⟨rfl, hW2.trans (hb2.mono hW2.size)⟩

set_option maxHeartbeats 2000000 in
theorem law_puts (v0 : Value) (n0 : Nat) (fs : List FileL) (fp fd p : List UInt8) (hp : p.length ≤ 140737488351232) (w : World) (h0 : SliceAt w 2 v0 n0 (fileCells fs)) :
    Calls Tryd.prog 6 #[v0, .agg #[.string (bs fp), .string (bs fd)], .string (bs p)] w (Fine w) := by
  by_cases hc : greatB fs = true ∨ greatB [(fp, fd)] = true ∨ 300 < p.length
  · exact puts_great v0 n0 fs fp fd p hp w h0 hc
  simp only [not_or, Bool.not_eq_true] at hc
  obtain ⟨hg, hg2, hp3⟩ := hc
  have hr := reach_ok hg
  have hrf := (reach_ok hg2) (fp, fd) (by simp)
  unfold reachOk at hr
  have hlen := (great_no hg).1
  have hW1 : Below w.heap.size w (w.alloc (.cells #[.string (bs fp), .string (bs fd)] 40)) := (Below.refl _ _).alloc (Nat.le_refl _) _
  have hs1 := h0.below hW1 (Nat.le_refl _)
  have Hg := hid (great_is v0 n0 fs false hg)
  have hW2 : Below w.heap.size w ((w.alloc (.cells #[.string (bs fp), .string (bs fd)] 40)).alloc (.cells #[.string (bs fp), .string (bs fd)] 40)) := hW1.alloc hW1.size _
  have hsf := one_file2 w fp fd
  have Hg2 := hid (great_is _ _ _ false hg2 _ hsf)
  have Hp := hid (fun W (hW : Below w.heap.size w W) => put_any v0 n0 fs (fp, fd) W (h0.below hW (Nat.le_refl _)) (by omega) hr hrf)
  have Hrp := hid (fun W (hW : Below w.heap.size w W) => refPut_any v0 n0 fs (fp, fd) W (h0.below hW (Nat.le_refl _)) (by omega) hr hrf)
  have Hd := hid (fun W (hW : Below w.heap.size w W) => drop_any v0 n0 fs p W (h0.below hW (Nat.le_refl _)) (by omega) hr)
  have Hrd := hid (fun W (hW : Below w.heap.size w W) => refDrop_any v0 n0 fs p W (h0.below hW (Nat.le_refl _)) (by omega) hr)
  have hxc := putT_cases fs (fp, fd)
  generalize dropT fs p = ys at Hd Hrd
  have Hxs : ∀ xs, putT fs (fp, fd) = xs → Hid (xs.length ≤ 61) ∧ (xs ≠ [] → Hid (checkL xs = 0 ∧ getL fp xs = some fd ∧ (∀ g ∈ xs, g.1.length ≤ 1000000000000 ∧ g.2.length ≤ 1000000000000) ∧ ∀ g ∈ fs, g.1 ≠ fp → getL g.1 xs = some g.2)) := by
    intro xs e
    rcases hxc with h | ⟨c1, c2, h⟩
    · rw [h] at e; subst e
      exact ⟨hid (by simp), fun h => absurd rfl h⟩
    · rw [h] at e; subst e
      have hri := check_rises c1
      refine ⟨hid ?_, fun _ => hid ⟨c2, get_with (fp, fd) fs hri, with_big hri hr hrf, fun g hg hne => get_kept (fp, fd) g fs hri hg hne⟩⟩
      rw [← put_with (fp, fd) fs hri]
      unfold putL
      split
      · simp; omega
      · have := low_le fp fs
        simp; omega
  have HXS := hid (Hxs _ rfl)
  generalize putT fs (fp, fd) = xs at *
  unfold FilesAt at Hp Hrp Hd Hrd
  have HH0 := hid h0
  obtain ⟨rfl, a0, c0, rfl, hc0, hm0, -⟩ := h0.files
  unfold maxLen at hm0
  clear hg hg2 hsf hr hrf Hxs hxc h0
  go_enter Tryd.func6, Tryd.ntmps6
  go_wp2_with fail
  refine (Hg.out _ hs1).mono ?_
  rintro e w1 ⟨rfl, rfl⟩
  go_wp2_with fail
  refine Hg2.out.mono ?_
  rintro e w1 ⟨rfl, rfl⟩
  go_wp2_with fail
  refine (Hp.out _ hW2).mono ?_
  rintro e w3 ⟨v3, rfl, hs3, hb3⟩
  obtain ⟨k0, k1, -⟩ := file_box1 (f := (fp, fd)) (w1 := w3) ((((Below.refl _ _).alloc (Nat.le_refl _) _)).trans (hb3.mono (by simp)))
  have hB3 := hW2.trans (hb3.mono hW2.size)
  clear hb3 hW2 hW1 hs1
  go_wp2_with fail
  refine (Hd.out _ hB3).mono ?_
  rintro e w4 ⟨v4, rfl, hs4, hb4⟩
  have j0 := Below.keeps' hb4 k0
  have j1 := Below.keeps' hb4 k1
  have hs3' := hs3.below hb4 (Nat.le_refl _)
  have hB4 := Below.chain hB3 hb4
  clear k0 k1 hs3 hB3 hb4
  go_wp2_with fail
  refine (Hrp.out _ hB4).mono ?_
  rintro e w5 ⟨v5, rfl, hs5, hb5⟩
  have k0 := Below.keeps' hb5 j0
  have k1 := Below.keeps' hb5 j1
  have hs3 := hs3'.below hb5 (Nat.le_refl _)
  have hs4' := hs4.below hb5 (Nat.le_refl _)
  have hB5 := Below.chain hB4 hb5
  clear j0 j1 hs3' hs4 hB4 hb5
  go_wp2_with fail
  refine (same_self _ _ _ _ xs _ hs3 hs5).mono ?_
  rintro e w6 ⟨rfl, hd6⟩
  have hb6 : Below w5.heap.size w5 w6 := hd6.below
  have j0 := Below.keeps' hb6 k0
  have j1 := Below.keeps' hb6 k1
  have hs3' := hs3.below hb6 (Nat.le_refl _)
  have hs4 := hs4'.below hb6 (Nat.le_refl _)
  have hB6 := Below.chain hB5 hb6
  clear k0 k1 hs3 hs4' hB5 hb6 hd6 hs5
  go_wp2_with fail
  refine (Hrd.out _ hB6).mono ?_
  rintro e w7 ⟨v7, rfl, hs7, hb7⟩
  have k0 := Below.keeps' hb7 j0
  have k1 := Below.keeps' hb7 j1
  have hs3 := hs3'.below hb7 (Nat.le_refl _)
  have hs4' := hs4.below hb7 (Nat.le_refl _)
  have hB7 := Below.chain hB6 hb7
  clear j0 j1 hs3' hs4 hB6 hb7
  go_wp2_with fail
  refine (same_self _ _ _ _ ys _ hs4' hs7).mono ?_
  rintro e w8 ⟨rfl, hd8⟩
  have hb8 : Below w7.heap.size w7 w8 := hd8.below
  have j0 := Below.keeps' hb8 k0
  have j1 := Below.keeps' hb8 k1
  have hs3' := hs3.below hb8 (Nat.le_refl _)
  have hB8 := Below.chain hB7 hb8
  clear k0 k1 hs3 hs4' hs7 hB7 hb8 hd8
  have hs3k := hid hs3'
  obtain ⟨-, a3, c3, rfl, hc3, hm3, -⟩ := hs3'.files
  unfold maxLen at hm3
  obtain ⟨Hl, Hx⟩ := HXS.out
  clear HXS
  by_cases hxn : xs = []
  · subst hxn
    clear Hx hs3k
    go_wp2_with fail
    refine (fixed_any _).mono ?_
    rintro e w9 ⟨rfl, hb9⟩
    go_wp2_with fail
    go_ret
    exact ⟨rfl, Below.chain hB8 hb9⟩
  · have hx := Hx hxn
    have q0 : ((xs.length : Int) == 0) = false := eqF (by have := List.length_pos_iff.2 hxn; omega)
    have Hget : ∀ W, SliceAt W 2 (.slice a3 xs.length c3) xs.length (fileCells xs) → Calls Tryd.prog 13 #[.slice a3 xs.length c3, .string (bs fp)] W fun e w' => e = .returned (.tuple #[.string (bs fd), .bool true]) ∧ Below W.heap.size W w' := fun W h =>
      get_any _ _ xs fp _ _ (by unfold getPair; rw [hx.out.2.1]) W h
    have Hck : ∀ W, SliceAt W 2 (.slice a3 xs.length c3) xs.length (fileCells xs) → Calls Tryd.prog 11 #[.slice a3 xs.length c3] W fun e w' => e = .returned (.int .i64 0) ∧ Below W.heap.size W w' := fun W h => by
      have := check_any _ _ xs W h hx.out.2.2.1
      rwa [hx.out.1] at this
    have HG := hid Hget
    have HC := hid Hck
    have HK := hid (fun g hg hne => hx.out.2.2.2 g hg hne)
    clear Hget Hck hx Hx hxn
    go_wp2_with fail
    refine (HG.out _ hs3k.out).mono ?_
    rintro e w9 ⟨rfl, hb9⟩
    have k0 := Below.keeps' hb9 j0
    have k1 := Below.keeps' hb9 j1
    have hs9 := hs3k.out.below hb9 (Nat.le_refl _)
    have hB9 := Below.chain hB8 hb9
    clear j0 j1 hs3k hB8 hb9
    go_wp2_with fail
    refine (HC.out _ hs9).mono ?_
    rintro e w10 ⟨rfl, hb10⟩
    have j0 := Below.keeps' hb10 k0
    have hs10 := hs9.below hb10 (Nat.le_refl _)
    have hB10 := Below.chain hB9 hb10
    clear k0 k1 hs9 hB9 hb10
    have HS := hid hs10
    have HB := hid hB10
    clear hs10 hB10 HC HG
    go_wp2_with fail
    go_loopw [11] (fun i wr => ∃ k : Nat, k ≤ fs.length ∧ i = .int .i64 k ∧ Below w10.heap.size w10 wr) (fun i _ => fs.length - (intOf i).toNat)
    case atStart => exact ⟨0, by omega, rfl, Below.refl _ _⟩
    case round =>
      obtain ⟨k, hk, rfl, hbw⟩ := hrel
      by_cases hlt : k < fs.length
      · have hkr := Below.keeps' hbw j0
        have hsw := HS.out.below hbw (Nat.le_refl _)
        have hfw := HH0.out.below (HB.out.trans (hbw.mono HB.out.size)) (Nat.le_refl _)
        obtain ⟨-, a9, c9, hv9, -, -, hx9⟩ := hfw.files
        obtain ⟨q, o, rfl, hq, hcl⟩ := hx9 k hlt
        obtain ⟨rfl, rfl⟩ : a0 = some ⟨q, o, none⟩ ∧ c0 = c9 := by simpa using hv9
        obtain ⟨e0, e1⟩ := hcl k hlt
        have hK := HK.out fs[k] (List.getElem_mem hlt)
        obtain ⟨s, b, hsb⟩ := pair_ok fs[k].1 xs
        have Hg := hid (get_any _ _ xs fs[k].1 _ _ hsb wr hsw)
        have hpair : fs[k].1 ≠ fp → s = fs[k].2 ∧ b = true := fun hne => by
          unfold getPair at hsb; rw [hK hne] at hsb
          simp only [Prod.mk.injEq, Value.string.injEq, Value.bool.injEq] at hsb
          exact ⟨(congrArg (fun x : ByteArray => x.data.toList) hsb.1).symm, hsb.2.symm⟩
        clear hcl hx9 hv9 hfw hsw hK hsb
        obtain ⟨fk, hfk⟩ : ∃ x, fs[k] = x := ⟨_, rfl⟩
        rw [hfk] at e0 e1 Hg hpair
        obtain ⟨gp, gd⟩ := fk
        clear hfk
        simp only [] at e0 e1 Hg hpair
        cases hne : (gp == fp) with
        | true =>
          clear hpair
          go_wp2_with fail
          refine Hg.out.mono ?_
          rintro e w11 ⟨rfl, hb11⟩
          have d0 := Below.keeps' hb11 e0
          have d1 := Below.keeps' hb11 e1
          have d2 := Below.keeps' hb11 hkr
          have hbx := Below.chain hbw hb11
          clear e0 e1 hkr hbw hb11
          go_wp2_with fail
          any_goals go_quiet (fail)
          any_goals go_wp2_with fail
          exact ⟨⟨k + 1, by omega, by go_num, hbx.trans (Drawn.below ⟨_, rfl⟩)⟩, by simp [intOf]; omega⟩
        | false =>
          obtain ⟨rfl, rfl⟩ := hpair (by intro e; simp [e] at hne)
          clear hpair
          go_wp2_with fail
          refine Hg.out.mono ?_
          rintro e w11 ⟨rfl, hb11⟩
          have d0 := Below.keeps' hb11 e0
          have d1 := Below.keeps' hb11 e1
          have d2 := Below.keeps' hb11 hkr
          have hbx := Below.chain hbw hb11
          clear e0 e1 hkr hbw hb11
          go_wp2_with fail
          any_goals go_quiet (fail)
          any_goals go_wp2_with fail
          exact ⟨⟨k + 1, by omega, by go_num, hbx.trans (Drawn.below ⟨_, rfl⟩)⟩, by simp [intOf]; omega⟩
      · go_wp2_with fail
        refine (fixed_any _).mono ?_
        rintro e w11 ⟨rfl, hb11⟩
        go_wp2_with fail
        go_ret
        exact ⟨rfl, Below.chain (Below.chain HB.out hbw) hb11⟩
end Go.Proofs.YtffmjjocjcomnaaDoor
