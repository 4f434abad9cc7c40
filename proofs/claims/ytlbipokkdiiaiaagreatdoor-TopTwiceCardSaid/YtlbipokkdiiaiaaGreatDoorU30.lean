/- Lemmas for TopTwice: W46. -/
import Derived.Test.YtlbipokkdiiaiaaGreatDoorU29
import Derived.Test.YtlbipokkdiiaiaaGreatDoorU19
open List renaming setIfInBounds_toArray → sA, set_cons_zero → sB, set_cons_succ → sC
namespace Go.Proofs.YtlbipokkdiiaiaaGreatDoor
open Go.RowKit Go.Proofs.YtlbipokkdiiaiaaGreatDoor.Exec
set_option maxRecDepth 100000
theorem texts_of (ss : List (List UInt8)) (h : ∀ s ∈ ss, s.length < 1000000000) (hl : (rowL ss).length ≤ 1000000000000) (W : World) :
  Calls Tryz.prog 84 #[.string (bs (rowL ss))] W fun e w' => ∃ v, e = .returned (.tuple #[v, .int .i64 0]) ∧ SliceAt w' 1 v ss.length (strCells ss) ∧ Below W.heap.size W w' ∧ ∀ k, v.ownBlock = some k → W.heap.size ≤ k := by
 have h1 := texts_row ss h
 refine (texts_any _ W hl).mono ?_
 rintro e w' ⟨v, rfl, h2, h3, h4⟩
 rw [h1] at h2
 exact ⟨v, by rw [h1]; try rfl, h2, h3, h4⟩
theorem rows_nil {α : Type} {w : World} {sz : Nat} {f : α → List Value} : RowsOf w sz f nilS [] := SliceAt.nil _ _
theorem info44 : builtInfo 44 = some ((TcM.cells ⟨⟨dg0, [], []⟩, nilS, nilS⟩).toArray, [(0, 32), (32, 1), (33, 1)]) := by kernel_rfl
theorem built44 (d : Dg) : Tryz.prog.built 44 [(0, .agg (dgc d).toArray)] = some (TcM.cells ⟨⟨d, [], []⟩, nilS, nilS⟩).toArray := by
 rw [built_of info44]
 have e : ∀ q : Dg, TcM.cells ⟨⟨q, [], []⟩, nilS, nilS⟩ = [] ++ dgc q ++ [nilS, nilS] := fun q => rfl
 rw [e, e, fill_step (i := 0) (off := 0) (size := 32) (xs := dgc d) rfl rfl (dgc_len d) rfl (dgc_len dg0)]
 rfl
theorem info54 : builtInfo 54 = some ((MdL.cells ⟨[], dg0⟩).toArray, [(0, 1), (1, 32)]) := by kernel_rfl
theorem built54 (p : List UInt8) (d : Dg) : Tryz.prog.built 54 [(0, .string (bs p)), (1, .agg (dgc d).toArray)] = some (MdL.cells ⟨p, d⟩).toArray := by
 rw [built_of info54]
 have e1 : MdL.cells ⟨[], dg0⟩ = [] ++ [Value.string (bs [])] ++ dgc dg0 := rfl
 have e2 : [] ++ [Value.string (bs p)] ++ dgc dg0 = [Value.string (bs p)] ++ dgc dg0 ++ [] := by simp
 rw [e1, fill_step (i := 0) (off := 0) (size := 1) (xs := [.string (bs p)]) rfl rfl rfl rfl rfl, e2, fill_step (i := 1) (off := 1) (size := 32) (xs := dgc d) rfl rfl (dgc_len d) rfl (dgc_len dg0)]
 rw [List.append_nil]
 rfl
theorem tc_set32 (d : Dg) (a b v : Value) : (dgc d ++ [a, b]).toArray.setIfInBounds 32 v = (dgc d ++ [v, b]).toArray := by
 apply Array.ext'
 simp [dgc_len]
theorem tc_set33 (d : Dg) (a b v : Value) : (dgc d ++ [a, b]).toArray.setIfInBounds 33 v = (dgc d ++ [a, v]).toArray := by
 apply Array.ext'
 simp [dgc_len]
theorem rd_drop (l : List RdL) (k : Nat) (h : k < l.length) : (l.drop k).flatMap rdT = rdT l[k] ++ (l.drop (k + 1)).flatMap rdT := by
 rw [List.drop_eq_getElem_cons h, List.flatMap_cons]
theorem md_drop (l : List MdL) (k : Nat) (h : k < l.length) : (l.drop k).flatMap mdT = l[k].path :: l[k].sum.1 :: (l.drop (k + 1)).flatMap mdT := by
 rw [List.drop_eq_getElem_cons h, List.flatMap_cons]
 rfl
theorem CurAt.eq {P : Nat → Prop} {ty : TypeId} {g : Nat} {w0 : World} {ss tt : List (List UInt8)} {w : World} (h : CurAt P ty g w0 ss w) (e : ss = tt) : CurAt P ty g w0 tt w := e ▸ h
set_option maxHeartbeats 8000000 in
theorem tread_any (t : TcL) (w : World) (hp : PowTab w) (he : ErrsAt w) (hc : checkT t = 0) :
  Calls Tryz.prog 88 #[.string (bs (traceB t))] w fun e w' => ∃ x : TcM, e = .returned (.tuple #[.agg x.cells.toArray, .int .i64 0]) ∧ x.t = t ∧ HeldT w' x ∧ InT (fun b => w.heap.size ≤ b ∧ b < w'.heap.size) x ∧ Below w.heap.size w w' := by
 have hg := goodT hc
 have HT := hid (fun (W : World) => texts_of (traceT t) (fun s hs => by have := traceT_small hg s hs; omega) (by have := traceB_len hg; unfold traceB at this; omega) W)
 have HP := hid (And.intro hp he)
 have HG := hid hg
 have HCK := hid hc
 obtain ⟨key, rds, mds⟩ := t
 have hrn : rds.length ≤ 500 := hg.nr
 have hon : mds.length ≤ 1000 := hg.no
 have HRZ := hid (fun (k : Nat) (h : k < rds.length) => (hg.rd rds[k] (List.getElem_mem h)).2)
 unfold traceB
 clear hp he hc hg
 go_enter Tryz.func88, Tryz.ntmps88
 go_upto_region 2 with first | (refine wl_al rt44 ?_; intro zs W0 hzs hb0 hn0 hs0) | (go_at_call 84; refine (HT.out _).mono ?_; rintro e W1 ⟨v, rfl, hsl, hb1, -⟩)
 obtain ⟨-, va, vc, rfl, -⟩ := hsl.str
 have HSL := hid hsl
 have HB1 := hid (Below.chain hb0 hb1)
 have HN0 := hid ((hb1.block _ (by omega)).trans hn0)
 have hz01 : w.heap.size < W1.heap.size := by have := hb1.size; omega
 clear hsl hb0 hn0 hs0 hb1
 go_upto_region 5 with first | (refine wl_run (r_build (built263 _ _ _) rfl (by simp only [List.map_toArray, List.map_cons, List.map_nil]; rfl)) ?_) | (refine wl_box rt263 ?_; intro W2 hb2 hn2 hs2)
 have HC2 : Hid (CurAt (fun _ => True) 263 W1.heap.size W1 (traceT ⟨key, rds, mds⟩) W2) := hid ⟨hb2, Nat.le_refl _, _, HSL.out, hn2, fun _ _ => trivial⟩
 have HB2 := hid hb2
 have hz12 : W2.heap.size = W1.heap.size + 1 := hs2
 clear hb2 hn2 hs2
 unfold traceT at HC2
 go_upto_region 6 with fail
 go_upto_region 7 with first | (go_at_call 127; refine (cdigest_c HC2.out).mono ?_; rintro e W3 ⟨rfl, hc3, hf3⟩) | (refine wl_run (r_build (built44 _) rfl (by simp only [List.map_toArray, List.map_cons, List.map_nil]; rfl)) ?_) | (refine wl_new (xs := (TcM.cells ⟨⟨key, [], []⟩, nilS, nilS⟩).toArray) rt44 (by rw [List.size_toArray]; exact TcM.len _) (HeldT.one (w := w) ⟨rows_nil, rows_nil⟩) ?_; intro W3b hb3b hn3b hs3b)
 have hz23 := hf3.size
 have HC3 := hid (hc3.keep hb3b)
 have HF3 := hid (hf3.then hb3b)
 clear hc3 hf3
 have hcnt : (rds.flatMap rdT ++ mds.flatMap mdT).length = 2 * rds.length + 2 * mds.length := by rw [List.length_append, rdT_count, mdT_count]
 have HCN := hid hcnt
 clear hcnt
 go_upto_region 8 with (go_at_call 128; refine (cnumber_c HC3.out (HP.out.1.below HB1.out) (HP.out.2.below HB1.out) (by have := HCN.out; omega) (by have := HCN.out; omega)).mono ?_; rintro e W4 ⟨rfl, hc4, hf4⟩)
 have hz34 := hf4.size
 have HN4 := hid ((hf4.block W3.heap.size (by omega) (by omega)).trans hn3b)
 have HN := hid (show w.heap.size < W1.heap.size ∧ W1.heap.size < W3.heap.size ∧ W3.heap.size < W4.heap.size ∧ rds.length ≤ 500 ∧ mds.length ≤ 1000 from ⟨by omega, by omega, by omega, hrn, hon⟩)
 have HC4 := hid hc4
 have HF14 := hid (((Foot.of_below (D := fun k => k = W1.heap.size) HB2.out).chain HF3.out).chain hf4)
 clear hc4 hf4 hn3b hb3b hs3b hz01 hz12 hz23 hz34 HC3 HF3 HC2
 go_loopw [32] (fun i wr => ∃ (k : Nat) (a : Option Addr) (c : Nat), k ≤ rds.length ∧ i = .int .i64 k ∧ CurAt (fun _ => True) 263 W1.heap.size W1 ((rds.drop k).flatMap rdT ++ mds.flatMap mdT) wr ∧ wr.heap[W3.heap.size]? = some (.cells (dgc key ++ [Value.slice a k c, nilS]).toArray 44 (0, 0)) ∧ wr.ownsRow W4.heap.size 100 34 (.slice a k c) k ((rds.take k).flatMap RdL.cells) ∧ Foot (fun b => b = W1.heap.size ∨ b = W3.heap.size) W4 wr) (fun i _ => rds.length - (intOf i).toNat)
 case atStart => exact ⟨0, none, 0, by omega, rfl, HC4.out, HN4.out, World.ownsRow_nil _ _ _ _, Foot.refl _ _⟩
 case round =>
  obtain ⟨k, a, c, hk, rfl, hcr, hbr, hor, hfr⟩ := hrel
  have HS := hid hbr
  have HO := hid hor
  have HFR := hid hfr
  have HCR := hid hcr
  have hz4r := hfr.size
  clear hcr hbr hor hfr HN4 HC4
  by_cases hlt : k < rds.length
  ·have HC := hid (HCR.out.eq (show _ = rdT rds[k] ++ ((rds.drop (k + 1)).flatMap rdT ++ mds.flatMap mdT) by rw [rd_drop rds k hlt, List.append_assoc]))
   have HZ := hid (HRZ.out k hlt)
   go_wp2_with fail
   refine wp_region_wl (fun W => W.heap[W3.heap.size]? = some (.cells (dgc key ++ [Value.slice a k c, nilS]).toArray 44 (0, 0))) 7 (by kernel_rfl) ?_
   intro Wd hbd
   have hS := (hbd.block _ (lx HS)).trans HS.out
   refine WL.tp 0 (some 34) (hi := rfl) (.inr hS) ?_
   apply Exists.intro
   refine ⟨fun W => ?_, ?_⟩
   ·go_simp
    try rfl
   try simp only [Act.put, sA, sB, sC]
   refine WL.te 1 (some 35) (hi := rfl) hS ?_
   apply Exists.intro
   refine ⟨fun W hW => ?_, ?_⟩
   ·obtain ⟨-, e1, -⟩ := TcM.parts0 (x := ⟨⟨key, [], []⟩, .slice a k c, nilS⟩) hW
    go_simp
    try rfl
   try simp only [Act.put, sA, sB, sC]
   refine WL.tp 2 (some 36) (hi := rfl) (.inr hS) ?_
   apply Exists.intro
   refine ⟨fun W => ?_, ?_⟩
   ·go_simp
    try rfl
   try simp only [Act.put, sA, sB, sC]
   refine WL.o 3 (hi := rfl) ?_
   intro K hK
   go_simp
   refine (cread_c (HC.out.keep hbd) HZ.out).mono ?_
   rintro e W5 ⟨rfl, hc5, hf5⟩
   have hS5 := (hf5.block _ (lx (hid hS)) (by have := HN.out; omega)).trans hS
   refine hK.out _ _ (.inr hS5) ?_
   clear hK K
   try simp only [Act.put, sA, sB, sC]
   refine WL.o 4 (hi := rfl) ?_
   intro K hK
   refine wp_bs (xs := (RdL.cells rds[k]).toArray) (e := 100) (sz := 34) (by_ := 56) (by omega) (by omega) (by rw [List.size_toArray]; exact RdL.len _) Tryz.underlying41 (by kernel_rfl) ?_
   intro W6 hb6 hn6 hs6
   have hS6 := (hb6.block _ (lx (hid hS5))).trans hS5
   have ho6 := owns_below (owns_keep (owns_below HO.out hbd (Nat.le_refl _)) (fun b hb => hf5.block b ((owns_below HO.out hbd (Nat.le_refl _)).lt b hb).2 (by have := (HO.out.lt b hb).1; have := HN.out; omega))) hb6 (Nat.le_refl _)
   have hz5 := hf5.size
   have hz6 := hb6.size
   have hzd := hbd.size
   obtain ⟨v7, W7, hr7, ho7, hb7, hg7, -⟩ := app_row RdL.cells (t := 41) (by_ := 56) Tryz.underlying41 (by kernel_rfl) RdL.len (by omega) (by omega) rds[k] (RdL.one _) ho6 hn6 (by have := HN.out; omega) (by have := HN.out; omega)
   obtain ⟨a7, c7, rfl⟩ := owns_form ho7
   have hS7 := (hb7.block _ (by have := HN.out; omega)).trans hS6
   refine hK.out _ _ (.inr hS6) ?_
   clear hK K
   try simp only [Act.put, sA]
   refine WL.o 5 (hi := rfl) ?_
   intro K hK
   refine wp_appT (t := 41) hr7 ?_
   refine hK.out _ _ (.inr hS7) ?_
   clear hK K
   try simp only [Act.put]
   refine WL.o 6 (hi := rfl) ?_
   intro K hK
   go_simp
   refine hK.out _ _ (.inr hS7) ?_
   clear hK K
   try simp only [Act.put, sA, sB, sC]
   refine WL.o 7 (hi := rfl) ?_
   intro K hK
   have c7' := (TcM.parts0 (x := ⟨⟨key, [], []⟩, .slice a k c, nilS⟩) hS7).2.1
   have f7 : W7.frozen? ⟨W3.heap.size, 32, none⟩ = false := Lib.frozen_of_heap hS7 32
   go_simp
   refine hK.out _ _ (.inl (by kernel_rfl)) ?_
   clear hK K
   try simp only [Act.put, sA, sB, sC]
   refine WL.d ?_
   have hfd := (((Foot.of_below (D := fun b => b = W1.heap.size ∨ b = W3.heap.size) hbd).trans hf5 fun i _ e => .inl e).then hb6)
   have hn8 := heap_setCell_same W7 W3.heap.size 32 _ 44 (.slice a7 (k + 1) c7) hS7
   rw [tc_set32] at hn8
   have ht8 := turned_cell (w := W7) (b := W3.heap.size) 32 (.slice a7 (k + 1) c7) (lx (hid hS7))
   generalize W7.setCell ⟨W3.heap.size, 32, none⟩ (.slice a7 (k + 1) c7) = W8 at *
   have hf67 : Foot (fun b => (Value.slice a k c).ownBlock = some b) W6 W7 := ⟨hg7.os, hg7.tape, hg7.output, hg7.size, fun b hb hne => hg7.block b hb (fun e => hne e.symm)⟩
   have hb67 : Below W4.heap.size W6 W7 := hb7
   have hbw : Foot (fun b => b = W1.heap.size ∨ b = W3.heap.size) W4 W8 := ((HFR.out.chain hfd).trans hf67 fun i hi e => by have := (HO.out.lt i e).1; omega).trans ht8.foot fun i _ e => .inr e
   have hc8 : CurAt (fun _ => True) 263 W1.heap.size W1 ((rds.drop (k + 1)).flatMap rdT ++ mds.flatMap mdT) W8 := by
    have h6 := hc5.keep hb6
    obtain ⟨v, h1, h2, h9⟩ := h6.v
    refine CurAt.other (r := W3.heap.size) ⟨h6.b.trans (hb67.mono (by have := HN.out; have := HB1.out.size; omega)), h6.lo, v, h1, (hb67.block _ (by have := HN.out; omega)).trans h2, h9⟩ ht8 (by have := HN.out; omega) (by have := HN.out; omega)
   have ho8 := owns_keep ho7 (fun b hb => ht8.foot.block b (ho7.lt b hb).2 (by have := (ho7.lt b hb).1; have := HN.out; omega))
   rw [show rds.take k ++ [rds[k]] = rds.take (k + 1) from (take_at _ _ hlt).symm] at ho8
   have HR := hid (And.intro hc8 (And.intro hn8 (And.intro ho8 hbw)))
   clear hc8 hn8 ho8 hbw
   go_wp2_with fail
   refine ⟨?_, by simp [intOf]; omega⟩
   (first | exact ⟨k + 1, a7, c7, by omega, by go_num, HR.out⟩ | ((repeat apply Exists.intro); exact ⟨⟨k + 1, a7, c7, by omega, by go_num, HR.out⟩, rfl⟩))
  ·obtain rfl : k = rds.length := by omega
   have hcr := HCR.out
   rw [List.drop_length, List.flatMap_nil, List.nil_append] at hcr
   have hor := HO.out
   rw [List.take_length] at hor
   generalize hrv : Value.slice a rds.length c = rv at *
   have HRV := hid hrv
   have HCM := hid hcr
   have HOR := hid hor
   clear hcr hor HCR HO hrv
   obtain ⟨Wm, hWm⟩ : ∃ W : World, W = wr := ⟨_, rfl⟩
   have hzm : wr.heap.size = Wm.heap.size := by rw [hWm]
   have HFM : Hid (Foot (fun b => b = W1.heap.size ∨ b = W3.heap.size) W4 Wm) := hid (by rw [hWm]; exact HFR.out)
   have HORM : Hid (Wm.ownsRow W4.heap.size 100 34 rv rds.length (rds.flatMap RdL.cells)) := hid (by rw [hWm]; exact HOR.out)
   have HF0 : Hid (Foot (fun b => b = W1.heap.size ∨ b = W3.heap.size) Wm wr) := hid (by rw [hWm]; exact Foot.refl _ _)
   have HZM := hid (show W4.heap.size ≤ Wm.heap.size by omega)
   clear hWm hzm hz4r
   go_wp2_with fail
   go_loopw [] (fun wr => ∃ (k : Nat) (a : Option Addr) (c : Nat), k ≤ mds.length ∧ CurAt (fun _ => True) 263 W1.heap.size W1 ((mds.drop k).flatMap mdT) wr ∧ wr.heap[W3.heap.size]? = some (.cells (dgc key ++ [rv, Value.slice a k c]).toArray 44 (0, 0)) ∧ wr.ownsRow Wm.heap.size 54 33 (.slice a k c) k ((mds.take k).flatMap MdL.cells) ∧ Foot (fun b => b = W1.heap.size ∨ b = W3.heap.size) Wm wr) (fun wr => curLen W1.heap.size wr)
   case atStart => exact ⟨0, none, 0, by omega, HCM.out, HS.out, World.ownsRow_nil _ _ _ _, HF0.out⟩
   case round =>
    clear HS HCM HF0 HFR HOR
    obtain ⟨k, a, c, hk, hcr, hbr, hor, hfr⟩ := hrel
    obtain ⟨v3, hv3, c0, c1, -, -⟩ := hcr.cells
    obtain ⟨-, a3, k3, rfl, -, -⟩ := hv3
    have hlf := hcr.left
    have HLF := hid hlf
    have HS := hid hbr
    have HO := hid hor
    have HFR := hid hfr
    have HCR := hid hcr
    have hzmr := hfr.size
    clear hcr hbr hor hfr hlf
    by_cases hlt : k < mds.length
    ·have HC := hid (HCR.out.eq (md_drop mds k hlt))
     obtain ⟨n, hn⟩ : ∃ n, ((mds.drop k).flatMap mdT).length = n := ⟨_, rfl⟩
     have hnc : n = 2 * (mds.length - k) := by rw [← hn, mdT_count, List.length_drop]
     rw [hn] at c0 HLF
     have e1 : decide (0 < (n : Int)) = true := decide_eq_true (by omega)
     have e2 : 0 < n := by omega
     have HNC := hid hnc
     clear hn hnc
     go_wp2_with fail
     refine wp_region_wl (fun W => W.heap[W3.heap.size]? = some (.cells (dgc key ++ [rv, Value.slice a k c]).toArray 44 (0, 0))) 10 (by kernel_rfl) ?_
     intro Wd hbd
     have hS := (hbd.block _ (lx HS)).trans HS.out
     refine WL.tp 0 (some 55) (hi := rfl) (.inr hS) ?_
     apply Exists.intro
     refine ⟨fun W => ?_, ?_⟩
     ·go_simp
      try rfl
     try simp only [Act.put, sA, sB, sC]
     refine WL.te 1 (some 56) (hi := rfl) hS ?_
     apply Exists.intro
     refine ⟨fun W hW => ?_, ?_⟩
     ·obtain ⟨-, -, e1⟩ := TcM.parts0 (x := ⟨⟨key, [], []⟩, rv, .slice a k c⟩) hW
      go_simp
      try rfl
     try simp only [Act.put, sA, sB, sC]
     refine WL.tp 2 (some 57) (hi := rfl) (.inr hS) ?_
     apply Exists.intro
     refine ⟨fun W => ?_, ?_⟩
     ·go_simp
      try rfl
     try simp only [Act.put, sA, sB, sC]
     refine WL.tp 4 (some 59) (hi := rfl) (.inr hS) ?_
     apply Exists.intro
     refine ⟨fun W => ?_, ?_⟩
     ·go_simp
      try rfl
     try simp only [Act.put, sA, sB, sC]
     refine WL.o 3 (hi := rfl) ?_
     intro K hK
     go_simp
     refine (ctext_c (HC.out.keep hbd)).mono ?_
     rintro e W5 ⟨rfl, hc5, hf5⟩
     have hS5 := (hf5.block _ (lx (hid hS)) (by have := HN.out; have := HZM.out; omega)).trans hS
     refine hK.out _ _ (.inr hS5) ?_
     clear hK K
     try simp only [Act.put, sA, sB, sC]
     refine WL.o 5 (hi := rfl) ?_
     intro K hK
     go_simp
     refine (cdigest_c hc5).mono ?_
     rintro e W5b ⟨rfl, hc5b, hf5b⟩
     have hS5b := (hf5b.block _ (lx (hid hS5)) (by have := HN.out; have := HZM.out; omega)).trans hS5
     refine hK.out _ _ (.inr hS5b) ?_
     clear hK K
     try simp only [Act.put, sA, sB, sC]
     refine WL.tp 6 (some 61) (hi := rfl) (.inr hS5b) ⟨_, fun W => r_build (built54 _ _) rfl (by simp only [List.map_toArray, List.map_cons, List.map_nil]; rfl), ?_⟩
     try simp only [Act.put, sA, sB, sC]
     refine WL.o 7 (hi := rfl) ?_
     intro K hK
     refine wp_bs (xs := (MdL.cells ⟨mds[k].path, mds[k].sum⟩).toArray) (e := 54) (sz := 33) (by_ := 48) (by omega) (by omega) (by rw [List.size_toArray]; exact MdL.len _) Tryz.underlying42 (by kernel_rfl) ?_
     intro W6 hb6 hn6 hs6
     have hS6 := (hb6.block _ (lx (hid hS5b))).trans hS5b
     have hf55 := hf5.chain hf5b
     have ho6 := owns_below (owns_keep (owns_below HO.out hbd (Nat.le_refl _)) (fun b hb => hf55.block b ((owns_below HO.out hbd (Nat.le_refl _)).lt b hb).2 (by have := (HO.out.lt b hb).1; have := HN.out; have := HZM.out; omega))) hb6 (Nat.le_refl _)
     have hz5 := hf55.size
     have hz6 := hb6.size
     have hzd := hbd.size
     obtain ⟨v7, W7, hr7, ho7, hb7, hg7, -⟩ := app_row MdL.cells (t := 42) (by_ := 48) Tryz.underlying42 (by kernel_rfl) MdL.len (by omega) (by omega) mds[k] (MdL.one _) ho6 hn6 (by have := HN.out; have := HZM.out; omega) (by have := HN.out; have := HZM.out; omega)
     obtain ⟨a7, c7, rfl⟩ := owns_form ho7
     have hS7 := (hb7.block _ (by have := HN.out; have := HZM.out; omega)).trans hS6
     refine hK.out _ _ (.inr hS6) ?_
     clear hK K
     try simp only [Act.put, sA]
     refine WL.o 8 (hi := rfl) ?_
     intro K hK
     refine wp_appT (t := 42) hr7 ?_
     refine hK.out _ _ (.inr hS7) ?_
     clear hK K
     try simp only [Act.put]
     refine WL.o 9 (hi := rfl) ?_
     intro K hK
     go_simp
     refine hK.out _ _ (.inr hS7) ?_
     clear hK K
     try simp only [Act.put, sA, sB, sC]
     refine WL.o 10 (hi := rfl) ?_
     intro K hK
     have c7' := (TcM.parts0 (x := ⟨⟨key, [], []⟩, rv, .slice a k c⟩) hS7).2.2
     have f7 : W7.frozen? ⟨W3.heap.size, 33, none⟩ = false := Lib.frozen_of_heap hS7 33
     go_simp
     refine hK.out _ _ (.inl (by kernel_rfl)) ?_
     clear hK K
     try simp only [Act.put, sA, sB, sC]
     refine WL.d ?_
     have hfd := (((Foot.of_below (D := fun b => b = W1.heap.size ∨ b = W3.heap.size) hbd).trans hf55 fun i _ e => .inl e).then hb6)
     have hn8 := heap_setCell_same W7 W3.heap.size 33 _ 44 (.slice a7 (k + 1) c7) hS7
     rw [tc_set33] at hn8
     have ht8 := turned_cell (w := W7) (b := W3.heap.size) 33 (.slice a7 (k + 1) c7) (lx (hid hS7))
     generalize W7.setCell ⟨W3.heap.size, 33, none⟩ (.slice a7 (k + 1) c7) = W8 at *
     have hf67 : Foot (fun b => (Value.slice a k c).ownBlock = some b) W6 W7 := ⟨hg7.os, hg7.tape, hg7.output, hg7.size, fun b hb hne => hg7.block b hb (fun e => hne e.symm)⟩
     have hb67 : Below Wm.heap.size W6 W7 := hb7
     have hbw : Foot (fun b => b = W1.heap.size ∨ b = W3.heap.size) Wm W8 := ((HFR.out.chain hfd).trans hf67 fun i hi e => by have := (HO.out.lt i e).1; omega).trans ht8.foot fun i _ e => .inr e
     have hc8 : CurAt (fun _ => True) 263 W1.heap.size W1 ((mds.drop (k + 1)).flatMap mdT) W8 := by
      have h6 := hc5b.keep hb6
      obtain ⟨v, h1, h2, h9⟩ := h6.v
      refine CurAt.other (r := W3.heap.size) ⟨h6.b.trans (hb67.mono (by have := HN.out; have := HB1.out.size; have := HZM.out; omega)), h6.lo, v, h1, (hb67.block _ (by have := HN.out; have := HZM.out; omega)).trans h2, h9⟩ ht8 (by have := HN.out; omega) (by have := HN.out; omega)
     have ho8 := owns_keep ho7 (fun b hb => ht8.foot.block b (ho7.lt b hb).2 (by have := (ho7.lt b hb).1; have := HN.out; have := HZM.out; omega))
     rw [show mds.take k ++ [mds[k]] = mds.take (k + 1) from (take_at _ _ hlt).symm] at ho8
     have hl8 := hc8.left
     rw [mdT_count, List.length_drop] at hl8
     have HR := hid (And.intro hc8 (And.intro hn8 (And.intro ho8 hbw)))
     have HL := hid (show curLen W1.heap.size W8 < curLen W1.heap.size wr by rw [HLF.out, hl8, HNC.out]; omega)
     clear hc8 hn8 ho8 hbw hl8
     go_wp2_with fail
     (first | exact ⟨⟨k + 1, a7, c7, by omega, HR.out⟩, HL.out⟩ | ((repeat apply Exists.intro); exact ⟨⟨⟨k + 1, a7, c7, by omega, HR.out⟩, HL.out⟩, rfl⟩))
    ·obtain rfl : k = mds.length := by omega
     have hor := HO.out
     rw [List.take_length] at hor
     have hrw := rows_keep (rows_of_owns HORM.out (by unfold maxLen; have := HN.out; omega)) hzmr (fun b hb _ => HFR.out.block b (HORM.out.lt b hb).2 (by have := (HORM.out.lt b hb).1; have := HN.out; omega))
     have HH : Hid (HeldT wr ⟨⟨key, rds, mds⟩, rv, .slice a mds.length c⟩) := hid ⟨hrw, rows_of_owns hor (by show mds.length ≤ maxLen; unfold maxLen; have := HN.out; omega)⟩
     have HCT := hid (fun (W : World) (hb : Below wr.heap.size wr W) => show Calls Tryz.prog 15 #[.agg (dgc key ++ [rv, .slice a mds.length c]).toArray] W fun e w' => e = .returned (.int .i64 0) ∧ Below W.heap.size W w' from HCK.out ▸ checkT_any ⟨⟨key, rds, mds⟩, rv, .slice a mds.length c⟩ W (HH.out.keep hb) (smallT HCK.out))
     have hn0 : wr.heap[w.heap.size]? = some (.cells zs 44 (0, 0)) := (HFR.out.block _ (by have := HN.out; have := HZM.out; omega) (by have := HN.out; omega)).trans ((HFM.out.block _ (by have := HN.out; omega) (by have := HN.out; omega)).trans ((HF14.out.block _ (by have := HN.out; omega) (by have := HN.out; omega)).trans HN0.out))
     have h33 : (dgc key ++ [rv, .slice a mds.length c]).length = 34 := by simp [dgc_len]
     have e0 : ((mds.drop mds.length).flatMap mdT).length = 0 := by rw [List.drop_length]; rfl
     rw [e0] at c0
     have HOV := hid (hor)
     clear hor hrw
     have hz0 := hzmr
     go_wp2_with first | (refine wl_ld rt44 (range_of_heap HS.out) h33 ?_) | (go_at_call 15; refine (HCT.out _ (Below.refl _ _)).mono ?_; rintro e W9 ⟨rfl, hb9⟩; have hn9 := (hb9.block _ (lx HS)).trans HS.out; have hn90 := (hb9.block _ (lx (hid hn0))).trans hn0) | (refine wl_ld rt44 (range_of_heap hn9) h33 ?_) | (refine wl_st (xs := (dgc key ++ [rv, Value.slice a mds.length c]).toArray) rt44 hn90 hzs (by rw [List.size_toArray]; exact h33) (HH.out.one) ?_; intro W10 ht10 hn10 hs10)
     have hz9 := hb9.size
     have hin : ∀ b, (rv.ownBlock = some b ∨ (Value.slice a mds.length c).ownBlock = some b) → W4.heap.size ≤ b ∧ b < wr.heap.size := fun b hb => by
      rcases hb with hb | hb
      ·have := HORM.out.lt b hb; omega
      ·have := HOV.out.lt b hb; have := HZM.out; omega
     refine br2 _ hn10 ⟨⟨⟨key, rds, mds⟩, rv, .slice a mds.length c⟩, rfl, rfl, (HH.out.keep hb9).stay ht10.foot.size (fun b hb hl => ht10.foot.block b hl (by have := hin b hb; have := HN.out; omega)), ⟨fun b hb => ?_, fun b hb => ?_⟩, ?_⟩ (hu := Tryz.underlying44) (hi := by rw [List.size_toArray, h33]; kernel_rfl)
     ·have := hin b (.inl hb); have := HN.out; omega
     ·have := hin b (.inr hb); have := HN.out; omega
     ·have hN := HN.out
      have hB1 := HB1.out
      have hZM := HZM.out
      have hz1 := hB1.size
      refine hB1.trans ((HF14.out.below hz1 (fun i e => by omega)).trans ((HFM.out.below (by omega) (fun i e => by omega)).trans ((HFR.out.below (by omega) (fun i e => by omega)).trans ((hb9.mono (by omega)).trans (ht10.below (by omega))))))
end Go.Proofs.YtlbipokkdiiaiaaGreatDoor
