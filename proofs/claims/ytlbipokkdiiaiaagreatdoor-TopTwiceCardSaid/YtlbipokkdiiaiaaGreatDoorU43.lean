/- Lemmas for TopTwice: W75. -/
import Derived.Test.YtlbipokkdiiaiaaGreatDoorU35
import Derived.Test.YtlbipokkdiiaiaaGreatDoorU30
import Derived.Test.YtlbipokkdiiaiaaGreatDoorU42
open List renaming setIfInBounds_toArray → sA, set_cons_zero → sB, set_cons_succ → sC
namespace Go.Proofs.YtlbipokkdiiaiaaGreatDoor
open Go.RowKit Go.Proofs.YtlbipokkdiiaiaaGreatDoor.Exec
set_option maxRecDepth 100000
def ToldAt (w : World) (tb : Nat) (u : TcL) (v : Value) : Prop := ∃ x : TcM, x.t = u ∧ RowsOf w 34 TcM.cells v [x] ∧ HeldT w x ∧ (∀ b, v.ownBlock = some b → tb < b) ∧ InT (fun b => tb < b) x
theorem ToldAt.foot {w w' : World} {tb : Nat} {u : TcL} {v : Value} (h : ToldAt w tb u v) (hf : Foot (fun j => j = tb) w w') : ToldAt w' tb u v := by
 obtain ⟨x, h1, h2, h3, h4, h5⟩ := h
 exact ⟨x, h1, rows_keep h2 hf.size fun k hk hl => hf.block k hl (by have := h4 k hk; omega), h3.stay hf.size fun k hk hl => hf.block k hl (by rcases hk with hk | hk; have := h5.1 k hk; omega; have := h5.2 k hk; omega), h4, h5⟩
theorem ask1_check (i : Nat) (d : Dg) : checkM ⟨1, i, d, [], [], 0⟩ = 0 := by
 have h1 := check_id (askM 1 d).l i
 rw [ask_check (.inl rfl)] at h1
 exact h1
theorem ask2_check (i : Nat) (d : Dg) : checkM ⟨2, i, d, [], [], 0⟩ = 0 := by
 have h1 := check_id (askM 2 d).l i
 rw [ask_check (.inr rfl)] at h1
 exact h1
def intV (x : Int) : List Value := [.int .i64 x]
theorem intC_flat (f n : Nat) : (List.replicate n (f : Int)).flatMap intV = intC f n := by
 induction n with
 | zero => rfl
 | succ n ih => rw [List.replicate_succ, List.flatMap_cons, ih]; rfl
def pathI (i : Nat) : List UInt8 := [111, 117, 116, 47, 97 + UInt8.ofNat i]
def filesL (dl : List (List UInt8)) : List (List UInt8 × List UInt8) := dl.zipIdx.map fun p => (pathI p.2, p.1)
theorem filesL_len (dl : List (List UInt8)) : (filesL dl).length = dl.length := by simp [filesL]
theorem filesL_get (dl : List (List UInt8)) (k : Nat) (h : k < dl.length) : (filesL dl)[k]'(by rw [filesL_len]; exact h) = (pathI k, dl[k]) := by simp [filesL]
theorem filesL_snd (dl : List (List UInt8)) : (filesL dl).map (·.2) = dl := by
 unfold filesL
 rw [List.map_map]
 exact List.zipIdx_map_fst 0 dl
theorem filesL_take (dl : List (List UInt8)) (k : Nat) (h : k < dl.length) : (filesL dl).take (k + 1) = (filesL dl).take k ++ [(pathI k, dl[k])] := by
 rw [List.take_add_one, List.getElem?_eq_getElem (by rw [filesL_len]; exact h), filesL_get dl k h]
 rfl
set_option maxHeartbeats 16000000 in
theorem law_twice (t : TcM) (v1 : Value) (dl : List (List UInt8)) (W : World) (ht : HeldT W t) (hsm : SmallT t.t) (hd : SliceAt W 1 v1 dl.length (strCells dl)) (hdl : ∀ s ∈ dl, s.length ≤ 140737488351232) (hp : PowTab W) (he : ErrsAt W) :
  Calls Tryz.prog 4 #[t.val, v1] W fun e W' => e = .returned (.bool true) ∧ Below W.heap.size W W' := by
 have HSP := hid (fun (V : World) => speaks_any V)
 have HAP := hid (fun (V : World) (hb : Below W.heap.size W V) => apart_any v1 dl.length dl V (hd.below hb (Nat.le_refl _)) hdl)
 have HD := hid hd
 obtain ⟨-, va, vc, rfl, hvc, hvm, hx⟩ := hd.str
 obtain ⟨ra, rc, hrv, hrc, hrm, -, -⟩ := ht.1.out RdL.len (by omega)
 unfold maxLen at hvm hrm
 have HX := hid hx
 have HT := hid ht
 have HSM := hid hsm
 have HP := hid (And.intro hp he)
 have HRV := hid hrv
 unfold TcM.val
 clear hd hx ht hsm hp he hrv hdl
 go_enter Tryz.func4, Tryz.ntmps4
 go_upto_region 1 with (refine wl_box rt44 ?_; intro W0 hb0 hn0 hs0)
 have c32 := (TcM.parts0 hn0).2.1
 rw [HRV.out] at c32
 by_cases hbig : 20 < dl.length ∨ 20 < t.t.reads.length ∨ apartL (fun _ => none) dl = false
 ·have hend : ∀ V, Below W0.heap.size W0 V → Below W.heap.size W V := fun V hb => Below.chain hb0 hb
  by_cases h1 : 20 < dl.length
  ·have E1 : decide (20 < (dl.length : Int)) = true := decide_eq_true (by omega)
   go_wp2_with (go_at_call 7; refine (HSP.out _).mono ?_; rintro e w1 ⟨rfl, hb1⟩)
   go_ret
   exact ⟨rfl, hend _ hb1⟩
  ·have E1 : decide (20 < (dl.length : Int)) = false := decide_eq_false (by omega)
   by_cases h2 : 20 < t.t.reads.length
   ·have E2 : decide (20 < (t.t.reads.length : Int)) = true := decide_eq_true (by omega)
    go_wp2_with (go_at_call 7; refine (HSP.out _).mono ?_; rintro e w1 ⟨rfl, hb1⟩)
    go_ret
    exact ⟨rfl, hend _ hb1⟩
   ·have E2 : decide (20 < (t.t.reads.length : Int)) = false := decide_eq_false (by omega)
    have h3 : apartL (fun _ => none) dl = false := by
     rcases hbig with h | h | h
     ·exact absurd h h1
     ·exact absurd h h2
     ·exact h
    rw [h3] at HAP
    go_wp2_with first | (go_at_call 13; refine (HAP.out _ hb0).mono ?_; rintro e w2 ⟨rfl, hb2⟩) | (go_at_call 7; refine (HSP.out _).mono ?_; rintro e w1 ⟨rfl, hb1⟩)
    go_ret
    exact ⟨rfl, hend _ (Below.chain hb2 hb1)⟩
 ·have h1 : ¬ 20 < dl.length := fun h => hbig (.inl h)
  have h2 : ¬ 20 < t.t.reads.length := fun h => hbig (.inr (.inl h))
  have h3 : apartL (fun _ => none) dl = true := by
   cases h : apartL (fun _ => none) dl with
   | true => rfl
   | false => exact absurd (.inr (.inr h)) hbig
  have E1 : decide (20 < (dl.length : Int)) = false := decide_eq_false (by omega)
  have E2 : decide (20 < (t.t.reads.length : Int)) = false := decide_eq_false (by omega)
  have HA := hid (apartL_ok dl _ h3).2
  rw [h3] at HAP
  go_upto_region 4 with first | (go_at_call 13; refine (HAP.out _ hb0).mono ?_; rintro e w2 ⟨rfl, hb2⟩)
  have hn2 := (hb2.block _ (by omega)).trans hn0
  have HB2 := hid (Below.chain hb0 hb2)
  have hzW : W.heap.size < w2.heap.size := by have := hb2.size; omega
  have f33 : w2.frozen? ⟨W.heap.size, 33, none⟩ = false := Lib.frozen_of_heap hn2 33
  have c33 := (TcM.parts0 hn2).2.2
  go_upto_region 5 with fail
  have hn3 : (w2.setCell ⟨W.heap.size, 33, none⟩ (.slice none 0 0)).heap[W.heap.size]? = some (.cells (dgc t.t.key ++ [t.rv, Value.slice none 0 0]).toArray 44 (0, 0)) := by
   rw [← tc_set33 t.t.key t.rv t.ov (.slice none 0 0)]
   exact heap_setCell_same w2 W.heap.size 33 _ 44 _ hn2
  have ht3 := turned_cell (w := w2) (b := W.heap.size) 33 (.slice none 0 0) (lx (hid hn2))
  generalize w2.setCell ⟨W.heap.size, 33, none⟩ (.slice none 0 0) = V at *
  have HV := hid (HB2.out.trans (ht3.below (Nat.le_refl _)))
  have HN3 := hid hn3
  have HZ := hid (show W.heap.size < V.heap.size from lx HN3)
  have hzWV : W.heap.size < V.heap.size := HZ.out
  clear hb0 hn0 hs0 c32 hb2 hn2 hzW f33 c33 ht3 hn3 HAP E1 E2 hbig h3
  go_wp2_with fail
  go_loopw [44, 5] (fun i s wr => ∃ (k : Nat) (a : Option Addr) (q : Nat) (a' : Option Addr) (q' : Nat), k ≤ dl.length ∧ i = .int .i64 k ∧ s = .slice a k q ∧ (∀ x ∈ dl.take k, x.length ≤ 1000) ∧ wr.ownsRow V.heap.size 51 2 (.slice a k q) k (((filesL dl).take k).flatMap fileC) ∧ wr.ownsRow V.heap.size 54 33 (.slice a' k q') k ((((filesL dl).take k).map madeOf).flatMap MdL.cells) ∧ (∀ b, (Value.slice a k q).ownBlock = some b → (Value.slice a' k q').ownBlock ≠ some b) ∧ wr.heap[W.heap.size]? = some (.cells (dgc t.t.key ++ [t.rv, Value.slice a' k q']).toArray 44 (0, 0)) ∧ Below W.heap.size W wr ∧ V.heap.size ≤ wr.heap.size) (fun i _ _ => dl.length - (intOf i).toNat)
  case atStart => exact ⟨0, none, 0, none, 0, by omega, rfl, rfl, fun x hx => (by cases hx), World.ownsRow_nil _ _ _ _, World.ownsRow_nil _ _ _ _, fun b hb => (by cases hb), HN3.out, HV.out, Nat.le_refl _⟩
  case round =>
   obtain ⟨k, a, q, a', q', hk, rfl, rfl, hle, ho1, ho2, hne, hnr, hbr, hzr⟩ := hrel
   have HO1 := hid ho1
   have HO2 := hid ho2
   have HNE := hid hne
   have HNR := hid hnr
   have HBR := hid hbr
   have HLE := hid hle
   clear ho1 ho2 hne hnr hbr hle HN3
   by_cases hlt : k < dl.length
   ·obtain ⟨b, off, rfl, hbl, hcl⟩ := HX.out k hlt
    have L0 := Below.keeps HBR.out (hcl k hlt)
    have HTK := hid (filesL_take dl k hlt)
    have HTX := hid (show dl.take (k + 1) = dl.take k ++ [dl[k]] by rw [List.take_add_one, List.getElem?_eq_getElem hlt]; rfl)
    generalize dl[k] = x at *
    by_cases hx : 1000 < x.length
    ·have E := decide_eq_true (show 1000 < (x.length : Int) by omega)
     clear hcl
     go_wp2_with (go_at_call 7; refine (HSP.out _).mono ?_; rintro e w1 ⟨rfl, hb1⟩)
     go_ret
     exact ⟨rfl, HBR.out.trans (hb1.mono HBR.out.size)⟩
    ·have E := decide_eq_false (show ¬ 1000 < (x.length : Int) by omega)
     clear hcl
     have hcv : ∀ (w : World) (c : Nat) (fr : Nat × Nat), (convert 49 9 (.slice (some ⟨w.heap.size, 0, none⟩) 1 c)).run Tryz.prog (w.alloc (.cells #[.int .u8 (97 + (k : Int))] 5 fr)) = .ok (.string (bs [UInt8.ofNat (97 + k)])) (w.alloc (.cells #[.int .u8 (97 + (k : Int))] 5 fr)) := fun w c fr => by
      rw [run_conv_one 49 9 5 5 Tryz.underlying49 Tryz.underlying5 Tryz.underlying9, show (97 + (k : Int)).toNat = 97 + k by omega]
     go_upto_region 11 with fail
     have hbA := below_new wr (.cells #[.int .u8 (97 + (k : Int))] 5)
     generalize wr.alloc (.cells #[.int .u8 (97 + (k : Int))] 5) = WA at *
     have HA1 := hid hbA
     have HOA := hid (owns_below HO1.out hbA (Nat.le_refl _))
     clear hcv hbA
     go_upto_region 12 with first | (refine wl_bs (xs := (fileC (pathI k, x)).toArray) (e := 51) (sz := 2) (by_ := 32) (by omega) (by omega) rfl Tryz.underlying48 (by kernel_rfl) ?_; intro W4 hb4 hn4 hs4; obtain ⟨v5, W5, hap, ho5, hb5, hg5, hat5⟩ := app_row fileC (t := 48) (by_ := 32) Tryz.underlying48 (by kernel_rfl) file_len (by omega) (by omega) (pathI k, x) (file_one _) (owns_below HOA.out hb4 (Nat.le_refl _)) hn4 (by have := HA1.out.size; have := hb4.size; omega) (by omega); obtain ⟨a5, q5, rfl⟩ := owns_form ho5) | (at_builtin; refine Lib.wpList_append_run _ rfl _ _ _ _ rfl _ _ rfl rfl _ _ (hap _) ?_)
     have hb14 := Below.chain HA1.out hb4
     have hz4 := hb14.size
     have hz5 := hg5.size
     have hS5 := (hb5.block _ (by omega)).trans ((hb14.block _ (lx HNR)).trans HNR.out)
     have HS := hid hS5
     have HQ1 := hid ho5
     have HQ2 := hid (owns_keep (owns_below HO2.out hb14 (Nat.le_refl _)) (fun b hb => hg5.block b ((owns_below HO2.out hb14 (Nat.le_refl _)).lt b hb).2 (fun e => HNE.out b e.symm hb)))
     have HB5 := hid ((hb14.mono hzr).trans hb5)
     have HN := hid (show W.heap.size < V.heap.size ∧ V.heap.size ≤ wr.heap.size ∧ wr.heap.size ≤ W5.heap.size from ⟨hzWV, hzr, by omega⟩)
     have HN5 := hid (fun b (hb : (Value.slice a5 (k + 1) q5).ownBlock = some b) => show (Value.slice a' k q').ownBlock ≠ some b from fun e => by
      rcases hat5 with h | h
      ·exact HNE.out b (h ▸ hb) e
      ·have h1 := (HO2.out.lt b e).2
       have h2 : some W4.heap.size = some b := h ▸ hb
       have h3 := Option.some.inj h2
       omega)
     clear hb4 hn4 hs4 hap ho5 hb5 hg5 hat5 hb14 hS5 HO1 HO2 HOA HNR HA1 hz4 hz5
     go_wp2_with fail
     refine wp_region_wl (fun V' => V'.heap[W.heap.size]? = some (.cells (dgc t.t.key ++ [t.rv, Value.slice a' k q']).toArray 44 (0, 0))) 9 (by kernel_rfl) ?_
     intro Wd hbd
     have hS := (hbd.block _ (lx HS)).trans HS.out
     refine WL.tp 0 (some 65) (hi := rfl) (.inr hS) ?_
     apply Exists.intro
     refine ⟨fun W => ?_, ?_⟩
     ·go_simp
      try rfl
     try simp only [Act.put, sA, sB, sC]
     refine WL.te 1 (some 66) (hi := rfl) hS ?_
     apply Exists.intro
     refine ⟨fun W hW => ?_, ?_⟩
     ·have e1 := (TcM.parts0 (x := ⟨⟨t.t.key, [], []⟩, t.rv, .slice a' k q'⟩) hW).2.2
      go_simp
      try rfl
     try simp only [Act.put, sA, sB, sC]
     refine WL.tp 2 (some 67) (hi := rfl) (.inr hS) ?_
     apply Exists.intro
     refine ⟨fun W => ?_, ?_⟩
     ·go_simp
      try rfl
     try simp only [Act.put, sA, sB, sC]
     refine WL.tp 3 (some 68) (hi := rfl) (.inr hS) ?_
     apply Exists.intro
     refine ⟨fun W => ?_, ?_⟩
     ·go_simp
      try rfl
     try simp only [Act.put, sA, sB, sC]
     refine WL.o 4 (hi := rfl) ?_
     intro K hK
     go_simp
     refine (topsum_any x _ (by omega)).mono ?_
     rintro e W6 ⟨rfl, hb6⟩
     have hS6 := (hb6.block _ (lx (hid hS))).trans hS
     refine hK.out _ _ (.inr hS6) ?_
     clear hK K
     try simp only [Act.put, sA, sB, sC]
     refine WL.tp 5 (some 70) (hi := rfl) (.inr hS6) ⟨_, fun W => r_build (built54 _ _) rfl (by simp only [List.map_toArray, List.map_cons, List.map_nil]; rfl), ?_⟩
     try simp only [Act.put, sA, sB, sC]
     refine WL.o 6 (hi := rfl) ?_
     intro K hK
     refine wp_bs (xs := (MdL.cells (madeOf (pathI k, x))).toArray) (e := 54) (sz := 33) (by_ := 48) (by omega) (by omega) (by rw [List.size_toArray]; exact MdL.len _) Tryz.underlying42 (by kernel_rfl) ?_
     intro W7 hb7 hn7 hs7
     have hS7 := (hb7.block _ (lx (hid hS6))).trans hS6
     have ho7 := owns_below (owns_below (owns_below HQ2.out hbd (Nat.le_refl _)) hb6 (Nat.le_refl _)) hb7 (Nat.le_refl _)
     have hz6 := hb6.size
     have hz7 := hb7.size
     have hzd := hbd.size
     obtain ⟨v8, W8, hr8, ho8, hb8, hg8, hat8⟩ := app_row MdL.cells (t := 42) (by_ := 48) Tryz.underlying42 (by kernel_rfl) MdL.len (by omega) (by omega) (madeOf (pathI k, x)) (MdL.one _) ho7 hn7 (by have := HN.out; omega) (by omega)
     obtain ⟨a8, c8, rfl⟩ := owns_form ho8
     have hS8 := (hb8.block _ (by have := HN.out; omega)).trans hS7
     refine hK.out _ _ (.inr hS7) ?_
     clear hK K
     try simp only [Act.put, sA]
     refine WL.o 7 (hi := rfl) ?_
     intro K hK
     refine wp_appT (t := 42) hr8 ?_
     refine hK.out _ _ (.inr hS8) ?_
     clear hK K
     try simp only [Act.put]
     refine WL.o 8 (hi := rfl) ?_
     intro K hK
     go_simp
     refine hK.out _ _ (.inr hS8) ?_
     clear hK K
     try simp only [Act.put, sA, sB, sC]
     refine WL.o 9 (hi := rfl) ?_
     intro K hK
     have c8' := (TcM.parts0 (x := ⟨⟨t.t.key, [], []⟩, t.rv, .slice a' k q'⟩) hS8).2.2
     have f8 : W8.frozen? ⟨W.heap.size, 33, none⟩ = false := Lib.frozen_of_heap hS8 33
     go_simp
     refine hK.out _ _ (.inl (by kernel_rfl)) ?_
     clear hK K
     try simp only [Act.put, sA, sB, sC]
     refine WL.d ?_
     have hn9 := heap_setCell_same W8 W.heap.size 33 _ 44 (.slice a8 (k + 1) c8) hS8
     rw [tc_set33] at hn9
     have ht9 := turned_cell (w := W8) (b := W.heap.size) 33 (.slice a8 (k + 1) c8) (lx (hid hS8))
     generalize W8.setCell ⟨W.heap.size, 33, none⟩ (.slice a8 (k + 1) c8) = W9 at *
     have hz8 := hg8.size
     have hz9 := ht9.foot.size
     have HR1 := hid (owns_keep (owns_keep (owns_below (owns_below (owns_below HQ1.out hbd (Nat.le_refl _)) hb6 (Nat.le_refl _)) hb7 (Nat.le_refl _)) (fun b hb => hg8.block b ((owns_below (owns_below (owns_below HQ1.out hbd (Nat.le_refl _)) hb6 (Nat.le_refl _)) hb7 (Nat.le_refl _)).lt b hb).2 (fun e => HN5.out b hb e.symm))) (fun b hb => ht9.foot.block b (by have := (HQ1.out.lt b hb).2; omega) (by have := (HQ1.out.lt b hb).1; have := HN.out; omega)))
     have HR2 := hid (owns_keep ho8 (fun b hb => ht9.foot.block b (ho8.lt b hb).2 (by have := (ho8.lt b hb).1; have := HN.out; omega)))
     have HR3 := hid (fun b (hb : (Value.slice a5 (k + 1) q5).ownBlock = some b) => show (Value.slice a8 (k + 1) c8).ownBlock ≠ some b from fun e => by
      rcases hat8 with h | h
      ·exact HN5.out b hb (h ▸ e)
      ·have h1 := (HQ1.out.lt b hb).2
       have h2 : some W7.heap.size = some b := h ▸ e
       have h3 := Option.some.inj h2
       omega)
     have HR4 := hid (show Below W.heap.size W W9 from HBR.out.trans ((HB5.out.mono (by omega)).trans ((hbd.mono (by have := HN.out; omega)).trans ((hb6.mono (by have := HN.out; omega)).trans ((hb7.mono (by have := HN.out; omega)).trans ((hb8.mono (by omega)).trans (ht9.below (Nat.le_refl _))))))))
     have HR5 := hid (And.intro hn9 (show V.heap.size ≤ W9.heap.size by have := HN.out; omega))
     have HR6 := hid (show ∀ y ∈ dl.take (k + 1), y.length ≤ 1000 from fun y hy => by
      rw [HTX.out, List.mem_append, List.mem_singleton] at hy
      rcases hy with hy | rfl
      ·exact HLE.out y hy
      ·omega)
     clear hbd hb6 hb7 hb8 hg8 ho8 hr8 hat8 hS8 hn9 ht9 hS hS6 hS7 hn7
     go_wp2_with fail
     refine ⟨⟨k + 1, a5, q5, a8, c8, by omega, by go_num, rfl, HR6.out, ?_, ?_, HR3.out, HR5.out.1, HR4.out, HR5.out.2⟩, by simp [intOf]; omega⟩
     ·rw [HTK.out]; exact HR1.out
     ·rw [HTK.out, List.map_append]; exact HR2.out
   ·obtain rfl : k = dl.length := by omega
    have hfull : (filesL dl).take dl.length = filesL dl := List.take_of_length_le (by rw [filesL_len]; exact Nat.le_refl _)
    rw [hfull] at HO1 HO2
    have HL1 := hid (show ∀ x ∈ dl, x.length ≤ 1000 from fun x hx => HLE.out x (by rw [List.take_length]; exact hx))
    obtain ⟨T, hT⟩ : ∃ T : TcM, T = ⟨⟨t.t.key, t.t.reads, (filesL dl).map madeOf⟩, t.rv, .slice a' dl.length q'⟩ := ⟨_, rfl⟩
    have hTH : HeldT wr T := by
     rw [hT]
     exact ⟨HT.out.1.below HBR.out (Nat.le_refl _), rows_of_owns (by rw [List.length_map, filesL_len]; exact HO2.out) (by rw [List.length_map, filesL_len]; unfold maxLen; omega)⟩
    have hTS : SmallT T.t := by
     rw [hT]
     refine ⟨HSM.out.1, fun m hm => ?_⟩
     simp only [List.mem_map] at hm
     obtain ⟨y, hy, rfl⟩ := hm
     unfold filesL at hy
     simp only [List.mem_map] at hy
     obtain ⟨z, -, rfl⟩ := hy
     show (pathI z.2).length ≤ _
     simp [pathI]
    have hTR : InE (fun j => j < wr.heap.size) T := by
     intro j hj
     rcases hj with ⟨h1, h2⟩ | ⟨h1, h2⟩
     ·exact rows_in RdL.len (by omega) hTH.1 h1 j h2
     ·exact rows_in MdL.len (by omega) hTH.2 h1 j h2
    have hTN : wr.heap[W.heap.size]? = some (.cells T.cells.toArray 44 (0, 0)) := by rw [hT]; exact HNR.out
    have HTT := hid (And.intro hTH (And.intro hTS (And.intro hTR hTN)))
    have HTK := hid (show T.t.key = t.t.key ∧ T.t.outs = (filesL dl).map madeOf by rw [hT]; exact ⟨rfl, rfl⟩)
    have HROW := hid (rows_of_owns (f := fileC) (l := filesL dl) (v := .slice a dl.length q) (by rw [filesL_len]; exact HO1.out) (by rw [filesL_len]; unfold maxLen; omega))
    have HOWN := hid (fun b (hb : (Value.slice a dl.length q).ownBlock = some b) => HO1.out.lt b hb)
    have HCK := hid (checkT_any T wr hTH hTS)
    unfold TcM.val at HCK
    clear hfull HO1 HO2 hT hTH hTS hTR hTN HNR HNE HLE HT HSM HRV HX hlt
    by_cases hck : checkT T.t = 0
    ·have E := neF hck
     have HK0 := hid hck
     rw [hck] at HCK
     clear hck
     go_upto_region 16 with first | (refine wl_ld rt44 (range_of_heap HTT.out.2.2.2) (TcM.len _) ?_) | (go_at_call 15; refine (HCK.out).mono ?_; rintro e w4 ⟨rfl, hb4⟩)
     have HB4 := hid hb4
     clear hb4 HCK E
     go_wp2_with fail
     obtain ⟨V2, hV2, hbV, hnt, hni⟩ := an2 w4 (.cells #[.slice none 0 0, .slice none 0 0] 56) (.cells #[.int .i64 0, .int .i64 2] 3)
     rw [← hV2.out]
     have hzV : w4.heap.size + 1 < V2.heap.size := lx (hid hni)
     have hz4 := HB4.out.size
     have HBV := hid hbV
     have HNI := hid hni
     have HNT := hid hnt
     clear hV2 hbV hnt hni
     obtain ⟨wo, rfl⟩ : ∃ wo : World, wo = wr := ⟨_, rfl⟩
     go_loopw [81] (fun i wx => ∃ (k : Nat) (cs : Array Value), k ≤ 2 ∧ i = .int .i64 k ∧ wx.heap[w4.heap.size]? = some (.cells cs 56 (0, 0)) ∧ cs.size = 2 ∧ (∀ j v, j < k → cs[j]? = some v → ToldAt wx w4.heap.size T.t v) ∧ Foot (fun j => j = w4.heap.size) V2 wx) (fun i _ => 2 - (intOf i).toNat)
     case atStart => exact ⟨0, _, by omega, rfl, HNT.out, rfl, fun j v hj => absurd hj (Nat.not_lt_zero _), Foot.refl _ _⟩
     case round =>
      obtain ⟨k, cs, hk, rfl, hnt, hcs, htold, hft⟩ := hrel
      have HTD := hid (And.intro hnt (And.intro hcs htold))
      have HFT := hid hft
      have hzx := hft.size
      clear hnt hcs htold hft HNT
      by_cases hlt : k < 2
      ·obtain ⟨f, hf, hcf⟩ : ∃ f : Nat, (f = 0 ∨ f = 2) ∧ wr.cell? ⟨w4.heap.size + 1, k, none⟩ = some (.int .i64 (f : Int)) := by
        have h1 := (HFT.out.block _ (by omega) (by omega)).trans HNI.out
        have h2 := cell_of_row wr (w4.heap.size + 1) k _ _ _ h1
        match k, hlt with
        | 0, _ => exact ⟨0, .inl rfl, h2⟩
        | 1, _ => exact ⟨2, .inr rfl, h2⟩
       have HF := hid hf
       have hwv : Below wo.heap.size wo wr := HB4.out.trans ((HBV.out.mono (by omega)).trans (HFT.out.below (by omega) (fun i e => by omega)))
       have HWV := hid hwv
       have hzo := hwv.size
       have HC8 := hid (show Calls Tryz.prog 8 #[.int .i64 1048576] wr fun e w' => ∃ cb, e = .returned (.tuple #[.pointer (some ⟨cb, 0, none⟩), .int .i64 0]) ∧ ∃ F, CacheIs wr.heap.size F w' cb ⟨1048576, [], fun _ => []⟩ ∧ Below wr.heap.size wr w' from cacheNew_any wr 1048576 (by omega))
       clear hf hwv
       go_upto_region 25 with (go_at_call 8; refine (HC8.out).mono ?_; rintro e W1 ⟨cb, rfl, F0, hc0, hb0⟩)
       have HC0 := hid hc0
       have HB0 := hid hb0
       have hzW1 := hb0.size
       clear hc0 hb0 HC8 hcf
       obtain ⟨wp, rfl⟩ : ∃ wp : World, wp = wr := ⟨_, rfl⟩
       go_wp2_with fail
       go_loopw [92, 14] (fun i s wy => ∃ (n : Nat) (a : Option Addr) (q : Nat), n ≤ 100 ∧ i = .int .i64 n ∧ s = .slice a n q ∧ wy.ownsRow W1.heap.size 3 1 (.slice a n q) n (intC f n) ∧ Below W1.heap.size W1 wy) (fun i _ _ => 100 - (intOf i).toNat)
       case atStart => exact ⟨0, none, 0, by omega, rfl, rfl, World.ownsRow_nil _ _ _ _, Below.refl _ _⟩
       case round =>
        obtain ⟨n, a1, q1, hn, rfl, rfl, ho, hbn⟩ := hrel
        have HO := hid ho
        have HBN := hid hbn
        clear ho hbn
        by_cases hn1 : n < 100
        ·have hg0 := heap_alloc_new wr (.cells #[.int .i64 (f : Int)] 3)
         have hbg := below_new wr (.cells #[.int .i64 (f : Int)] 3)
         have hzg : (wr.alloc (.cells #[.int .i64 (f : Int)] 3)).heap.size = wr.heap.size + 1 := World.size_alloc _ _
         have hzn := HBN.out.size
         obtain ⟨v5, W5, hap, ho5, hb5, hg5, -⟩ := app_row intV (l := List.replicate n (f : Int)) (t := 57) (e := 3) (sz := 1) (by_ := 8) Tryz.underlying57 (by kernel_rfl) (fun _ => rfl) (by omega) (by omega) (f : Int) (fun u hu => by simp only [intV, List.mem_singleton] at hu; rw [hu]; rfl) (by rw [intC_flat]; exact owns_below HO.out hbg (Nat.le_refl _)) hg0 (by omega) (by omega)
         obtain ⟨a5, q5, rfl⟩ := owns_form ho5
         rw [← List.replicate_succ', intC_flat] at ho5
         have HX5 := hid (And.intro ho5 (HBN.out.trans ((hbg.mono (by omega)).trans hb5)))
         have HAP := hid hap
         clear hg0 hbg ho5 hb5 hg5 hap
         go_wp2_with (at_builtin; refine Lib.wpList_append_run _ rfl _ _ _ _ rfl _ _ rfl rfl _ _ (HAP.out _) ?_)
         exact ⟨⟨n + 1, a5, q5, by omega, by go_num, rfl, HX5.out⟩, by simp [intOf]; omega⟩
        ·obtain rfl : n = 100 := by omega
         have hzn := HBN.out.size
         have HC16 := hid (cnew_any cb f 100 (.slice a1 100 q1) wr (SliceAt.of_owns HO.out (by unfold maxLen; omega)) (by omega) (by omega))
         have HFB := hid (fun j (hj : F0 j) => HC0.out.bd j hj)
         clear HO
         go_upto_region 29 with (go_at_call 16; refine (HC16.out).mono ?_; rintro e W2 ⟨g, fb, rfl, hcl, hfb, hfl, hgw, hb2⟩)
         have hz2 := hb2.size
         have hpW : Below wo.heap.size wo W2 := HWV.out.trans ((HB0.out.mono hzo).trans ((HBN.out.mono (by omega)).trans (hb2.mono (by omega))))
         have hst : CliSt W wp.heap.size g cb fb f ((filesL dl).length + 1 + (99 - dl.length)) 0 0 F0 ⟨1048576, [], fun _ => []⟩ W2 := by
          rw [filesL_len, show dl.length + 1 + (99 - dl.length) = 100 by omega]
          exact ⟨hcl, HF.out, HC0.out.below (Below.chain HBN.out hb2), ⟨fun e => by have := (HFB.out g e).2; omega, fun e => by have := (HFB.out fb e).2; omega⟩, hfl, by omega, by omega, goodC0 1048576, HP.out.1, HP.out.2, HBR.out.trans (hpW.mono HBR.out.size), by have := HBR.out.size; omega⟩
         have HPUT := hid (cput_any (D := dl) (filesL dl) (.slice a dl.length q) T hst (HTT.out.1.below hpW (Nat.le_refl _)) HTT.out.2.1 (fun j hj e => by
           have h1 := HTT.out.2.2.1 j hj
           rcases e with e | e
           ·have := (HFB.out j e).1; omega
           ·omega) HK0.out (HROW.out.below hpW (Nat.le_refl _)) (by rw [filesL_len]; omega) HTK.out.2 ⟨HA.out, HL1.out⟩ (fun y hy => by
           rw [← filesL_snd dl]
           exact List.mem_map.2 ⟨y, hy, rfl⟩) ⟨rfl, Nat.le_refl _, fun r h => (by cases h), fun x h => (by cases h)⟩ rfl (by omega) (by omega))
         have hwo : W.heap.size < wo.heap.size := by omega
         have hT2 := (hpW.block _ hwo).trans HTT.out.2.2.2
         have HGZ := hid (show wp.heap.size ≤ W1.heap.size ∧ W1.heap.size ≤ wr.heap.size ∧ wr.heap.size ≤ g ∧ wr.heap.size ≤ fb ∧ wr.heap.size ≤ W2.heap.size ∧ g < W2.heap.size from ⟨by omega, by omega, by omega, by omega, by omega, hcl.lt⟩)
         have HPW := hid hpW
         have HB2 := hid (Below.chain HB0.out (Below.chain HBN.out hb2))
         rw [filesL_len] at HPUT
         unfold TcM.val at HPUT
         clear hcl hfb hfl hgw hb2 hst hpW HC16
         go_upto_region 31 with first | (refine wl_ld rt44 (range_of_heap hT2) (TcM.len _) ?_) | (go_at_call 17; refine (HPUT.out).mono ?_; rintro e W3 ⟨c1, rfl, hk1, hdb1, F1, hs1, ho1, hf1⟩)
         have hz3 := hf1.size
         have hg := HGZ.out
         have hT3 := (hf1.block _ (lx (hid hT2)) (fun e => by
          rcases e with e | e
          ·have := (HFB.out _ e).1; omega
          ·omega)).trans hT2
         obtain ⟨S1, hS1⟩ : ∃ S1, S1 = 0 + (dl.length + 1) := ⟨_, rfl⟩
         rw [← hS1] at hs1
         rw [show 99 - dl.length = (98 - dl.length) + 1 by omega] at hs1
         have HC18 := hid (ctraces_any hs1 T.t.key (by omega) (by omega) (fun c' r hcd => by
          obtain ⟨h1, h2, h3⟩ := car_traces hcd rfl (ask1_check _ _)
          refine ⟨fun _ => ⟨h1, fun y hy => ?_⟩, fun e => absurd e (by decide), fun e => absurd rfl e⟩
          have h2' : r.traces = c1.db T.t.key := h2
          rw [h2', hdb1, List.mem_singleton] at hy
          rw [hy]))
         have HS1 := hid hs1
         rw [filesL_snd] at hk1
         have HK1 := hid (And.intro hk1 hdb1)
         have HF1 := hid hf1
         unfold dgv at HC18
         clear hs1 hk1 hdb1 ho1 hf1 HPUT
         go_upto_region 34 with first | (refine wl_ld rt31 (TcM.parts0 hT3).1 (dgc_len _) ?_) | (go_at_call 18; refine (HC18.out).mono ?_; rintro e W4 ⟨z, c2, rfl, hcd, ⟨F2, hs2, ho2, hf2, hzo⟩, hz⟩; obtain ⟨za, zc, hzv, -⟩ := hz.1.out TcM.len (by omega); rw [hzv])
         obtain ⟨-, hzt, hc21⟩ := car_traces hcd rfl (ask1_check _ _)
         subst hc21
         obtain ⟨x, hzx, hxt⟩ : ∃ x, z.ts = [x] ∧ x.t = T.t := by
          have h1 : z.ts.map (·.t) = [T.t] := hzt.trans HK1.out.2
          match hts : z.ts with
          | [] => rw [hts] at h1; cases h1
          | [x] => rw [hts] at h1; exact ⟨x, rfl, by simpa using h1⟩
          | _ :: _ :: _ => rw [hts] at h1; simp at h1
         have hz4' := hf2.size
         have hg3 : ∀ j, (F0 j ∨ j = g) → wp.heap.size ≤ j := fun j e => by
          rcases e with e | e
          ·exact (HFB.out j e).1
          ·omega
         have hB3 : Below wp.heap.size wp W3 := HB2.out.trans (HF1.out.below (by omega) hg3)
         have hg4 : ∀ j, (F1 j ∨ j = g) → wp.heap.size ≤ j := fun j e => by
          rcases e with e | e
          ·exact (HS1.out.ca.bd j e).1
          ·omega
         have hB4 : Below wp.heap.size wp W4 := hB3.trans (hf2.below (by omega) hg4)
         have hn4 := (hB4.block _ (by omega)).trans HTD.out.1
         rw [hzx] at hzv
         have hzr := hz.1
         rw [hzx] at hzr
         have HX := hid (And.intro hzr (And.intro (hz.2 x (by rw [hzx]; exact List.mem_singleton_self _)) (And.intro hzo.1 (hzo.2 x (by rw [hzx]; exact List.mem_singleton_self _)))))
         have HXT := hid hxt
         have HZV := hid (show z.tv = .slice za 1 zc from hzv)
         have HB4' := hid hB4
         have HS2 := hid hs2
         have HLZ := hid (show wp.heap.size ≤ W2.heap.size ∧ W2.heap.size ≤ W3.heap.size ∧ W3.heap.size ≤ W4.heap.size from ⟨by omega, by omega, by omega⟩)
         obtain ⟨u, hu⟩ : ∃ u, cs[k]? = some u := ⟨_, Array.getElem?_eq_getElem (by have := HTD.out.2.1; omega)⟩
         have ck := (cell_of_row W4 w4.heap.size k _ _ _ hn4).trans hu
         have fk : W4.frozen? ⟨w4.heap.size, k, none⟩ = false := Lib.frozen_of_heap hn4 k
         have hlen1 : (z.ts).length = 1 := by rw [hzx]; rfl
         rw [hlen1]
         have HN4 := hid hn4
         clear hcd hzt hz hzo hs2 ho2 hf2 hB3 hB4 hn4 hzr hzv hxt hu hzx HC18 hlen1
         go_upto_region 35 with fail
         have hn5 := heap_setCell_same W4 w4.heap.size k _ 56 (.slice za 1 zc) HN4.out
         have ht5 := turned_cell (w := W4) (b := w4.heap.size) k (.slice za 1 zc) (lx HN4)
         generalize W4.setCell ⟨w4.heap.size, k, none⟩ (.slice za 1 zc) = W5 at *
         have hz5 := ht5.foot.size
         have hg := HGZ.out
         have hlz := HLZ.out
         have hst5 : CliSt W wp.heap.size g cb fb f (98 - dl.length) (S1 + 1) (S1 + 1) F2 c2 W5 := by
          have h := HS2.out
          exact ⟨h.cl.foot ht5.foot (by omega) (by omega), h.ff, h.ca.keep ht5.foot (fun j hj e => by have := (h.ca.bd j hj).1; omega), h.nf, by have := h.fl; omega, by have := h.bw; omega, h.bg, h.gc, h.pt, h.er, h.lw.trans (ht5.below (by have := h.lb; omega)), h.lb⟩
         have HST5 := hid hst5
         have hP5 : Foot (fun j => j = w4.heap.size) wp W5 := (Foot.of_below HB4'.out).chain ht5.foot
         have HP5 := hid hP5
         have HT5 := hid ht5
         have HN5 := hid hn5
         clear hn5 ht5 hst5 hP5 ck fk HS2
         obtain ⟨wf, rfl⟩ : ∃ wf : World, wf = wr := ⟨_, rfl⟩
         go_wp2_with fail
         go_loopw [132] (fun i wy => ∃ (m : Nat) (F' : Nat → Prop) (c' : CaL), m ≤ dl.length ∧ i = .int .i64 m ∧ CliSt W wp.heap.size g cb fb f (98 - dl.length - m) (S1 + 1 + m) (S1 + 1 + m) F' c' wy ∧ KeptP dl dl (100 + 2 * m) c' ∧ (∀ j, F' j → F2 j ∨ W5.heap.size ≤ j) ∧ Foot (fun j => F2 j ∨ j = g) W5 wy) (fun i _ => dl.length - (intOf i).toNat)
         case atStart => exact ⟨0, F2, c2, by omega, rfl, HST5.out, HK1.out.1, fun j hj => .inl hj, Foot.refl _ _⟩
         case round =>
          obtain ⟨m, F', c', hm, rfl, hst, hkp, hown, hfm⟩ := hrel
          have HST := hid hst
          have HKP := hid (And.intro hkp (And.intro hown hfm))
          have hzm := hfm.size
          have hF2B : ∀ j, (F2 j ∨ j = g) → wp.heap.size ≤ j := fun j e => by
           rcases e with e | e
           ·exact (HST5.out.ca.bd j e).1
           ·have := HGZ.out; omega
          have hPm : Foot (fun j => j = w4.heap.size) wp wr := HP5.out.trans hfm fun i hi e => by have := hF2B i e; omega
          have HPM := hid hPm
          have hzpm := hPm.size
          clear hst hkp hown hfm hPm
          by_cases hmd : m < dl.length
          ·have hmf : m < (filesL dl).length := by rw [filesL_len]; exact hmd
           obtain ⟨a9, q9, h9, -, -, -, hxr⟩ := HROW.out.out file_len (by omega)
           rw [filesL_len] at h9
           simp only [Value.slice.injEq] at h9
           obtain ⟨rfl, -, rfl⟩ := h9
           obtain ⟨b9, o9, rfl, hb9, hcl9⟩ := hxr m hmf
           have hwm : Below wo.heap.size wo wr := HWV.out.trans (HPM.out.below (by omega) (fun i e => by omega))
           have L9 := range_keeps hwm (hcl9 m hmf)
           rw [filesL_get dl m hmd] at L9
           have hyd : dl[m] ∈ dl := List.getElem_mem hmd
           have hyl := HL1.out _ hyd
           generalize dl[m] = y at *
           have hst := HST.out
           rw [show 98 - dl.length - m = (98 - dl.length - (m + 1)) + 1 by omega] at hst
           have HC19 := hid (fun (V : World) (hb : Below wr.heap.size wr V) => cblob_any (hst.keep hb) (shaD y) (by omega) (by omega) (fun c'' r hcd => by
            obtain ⟨h1, h2, h3, -, -⟩ := blob_kept HKP.out.1 ⟨HA.out, HL1.out⟩ hyd hcd rfl (ask2_check _ _) rfl
            exact ⟨fun e => absurd e (by decide), fun _ => ⟨h1, h2, by rw [h3], by rw [h3]; exact hyl⟩, fun _ e => absurd rfl e⟩))
           unfold dgv at HC19
           have HC14 := hid (fun (V : World) => topsum_any y V (by omega))
           clear hxr hcl9 hst
           go_upto_region 39 with first | (refine wl_ld rt51 L9 (file_len _) ?_) | (refine wl_new (xs := (fileC (pathI m, y)).toArray) rt51 (by rw [List.size_toArray]; exact file_len _) (file_one _) ?_; intro W6 hb6 hn6 hs6; have p1 : W6.cell? ⟨wr.heap.size, 1, none⟩ = some (.string (bs y)) := (cell_of_row W6 wr.heap.size 1 _ _ _ hn6).trans rfl) | (go_at_call 14; refine (HC14.out _).mono ?_; rintro e W7 ⟨rfl, hb7⟩) | (go_at_call 19; refine (HC19.out _ (Below.chain hb6 hb7)).mono ?_; rintro e W8 ⟨z9, c9, rfl, hcd9, ⟨F9, hs9, ho9, hf9⟩, -, -⟩)
           obtain ⟨-, -, hzd, hk9, -⟩ := blob_kept HKP.out.1 ⟨HA.out, HL1.out⟩ hyd hcd9 rfl (ask2_check _ _) rfl
           have hzd' : z9.data = y := hzd
           rw [hzd']
           have hb67 := Below.chain hb6 hb7
           have hz67 := hb67.size
           have hF'B : ∀ j, (F' j ∨ j = g) → wp.heap.size ≤ j := fun j e => by
            rcases e with e | e
            ·exact (HST.out.ca.bd j e).1
            ·have := HGZ.out; omega
           have p1' := (hf9.block wr.heap.size (by have := hb7.size; omega) (fun e => by
            rcases e with e | e
            ·have := (HST.out.ca.bd _ e).2; omega
            ·have := HST.out.cl.lt; omega)).trans ((hb7.block _ (by omega)).trans hn6)
           have p18 : W8.cell? ⟨wr.heap.size, 1, none⟩ = some (.string (bs y)) := (cell_of_row W8 wr.heap.size 1 _ _ _ p1').trans rfl
           have HE := hid (And.intro (show CliSt W wp.heap.size g cb fb f (98 - dl.length - (m + 1)) (S1 + 1 + (m + 1)) (S1 + 1 + (m + 1)) F9 c9 W8 from hs9) (And.intro (hk9.sub (fun _ h => h) (by omega) : KeptP dl dl (100 + 2 * (m + 1)) c9) (And.intro (show ∀ j, F9 j → F2 j ∨ W5.heap.size ≤ j from fun j hj => by
            rcases ho9 j hj with e | e
            ·exact HKP.out.2.1 j e
            ·exact .inr (by omega)) (show Foot (fun j => F2 j ∨ j = g) W5 W8 from (HKP.out.2.2.then hb67).trans hf9 fun j hj e => by
            rcases e with e | e
            ·rcases HKP.out.2.1 j e with e | e
             ·exact .inl e
             ·omega
            ·exact .inr e))))
           clear hcd9 hs9 ho9 hf9 hk9 hb6 hb7 hn6 hs6 p1 p1' hb67 L9 HC19 HC14 hzd hzd'
           go_wp2_with fail
           exact ⟨⟨m + 1, F9, c9, by omega, by go_num, HE.out⟩, by simp [intOf]; omega⟩
          ·obtain rfl : m = dl.length := by omega
           have HC20 := hid (told_any HST.out.cl)
           obtain ⟨wl, hwl⟩ : ∃ wl : Nat, wl = S1 + 1 + dl.length := ⟨_, rfl⟩
           rw [← hwl] at HC20
           have E := neF (show (wl : Int) = 2 + 2 * (dl.length : Int) by omega)
           have hwlb : wl ≤ 100 := by omega
           have hnT := (HPM.out.size)
           have hnt5 : wr.heap[w4.heap.size]? = some (.cells (cs.setIfInBounds k (.slice za 1 zc)) 56 (0, 0)) := (HKP.out.2.2.block _ (lx HN5) (fun e => by have := hF2B _ e; omega)).trans HN5.out
           have htold' : ∀ j v, j < k + 1 → (cs.setIfInBounds k (.slice za 1 zc))[j]? = some v → ToldAt wr w4.heap.size T.t v := fun j v hj hv => by
            by_cases hjk : j = k
            ·subst hjk
             rw [Array.getElem?_setIfInBounds_self_of_lt (by have := HTD.out.2.1; omega)] at hv
             cases hv
             obtain ⟨x1, x2, x3, x4⟩ := HX.out
             rw [HZV.out] at x1 x3
             have hz5W : W4.heap.size ≤ W5.heap.size := HT5.out.foot.size
             have hkeep : ∀ b, (W3.heap.size ≤ b ∧ ¬ F2 b) → b < W4.heap.size → wr.heap[b]? = W4.heap[b]? := fun b hb hl =>
              (HKP.out.2.2.block b (by omega) (fun e => by
               rcases e with e | e
               ·exact hb.2 e
               ·have := HGZ.out; have := HLZ.out; omega)).trans (HT5.out.foot.block b hl (by have := HLZ.out; omega))
             have hzz : W4.heap.size ≤ wr.heap.size := by omega
             exact ⟨x, HXT.out, rows_keep x1 hzz (fun b hb hl => hkeep b (x3 b hb) hl), x2.stay hzz (fun b hb hl => hkeep b (by rcases hb with hb | hb; exact x4.1 b hb; exact x4.2 b hb) hl), fun b hb => by have := (x3 b hb).1; have := HLZ.out; omega, ⟨fun b hb => by have := (x4.1 b hb).1; have := HLZ.out; omega, fun b hb => by have := (x4.2 b hb).1; have := HLZ.out; omega⟩⟩
            ·rw [Array.getElem?_setIfInBounds_ne (by omega)] at hv
             exact (HTD.out.2.2 j v (by omega) hv).foot HPM.out
           have HE := hid (And.intro hnt5 (And.intro (show (cs.setIfInBounds k (.slice za 1 zc)).size = 2 by rw [Array.size_setIfInBounds]; exact HTD.out.2.1) htold'))
           have hfin : ∀ V', Below wr.heap.size wr V' → ∃ (k' : Nat) (cs' : Array Value), k' ≤ 2 ∧ Value.int .i64 ((k : Int) + 1) = .int .i64 k' ∧ V'.heap[w4.heap.size]? = some (.cells cs' 56 (0, 0)) ∧ cs'.size = 2 ∧ (∀ j v, j < k' → cs'[j]? = some v → ToldAt V' w4.heap.size T.t v) ∧ Foot (fun j => j = w4.heap.size) V2 V' := fun V' hb =>
            ⟨k + 1, _, by omega, rfl, (hb.block _ (lx (hid HE.out.1))).trans HE.out.1, HE.out.2.1, fun j v hj hv => (HE.out.2.2 j v hj hv).foot (Foot.of_below hb), (HFT.out.chain HPM.out).then hb⟩
           have HFIN := hid hfin
           clear hnt5 htold' hfin hwl
           go_wp2_with (go_at_call 20; refine (HC20.out).mono ?_; rintro e W9 ⟨rfl, hb9⟩)
           refine ⟨?_, by simp [intOf]; omega⟩
           (first | exact HFIN.out _ hb9 | ((repeat apply Exists.intro); exact ⟨HFIN.out _ hb9, rfl⟩))
      ·obtain rfl : k = 2 := by omega
       have hwv : Below wo.heap.size wo wr := HB4.out.trans ((HBV.out.mono (by omega)).trans (HFT.out.below (by omega) (fun i e => by omega)))
       have hTr := (hwv.block _ (by omega)).trans HTT.out.2.2.2
       have hTH := HTT.out.1.below hwv (Nat.le_refl _)
       obtain ⟨u0, hu0⟩ : ∃ u, cs[0]? = some u := ⟨_, Array.getElem?_eq_getElem (by have := HTD.out.2.1; omega)⟩
       obtain ⟨u1, hu1⟩ : ∃ u, cs[1]? = some u := ⟨_, Array.getElem?_eq_getElem (by have := HTD.out.2.1; omega)⟩
       obtain ⟨x0, x0t, x0r, x0h, -, -⟩ := HTD.out.2.2 0 u0 (by omega) hu0
       obtain ⟨x1, x1t, x1r, x1h, -, -⟩ := HTD.out.2.2 1 u1 (by omega) hu1
       have c0 := (cell_of_row wr w4.heap.size 0 _ _ _ HTD.out.1).trans hu0
       have c1 := (cell_of_row wr w4.heap.size 1 _ _ _ HTD.out.1).trans hu1
       obtain ⟨a0, q0, rfl, -, -, -, r0⟩ := x0r.out TcM.len (by omega)
       obtain ⟨a1, q1, rfl, -, -, -, r1⟩ := x1r.out TcM.len (by omega)
       obtain ⟨b0, o0, rfl, -, l0⟩ := r0 0 (Nat.zero_lt_one)
       obtain ⟨b1, o1, rfl, -, l1⟩ := r1 0 (Nat.zero_lt_one)
       have L0 : wr.rangeAt b0 o0 x0.cells := by have := l0 0 Nat.zero_lt_one; rwa [Nat.zero_mul, Nat.add_zero] at this
       have L1 : wr.rangeAt b1 o1 x1.cells := by have := l1 0 Nat.zero_lt_one; rwa [Nat.zero_mul, Nat.add_zero] at this
       have LT := range_of_heap hTr
       have HS0 := hid (fun (V' : World) (hb : Below wr.heap.size wr V') => show Calls Tryz.prog 12 #[.agg x0.cells.toArray, .agg T.cells.toArray] V' fun e w' => e = .returned (.bool true) ∧ Below V'.heap.size V' w' from by
        have h1 := sameT_any x0 T V' (x0h.keep hb) (hTH.keep hb)
        rw [decide_eq_true x0t] at h1
        exact h1)
       have HS1 := hid (fun (V' : World) (hb : Below wr.heap.size wr V') => show Calls Tryz.prog 12 #[.agg x1.cells.toArray, .agg T.cells.toArray] V' fun e w' => e = .returned (.bool true) ∧ Below V'.heap.size V' w' from by
        have h1 := sameT_any x1 T V' (x1h.keep hb) (hTH.keep hb)
        rw [decide_eq_true x1t] at h1
        exact h1)
       have HEND := hid (HBR.out.trans (hwv.mono HBR.out.size))
       have e1 : ([x0] : List TcM).length = 1 := rfl
       have e2 : ([x1] : List TcM).length = 1 := rfl
       rw [e1] at c0
       rw [e2] at c1
       clear x0t x0r x0h x1t x1r x1h r0 r1 l0 l1 hTr hTH hwv hu0 hu1 e1 e2
       go_wp2_with fail
       refine wp_region_wq (by kernel_rfl) (by kernel_rfl) ?_
       refine WQ.step (fun K hK => ?_)
       go_simp
       apply Exists.intro
       refine ⟨fun W hW => ?_, hK _ ?_⟩
       ·go_at_call 7
        exact Calls.quiet_below hW (HSP.out W)
       clear hK K
       refine WQ.step (fun K hK => ?_)
       go_simp
       first | (refine hK _ ?_; clear hK K) | (apply Exists.intro; refine ⟨fun W hW => ?_, hK _ ?_⟩; (first | with_reducible rfl | (have zz0 := Below.keeps hW c0; have zz1 := Below.keeps hW c1; go_simp; first | rfl | exact ⟨rfl, rfl⟩)); clear hK K)
       refine WQ.step (fun K hK => ?_)
       go_simp
       first | (refine hK _ ?_; clear hK K) | (apply Exists.intro; refine ⟨fun W hW => ?_, hK _ ?_⟩; (first | with_reducible rfl | (have zz0 := Below.keeps hW c0; have zz1 := Below.keeps hW c1; go_simp; first | rfl | exact ⟨rfl, rfl⟩)); clear hK K)
       refine WQ.step (fun K hK => ?_)
       go_simp
       first | (refine hK _ ?_; clear hK K) | (apply Exists.intro; refine ⟨fun W hW => ?_, hK _ ?_⟩; (first | with_reducible rfl | (have zz0 := Below.keeps hW c0; have zz1 := Below.keeps hW c1; go_simp; first | rfl | exact ⟨rfl, rfl⟩)); clear hK K)
       refine WQ.step (fun K hK => ?_)
       go_simp
       first | (refine hK _ ?_; clear hK K) | (apply Exists.intro; refine ⟨fun W hW => ?_, hK _ ?_⟩; (first | with_reducible rfl | (have zz0 := Below.keeps hW c0; have zz1 := Below.keeps hW c1; go_simp; first | rfl | exact ⟨rfl, rfl⟩)); clear hK K)
       refine WQ.step (fun K hK => ?_)
       go_simp
       first | (refine hK _ ?_; clear hK K) | (apply Exists.intro; refine ⟨fun W hW => ?_, hK _ ?_⟩; (first | with_reducible rfl | (have zz0 := Below.keeps hW c0; have zz1 := Below.keeps hW c1; go_simp; first | rfl | exact ⟨rfl, rfl⟩)); clear hK K)
       refine WQ.step (fun K hK => ?_)
       go_simp
       first | (refine hK _ ?_; clear hK K) | (apply Exists.intro; refine ⟨fun W hW => ?_, hK _ ?_⟩; (first | with_reducible rfl | (have zz0 := Below.keeps hW c0; have zz1 := Below.keeps hW c1; go_simp; first | rfl | exact ⟨rfl, rfl⟩)); clear hK K)
       refine WQ.step (fun K hK => ?_)
       go_simp
       first | (refine hK _ ?_; clear hK K) | (apply Exists.intro; refine ⟨fun W hW => ?_, hK _ ?_⟩; (first | with_reducible rfl | (have zz0 := Below.keeps hW c0; have zz1 := Below.keeps hW c1; go_simp; first | rfl | exact ⟨rfl, rfl⟩)); clear hK K)
       refine WQ.step (fun K hK => ?_)
       go_simp
       first | (refine hK _ ?_; clear hK K) | (apply Exists.intro; refine ⟨fun W hW => ?_, hK _ ?_⟩; (first | with_reducible rfl | (have zz0 := Below.keeps hW c0; have zz1 := Below.keeps hW c1; go_simp; first | rfl | exact ⟨rfl, rfl⟩)); clear hK K)
       refine WQ.step (fun K hK => ?_)
       go_simp
       first | (refine hK _ ?_; clear hK K) | (apply Exists.intro; refine ⟨fun W hW => ?_, hK _ ?_⟩; (first | with_reducible rfl | (have zz0 := Below.keeps hW c0; have zz1 := Below.keeps hW c1; go_simp; first | rfl | exact ⟨rfl, rfl⟩)); clear hK K)
       refine WQ.step (fun K hK => ?_)
       go_simp
       first | (refine hK _ ?_; clear hK K) | (apply Exists.intro; refine ⟨fun W hW => ?_, hK _ ?_⟩; (first | with_reducible rfl | (have zz0 := Below.keeps hW c0; have zz1 := Below.keeps hW c1; go_simp; first | rfl | exact ⟨rfl, rfl⟩)); clear hK K)
       refine WQ.step (fun K hK => ?_)
       go_simp
       first | (refine hK _ ?_; clear hK K) | (apply Exists.intro; refine ⟨fun W hW => ?_, hK _ ?_⟩; (first | with_reducible rfl | (have zz0 := Below.keeps hW c0; have zz1 := Below.keeps hW c1; go_simp; first | rfl | exact ⟨rfl, rfl⟩)); clear hK K)
       refine WQ.step (fun K hK => ?_)
       go_simp
       first | (refine hK _ ?_; clear hK K) | (apply Exists.intro; refine ⟨fun W hW => ?_, hK _ ?_⟩; (first | with_reducible rfl | (have zz0 := Below.keeps hW c0; have zz1 := Below.keeps hW c1; go_simp; first | rfl | exact ⟨rfl, rfl⟩)); clear hK K)
       refine WQ.step (fun K hK => ?_)
       go_simp
       first | (refine hK _ ?_; clear hK K) | (apply Exists.intro; refine ⟨fun W hW => ?_, hK _ ?_⟩; (first | with_reducible rfl | (have zz0 := Below.keeps hW c0; have zz1 := Below.keeps hW c1; go_simp; first | rfl | exact ⟨rfl, rfl⟩)); clear hK K)
       refine WQ.step (fun K hK => ?_)
       go_simp
       first | (refine hK _ ?_; clear hK K) | (apply Exists.intro; refine ⟨fun W hW => ?_, hK _ ?_⟩; (first | with_reducible rfl | (have zz0 := Below.keeps hW c0; have zz1 := Below.keeps hW c1; go_simp; first | rfl | exact ⟨rfl, rfl⟩)); clear hK K)
       refine WQ.step (fun K hK => ?_)
       go_simp
       first | (refine hK _ ?_; clear hK K) | (apply Exists.intro; refine ⟨fun W hW => ?_, hK _ ?_⟩; (first | with_reducible rfl | (have zz0 := Below.keeps hW c0; have zz1 := Below.keeps hW c1; go_simp; first | rfl | exact ⟨rfl, rfl⟩)); clear hK K)
       refine WQ.step (fun K hK => ?_)
       go_simp
       first | (refine hK _ ?_; clear hK K) | (apply Exists.intro; refine ⟨fun W hW => ?_, hK _ ?_⟩; (first | with_reducible rfl | (have zz0 := Below.keeps hW c0; have zz1 := Below.keeps hW c1; go_simp; first | rfl | exact ⟨rfl, rfl⟩)); clear hK K)
       refine WQ.ld rt44 (fun W hW => range_keeps hW L0) (TcM.len _) ?_
       refine WQ.ld rt44 (fun W hW => range_keeps hW LT) (TcM.len _) ?_
       refine WQ.step (fun K hK => ?_)
       go_simp
       apply Exists.intro
       refine ⟨fun W hW => ?_, hK _ ?_⟩
       ·go_at_call 12
        exact Calls.quiet_below hW (HS0.out W hW)
       clear hK K
       refine WQ.step (fun K hK => ?_)
       go_simp
       first | (refine hK _ ?_; clear hK K) | (apply Exists.intro; refine ⟨fun W hW => ?_, hK _ ?_⟩; (first | with_reducible rfl | (have zz0 := Below.keeps hW c0; have zz1 := Below.keeps hW c1; go_simp; first | rfl | exact ⟨rfl, rfl⟩)); clear hK K)
       refine WQ.step (fun K hK => ?_)
       go_simp
       first | (refine hK _ ?_; clear hK K) | (apply Exists.intro; refine ⟨fun W hW => ?_, hK _ ?_⟩; (first | with_reducible rfl | (have zz0 := Below.keeps hW c0; have zz1 := Below.keeps hW c1; go_simp; first | rfl | exact ⟨rfl, rfl⟩)); clear hK K)
       refine WQ.step (fun K hK => ?_)
       go_simp
       first | (refine hK _ ?_; clear hK K) | (apply Exists.intro; refine ⟨fun W hW => ?_, hK _ ?_⟩; (first | with_reducible rfl | (have zz0 := Below.keeps hW c0; have zz1 := Below.keeps hW c1; go_simp; first | rfl | exact ⟨rfl, rfl⟩)); clear hK K)
       refine WQ.step (fun K hK => ?_)
       go_simp
       first | (refine hK _ ?_; clear hK K) | (apply Exists.intro; refine ⟨fun W hW => ?_, hK _ ?_⟩; (first | with_reducible rfl | (have zz0 := Below.keeps hW c0; have zz1 := Below.keeps hW c1; go_simp; first | rfl | exact ⟨rfl, rfl⟩)); clear hK K)
       refine WQ.step (fun K hK => ?_)
       go_simp
       first | (refine hK _ ?_; clear hK K) | (apply Exists.intro; refine ⟨fun W hW => ?_, hK _ ?_⟩; (first | with_reducible rfl | (have zz0 := Below.keeps hW c0; have zz1 := Below.keeps hW c1; go_simp; first | rfl | exact ⟨rfl, rfl⟩)); clear hK K)
       refine WQ.ld rt44 (fun W hW => range_keeps hW L1) (TcM.len _) ?_
       refine WQ.ld rt44 (fun W hW => range_keeps hW LT) (TcM.len _) ?_
       refine WQ.step (fun K hK => ?_)
       go_simp
       apply Exists.intro
       refine ⟨fun W hW => ?_, hK _ ?_⟩
       ·go_at_call 12
        exact Calls.quiet_below hW (HS1.out W hW)
       clear hK K
       refine WQ.step (fun K hK => ?_)
       go_simp
       first | (refine hK _ ?_; clear hK K) | (apply Exists.intro; refine ⟨fun W hW => ?_, hK _ ?_⟩; (first | with_reducible rfl | (have zz0 := Below.keeps hW c0; have zz1 := Below.keeps hW c1; go_simp; first | rfl | exact ⟨rfl, rfl⟩)); clear hK K)
       refine WQ.step (fun K hK => ?_)
       go_simp
       first | (refine hK _ ?_; clear hK K) | (apply Exists.intro; refine ⟨fun W hW => ?_, hK _ ?_⟩; (first | with_reducible rfl | (have zz0 := Below.keeps hW c0; have zz1 := Below.keeps hW c1; go_simp; first | rfl | exact ⟨rfl, rfl⟩)); clear hK K)
       refine WQ.nil ?_
       intro wq hwq
       go_wp2_with fail
       go_ret
       exact ⟨rfl, HEND.out.trans (hwq.mono HEND.out.size)⟩
    ·have E := neT hck
     clear hck
     go_wp2_with first | (refine wl_ld rt44 (range_of_heap HTT.out.2.2.2) (TcM.len _) ?_) | (go_at_call 15; refine (HCK.out).mono ?_; rintro e w4 ⟨rfl, hb4⟩) | (go_at_call 7; refine (HSP.out _).mono ?_; rintro e w1 ⟨rfl, hb1⟩)
     go_ret
     exact ⟨rfl, HBR.out.trans ((Below.chain hb4 hb1).mono HBR.out.size)⟩
end Go.Proofs.YtlbipokkdiiaiaaGreatDoor
