/- Lemmas for TopTwice: W33, W34, W40, W41, W45. -/
import Derived.Test.YtlbipokkdiiaiaaGreatDoorU28
import Derived.Test.YtlbipokkdiiaiaaGreatDoorU24
import Derived.Maps.AppendAt
open List renaming setIfInBounds_toArray → sA, set_cons_zero → sB, set_cons_succ → sC
namespace Go.Proofs.YtlbipokkdiiaiaaGreatDoor
open Go.RowKit Go.Proofs.YtlbipokkdiiaiaaGreatDoor.Exec
set_option maxRecDepth 100000
theorem rt172 : RowTy 172 2 := ⟨_, Tryz.underlying172, rfl, by kernel_rfl⟩
theorem rt115 : RowTy 115 39 := ⟨_, Tryz.underlying115, rfl, by kernel_rfl⟩
theorem info172 : builtInfo 172 = some (#[.int .i64 0, .map none], [(0, 1), (1, 1)]) := by kernel_rfl
theorem built172 (n : Int) (m : Option Nat) : Tryz.prog.built 172 [(0, .int .i64 n), (1, .map m)] = some #[.int .i64 n, .map m] := by rw [built_of info172]; rfl
def cacC (most : Int) (t : Option Addr) (r : Option Nat) (o n : Value) : List Value := [.int .i64 most, .int .i64 0, .pointer t, .map r] ++ rowC dg0 [] o n
theorem cacC_len (most : Int) (t : Option Addr) (r : Option Nat) (o n : Value) : (cacC most t r o n).length = 39 := by simp [cacC, rowC_len]
theorem info115 : builtInfo 115 = some ((cacC 0 none none (.pointer none) (.pointer none)).toArray, [(0, 1), (1, 1), (2, 1), (3, 1), (4, 35)]) := by kernel_rfl
theorem built115 (n : Int) (t : Option Addr) (m : Option Nat) : Tryz.prog.built 115 [(0, .int .i64 n), (2, .pointer t), (3, .map m)] = some (cacC n t m (.pointer none) (.pointer none)).toArray := by
 rw [built_of info115]
 unfold cacC
 rw [show ([Value.int .i64 0, .int .i64 0, .pointer none, .map none] ++ rowC dg0 [] (.pointer none) (.pointer none)) = [] ++ [Value.int .i64 0] ++ ([.int .i64 0, .pointer none, .map none] ++ rowC dg0 [] (.pointer none) (.pointer none)) from rfl,
  fill_step (i := 0) (off := 0) (size := 1) (xs := [.int .i64 n]) rfl rfl rfl rfl rfl,
  show [] ++ [Value.int .i64 n] ++ ([.int .i64 0, .pointer none, .map none] ++ rowC dg0 [] (.pointer none) (.pointer none)) = [.int .i64 n, .int .i64 0] ++ [Value.pointer none] ++ ([.map none] ++ rowC dg0 [] (.pointer none) (.pointer none)) from rfl,
  fill_step (i := 2) (off := 2) (size := 1) (xs := [.pointer t]) rfl rfl rfl rfl rfl,
  show [Value.int .i64 n, .int .i64 0] ++ [.pointer t] ++ ([.map none] ++ rowC dg0 [] (.pointer none) (.pointer none)) = [.int .i64 n, .int .i64 0, .pointer t] ++ [Value.map none] ++ (rowC dg0 [] (.pointer none) (.pointer none)) from rfl,
  fill_step (i := 3) (off := 3) (size := 1) (xs := [.map m]) rfl rfl rfl rfl rfl]
 rfl
theorem dbNew_any (w : World) : Calls Tryz.prog 32 #[.int .i64 8] w fun e w' => ∃ dp mb, e = .returned (.tuple #[.pointer (some ⟨dp, 0, none⟩), .int .i64 0]) ∧ DbIs w.heap.size (fun k => k = dp ∨ k = mb) (fun _ => False) w' dp mb (fun _ => none) (fun _ => []) ∧ Below w.heap.size w w' := by
 have hmm := @run_makeMap Tryz.prog
 go_enter Tryz.func32, Tryz.ntmps32
 go_wp2_with first | (refine wl_run (r_build (built172 _ _) rfl (by simp only [List.map_toArray, List.map_cons, List.map_nil]; rfl)) ?_) | (refine wl_box rt172 ?_; intro W1 hb1 hn1 hs1)
 have hmb : (w.alloc (.map #[] 0)).heap[w.heap.size]? = some (.map #[] 0) := heap_alloc_new w _
 have hz : (w.alloc (.map #[] 0)).heap.size = w.heap.size + 1 := World.size_alloc _ _
 have hb0 := below_new w (.map #[] 0)
 generalize w.alloc (.map #[] 0) = W0 at *
 rw [hz] at hn1 hs1
 go_ret2
 refine ⟨w.heap.size + 1, w.heap.size, rfl, ?_, Below.chain hb0 hb1⟩
 exact
  { db := hn1
    mp := ⟨.map #[] 0, (hb1.block _ (by omega)).trans hmb, MapIs.nil _⟩
    row := fun d => ⟨rfl, .inl ⟨rfl, rfl⟩⟩
    few := fun d => Nat.zero_le _
    cap := fun d a n c h => by cases h
    held := fun d x hx => by cases hx
    dd := .inl rfl
    dm := .inr rfl
    dne := by omega
    drow := fun d k h => by cases h
    apart := fun d e k h => by cases h
    di := fun k _ h => h
    db_ := fun k h => by rcases h with rfl | rfl <;> omega
    ib := fun k h => h.elim }
set_option maxHeartbeats 2000000 in
theorem cacheNew_any (w : World) (n : Nat) (hn : n ≤ 1073741824) : Calls Tryz.prog 8 #[.int .i64 n] w fun e w' => ∃ cb, e = .returned (.tuple #[.pointer (some ⟨cb, 0, none⟩), .int .i64 0]) ∧ ∃ F, CacheIs w.heap.size F w' cb ⟨n, [], fun _ => []⟩ ∧ Below w.heap.size w w' := by
 have hmm := @run_makeMap Tryz.prog
 have E1 : decide ((n : Int) < 0) = false := decide_eq_false (by omega)
 have E2 : decide (1073741824 < (n : Int)) = false := decide_eq_false (by omega)
 go_enter Tryz.func8, Tryz.ntmps8
 go_upto_region 4 with (go_at_call 32; refine (dbNew_any w).mono ?_; rintro e W1 ⟨dp, mb, rfl, hdb, hb1⟩)
 have HDB := hid hdb
 have HB1 := hid hb1
 clear hdb hb1
 go_upto_region 5 with first | (refine wl_run (r_build (built115 _ _ _) rfl (by simp only [List.map_toArray, List.map_cons, List.map_nil]; rfl)) ?_) | (refine wl_box rt115 ?_; intro W3 hb3 hn3 hs3)
 have hrb : (W1.alloc (.map #[] 0)).heap[W1.heap.size]? = some (.map #[] 0) := heap_alloc_new W1 _
 have hz : (W1.alloc (.map #[] 0)).heap.size = W1.heap.size + 1 := World.size_alloc _ _
 have hb2 := below_new W1 (.map #[] 0)
 generalize W1.alloc (.map #[] 0) = W2 at *
 obtain ⟨rb, hrbe⟩ : ∃ rb, rb = W1.heap.size := ⟨_, rfl⟩
 obtain ⟨cb, hcb⟩ : ∃ cb, cb = rb + 1 := ⟨_, rfl⟩
 rw [hz] at hn3 hs3
 rw [← hrbe] at hn3 hs3 hz hrb ⊢
 rw [← hcb] at hn3 hs3 hz ⊢
 have hcw : cb < W3.heap.size := by omega
 have hcl : ∀ W, Below W3.heap.size W3 W → W.cell? ⟨cb, 37, none⟩ = some (.pointer none) ∧ W.cell? ⟨cb, 38, none⟩ = some (.pointer none) := fun W hb => by
  have h := (hb.block cb hcw).trans hn3
  exact ⟨(cell_of_row _ _ 37 _ _ _ h).trans rfl, (cell_of_row _ _ 38 _ _ _ h).trans rfl⟩
 have hfz : ∀ W, Below W3.heap.size W3 W → ∀ j, W.frozen? ⟨cb, j, none⟩ = false := fun W hb j => Lib.frozen_of_heap ((hb.block cb hcw).trans hn3) j
 have HF := hid (And.intro hcl hfz)
 have HN := hid (And.intro hn3 (And.intro hrb (And.intro hcw (And.intro hb3 (And.intro hz (And.intro hs3 (And.intro hcb (And.intro hrbe hb2))))))))
 clear hcl hfz hn3 hrb hcw hb3 hz hs3 hcb hrbe hb2
 refine wp_region_wl (fun W => True) 15 (by kernel_rfl) ?_
 intro Wd hbd
 have hS := trivial
 refine WL.tp 0 (some 22) (hi := rfl) (.inr hS) ?_
 apply Exists.intro
 refine ⟨fun W => ?_, ?_⟩
 ·go_simp
  try rfl
 try simp only [Act.put, sA, sB, sC]
 refine WL.tp 1 (some 23) (hi := rfl) (.inr hS) ?_
 apply Exists.intro
 refine ⟨fun W => ?_, ?_⟩
 ·go_simp
  try rfl
 try simp only [Act.put, sA, sB, sC]
 refine WL.tp 2 (some 24) (hi := rfl) (.inr hS) ?_
 apply Exists.intro
 refine ⟨fun W => ?_, ?_⟩
 ·go_simp
  try rfl
 try simp only [Act.put, sA, sB, sC]
 refine WL.tp 3 (some 25) (hi := rfl) (.inr hS) ?_
 apply Exists.intro
 refine ⟨fun W => ?_, ?_⟩
 ·go_simp
  try rfl
 try simp only [Act.put, sA, sB, sC]
 refine WL.tp 4 (some 26) (hi := rfl) (.inr hS) ?_
 apply Exists.intro
 refine ⟨fun W => ?_, ?_⟩
 ·go_simp
  try rfl
 try simp only [Act.put, sA, sB, sC]
 refine WL.tp 5 (some 27) (hi := rfl) (.inr hS) ?_
 apply Exists.intro
 refine ⟨fun W => ?_, ?_⟩
 ·go_simp
  try rfl
 try simp only [Act.put, sA, sB, sC]
 refine WL.tp 6 (some 28) (hi := rfl) (.inr hS) ?_
 apply Exists.intro
 refine ⟨fun W => ?_, ?_⟩
 ·go_simp
  try rfl
 try simp only [Act.put, sA, sB, sC]
 refine WL.tp 7 (some 29) (hi := rfl) (.inr hS) ?_
 apply Exists.intro
 refine ⟨fun W => ?_, ?_⟩
 ·go_simp
  try rfl
 try simp only [Act.put, sA, sB, sC]
 refine WL.tp 8 (some 30) (hi := rfl) (.inr hS) ?_
 apply Exists.intro
 refine ⟨fun W => ?_, ?_⟩
 ·go_simp
  try rfl
 try simp only [Act.put, sA, sB, sC]
 refine WL.tp 9 (some 31) (hi := rfl) (.inr hS) ?_
 apply Exists.intro
 refine ⟨fun W => ?_, ?_⟩
 ·go_simp
  try rfl
 try simp only [Act.put, sA, sB, sC]
 refine WL.tp 10 (some 32) (hi := rfl) (.inr hS) ?_
 apply Exists.intro
 refine ⟨fun W => ?_, ?_⟩
 ·go_simp
  try rfl
 try simp only [Act.put, sA, sB, sC]
 refine WL.o 11 (hi := rfl) ?_
 intro K hK
 have f0 := HF.out.2 Wd hbd 37
 have c0 := (HF.out.1 Wd hbd).1
 go_simp
 refine hK.out _ _ (.inr trivial) ?_
 clear hK K
 try simp only [Act.put, sA, sB, sC]
 refine WL.tp 12 (some 33) (hi := rfl) (.inr hS) ?_
 apply Exists.intro
 refine ⟨fun W => ?_, ?_⟩
 ·go_simp
  try rfl
 try simp only [Act.put, sA, sB, sC]
 refine WL.tp 13 (some 34) (hi := rfl) (.inr hS) ?_
 apply Exists.intro
 refine ⟨fun W => ?_, ?_⟩
 ·go_simp
  try rfl
 try simp only [Act.put, sA, sB, sC]
 refine WL.tp 14 (some 35) (hi := rfl) (.inr hS) ?_
 apply Exists.intro
 refine ⟨fun W => ?_, ?_⟩
 ·go_simp
  try rfl
 try simp only [Act.put, sA, sB, sC]
 refine WL.o 15 (hi := rfl) ?_
 intro K hK
 have f1 : (Wd.setCell ⟨cb, 37, none⟩ (.pointer (some ⟨cb, 4, none⟩))).frozen? ⟨cb, 38, none⟩ = false := (World.frozen?_setCell _ _ _ _).trans (HF.out.2 Wd hbd 38)
 have c1 := (cell_ne (w := Wd) (.pointer (some ⟨cb, 4, none⟩)) (show ¬ (cb = cb ∧ 37 = 38) by omega)).trans (HF.out.1 Wd hbd).2
 go_simp
 refine hK.out _ _ (.inr trivial) ?_
 clear hK K
 try simp only [Act.put, sA, sB, sC]
 refine WL.d ?_
 have HBD := hid hbd
 clear f0 c0 f1 c1 hS hbd
 go_wp2_with fail
 go_ret2
 obtain ⟨hn3, hrb, hcw, hb3, hz, hs3, hcb, hrbe, hb2⟩ := HN.out
 have hz1 := HB1.out.size
 have hb23 := (HBD.out.block cb hcw).trans hn3
 have hc : ∀ j, j < 37 → ((Wd.setCell ⟨cb, 37, none⟩ (.pointer (some ⟨cb, 4, none⟩))).setCell ⟨cb, 38, none⟩ (.pointer (some ⟨cb, 4, none⟩))).cell? ⟨cb, j, none⟩ = (cacC n (some ⟨dp, 0, none⟩) (some rb) (.pointer none) (.pointer none)).toArray[j]? := fun j hj => by
  rw [cell_ne _ (by omega), cell_ne _ (by omega)]
  exact cell_of_row _ _ j _ _ _ hb23
 have hset : ∀ k, k ≠ cb → ((Wd.setCell ⟨cb, 37, none⟩ (.pointer (some ⟨cb, 4, none⟩))).setCell ⟨cb, 38, none⟩ (.pointer (some ⟨cb, 4, none⟩))).heap[k]? = Wd.heap[k]? := fun k hk => by
  rw [heap_set_ne _ _ _ _ _ hk, heap_set_ne _ _ _ _ _ hk]
 have hzd := HBD.out.size
 have hcd : cb < Wd.heap.size := by omega
 have hT : Foot (fun k => k = cb) Wd ((Wd.setCell ⟨cb, 37, none⟩ (.pointer (some ⟨cb, 4, none⟩))).setCell ⟨cb, 38, none⟩ (.pointer (some ⟨cb, 4, none⟩))) :=
  (turned_cell (b := cb) 37 _ hcd).foot.trans (turned_cell (b := cb) 38 _ (by simp [World.setCell]; omega)).foot fun _ _ e => e
 have hB0 : Below W1.heap.size W1 Wd := Below.chain hb2 (Below.chain hb3 HBD.out)
 refine ⟨cb, rfl, _, ⟨fun k => k = cb ∨ k = rb, _, _, rb, dp, mb, _, [], _, fun k => Iff.rfl, ?_, rfl, (HDB.out.below hB0).keep hT ?_, fun d => rfl, ?_, fun k h => h.elim⟩, (Below.chain HB1.out hB0).trans (hT.below (by have := hB0.size; omega) (fun k e => by omega))⟩
 ·exact
   { ob := set_ob (set_ob ⟨_, hb23, by rw [List.size_toArray, cacC_len]⟩)
     cm := hc 0 (by omega)
     cs := hc 1 (by omega)
     cd := hc 2 (by omega)
     cr := hc 3 (by omega)
     row := fun r hr => by cases hr
     ch := ⟨World.cell?_setCell_same _ _ _ ((cell_ne _ (by omega)).trans (HF.out.1 Wd HBD.out).2), (cell_ne _ (by omega)).trans (World.cell?_setCell_same _ _ _ (HF.out.1 Wd HBD.out).1)⟩
     mp := ⟨.map #[] 0, fun _ => none, (hset rb (by omega)).trans ((Below.chain hb3 HBD.out).block rb (by omega) |>.trans hrb), MapIs.nil _, by simp⟩
     dist := List.nodup_nil
     bl := by simp; omega
     fit := Nat.zero_le _
     mx := hn
     sm := by simp
     rc := .inl rfl
     rr := .inr rfl
     rl := by simp
     bd := fun k hk => by
      have := hT.size
      rcases hk with rfl | rfl
      ·exact ⟨by omega, by omega⟩
      ·exact ⟨by omega, by omega⟩ }
 ·rintro k ((rfl | rfl) | h) e
  ·have := (HDB.out.db_ _ HDB.out.dd).2; omega
  ·have := (HDB.out.db_ _ HDB.out.dm).2; omega
  ·exact h
 ·rintro k hk
  refine ⟨fun e => ?_, fun e => e⟩
  have h1 := (HDB.out.db_ _ HDB.out.dd).2
  have h2 := (HDB.out.db_ _ HDB.out.dm).2
  omega
end Go.Proofs.YtlbipokkdiiaiaaGreatDoor
namespace Go.Proofs.YtlbipokkdiiaiaaGreatDoor
open Go.RowKit Go.Proofs.YtlbipokkdiiaiaaGreatDoor.Exec
set_option maxRecDepth 100000
def DoA (c : CaL) (m : MsgL) (c' : CaL) (r : MsgL) : Prop := ∃ (y : MsgL) (er : Int), Ans c m c' y er ∧ r = if er = 0 then { y with id := m.id } else ⟨8, m.id, dg0, [], [], er⟩
theorem id_cells (k : Int) (i j : Nat) (s : Dg) (d : List UInt8) (t : Value) (y : Int) : (msgC k i s d t y).toArray.setIfInBounds 1 (.int .u64 j) = (msgC k j s d t y).toArray := by
 apply Array.ext'
 simp [msgC]
theorem br1 {ty : TypeId} {d : TypeDesc} (hu : Tryz.prog.underlying ty = some d) {fn : Func} {p : Tmp} {R : Ending → World → Prop} {a : Act} {w : World} (g : Nat) {t : TypeId} {cs : Array Value} {fr : Nat × Nat} (hg : w.heap[g]? = some (.cells cs t fr)) (hR : R (.returned (.agg cs)) w) (h : fn.results = #[.cell p ty] := by rfl) (hp : a.tmps.getD p undef = .pointer (some ⟨g, 0, none⟩) := by rfl)
  (hd : (match d with | .struct _ | .array _ _ => true | _ => false) = true := by rfl) (hi : (Tryz.prog.info? ty).map (·.size) = some cs.size := by kernel_rfl) (hf : a.defers = [] := by rfl) : bodyPost Tryz.prog fn R .ret a w := by
 refine bodyPost_ret (v := .agg cs) ?_ hf hR
 have hp' : a.tmps[p]?.getD undef = .pointer (some ⟨g, 0, none⟩) := by simpa using hp
 cases d <;> simp at hd <;> simp [results, h, hp', asAddr, run_loadVar_row w g t ty cs fr _ hg hu rfl hi]
set_option maxHeartbeats 4000000 in
theorem do_any {B cb : Nat} {F N : Nat → Prop} {w : World} {c : CaL} (hc : CacheIs B F w cb c) (x : MsgM) (hx : OutM N w x) (hFN : ∀ k, F k → N k) (hB : B ≤ w.heap.size) :
  Calls Tryz.prog 9 #[.pointer (some ⟨cb, 0, none⟩), x.val] w fun e w' => ∃ (y : MsgM) (c' : CaL), e = .returned y.val ∧ DoA c x.l c' y.l ∧ Went B F w w' cb c' ∧ HeldM w' y ∧ OwnM (fun k => w.heap.size ≤ k) y := by
 have HC := hid hc
 have HX := hid hx
 have HB := hid hB
 have HCA : Hid (∀ W, Below w.heap.size w W → Calls Tryz.prog 33 #[.pointer (some ⟨cb, 0, none⟩), .agg x.cells.toArray] W fun e w' => ∃ (y : MsgM) (er : Int) (c' : CaL), e = .returned (.tuple #[.agg y.cells.toArray, .int .i64 er]) ∧ Ans c x.l c' y.l er ∧ Went B F W w' cb c' ∧ HeldM w' y ∧ OwnM (fun k => W.heap.size ≤ k) y) := hid (fun W hb => answer_any (HC.out.below hb) x (HX.out.keep hb) hFN (Nat.le_trans hB hb.size))
 unfold MsgM.val
 clear hc hx hB
 go_enter Tryz.func9, Tryz.ntmps9
 go_upto_region 1 with first | (refine wl_box rt34 ?_; intro W0 hb0 hn0 hs0) | (refine wl_al rt34 ?_; intro zs W1 hzs hb1 hn1 hs1)
 have hn0' := (hb1.block _ (by omega)).trans hn0
 rw [hs0] at hn1
 go_upto_region 2 with first | (refine wl_ld rt34 (range_of_heap hn0') (MsgM.len _) ?_) | (go_at_call 33; refine (HCA.out _ (Below.chain hb0 hb1)).mono ?_; rintro e W2 ⟨y, er, c', rfl, hans, hwent, hy, hyo⟩) | (refine wl_al rt34 ?_; intro zs3 W3 hzs3 hb3 hn3 hs3) | (refine wl_st (xs := y.cells.toArray) rt34 hn3 hzs3 (by rw [List.size_toArray]; exact MsgM.len _) hy.one ?_; intro W4 ht4 hn4 hs4)
 obtain ⟨F', hF', hf2, hc2⟩ := hwent
 have hnF : ∀ k, w.heap.size ≤ k → ¬ F k := fun k hk e => by have := (HC.out.bd k e).2; omega
 have hz2 := hf2.size
 have hb24 : Below W2.heap.size W2 W4 := hb3.trans (ht4.below (Nat.le_refl _))
 have HK := hid (And.intro ((hb24.block _ (by omega)).trans ((hf2.block _ (by omega) (hnF _ (Nat.le_refl _))).trans hn0')) ((hb24.block _ (by omega)).trans ((hf2.block _ (by omega) (hnF _ (Nat.le_succ _))).trans hn1)))
 have HF2 := hid (And.intro hF' (And.intro ((Foot.of_below (D := F) (Below.chain hb0 hb1)).trans hf2 fun _ _ e => e) (And.intro hc2 hb24)))
 have HY := hid (And.intro hans (And.intro hy hyo))
 have HZ := hid (And.intro (show W1.heap.size = w.heap.size + 2 by omega) (show w.heap.size + 2 ≤ W2.heap.size by omega))
 clear hb0 hb1 hn0 hn1 hn0' hs0 hs1 hb3 hn3 hs3 hF' hf2 hc2 hnF hz2 hb24 hy hyo hans ht4 hs4
 go_upto_if 14 with fail
 go_cut [] (fun wx => ∃ z : MsgM, wx.heap[W2.heap.size]? = some (.cells z.cells.toArray 34 (0, 0)) ∧ z.l = (if er = 0 then y.l else ⟨8, 0, dg0, [], [], er⟩) ∧ (HeldM W2 z ∧ OwnM (fun k => W1.heap.size ≤ k) z) ∧ Below W2.heap.size W4 wx)
 case first =>
  by_cases he : er = 0
  ·have E := neF he
   go_wp2_with fail
   go_meet
   exact ⟨y, hn4, by rw [if_pos he], HY.out.2, Below.refl _ _⟩
  ·have E := neT he
   go_wp2_with first | (refine wl_run (r_build (built_why 8 er) rfl (by simp only [List.map_toArray, List.map_cons, List.map_nil]; rfl)) ?_) | (refine wl_st (xs := (msgC 8 0 dg0 [] nilS er).toArray) rt34 hn4 (by rw [List.size_toArray, MsgM.len]) (by rw [List.size_toArray, msgC_len]) (msgC_one rfl) ?_; intro W5 ht5 hn5 hs5)
   go_meet
   exact ⟨⟨8, 0, dg0, [], nilS, [], er⟩, hn5, by rw [if_neg he]; rfl, ⟨heldN ⟨rfl, rfl⟩, ownN ⟨rfl, rfl⟩⟩, ht5.below (Nat.le_refl _)⟩
 case rest =>
  obtain ⟨z, hnz, hzl, hzh, hbz⟩ := hcut
  obtain ⟨m0, m1, m2, m3, m4, m5⟩ := MsgM.parts ((hbz.block _ (by have := HZ.out.2; have := HF2.out.2.2.2.size; omega)).trans HK.out.1)
  have c1 := (MsgM.parts hnz).2.1
  have f1 : wc.frozen? ⟨W2.heap.size, 1, none⟩ = false := Lib.frozen_of_heap hnz 1
  have HN := hid (And.intro hnz (And.intro hzl (And.intro hzh hbz)))
  clear m0 m2 m3 m4 m5 hnz hzl hzh hbz hn4
  go_upto_region 5 with fail
  have hn6 := heap_setCell_same wc W2.heap.size 1 _ 34 (.int .u64 (x.id : Nat)) HN.out.1
  have hsz6 : (wc.setCell ⟨W2.heap.size, 1, none⟩ (.int .u64 (x.id : Nat))).heap.size = wc.heap.size := World.size_setCell _ _ _
  have ht6 := turned_cell (w := wc) (b := W2.heap.size) 1 (.int .u64 (x.id : Nat)) (lx (hid HN.out.1))
  generalize wc.setCell ⟨W2.heap.size, 1, none⟩ (.int .u64 (x.id : Nat)) = W6 at *
  have hb26 : Below W2.heap.size W2 W6 := HF2.out.2.2.2.trans (HN.out.2.2.2.trans (ht6.below (Nat.le_refl _)))
  obtain ⟨zk, zi, zs', zd, ztv, zts, zy⟩ := z
  rw [show MsgM.cells ⟨zk, zi, zs', zd, ztv, zts, zy⟩ = msgC zk zi zs' zd ztv zy from rfl, id_cells] at hn6
  have hzs6 : W6.heap[w.heap.size + 1]? = some (.cells zs 34 (0, 0)) := by
   have h1 := HZ.out.2
   have h2 := HF2.out.2.2.2.size
   exact (ht6.foot.block _ (by have := lx (hid HN.out.1); omega) (by omega)).trans ((HN.out.2.2.2.block _ (by omega)).trans HK.out.2)
  have hone : ∀ u ∈ (msgC zk x.id zs' zd ztv zy), u.oneCell' = true := (show HeldM W2 ⟨zk, x.id, zs', zd, ztv, zts, zy⟩ from HN.out.2.2.1.1).one
  go_wp2_with first | (refine wl_ld rt34 (range_of_heap hn6) (msgC_len _ _ _ _ _ _) ?_) | (refine wl_st (xs := (msgC zk x.id zs' zd ztv zy).toArray) rt34 hzs6 hzs (by rw [List.size_toArray, msgC_len]) hone ?_; intro W7 ht7 hn7 hs7)
  have hz6 := hb26.size
  have hzz := HZ.out
  refine br1 _ hn7 ⟨⟨zk, x.id, zs', zd, ztv, zts, zy⟩, rfl, c', ⟨y.l, er, HY.out.1, ?_⟩, ⟨F', fun k hk => ?_, ?_, ?_⟩, ?_, HN.out.2.2.1.2.mono fun k hk => by omega⟩ (hu := Tryz.underlying34) (hi := by rw [List.size_toArray, msgC_len]; kernel_rfl)
  ·have h1 := HN.out.2.1
   by_cases he : er = 0
   ·rw [if_pos he] at h1 ⊢
    rw [← h1]
    rfl
   ·rw [if_neg he] at h1 ⊢
    unfold MsgM.l at h1 ⊢
    simp only [MsgL.mk.injEq] at h1 ⊢
    exact ⟨h1.1, trivial, h1.2.2⟩
  ·rcases HF2.out.1 k hk with h | h
   ·exact .inl h
   ·exact .inr (by omega)
  ·have hf1 := HF2.out.2.1
   refine (hf1.trans (Foot.of_below (D := F) hb26) fun _ _ e => e).trans ht7.foot fun i hi e => by omega
  ·refine (HF2.out.2.2.1.below hb26).keep ht7.foot fun k hk e => ?_
   rcases HF2.out.1 k hk with h | h
   ·have := (HC.out.bd k h).2; omega
   ·omega
  ·exact (HN.out.2.2.1.1.keep hb26).stay ht7.foot.size HN.out.2.2.1.2 fun k hk hl => ht7.foot.block k hl (by omega)
end Go.Proofs.YtlbipokkdiiaiaaGreatDoor
namespace Go.Proofs.YtlbipokkdiiaiaaGreatDoor
open Go.RowKit Go.Proofs.YtlbipokkdiiaiaaGreatDoor.Exec
set_option maxRecDepth 100000
structure CurAt (P : Nat → Prop) (ty : TypeId) (g : Nat) (w0 : World) (ss : List (List UInt8)) (w : World) : Prop where
 b : Below w0.heap.size w0 w
 lo : w0.heap.size ≤ g
 v : ∃ v, SliceAt w0 1 v ss.length (strCells ss) ∧ w.heap[g]? = some (.cells #[v, .bool false] ty (0, 0)) ∧ ∀ k, v.ownBlock = some k → P k
theorem CurAt.keep {P : Nat → Prop} {ty : TypeId} {g : Nat} {w0 : World} {ss : List (List UInt8)} {w w' : World} (h : CurAt P ty g w0 ss w) (hb : Below w.heap.size w w') : CurAt P ty g w0 ss w' := by
 obtain ⟨v, h1, h2, h9⟩ := h.v
 exact ⟨h.b.trans (hb.mono h.b.size), h.lo, v, h1, (hb.block g (lx (hid h2))).trans h2, h9⟩
theorem CurAt.other {P : Nat → Prop} {ty : TypeId} {g r : Nat} {w0 : World} {ss : List (List UInt8)} {w w' : World} (h : CurAt P ty g w0 ss w) (ht : Turned r w w') (hr : w0.heap.size ≤ r) (hg : g ≠ r) : CurAt P ty g w0 ss w' := by
 obtain ⟨v, h1, h2, h9⟩ := h.v
 exact ⟨h.b.trans (ht.below hr), h.lo, v, h1, (ht.foot.block g (lx (hid h2)) hg).trans h2, h9⟩
theorem CurAt.lt {P : Nat → Prop} {ty : TypeId} {g : Nat} {w0 : World} {ss : List (List UInt8)} {w : World} (h : CurAt P ty g w0 ss w) : g < w.heap.size := by
 obtain ⟨v, h1, h2, h9⟩ := h.v
 exact lx (hid h2)
theorem ctext_c {P : Nat → Prop} {g : Nat} {w0 w : World} {s : List UInt8} {rest : List (List UInt8)} (h : CurAt P 263 g w0 (s :: rest) w) :
  Calls Tryz.prog 130 #[.pointer (some ⟨g, 0, none⟩)] w fun e w' => e = .returned (.string (bs s)) ∧ CurAt P 263 g w0 rest w' ∧ Foot (fun k => k = g) w w' := by
 obtain ⟨v, h1, h2, h9⟩ := h.v
 refine (ctext_any g v false s rest w0 w h1 h.b h2).mono ?_
 rintro e w' ⟨v', rfl, h3, h4, h5, h6⟩
 exact ⟨rfl, ⟨h.b.trans (h5.below h.lo), h.lo, v', h3, h4, fun k hk => h9 k (h6 ▸ hk)⟩, h5.foot⟩
theorem ttext_c {P : Nat → Prop} {g : Nat} {w0 w : World} {s : List UInt8} {rest : List (List UInt8)} (h : CurAt P 189 g w0 (s :: rest) w) :
  Calls Tryz.prog 87 #[.pointer (some ⟨g, 0, none⟩)] w fun e w' => e = .returned (.string (bs s)) ∧ CurAt P 189 g w0 rest w' ∧ Foot (fun k => k = g) w w' := by
 obtain ⟨v, h1, h2, h9⟩ := h.v
 refine (ttext_any g v false s rest w0 w h1 h.b h2).mono ?_
 rintro e w' ⟨v', rfl, h3, h4, h5, h6⟩
 exact ⟨rfl, ⟨h.b.trans (h5.below h.lo), h.lo, v', h3, h4, fun k hk => h9 k (h6 ▸ hk)⟩, h5.foot⟩
theorem CurAt.cells {P : Nat → Prop} {ty : TypeId} {g : Nat} {w0 : World} {ss : List (List UInt8)} {w : World} (h : CurAt P ty g w0 ss w) :
  ∃ v, SliceAt w0 1 v ss.length (strCells ss) ∧ w.cell? ⟨g, 0, none⟩ = some v ∧ w.cell? ⟨g, 1, none⟩ = some (.bool false) ∧ w.frozen? ⟨g, 1, none⟩ = false ∧ w.heap[g]? = some (.cells #[v, .bool false] ty (0, 0)) := by
 obtain ⟨v, h1, h2, h9⟩ := h.v
 exact ⟨v, h1, (cell_of_row w g 0 _ _ _ h2).trans rfl, (cell_of_row w g 1 _ _ _ h2).trans rfl, Lib.frozen_of_heap h2 1, h2⟩
theorem CurAt.flag {P : Nat → Prop} {ty : TypeId} {g : Nat} {w0 : World} {ss : List (List UInt8)} {w : World} (h : CurAt P ty g w0 ss w) : CurAt P ty g w0 ss (w.setCell ⟨g, 1, none⟩ (.bool false)) ∧ Foot (fun k => k = g) w (w.setCell ⟨g, 1, none⟩ (.bool false)) := by
 obtain ⟨v, h1, h2, h9⟩ := h.v
 have ht := turned_cell (w := w) (b := g) 1 (.bool false) (lx (hid h2))
 exact ⟨⟨h.b.trans (ht.below h.lo), h.lo, v, h1, (heap_setCell_same w g 1 _ _ _ h2).trans rfl, h9⟩, ht.foot⟩
theorem copy_dg {w : World} {g : Nat} {zs : Array Value} {d : Dg} (hg : w.heap[g]? = some (.cells zs 31 (0, 0))) (hz : zs.size = 32) (ty : TypeId) :
  (Builtin.copy_ #[49, 9] ty #[.slice (some ⟨g, 0, none⟩) 32 32, .string (bs d.1)]).run Tryz.prog w = .ok (.int .i64 32) (w.setRow g (dgc d).toArray) := by
 have h32 : (bs d.1).size = 32 := by rw [bs_size, d.2]
 have := Lib.run_copy_row_string (P := Tryz.prog) w 49 9 ty 5 g 0 32 32 (bs d.1) zs 31 Tryz.underlying49 (by kernel_rfl) hg (by omega) (by omega)
 rw [this, h32]
 have e : (zs.toList.take 0 ++ Lib.byteCells (bs d.1).data.toList ++ zs.toList.drop (0 + 32)) = dgc d := by
  rw [List.drop_eq_nil_of_le (by rw [Array.length_toList, hz]; omega)]
  simp [dgc, bs]
 rw [e]
 rfl
set_option maxHeartbeats 2000000 in
theorem cdigest_c {P : Nat → Prop} {g : Nat} {w0 w : World} {d : Dg} {rest : List (List UInt8)} (h : CurAt P 263 g w0 (d.1 :: rest) w) :
  Calls Tryz.prog 127 #[.pointer (some ⟨g, 0, none⟩)] w fun e w' => e = .returned (.agg (dgc d).toArray) ∧ CurAt P 263 g w0 rest w' ∧ Foot (fun k => k = g) w w' := by
 have HC := hid h
 have hgl := h.lt
 clear h
 go_enter Tryz.func127, Tryz.ntmps127
 go_upto_region 1 with (refine wl_al rt31 ?_; intro z1 W1 hz1 hb1 hn1 hs1)
 go_upto_region 2 with (refine wl_al rt31 ?_; intro z2 W2 hz2 hb2 hn2 hs2)
 rw [hs1] at hn2
 have hn1' := (hb2.block _ (by omega)).trans hn1
 have hs2' : W2.heap.size = w.heap.size + 2 := by omega
 have HB2 := hid (Below.chain hb1 hb2)
 have HN := hid (And.intro hn1' hn2)
 have HZ := hid (And.intro hs2' hgl)
 have hlen : d.val.length = 32 := d.2
 clear hb1 hb2 hn1 hn2 hn1' hs2 hs2' hgl
 go_upto_region 3 with (go_at_call 130; refine (ctext_c (HC.out.keep HB2.out)).mono ?_; rintro e W3 ⟨rfl, hc3, hf3⟩)
 obtain ⟨v3, hv3, c0, c1, fz, hg3⟩ := hc3.cells
 have HC3 := hid hc3
 have HF3 := hid hf3
 clear hc3 hf3 hv3 c0 hg3
 go_upto_region 4 with fail
 obtain ⟨hc4, hf4⟩ := HC3.out.flag
 have hf24 := HF3.out.chain hf4
 generalize W3.setCell ⟨g, 1, none⟩ (.bool false) = W4 at *
 obtain ⟨hz20, hgl⟩ := HZ.out
 have hn41 := (hf24.block w.heap.size (by omega) (by omega)).trans HN.out.1
 have hn42 := (hf24.block (w.heap.size + 1) (by omega) (by omega)).trans HN.out.2
 have hcp := fun ty => copy_dg (d := d) hn42 hz2 ty
 have hsr := setRow_heap W4 _ _ (dgc d).toArray _ _ hn42
 have ht5 : Turned (w.heap.size + 1) W4 (W4.setRow (w.heap.size + 1) (dgc d).toArray) := ⟨lx (hid hn42), rfl, rfl, rfl, by simp, fun k _ hne => setRow_other _ _ _ _ hne⟩
 go_upto_region 5 with (at_builtin; refine Lib.wpList_copy_run _ rfl _ _ _ _ rfl _ _ rfl rfl (hcp _) ?_)
 generalize W4.setRow (w.heap.size + 1) (dgc d).toArray = W5 at *
 have hn51 := (ht5.foot.block w.heap.size (lx (hid hn41)) (by omega)).trans hn41
 clear hcp
 go_wp2_with first | (refine wl_ld rt31 (range_of_heap hsr) (dgc_len _) ?_) | (refine wl_st (xs := (dgc d).toArray) rt31 hn51 hz1 (by rw [List.size_toArray]; exact dgc_len _) (dgc_one _) ?_; intro W6 ht6 hn6 hs6)
 have hwg := HC.out.b.size
 have hc5 := hc4.other ht5 (by omega) (by omega)
 have hc6 := hc5.other ht6 (by omega) (by omega)
 refine br1 _ hn6 ⟨rfl, hc6, ?_⟩ (hu := Tryz.underlying31) (hi := by rw [List.size_toArray, dgc_len]; kernel_rfl)
 exact (((Foot.of_below (D := fun k => k = g) HB2.out).chain hf24).trans ht5.foot fun i hi e => by omega).trans ht6.foot fun i hi e => by omega
end Go.Proofs.YtlbipokkdiiaiaaGreatDoor
namespace Go.Proofs.YtlbipokkdiiaiaaGreatDoor
open Go.RowKit Go.Proofs.YtlbipokkdiiaiaaGreatDoor.Exec
set_option maxRecDepth 100000
theorem intL_dig (n : Nat) (h : n ≤ 9223372036854775807) : intL (dig n) = ((n : Int), true) := by
 have := intL_itoa (v := (n : Int)) (by omega) (by omega)
 rwa [itoa_nat] at this
theorem wl_stm {ops : Array Oper} {Q : Exit → Act → World → Prop} {rest : List Oper} {o : Oper} {a : Act} {w : World} {ty n r : Nat} (A old xs C : List Value) {x y : Operand} {t : TypeId} (rt : RowTy ty n) (hr : w.heap[r]? = some (.cells (A ++ old ++ C).toArray t (0, 0))) (hold : old.length = n) (hs : xs.length = n) (h1 : ∀ u ∈ xs, u.oneCell' = true)
  (h : ∀ W1, Turned r w W1 → W1.heap[r]? = some (.cells (A ++ xs ++ C).toArray t (0, 0)) → W1.heap.size = w.heap.size → wpList Tryz.prog ops Q rest (a.put o.dst undef) W1)
  (ho : o.op = .store ty x y := by rfl) (hx : a.eval x = .pointer (some ⟨r, A.length, none⟩) := by rfl) (hy : a.eval y = .agg xs.toArray := by rfl) (hw : Region.wanted o (yielded ops a.tmps) = true := by rfl) :
  wpList Tryz.prog ops Q (o :: rest) a w := by
 obtain ⟨d, _, _, h3⟩ := rt.out
 have hlt : r < w.heap.size := (Array.getElem?_eq_some_iff.1 hr).1
 have hst := run_storeCells_at Tryz.prog r A.length t xs 0 _ w hr (by rw [List.size_toArray, List.length_append, List.length_append]; omega) h1
 have e1 : (A ++ old ++ C).toArray.toList.take (A.length + 0) = A := by rw [List.append_assoc]; simp
 have e2 : (A ++ old ++ C).toArray.toList.drop (A.length + 0 + xs.length) = C := by
  rw [hs, ← hold]
  show List.drop _ (A ++ old ++ C) = C
  exact List.drop_left' (by rw [List.length_append]; omega)
 rw [e1, e2] at hst
 have hsv : (storeVar ty ⟨r, A.length, none⟩ (.agg xs.toArray)).run Tryz.prog w = .ok () (w.setRow r (A ++ xs ++ C).toArray) := by
  cases hq : Tryz.prog.info? ty with
  | none => rw [hq] at h3; cases h3
  | some i =>
    have hi : i.size = n := by rw [hq] at h3; simpa using h3
    simp [storeVar, sizeOf, typeInfo, hq, Value.cells, hi, hs]
    simpa using hst
 refine wl_skip (w' := w.setRow r (A ++ xs ++ C).toArray) ?_ (h _ ⟨hlt, rfl, rfl, rfl, by simp, fun k _ hne => setRow_other _ _ _ _ hne⟩ (setRow_heap _ _ _ _ _ _ hr) (by simp)) hw
 unfold execOp
 simp only [ho, hx, hy, Instr.storeAt, Instr.sureAddr, Sem.run_bind, Sem.run_pure, Result.andThen_ok, hsv]
theorem info100 : builtInfo 100 = some ((RdL.cells ⟨[], false, dg0⟩).toArray, [(0, 1), (1, 1), (2, 32)]) := by kernel_rfl
theorem built100 (p : List UInt8) : Tryz.prog.built 100 [(0, .string (bs p))] = some (RdL.cells ⟨p, false, dg0⟩).toArray := by
 rw [built_of info100]
 have e : ∀ q, RdL.cells ⟨q, false, dg0⟩ = [] ++ [Value.string (bs q)] ++ (.bool false :: dgc dg0) := fun q => rfl
 rw [e, e, fill_step (i := 0) (off := 0) (size := 1) (xs := [.string (bs p)]) rfl rfl rfl rfl rfl]
 rfl
set_option maxHeartbeats 2000000 in
theorem cnumber_c {P : Nat → Prop} {g : Nat} {w0 w : World} {n : Nat} {rest : List (List UInt8)} (h : CurAt P 263 g w0 (dig n :: rest) w) (hp : PowTab w0) (he : ErrsAt w0) (hn : n ≤ rest.length / 2) (hr : rest.length ≤ 1000000) :
  Calls Tryz.prog 128 #[.pointer (some ⟨g, 0, none⟩)] w fun e w' => e = .returned (.int .i64 n) ∧ CurAt P 263 g w0 rest w' ∧ Foot (fun k => k = g) w w' := by
 have HC := hid h
 have HP := hid (And.intro hp he)
 have HD := hid (dig_len20 (n := n) (by omega))
 have HN := hid (And.intro hn hr)
 clear h hp he hn hr
 go_enter Tryz.func128, Tryz.ntmps128
 go_upto_region 2 with first | (go_at_call 130; refine (ctext_c HC.out).mono ?_; rintro e W1 ⟨rfl, hc1, hf1⟩) | (go_at_call 126; refine (int_any (dig n) (by have := HD.out; omega) n true (intL_dig n (by have := HN.out; omega)) W1 (HP.out.1.below hc1.b) (HP.out.2.below hc1.b)).mono ?_; rintro e W2 ⟨rfl, hb2⟩)
 have hc2 := hc1.keep hb2
 obtain ⟨v3, hv3, c0, c1, fz, hg3⟩ := hc2.cells
 obtain ⟨-, a3, k3, rfl, hk3, -⟩ := hv3
 have HC2 := hid hc2
 have HF2 := hid (hf1.then hb2)
 clear hc1 hf1 hb2 hc2 hg3 fz c1
 have e1 : decide ((n : Int) < 0) = false := decide_eq_false (by omega)
 have e2 : decide (wrap64 ((rest.length : Int) / 2) < (n : Int)) = false := decide_eq_false (by have := HN.out; unfold wrap64; omega)
 clear hk3
 go_wp2_with fail
 go_ret
 exact ⟨rfl, HC2.out, HF2.out⟩
theorem set_flag (p : List UInt8) (b c : Bool) (d : Dg) : (RdL.cells ⟨p, b, d⟩).toArray.setIfInBounds 1 (.bool c) = ([Value.string (bs p), Value.bool c] ++ dgc d ++ []).toArray := by
 apply Array.ext'
 simp [RdL.cells]
set_option maxHeartbeats 2000000 in
theorem cread_c {P : Nat → Prop} {g : Nat} {w0 w : World} {r : RdL} {rest : List (List UInt8)} (h : CurAt P 263 g w0 (rdT r ++ rest) w) (hz : r.is = false → r.sum = dg0) :
  Calls Tryz.prog 129 #[.pointer (some ⟨g, 0, none⟩)] w fun e w' => e = .returned (.agg r.cells.toArray) ∧ CurAt P 263 g w0 rest w' ∧ Foot (fun k => k = g) w w' := by
 obtain ⟨p, is, d⟩ := r
 have HC := hid h
 have hgl := h.lt
 have hwg := h.lo
 have hw0 := h.b.size
 clear h
 unfold rdT at HC
 generalize hsnd : (if is = true then d.1 else []) = snd at HC
 go_enter Tryz.func129, Tryz.ntmps129
 go_upto_region 1 with (refine wl_al rt100 ?_; intro z1 W1 hz1 hb1 hn1 hs1)
 go_upto_region 2 with first | (go_at_call 130; refine (ctext_c (HC.out.keep hb1)).mono ?_; rintro e W2 ⟨rfl, hc2, hf2⟩) | (refine wl_run (r_build (built100 _) rfl (by simp only [List.map_toArray, List.map_cons, List.map_nil]; rfl)) ?_) | (refine wl_new (xs := (RdL.cells ⟨p, false, dg0⟩).toArray) rt100 (by rw [List.size_toArray]; exact RdL.len _) (RdL.one _) ?_; intro W3 hb3 hn3 hs3)
 have hc3 := hc2.keep hb3
 obtain ⟨v, hv, c0, c1, fz, -⟩ := hc3.cells
 obtain ⟨-, a, c, rfl, hc, hm, hx⟩ := hv.str
 obtain ⟨tb, off, rfl, htb, hcl⟩ := hx 0 (by simp)
 have k0 : W3.cell? ⟨tb, off, none⟩ = some (.string (bs snd)) := Below.keeps hc3.b (hcl 0 (by simp))
 have hn' : decide (0 < (rest.length : Int) + 1) = true := decide_eq_true (by omega)
 unfold maxLen at hm
 have hz1' : W1.heap.size = w.heap.size + 1 := hs1
 have hz3 : W3.heap.size = W2.heap.size + 1 := hs3
 have hz2 := hf2.size
 have hn13 := (hb3.block w.heap.size (by omega)).trans ((hf2.block w.heap.size (by omega) (by omega)).trans hn1)
 have HC3 := hid hc3
 have HF3 := hid ((Foot.of_below (D := fun k => k = g) hb1).chain (hf2.then hb3))
 have HN := hid (And.intro hn13 (And.intro hn3 (And.intro hz1 (And.intro hz1' (And.intro hz2 (And.intro hz3 (And.intro hgl (And.intro hwg hw0))))))))
 clear hb1 hn1 hs1 hc2 hf2 hb3 hn3 hs3 hc3 hv hx hcl c1 fz hz1' hz2 hz3 hn13 hgl hwg hw0 hz1 htb
 cases is with
 | false =>
   simp at hsnd hz
   subst hsnd hz
   go_upto_region 4 with (go_at_call 130; refine (ctext_c HC3.out).mono ?_; rintro e W4 ⟨rfl, hc4, hf4⟩)
   obtain ⟨hn13, hn3, hz1, hz1', hz2, hz3, hgl, hwg, hw0⟩ := HN.out
   have hn43 := (hf4.block _ (by omega) (by omega)).trans hn3
   have hn41 := (hf4.block _ (by have := lx (hid hn13); omega) (by omega)).trans hn13
   go_wp2_with first | (refine wl_ld rt100 (range_of_heap hn43) (RdL.len _) ?_) | (refine wl_st (xs := (RdL.cells ⟨p, false, dg0⟩).toArray) rt100 hn41 hz1 (by rw [List.size_toArray]; exact RdL.len _) (RdL.one _) ?_; intro W6 ht6 hn6 hs6)
   refine br1 _ hn6 ⟨rfl, hc4.other ht6 (by omega) (by omega), ?_⟩ (hu := Tryz.underlying100) (hi := by rw [List.size_toArray, RdL.len]; kernel_rfl)
   exact (HF3.out.chain hf4).trans ht6.foot fun i hi e => by omega
 | true =>
   simp at hsnd
   subst hsnd
   have he : d.val.isEmpty = false := by
    cases h : d.val with
    | nil => have := d.2; rw [h] at this; cases this
    | cons a b => rfl
   have c3 := (RdL.parts0 HN.out.2.1).2.1
   go_upto_region 5 with fail
   go_upto_region 6 with first | (go_at_call 127; refine (cdigest_c HC3.out).mono ?_; rintro e W4 ⟨rfl, hc4, hf4⟩; have hnx := HN.out; have hn43 := (hf4.block _ (by have := hnx.2.2.2.2.2.1; omega) (by have := hnx.2.2.2.2.1; have := hnx.2.2.2.2.2.2.1; have := hnx.2.2.2.1; omega)).trans hnx.2.1; have c43 := (RdL.parts0 hn43).2.1; have f43 := Lib.frozen_of_heap hn43 1; have hn53 := heap_setCell_same W4 _ 1 _ _ (.bool true) hn43; rw [set_flag] at hn53) | (refine wl_stm [.string (bs p), .bool true] (dgc dg0) (dgc d) [] rt31 hn53 (dgc_len _) (dgc_len _) (dgc_one _) ?_; intro W6 ht6 hn6 hs6)
   obtain ⟨hn13, hn3, hz1, hz1', hz2, hz3, hgl, hwg, hw0⟩ := HN.out
   have ht5 := turned_cell (w := W4) (b := W2.heap.size) 1 (.bool true) (lx (hid hn43))
   have hf45 := ht5.foot.chain ht6.foot
   have hn41 := (hf45.block w.heap.size (by have := lx (hid hn13); have := hf4.size; omega) (by omega)).trans ((hf4.block _ (by have := lx (hid hn13); omega) (by omega)).trans hn13)
   have e6 : ([Value.string (bs p), .bool true] ++ dgc d ++ []) = RdL.cells ⟨p, true, d⟩ := by simp [RdL.cells]
   rw [e6] at hn6
   have hc6 := (hc4.other ht5 (by omega) (by omega)).other ht6 (by omega) (by omega)
   clear hn53 c43 f43 hn43 ht5
   go_wp2_with first | (refine wl_ld rt100 (range_of_heap hn6) (RdL.len _) ?_) | (refine wl_st (xs := (RdL.cells ⟨p, true, d⟩).toArray) rt100 hn41 hz1 (by rw [List.size_toArray]; exact RdL.len _) (RdL.one _) ?_; intro W7 ht7 hn7 hs7)
   refine br1 _ hn7 ⟨rfl, hc6.other ht7 (by omega) (by omega), ?_⟩ (hu := Tryz.underlying100) (hi := by rw [List.size_toArray, RdL.len]; kernel_rfl)
   exact (((HF3.out.chain hf4).trans hf45 fun i hi e => by omega)).trans ht7.foot fun i hi e => by omega
end Go.Proofs.YtlbipokkdiiaiaaGreatDoor
namespace Go.Proofs.YtlbipokkdiiaiaaGreatDoor
open Go.RowKit Go.Proofs.YtlbipokkdiiaiaaGreatDoor.Exec
set_option maxRecDepth 100000
theorem bytesRow_at (l : List UInt8) (n : Nat) (j : Nat) (v : Value) (h : (Lib.byteCells l)[j]? = some v) : (bytesRow (bs l) n)[j]? = some v := by
 have hj : j < l.length := by have := (List.getElem?_eq_some_iff.1 h).1; rwa [Lib.byteCells_length] at this
 unfold bytesRow
 simp only [Lib.byteCells, List.getElem?_map] at h
 rw [Array.getElem?_append_left (by simpa [bs] using hj)]
 simpa [bs] using h
theorem conv_bytes (w : World) (s : List UInt8) (hs : s.length ≤ 1000000000) : ∃ c W, (convert 9 49 (.string (bs s))).run Tryz.prog w = .ok (.slice (some ⟨w.heap.size, 0, none⟩) s.length c) W ∧ W.rangeAt w.heap.size 0 (Lib.byteCells s) ∧ s.length ≤ c ∧ c ≤ maxLen ∧ W.heap.size = w.heap.size + 1 ∧ Below w.heap.size w W := by
 have h := run_bytes_of_string (P := Tryz.prog) w 9 49 5 (bs s) (by kernel_rfl) Tryz.underlying49 (by kernel_rfl)
 have hz : (bs s).size = s.length := bs_size s
 rw [hz] at h
 have hb := below_new w.drew (.cells (bytesRow (bs s) (grownCap w s.length 0 5)) 5 ((bytesRow (bs s) (grownCap w s.length 0 5)).size, (bytesRow (bs s) (grownCap w s.length 0 5)).size + 1))
 refine ⟨_, _, h, fun j v hv => ?_, grownCap_ge _ _ _ _, grownCap_le_maxLen _ _ _ _ (by unfold maxLen; omega), World.size_alloc _ _, hb.os, hb.tape, hb.output, hb.size, hb.block⟩
 refine (cell_of_row _ w.drew.heap.size (0 + j) _ _ _ (heap_alloc_new w.drew _)).trans ?_
 rw [Nat.zero_add]
 exact bytesRow_at s _ j v hv
set_option maxHeartbeats 1000000 in
theorem tnumber_c {P : Nat → Prop} {g : Nat} {w0 w : World} {k : Nat} {rest : List (List UInt8)} (h : CurAt P 189 g w0 (Lib.itoa (k : Int) :: rest) w) (hp : PowTab w0) (he : ErrsAt w0) (hk : k ≤ 1000) :
  Calls Tryz.prog 85 #[.pointer (some ⟨g, 0, none⟩)] w fun e w' => e = .returned (.int .i64 (k : Int)) ∧ CurAt P 189 g w0 rest w' ∧ Foot (fun k => k = g) w w' := by
 have HC := hid h
 have HP := hid (And.intro hp he)
 have HL := hid (show (Lib.itoa (k : Int)).length ≤ 20 by rw [itoa_nat]; exact Nat.le_trans (dig_len20 (n := k) (by omega)) (by omega))
 have HI := hid (intL_itoa (v := (k : Int)) (by omega) (by omega))
 have hgl := h.lt
 clear h hp he
 go_enter Tryz.func85, Tryz.ntmps85
 go_upto_region 2 with first | (go_at_call 87; refine (ttext_c HC.out).mono ?_; rintro e W1 ⟨rfl, hc1, hf1⟩) | (go_at_call 126; refine (int_any (Lib.itoa (k : Int)) (by have := HL.out; omega) k true HI.out W1 (HP.out.1.below hc1.b) (HP.out.2.below hc1.b)).mono ?_; rintro e W2 ⟨rfl, hb2⟩)
 have hc2 := hc1.keep hb2
 obtain ⟨v3, hv3, c0, c1, fz, hg3⟩ := hc2.cells
 have HC2 := hid hc2
 have HF2 := hid (hf1.then hb2)
 clear hc1 hf1 hb2 hc2 hg3 hv3 c0
 go_upto_region 3 with fail
 obtain ⟨hc4, hf4⟩ := HC2.out.flag
 have HF4 := hid (HF2.out.chain hf4)
 generalize W2.setCell ⟨g, 1, none⟩ (.bool false) = W4 at *
 have HC4 := hid hc4
 clear hc4 hf4 c1 fz
 go_wp2_with fail
 go_ret
 exact ⟨rfl, HC4.out, HF4.out⟩
set_option maxHeartbeats 1000000 in
theorem tsized_c {P : Nat → Prop} {g : Nat} {w0 w : World} {s : List UInt8} {n : Nat} {rest : List (List UInt8)} (h : CurAt P 189 g w0 (s :: rest) w) (hn : s.length = n) (h1 : n ≤ 1000) :
  Calls Tryz.prog 86 #[.pointer (some ⟨g, 0, none⟩), .int .i64 (n : Int)] w fun e w' => ∃ b c, e = .returned (.slice (some ⟨b, 0, none⟩) n c) ∧ w'.rangeAt b 0 (Lib.byteCells s) ∧ w.heap.size ≤ b ∧ b < w'.heap.size ∧ n ≤ c ∧ c ≤ maxLen ∧ CurAt P 189 g w0 rest w' ∧ Foot (fun k => k = g) w w' := by
 have HC := hid h
 have HN := hid hn
 have E1 : ((n : Int) != (n : Int)) = false := by simp
 clear h hn
 go_enter Tryz.func86, Tryz.ntmps86
 go_upto_region 2 with (go_at_call 87; refine (ttext_c HC.out).mono ?_; rintro e W1 ⟨rfl, hc1, hf1⟩; obtain ⟨c2, W2, hr2, hra2, hcl2, hcm2, hs2, hb2⟩ := conv_bytes W1 s (by have := HN.out; omega); rw [HN.out] at hr2)
 have hz := hf1.size
 have HR := hid (And.intro hra2 (And.intro hcl2 (And.intro hcm2 (And.intro (show w.heap.size ≤ W1.heap.size from hz) (show W1.heap.size < W2.heap.size by omega)))))
 have HC2 := hid (hc1.keep hb2)
 have HF2 := hid (hf1.then hb2)
 clear hc1 hf1 hb2 hra2 hcl2 hcm2 hs2 hz hr2
 go_wp2_with fail
 go_ret
 exact ⟨_, _, rfl, HR.out.1, HR.out.2.2.2.1, HR.out.2.2.2.2, by rw [← HN.out]; exact HR.out.2.1, HR.out.2.2.1, HC2.out, HF2.out⟩
section
variable {o : Oper} {a : Act} {w w' : World} {Q : Exit → Act → World → Prop} {K : Act → World → Prop}
theorem wp_bs {t e sz by_ : Nat} {xs : Array Value} {p : Operand} (h0 : 0 < sz) (h1 : sz ≤ 1000) (hxs : xs.size = sz) (hu : Tryz.prog.underlying t = some (.slice e)) (hinfo : infoOk e sz by_ = true)
  (h : ∀ W1, Below w.heap.size w W1 → W1.heap[w.heap.size]? = some (.cells xs e (0, 0)) → W1.heap.size = w.heap.size + 1 → K (a.put o.dst (.slice (some ⟨w.heap.size, 0, none⟩) 1 1)) W1)
  (ho : o.op = .buildSlice t 1 #[(0, p)] := by rfl) (hx : a.eval p = .agg xs := by rfl) : Oper.wp Tryz.prog o a w K Q := by
 have hr := r_bs (t := t) (e := e) (sz := sz) (by_ := by_) h0 h1 hxs hu hinfo w
 unfold Oper.wp execOp
 simp only [ho, List.map_toArray, List.map_cons, List.map_nil, hx, Sem.run_bind, hr, Result.andThen_ok, Sem.run_pure]
 exact h _ (below_new w _) (heap_alloc_new w _) (by rw [World.size_alloc])
theorem wp_appT {t : Nat} {v s v' : Value} {x y : Operand} (h : ∀ ty, (Builtin.append_ #[t, t] ty #[v, s]).run Tryz.prog w = .ok v' w') (hk : K (a.put o.dst v') w')
  (ho : o.op = .call { callee := .builtin .append, args := #[x, y], argTypes := #[t, t] } := by rfl) (hx : a.eval x = v := by rfl) (hy : a.eval y = s := by rfl) : Oper.wp Tryz.prog o a w K Q := by
 unfold Oper.wp execOp
 simp only [ho, resolve, invoke, builtin, Sem.run_bind, Sem.run_pure, Result.andThen_ok, List.map_toArray, List.map_cons, List.map_nil, hx, hy, h]
 exact hk
end
theorem app_row {α : Type} (f : α → List Value) {t e sz by_ : Nat} (hu : Tryz.prog.underlying t = some (.slice e)) (hinfo : infoOk e sz by_ = true) (hsz : ∀ x, (f x).length = sz) (h0 : 0 < sz) (hby : by_ ≤ 1000) {W : World} {base g n : Nat} {v : Value} {l : List α} (x : α)
  (h1 : ∀ u ∈ f x, u.oneCell' = true) (h : W.ownsRow base e sz v n (l.flatMap f)) (hg : W.heap[g]? = some (.cells (f x).toArray e (0, 0))) (hb : base ≤ W.heap.size) (hn : n ≤ 100000) :
  ∃ v' w', (∀ ty, (Builtin.append_ #[t, t] ty #[v, .slice (some ⟨g, 0, none⟩) 1 1]).run Tryz.prog W = .ok v' w') ∧ w'.ownsRow base e sz v' (n + 1) ((l ++ [x]).flatMap f) ∧ Below base W w' ∧ W.grownBy w' v.ownBlock ∧ (v'.ownBlock = v.ownBlock ∨ v'.ownBlock = some W.heap.size) := by
 obtain ⟨i0, z, hi, hz, hs, hbb, hzs⟩ := infoOk_out hinfo
 have hsrc : ∀ j u, (f x)[j]? = some u → W.cell? ((⟨g, 0, none⟩ : Addr).add j) = some u := fun j u hu => by
  have := range_of_heap hg j u hu
  rw [Addr.add_lit]
  exact this
 obtain ⟨v', w', hr, ho, hgr, -, hat⟩ := run_append_own_at (P := Tryz.prog) W base t 0 e i0 z sz by_ hu hi hz hs hbb hzs h0 v n (l.flatMap f) h ⟨g, 0, none⟩ 1 1 (f x) (by rw [hsz]; omega) hsrc h1 (by unfold maxLen; omega) (Nat.le_trans (Nat.mul_le_mul (show n + 1 ≤ 100001 by omega) hby) (by decide)) hb
 refine ⟨v', w', fun ty => hr, by rw [List.flatMap_append]; simpa using ho, ⟨hgr.os, hgr.tape, hgr.output, hgr.size, fun k hk => hgr.block k (by omega) fun e => ?_⟩, hgr, hat⟩
 have := (h.lt k e.symm).1; omega
theorem rt263 : RowTy 263 2 := ⟨_, Tryz.underlying263, rfl, by kernel_rfl⟩
theorem rt189 : RowTy 189 2 := ⟨_, Tryz.underlying189, rfl, by kernel_rfl⟩
theorem info263 : builtInfo 263 = some (#[.slice none 0 0, .bool false], [(0, 1), (1, 1)]) := by kernel_rfl
theorem info189 : builtInfo 189 = some (#[.slice none 0 0, .bool false], [(0, 1), (1, 1)]) := by kernel_rfl
theorem built263 (a : Option Addr) (n c : Nat) : Tryz.prog.built 263 [(0, .slice a n c)] = some #[.slice a n c, .bool false] := by rw [built_of info263]; rfl
theorem built189 (a : Option Addr) (n c : Nat) (b : Bool) : Tryz.prog.built 189 [(0, .slice a n c), (1, .bool b)] = some #[.slice a n c, .bool b] := by rw [built_of info189]; rfl
def curLen (g : Nat) (w : World) : Nat := match w.heap[g]? with
 | some (.cells cs _ _) => (match (cs[0]? : Option Value) with | some (Value.slice _ n _) => n | _ => 0)
 | _ => 0
theorem CurAt.left {P : Nat → Prop} {ty : TypeId} {g : Nat} {w0 : World} {ss : List (List UInt8)} {w : World} (h : CurAt P ty g w0 ss w) : curLen g w = ss.length := by
 obtain ⟨v, h1, h2, -⟩ := h.v
 obtain ⟨-, a, c, rfl, -⟩ := h1.str
 unfold curLen
 rw [h2]
 simp
end Go.Proofs.YtlbipokkdiiaiaaGreatDoor
