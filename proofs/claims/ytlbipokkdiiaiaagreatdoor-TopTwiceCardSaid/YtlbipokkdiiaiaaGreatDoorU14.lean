/- Lemmas for TopTwice: PathMay, PathUnder, Less, W6, W7. -/
import Derived.Test.YtlbipokkdiiaiaaGreatDoorU13
import Derived.Test.YtlbipokkdiiaiaaGreatDoorU12
import Derived.Test.YtlbipokkdiiaiaaGreatDoorU10
namespace Go.Proofs.YtlbipokkdiiaiaaGreatDoor
open Go.RowKit Go.Shelf
attribute [local go_sem] Oper.semAt_some
def lenAt (w : World) (b : Nat) : Nat := match w.cell? ⟨b, 0, none⟩ with | some (.string s) => s.size | _ => 0
theorem lenAt_of {w : World} {b : Nat} {s : List UInt8} (h : w.cell? ⟨b, 0, none⟩ = some (.string (bs s))) : lenAt w b = s.length := by unfold lenAt; rw [h]; rfl
set_option maxHeartbeats 2000000 in
set_option maxRecDepth 100000 in
theorem split_in (n : Nat) (hn : 1 ≤ n) (l c b d lo hi : Nat) (hlo : lo ≤ c ∧ lo ≤ d ∧ lo ≤ b) (hhi : c < hi ∧ d < hi ∧ b < hi) (hbc : b ≠ c ∧ b ≠ d) (s : List UInt8) (hs : s.length ≤ 1000000000000000)
  (J Jx : List (List UInt8) → World → Prop) (W : World) (hJ : AbidesAt b J)
  (hY : ∀ pre x W1, J pre W1 → YieldAt Fence.wide (n - 1) Tryz.prog l #[.string (bs x)] W1 fun e W' =>
   (e = .returned (.bool true) ∧ J (pre ++ [x]) W' ∧ KeepsBlk lo hi W1 W') ∨ (e = .returned (.bool false) ∧ Jx (pre ++ [x]) W'))
  (hc : W.cell? ⟨c, 0, none⟩ = some (.string (bs [47]))) (hd : W.cell? ⟨d, 0, none⟩ = some (.int .i64 0)) (hb : W.cell? ⟨b, 0, none⟩ = some (.string (bs s))) (hf : W.frozen? ⟨b, 0, none⟩ = false) (h0 : J [] W) :
  CallsIn Fence.wide n Tryz.prog 183 #[.func (.yield l) #[] #[], .pointer (some ⟨c, 0, none⟩), .pointer (some ⟨b, 0, none⟩), .pointer (some ⟨d, 0, none⟩)] W fun e W' => (∃ v, e = .returned v) ∧
   ((∃ ys, ys = splitL s ∧ J ys W') ∨ (∃ pre, pre <+: splitL s ∧ Jx pre W')) := by
 have Hs0 := hid hs; clear hs
 refine callsIn_of_wp Tryz.func183 rfl trivial ?_ rfl
 simp only [Tryz.ntmps183, List.size_toArray, List.length_cons, List.length_nil, Nat.reduceAdd, Nat.reduceSub, Array.replicate_succ, Array.replicate_zero, List.push_toArray, List.append_toArray, List.nil_append, List.cons_append]
 gi_wp2
 gi_loopw [7] (fun _ wr => ∃ (pre : List (List UInt8)) (rest : List UInt8), splitL s = pre ++ splitL rest ∧ rest.length ≤ s.length ∧ wr.cell? ⟨b, 0, none⟩ = some (.string (bs rest)) ∧ wr.frozen? ⟨b, 0, none⟩ = false ∧ wr.cell? ⟨c, 0, none⟩ = some (.string (bs [47])) ∧ wr.cell? ⟨d, 0, none⟩ = some (.int .i64 0) ∧ J pre wr) (fun _ wr => lenAt wr b)
 case atStart => exact ⟨[], s, rfl, Nat.le_refl _, hb, hf, hc, hd, h0⟩
 case round =>
  clear hb hf hc hd h0
  obtain ⟨pre, rest, hsp, hle, hb, hf, hc, hd, hj⟩ := hrel
  have Hsp := hid hsp; clear hsp
  have hlen : rest.length ≤ 1000000000000000 := Nat.le_trans hle Hs0.out
  by_cases hneg : Lib.indexByte rest 47 < 0
  ·obtain ⟨fn, tmps, assign, body, hy, hR⟩ := hY pre rest wr hj
   have Hsn := hid (split_none rest hneg)
   gi_wp2_with fail
   refine ⟨trivial, (callsIn_wide.2 (Tryz.strings_Index_one (bs rest) 47 _)).mono ?_⟩
   rintro e w' ⟨rfl, rfl⟩
   rw [list_bs]
   gi_wp2_with fail
   refine hR.mono ?_
   rintro e W' (⟨rfl, hj', hk⟩ | ⟨rfl, hjx⟩)
   ·gi_wp2
    go_end0
    exact ⟨⟨_, rfl⟩, .inl ⟨pre ++ [rest], by rw [Hsp.out, Hsn.out], hj'⟩⟩
   ·gi_wp2
    go_end0
    exact ⟨⟨_, rfl⟩, .inr ⟨pre ++ [rest], by rw [Hsp.out, Hsn.out]; exact List.prefix_refl _, hjx⟩⟩
  ·obtain ⟨i, hi⟩ : ∃ i : Nat, Lib.indexByte rest 47 = i := ⟨(Lib.indexByte rest 47).toNat, by omega⟩
   have Hi := hid hi; clear hneg
   have hss := split_some rest i hi
   clear hi
   have hil := hss.2
   have Hss := hid hss.1; clear hss
   obtain ⟨fn, tmps, assign, body, hy, hR⟩ := hY pre (rest.take i) wr hj
   gi_wp2_with fail
   refine ⟨trivial, (callsIn_wide.2 (Tryz.strings_Index_one (bs rest) 47 _)).mono ?_⟩
   rintro e w' ⟨rfl, rfl⟩
   rw [list_bs, Hi.out]
   gi_wp2_with fail
   refine hR.mono ?_
   rintro e W' (⟨rfl, hj', hk⟩ | ⟨rfl, hjx⟩)
   ·have hb' : W'.cell? ⟨b, 0, none⟩ = some (.string (bs rest)) := (hk.cell (p := ⟨b, 0, none⟩) hlo.2.2 hhi.2.2).trans hb
    have hc' : W'.cell? ⟨c, 0, none⟩ = some (.string (bs [47])) := (hk.cell (p := ⟨c, 0, none⟩) hlo.1 hhi.1).trans hc
    have hd' : W'.cell? ⟨d, 0, none⟩ = some (.int .i64 0) := (hk.cell (p := ⟨d, 0, none⟩) hlo.2.1 hhi.2.1).trans hd
    have hf' : W'.frozen? ⟨b, 0, none⟩ = false := (hk.frozen (p := ⟨b, 0, none⟩) hlo.2.2 hhi.2.2).trans hf
    gi_wp2
    have he : List.take (rest.length - (i + 1)) (List.drop (i + 1) rest) = List.drop (i + 1) rest := List.take_of_length_le (by rw [List.length_drop]; exact Nat.le_refl _)
    rw [he]
    have hcell : (W'.setCell ⟨b, 0, none⟩ (.string (bs (rest.drop (i + 1))))).cell? ⟨b, 0, none⟩ = some (.string (bs (rest.drop (i + 1)))) := World.cell?_setCell_same' _ _ _ (by rw [hb']; rfl)
    refine ⟨⟨pre ++ [rest.take i], rest.drop (i + 1), ?_, by rw [List.length_drop]; omega, hcell, by rw [World.frozen?_setCell]; exact hf', ?_, ?_, hJ _ _ _ hj'⟩, ?_⟩
    ·rw [Hsp.out, Hss.out, List.append_assoc]; rfl
    ·exact (World.cell?_of_block (w := W') (Below.heap_setCell W' _ _ c (by show c ≠ b; omega))).trans hc'
    ·exact (World.cell?_of_block (w := W') (Below.heap_setCell W' _ _ d (by show d ≠ b; omega))).trans hd'
    ·rw [lenAt_of hcell, lenAt_of hb, List.length_drop]; omega
   ·gi_wp2
    refine bodyPost_ret (results_none rfl _ _ _) rfl ?_
    exact ⟨⟨_, rfl⟩, .inr ⟨pre ++ [rest.take i], ⟨splitL (rest.drop (i + 1)), by rw [Hsp.out, Hss.out, List.append_assoc]; rfl⟩, hjx⟩⟩
theorem split_seq (n : Nat) (hn : 1 ≤ n) (c b d lo hi : Nat) (hlo : lo ≤ c ∧ lo ≤ d ∧ lo ≤ b) (hhi : c < hi ∧ d < hi ∧ b < hi) (hbc : b ≠ c ∧ b ≠ d) (s : List UInt8) (hs : s.length ≤ 1000000000000000) (w : World)
  (hc : w.cell? ⟨c, 0, none⟩ = some (.string (bs [47]))) (hd : w.cell? ⟨d, 0, none⟩ = some (.int .i64 0)) (hb : w.cell? ⟨b, 0, none⟩ = some (.string (bs s))) (hf : w.frozen? ⟨b, 0, none⟩ = false) :
  SeqSt Fence.wide n Tryz.prog 183 #[.pointer (some ⟨c, 0, none⟩), .pointer (some ⟨b, 0, none⟩), .pointer (some ⟨d, 0, none⟩)] (fun x : List UInt8 => #[.string (bs x)]) (KeepsBlk lo hi) b (fun xs => xs = splitL s) (fun pre => pre <+: splitL s) w := by
 intro l J Jx W hk _ _ hJ _ hY h0
 refine (split_in n hn l c b d lo hi hlo hhi hbc s hs J Jx W hJ hY ?_ ?_ ?_ ?_ h0).mono ?_
 ·exact (hk.cell (p := ⟨c, 0, none⟩) hlo.1 hhi.1).trans hc
 ·exact (hk.cell (p := ⟨d, 0, none⟩) hlo.2.1 hhi.2.1).trans hd
 ·exact (hk.cell (p := ⟨b, 0, none⟩) hlo.2.2 hhi.2.2).trans hb
 ·exact (hk.frozen (p := ⟨b, 0, none⟩) hlo.2.2 hhi.2.2).trans hf
 ·rintro e W' ⟨h1, h2⟩; exact ⟨h1, h2⟩
set_option maxHeartbeats 400000 in
theorem SplitSeq_any (s c : List UInt8) (w : World) :
  Calls Tryz.prog 94 #[.string (bs s), .string (bs c)] w fun e w' => e = .returned (.func (.func 183) #[] #[.pointer (some ⟨w.heap.size + 1, 0, none⟩), .pointer (some ⟨w.heap.size, 0, none⟩), .pointer (some ⟨w.heap.size + 2, 0, none⟩)]) ∧
   w' = ((w.alloc (.cells #[.string (bs s)] 9)).alloc (.cells #[.string (bs c)] 9)).alloc (.cells #[.int .i64 0] 3) := by
 go_enter Tryz.func94, Tryz.ntmps94
 go_wp2
 go_ret
 exact ⟨rfl, rfl⟩
def goodTo (pre : List (List UInt8)) : Prop := pre.length ≤ 16 ∧ ∀ x ∈ pre, partB x = true
theorem may_yes {s : List UInt8} (h : goodTo (splitL s)) : mayB s = true := by
 unfold mayB
 rw [decide_eq_true h.1, Bool.true_and, List.all_eq_true]
 exact h.2
theorem may_no {s : List UInt8} {pre : List (List UInt8)} (hp : pre <+: splitL s) (h : ¬ goodTo pre) : mayB s = false := by
 rw [← Bool.not_eq_true]
 intro hm
 unfold mayB at hm
 simp only [Bool.and_eq_true, decide_eq_true_eq, List.all_eq_true] at hm
 exact h ⟨Nat.le_trans hp.length_le hm.1, fun x hx => hm.2 x (hp.subset hx)⟩
theorem cell_new (w : World) (v : Value) (t : TypeId) : (w.alloc (.cells #[v] t)).cell? ⟨w.heap.size, 0, none⟩ = some v ∧ (w.alloc (.cells #[v] t)).frozen? ⟨w.heap.size, 0, none⟩ = false := by
 refine ⟨by rw [World.cell?_alloc_mark]; rfl, ?_⟩
 rw [World.frozen?_alloc_mark]; rfl
theorem cell_old {w : World} {k : Nat} {v : Value} (o : Obj) (hk : k < w.heap.size) (h : w.cell? ⟨k, 0, none⟩ = some v ∧ w.frozen? ⟨k, 0, none⟩ = false) : (w.alloc o).cell? ⟨k, 0, none⟩ = some v ∧ (w.alloc o).frozen? ⟨k, 0, none⟩ = false :=
 ⟨(World.cell?_of_block (w := w) (Below.heap_alloc w o k hk)).trans h.1, (World.frozen?_of_block (w := w) (Below.heap_alloc w o k hk)).trans h.2⟩
set_option maxRecDepth 100000 in
set_option maxHeartbeats 2000000 in
theorem may_any (s : List UInt8) (hs : s.length ≤ 1000000000000000) (w : World) :
  Calls Tryz.prog 51 #[.string (bs s)] w fun e w' => e = .returned (.bool (mayB s)) ∧ Below w.heap.size w w' := by
 refine (callsIn_wide (n := 5)).1 ?_
 refine callsIn_of_wp_marks Tryz.func51 rfl trivial ?_ rfl
 simp only [Tryz.ntmps51, List.size_toArray, List.length_cons, List.length_nil, Nat.reduceAdd, Nat.reduceSub, Array.replicate_succ, Array.replicate_zero, List.push_toArray, List.append_toArray, List.nil_append, List.cons_append]
 gi_wp2_with fail
 refine ⟨trivial, (callsIn_wide.2 (SplitSeq_any s [47] _)).mono ?_⟩
 rintro e w5 ⟨rfl, hw5⟩
 simp only [World.size_alloc]
 have hsz : w5.heap.size = w.heap.size + 5 := by rw [hw5]; simp
 have hB : Below w.heap.size w w5 := by
  rw [hw5]; exact (((((Below.refl _ w).alloc (Nat.le_refl _) _).alloc (by simp) _).alloc (by simp; omega) _).alloc (by simp; omega) _).alloc (by simp; omega) _
 have c0 : w5.cell? ⟨w.heap.size, 0, none⟩ = some (.bool false) ∧ w5.frozen? ⟨w.heap.size, 0, none⟩ = false := by
  rw [hw5]; exact cell_old _ (by simp; try omega) (cell_old _ (by simp; try omega) (cell_old _ (by simp; try omega) (cell_old _ (by simp) (cell_new w _ _))))
 have c1 : w5.cell? ⟨w.heap.size + 1, 0, none⟩ = some (.int .i64 0) ∧ w5.frozen? ⟨w.heap.size + 1, 0, none⟩ = false := by
  have := cell_new (w.alloc (.cells #[.bool false] 4)) (.int .i64 0) 3
  rw [World.size_alloc] at this
  rw [hw5]; exact cell_old _ (by simp; try omega) (cell_old _ (by simp; try omega) (cell_old _ (by simp) this))
 have c2 : w5.cell? ⟨w.heap.size + 2, 0, none⟩ = some (.string (bs s)) ∧ w5.frozen? ⟨w.heap.size + 2, 0, none⟩ = false := by
  have := cell_new ((w.alloc (.cells #[.bool false] 4)).alloc (.cells #[.int .i64 0] 3)) (.string (bs s)) 9
  simp only [World.size_alloc] at this
  rw [hw5]; exact cell_old _ (by simp) (cell_old _ (by simp) this)
 have c3 : w5.cell? ⟨w.heap.size + 3, 0, none⟩ = some (.string (bs [47])) := by
  have := cell_new (((w.alloc (.cells #[.bool false] 4)).alloc (.cells #[.int .i64 0] 3)).alloc (.cells #[.string (bs s)] 9)) (.string (bs [47])) 9
  simp only [World.size_alloc] at this
  rw [hw5]; exact (cell_old _ (by simp) this).1
 have c4 : w5.cell? ⟨w.heap.size + 4, 0, none⟩ = some (.int .i64 0) := by
  have := cell_new ((((w.alloc (.cells #[.bool false] 4)).alloc (.cells #[.int .i64 0] 3)).alloc (.cells #[.string (bs s)] 9)).alloc (.cells #[.string (bs [47])] 9)) (.int .i64 0) 3
  simp only [World.size_alloc] at this
  rw [hw5]; exact this.1
 clear hw5
 have Hsz := hid hsz
 clear hsz
 gi_wp2_with fail
 have hsz := Hsz.out
 refine wpIn_rangeFunc_st (lo := w.heap.size + 2) (hi := w.heap.size + 5) (b := w.heap.size + 2) rfl (by omega) (gf := 183) (lb := #[.pointer (some ⟨w.heap.size + 3, 0, none⟩), .pointer (some ⟨w.heap.size + 2, 0, none⟩), .pointer (some ⟨w.heap.size + 4, 0, none⟩)]) rfl trivial (enters_of Tryz.func183 (by kernel_rfl) rfl)
  (split_seq _ (by omega) (w.heap.size + 3) (w.heap.size + 2) (w.heap.size + 4) (w.heap.size + 2) (w.heap.size + 5) (by omega) (by omega) (by omega) s hs w5 c3 c4 c2.1 c2.2) (by omega) (by omega) (fun _ => rfl)
  (fun pre W => (goodTo pre ∧ W.cell? ⟨w.heap.size + 1, 0, none⟩ = some (.int .i64 pre.length) ∧ W.frozen? ⟨w.heap.size + 1, 0, none⟩ = false ∧ W.cell? ⟨w.heap.size, 0, none⟩ = some (.bool false) ∧ W.frozen? ⟨w.heap.size, 0, none⟩ = false) ∧ Below w.heap.size w5 W)
  (fun c pre W => (c = .ret ∧ ¬ goodTo pre ∧ W.cell? ⟨w.heap.size, 0, none⟩ = some (.bool false)) ∧ Below w.heap.size w5 W)
  (OwnFrom.and (Own.from (fun s A B row hs hg hr => ⟨hs.1, cell_kept hs.2.1 hg hr, (frozen_kept hs.2.1 hg hr).trans hs.2.2.1, cell_kept hs.2.2.2.1 hg hr, (frozen_kept hs.2.2.2.1 hg hr).trans hs.2.2.2.2⟩) _) (ownFrom_below (by omega) (by omega)))
  (fun c => OwnFrom.and (Own.from (fun s A B row hs hg hr => ⟨hs.1, hs.2.1, cell_kept hs.2.2 hg hr⟩) _) (ownFrom_below (by omega) (by omega)))
  (fun pre W v hs => ⟨⟨hs.1.1, (World.cell?_of_block (w := W) (Below.heap_setCell W _ _ (w.heap.size + 1) (by show _ ≠ w.heap.size + 2; omega))).trans hs.1.2.1, by rw [World.frozen?_setCell]; exact hs.1.2.2.1,
   (World.cell?_of_block (w := W) (Below.heap_setCell W _ _ w.heap.size (by show _ ≠ w.heap.size + 2; omega))).trans hs.1.2.2.2.1, by rw [World.frozen?_setCell]; exact hs.1.2.2.2.2⟩, hs.2.setCell (p := ⟨w.heap.size + 2, 0, none⟩) (by simp) _⟩)
  (fun c pre W v hs => ⟨⟨hs.1.1, hs.1.2.1, (World.cell?_of_block (w := W) (Below.heap_setCell W _ _ w.heap.size (by show _ ≠ w.heap.size + 2; omega))).trans hs.1.2.2⟩, hs.2.setCell (p := ⟨w.heap.size + 2, 0, none⟩) (by simp) _⟩)
  ⟨⟨⟨by simp, by simp⟩, c1.1, c1.2, c0.1, c0.2⟩, Below.refl _ _⟩
  (fun x => { tmps := #[.string (bs s), undef, .pointer (some ⟨w.heap.size, 0, none⟩), .pointer (some ⟨w.heap.size + 1, 0, none⟩), .string (bs x), .string (bs s), .func (.func 183) #[] #[.pointer (some ⟨w.heap.size + 3, 0, none⟩), .pointer (some ⟨w.heap.size + 2, 0, none⟩), .pointer (some ⟨w.heap.size + 4, 0, none⟩)], .string (bs x), undef, undef, undef, undef, undef, undef, undef, undef, undef], defers := [] }) ?assign ?body ?done ?stop
 case assign =>
  intro l x W K hK
  gi_wp2
  exact hK
 case body =>
  rintro l pre x W ⟨⟨hg, hn, hfn, hr, hfr⟩, hBW⟩
  have hgl := hg.1
  have Hg := hid hg
  clear hg c0 c1 c2 c3 c4 hB
  have hk1 : KeepsOthers W (W.setCell ⟨w.heap.size + 1, 0, none⟩ (.int .i64 (pre.length + 1))) := KeepsOthers.setCell _ _ _
  have hB1 : Below w.heap.size w5 (W.setCell ⟨w.heap.size + 1, 0, none⟩ (.int .i64 (pre.length + 1))) := hBW.setCell (p := ⟨w.heap.size + 1, 0, none⟩) (by simp) _
  have hc1 : (W.setCell ⟨w.heap.size + 1, 0, none⟩ (.int .i64 (pre.length + 1))).cell? ⟨w.heap.size + 1, 0, none⟩ = some (.int .i64 (pre.length + 1)) := World.cell?_setCell_same' _ _ _ (by rw [hn]; rfl)
  have hc0 : (W.setCell ⟨w.heap.size + 1, 0, none⟩ (.int .i64 (pre.length + 1))).cell? ⟨w.heap.size, 0, none⟩ = some (.bool false) := (World.cell?_of_block (w := W) (Below.heap_setCell W _ _ w.heap.size (by show _ ≠ w.heap.size + 1; omega))).trans hr
  have hf0 : (W.setCell ⟨w.heap.size + 1, 0, none⟩ (.int .i64 (pre.length + 1))).frozen? ⟨w.heap.size, 0, none⟩ = false := by rw [World.frozen?_setCell]; exact hfr
  have hf1 : (W.setCell ⟨w.heap.size + 1, 0, none⟩ (.int .i64 (pre.length + 1))).frozen? ⟨w.heap.size + 1, 0, none⟩ = false := by rw [World.frozen?_setCell]; exact hfn
  have hkb : KeepsBlk (w.heap.size + 2) (w.heap.size + 5) W (W.setCell ⟨w.heap.size + 1, 0, none⟩ (.int .i64 (pre.length + 1))) := KeepsBlk.setCell _ _ _ (.inl (by simp))
  have hz1 : w.heap.size + 5 ≤ W.heap.size → w.heap.size + 5 ≤ (W.setCell ⟨w.heap.size + 1, 0, none⟩ (.int .i64 (pre.length + 1))).heap.size := by simp [World.setCell]
  by_cases h16 : 16 ≤ pre.length
  ·gi_wp2
   refine ⟨trivial, ?_⟩
   gi_wp2
   refine ⟨hk1.trans (KeepsOthers.setCell _ _ _), ⟨rfl, fun h => ?_, World.cell?_setCell_same' _ _ _ (by rw [hc0]; rfl)⟩, hB1.setCell (p := ⟨w.heap.size, 0, none⟩) (by simp) _⟩
   have := h.1
   simp at this
   omega
  ·obtain ⟨b, hb⟩ : ∃ b, partB x = b := ⟨_, rfl⟩
   have Hb := hid hb; clear hb
   gi_wp2_with fail
   refine ⟨trivial, (CallsIn.inRound l (callsIn_wide.2 (part_is x b Hb.out _))).mono ?_⟩
   rintro e w2 ⟨rfl, hb2⟩
   have hko := hk1.trans (keepsOthers_of_below hb2)
   have hlt0 : w.heap.size + 5 ≤ W.heap.size := by have := hBW.size; omega
   have hlt1 : w.heap.size + 5 ≤ (W.setCell ⟨w.heap.size + 1, 0, none⟩ (.int .i64 (pre.length + 1))).heap.size := hz1 hlt0
   have hkb2 := hkb.trans (KeepsBlk.below hb2 (by omega))
   have hB2 := hB1.trans (hb2.mono (by omega))
   have d1 := (hb2.cell (p := ⟨w.heap.size + 1, 0, none⟩) (by simp; omega)).trans hc1
   have d0 := (hb2.cell (p := ⟨w.heap.size, 0, none⟩) (by simp; omega)).trans hc0
   have g0 := (hb2.frozen (p := ⟨w.heap.size, 0, none⟩) (by simp; omega)).trans hf0
   have g1 := (hb2.frozen (p := ⟨w.heap.size + 1, 0, none⟩) (by simp; omega)).trans hf1
   clear hb2 hc1 hc0 hf0 hf1 hz1 hn hfn hr hfr
   cases b with
   | true =>
     gi_wp2
     refine ⟨hko, hkb2, ⟨⟨?_, ?_⟩, ?_, g1, d0, g0⟩, hB2⟩
     ·simp; omega
     ·intro y hy
      rcases List.mem_append.1 hy with h | h
      ·exact Hg.out.2 y h
      ·rw [List.mem_singleton.1 h]; exact Hb.out
     ·rw [d1, List.length_append]; simp
   | false =>
     gi_wp2
     refine ⟨hko.trans (KeepsOthers.setCell _ _ _), ⟨rfl, fun h => ?_, World.cell?_setCell_same' _ _ _ (by rw [d0]; rfl)⟩, hB2.setCell (p := ⟨w.heap.size, 0, none⟩) (by simp) _⟩
     have := h.2 x (by simp)
     rw [Hb.out] at this; cases this
 case done =>
  rintro D xs W hD rfl ⟨⟨hg, _, _, hr, hfr⟩, hBW⟩ hK
  gi_wp2
  have hK' := (KeepsOthers.setCell W ⟨w.heap.size, 0, none⟩ (.bool true)).same D _ hK rfl
  refine ⟨by simp, .inl ⟨_, _, rfl, run_takeDeferred hK', ?_⟩⟩
  have hc5 := cell_kept (World.cell?_setCell_same' W ⟨w.heap.size, 0, none⟩ (.bool true) (by rw [hr]; rfl)) (grownBy_putObj' _ D (.deferred none)) (fun r e => by cases e; exact ⟨_, hK', rfl⟩)
  refine ⟨.bool true, ?_, by rw [may_yes hg], hB.trans ((hBW.setCell (p := ⟨w.heap.size, 0, none⟩) (by simp) _).trans (belowK_b (w := w) (Nat.le_refl _) _ D _ _ (by omega) hK' rfl rfl))⟩
  simp [results, Tryz.f51, go_sem, hc5]
 case stop =>
  rintro D c pre W hD hpre ⟨⟨rfl, hbad, hr⟩, hBW⟩ hK
  gi_wp2
  refine ⟨by simp, .inl ⟨_, _, rfl, run_takeDeferred hK, ?_⟩⟩
  have hc5 := cell_kept hr (grownBy_putObj' _ D (.deferred none)) (fun r e => by cases e; exact ⟨_, hK, rfl⟩)
  refine ⟨.bool false, ?_, by rw [may_no hpre hbad], hB.trans (hBW.trans (belowK_b (w := w) (Nat.le_refl _) W D _ _ (by omega) hK rfl rfl))⟩
  simp [results, Tryz.f51, go_sem, hc5]
end Go.Proofs.YtlbipokkdiiaiaaGreatDoor
namespace Go.Proofs.YtlbipokkdiiaiaaGreatDoor
open Go.RowKit
theorem may_is (s : List UInt8) (hs : s.length ≤ 1000000000000000) (b : Bool) (h : mayB s = b) (w : World) :
  Calls Tryz.prog 51 #[.string (bs s)] w fun e w' => e = .returned (.bool b) ∧ Below w.heap.size w w' := by
 subst h; exact may_any s hs w
set_option maxHeartbeats 400000 in
theorem under_any (s d : List UInt8) (hs : s.length ≤ 1000000000000000) (hd : d.length ≤ 1000000000000000) (w : World) :
  Calls Tryz.prog 89 #[.string (bs s), .string (bs d)] w fun e w' => e = .returned (.bool (underB s d)) ∧ Below w.heap.size w w' := by
 obtain ⟨bm, hbm⟩ : ∃ bm, mayB s = bm := ⟨_, rfl⟩
 obtain ⟨bd, hbd⟩ : ∃ bd, mayB d = bd := ⟨_, rfl⟩
 have Hm := hid (may_is s hs bm hbm)
 have Hd := hid (may_is d hd bd hbd)
 obtain ⟨bp, hbp⟩ : ∃ bp, Lib.hasPrefix s (d ++ [47]) = bp := ⟨_, rfl⟩
 have Hu : Hid (underB s d = (bm && (d.isEmpty || (bd && bp)))) := by apply hid; rw [underB, hbm, hbd, hbp]
 have Hp : Hid (∀ w, Calls Tryz.prog 131 #[.string (bs s), .string (bs (d ++ [47]))] w fun e w' => e = .returned (.bool bp) ∧ w' = w) := by
  apply hid; intro w; rw [← hbp]; exact Tryz.strings_HasPrefix (bs s) (bs (d ++ [47])) w
 clear hbm hbd hbp
 cases bm with
 | false =>
   go_enter Tryz.func89, Tryz.ntmps89
   go_wp2_with fail
   refine (Hm.out _).mono ?_
   rintro e w1 ⟨rfl, hb1⟩
   go_wp2_with fail
   go_ret
   exact ⟨by rw [Hu.out]; rfl, hb1⟩
 | true =>
   by_cases h0 : d = []
   ·subst h0
    go_enter Tryz.func89, Tryz.ntmps89
    go_wp2_with fail
    refine (Hm.out _).mono ?_
    rintro e w1 ⟨rfl, hb1⟩
    go_wp2_with fail
    go_ret
    exact ⟨by rw [Hu.out]; rfl, hb1⟩
   ·have h0' : d.isEmpty = false := by simpa using h0
    clear h0
    cases bd with
    | false =>
      go_enter Tryz.func89, Tryz.ntmps89
      go_wp2_with fail
      refine (Hm.out _).mono ?_
      rintro e w1 ⟨rfl, hb1⟩
      go_wp2_with fail
      refine (Hd.out _).mono ?_
      rintro e w2 ⟨rfl, hb2⟩
      go_wp2_with fail
      go_ret
      exact ⟨by rw [Hu.out, h0']; rfl, Below.chain hb1 hb2⟩
    | true =>
      go_enter Tryz.func89, Tryz.ntmps89
      go_wp2_with fail
      refine (Hm.out _).mono ?_
      rintro e w1 ⟨rfl, hb1⟩
      go_wp2_with fail
      refine (Hd.out _).mono ?_
      rintro e w2 ⟨rfl, hb2⟩
      go_wp2_with fail
      refine (Hp.out _).mono ?_
      rintro e w3 ⟨rfl, rfl⟩
      go_wp2_with fail
      go_ret
      exact ⟨by rw [Hu.out, h0']; simp, Below.chain hb1 hb2⟩
theorem under_is (s d : List UInt8) (hs : s.length ≤ 1000000000000000) (hd : d.length ≤ 1000000000000000) (b : Bool) (h : underB s d = b) (w : World) :
  Calls Tryz.prog 89 #[.string (bs s), .string (bs d)] w fun e w' => e = .returned (.bool b) ∧ Below w.heap.size w w' := by
 subst h; exact under_any s d hs hd w
end Go.Proofs.YtlbipokkdiiaiaaGreatDoor
namespace Go.Proofs.YtlbipokkdiiaiaaGreatDoor
open Go.RowKit
abbrev less (a b : List UInt8) : Bool := Op.bytesLess a b
end Go.Proofs.YtlbipokkdiiaiaaGreatDoor
namespace Go.Proofs.YtlbipokkdiiaiaaGreatDoor
open Go.RowKit Go.Proofs.YtlbipokkdiiaiaaGreatDoor.Exec
set_option maxRecDepth 100000
def readsE (met : List (List UInt8)) : List RdL → Int
 | [] => 0
 | r :: l => if mayB r.path then if r.path ∈ met then 8 else if r.is || decide (r.sum = dg0) then readsE (met ++ [r.path]) l else 5 else 1
def outsE (ahead : Option (List UInt8)) : List MdL → Int
 | [] => 0
 | m :: l => if underB m.path [111, 117, 116] then (match ahead with
   | some q => if m.path = q then 8 else if less m.path q then 2 else outsE (some m.path) l
   | none => outsE (some m.path) l) else 1
def checkT (t : TcL) : Int := if t.reads.length > 500 ∨ t.outs.length > 1000 then 6 else if readsE [] t.reads ≠ 0 then readsE [] t.reads else outsE none t.outs
def SmallR (l : List RdL) : Prop := ∀ r ∈ l, r.path.length ≤ 1000000000000000
def SmallM (l : List MdL) : Prop := ∀ r ∈ l, r.path.length ≤ 1000000000000000
def pathsR (l : List RdL) : List (List UInt8) := l.map (·.path)
theorem paths_take (l : List RdL) (k : Nat) (h : k < l.length) : pathsR (l.take (k + 1)) = pathsR (l.take k) ++ [l[k].path] := by
 unfold pathsR; rw [take_at _ _ h, List.map_append]; rfl
theorem build31 : Tryz.prog.built 31 [] = some (dgc dg0).toArray := by kernel_rfl
theorem r_build31 {o : Oper} {a : Act} {w : World} (ho : o.op = .build 31 #[]) : (execOp a.eval o).run Tryz.prog w = .ok (.value (dgv dg0)) w := by
 have hr := run_build (P := Tryz.prog) w 31 (#[] : Array (Nat × Value)) _ build31
 unfold execOp
 simp only [ho, Array.map_empty, Sem.run_bind, hr, Result.andThen_ok, Sem.run_pure]; rfl
set_option maxHeartbeats 2000000 in
theorem reads_any (v : Value) (l : List RdL) (w : World) (h : RowsOf w 34 RdL.cells v l) (hs : SmallR l) :
  Calls Tryz.prog 42 #[v] w fun e w' => e = .returned (.int .i64 (readsE [] l)) ∧ Below w.heap.size w w' := by
 obtain ⟨a0, c0, rfl, hc0, hm0, -, hx⟩ := h.out RdL.len (by omega)
 unfold maxLen at hm0
 have HX := hid hx
 have HS := hid hs
 clear h hs hx
 have hmm := @run_makeMap Tryz.prog
 go_enter Tryz.func42, Tryz.ntmps42
 go_upto_region 2 with fail
 obtain ⟨W0, hW0, hb0, hn0⟩ := an0 w (.map #[] 0)
 rw [← hW0.out]
 clear hW0 hmm
 have HB0 := hid hb0
 have HN0 := hid (show W0.heap[w.heap.size]? = some (setO (pathsR (l.take 0))) from hn0)
 clear hb0 hn0
 go_wp2_with fail
 go_loopw [9] (fun i wr => ∃ k : Nat, k ≤ l.length ∧ i = .int .i64 k ∧ readsE [] l = readsE (pathsR (l.take k)) (l.drop k) ∧ wr.heap[w.heap.size]? = some (setO (pathsR (l.take k))) ∧ Below w.heap.size w wr) (fun i _ => l.length - (intOf i).toNat)
 case atStart => exact ⟨0, by omega, rfl, rfl, HN0.out, HB0.out⟩
 case round =>
  obtain ⟨k, hk, rfl, he, hmap, hbe⟩ := hrel
  have He := hid he
  clear he HN0 HB0
  by_cases hlt : k < l.length
  ·obtain ⟨b, off, rfl, hbw, hcl⟩ := HX.out k hlt
   have L0 := range_keeps hbe (hcl k hlt)
   have HL := hid (HS.out l[k] (List.getElem_mem hlt))
   have HD := hid (drop_at l k hlt)
   rw [HD.out] at He
   have HP := hid (paths_take l k hlt)
   have HM := hid hmap
   have HB := hid hbe
   clear HD
   cases hX : l[k] with | mk p is d =>
   rw [hX] at L0 HL HP He
   generalize hM : pathsR (l.take k) = met at *
   clear hcl hX hM hmap hbe HX HS
   have hBl : w.heap.size < wr.heap.size := (Array.getElem?_eq_some_iff.1 HM.out).1
   by_cases hmay : mayB p = true
   ·by_cases hmem : p ∈ met
    ·go_wp2_with first | (refine wl_ld rt100 L0 (RdL.len _) ?_) | (refine wl_new (xs := (RdL.cells ⟨p, is, d⟩).toArray) rt100 (by rw [List.size_toArray]; exact RdL.len _) (RdL.one _) ?_; intro W1 hb1 hn1 hs1; obtain ⟨z0, z1, z2⟩ := RdL.parts0 hn1; have HM1 := (hb1.block _ hBl).trans HM.out) | (go_at_call 51; refine (may_is p HL.out true hmay W1).mono ?_; rintro e W2 ⟨rfl, hb2⟩; have HM2 := (hb2.block _ (by omega)).trans HM1; obtain ⟨y0, y1, y2⟩ := RdL.parts0 ((hb2.block _ (by omega)).trans hn1); have hlk := set_look HM2 p true (decide_eq_true hmem))
     go_ret
     exact ⟨by rw [He.out]; simp [readsE, hmay, hmem], Below.chain (Below.chain HB.out hb1) hb2⟩
    ·cases is with
     | true =>
       go_wp2_with first | (refine wl_ld rt100 L0 (RdL.len _) ?_) | (refine wl_new (xs := (RdL.cells ⟨p, true, d⟩).toArray) rt100 (by rw [List.size_toArray]; exact RdL.len _) (RdL.one _) ?_; intro W1 hb1 hn1 hs1; obtain ⟨z0, z1, z2⟩ := RdL.parts0 hn1; have HM1 := (hb1.block _ hBl).trans HM.out) | (go_at_call 51; refine (may_is p HL.out true hmay W1).mono ?_; rintro e W2 ⟨rfl, hb2⟩; have HM2 := (hb2.block _ (by omega)).trans HM1; obtain ⟨y0, y1, y2⟩ := RdL.parts0 ((hb2.block _ (by omega)).trans hn1); have hlk := set_look HM2 p false (decide_eq_false hmem); obtain ⟨W3, hup, ht3, hm3⟩ := set_add HM2 p hmem)
       exact ⟨⟨k + 1, by omega, by go_num, by rw [He.out, HP.out]; simp [readsE, hmay, hmem], by rw [HP.out]; exact hm3, (Below.chain (Below.chain HB.out hb1) hb2).trans (ht3.below (Nat.le_refl _))⟩, by simp [intOf]; omega⟩
     | false =>
       by_cases hd : d = dg0
       ·have E := eqt_is (eqt31 d dg0) true (decide_eq_true hd)
        go_wp2_with first | (refine wl_ld rt100 L0 (RdL.len _) ?_) | (refine wl_new (xs := (RdL.cells ⟨p, false, d⟩).toArray) rt100 (by rw [List.size_toArray]; exact RdL.len _) (RdL.one _) ?_; intro W1 hb1 hn1 hs1; obtain ⟨z0, z1, z2⟩ := RdL.parts0 hn1; have HM1 := (hb1.block _ hBl).trans HM.out) | (go_at_call 51; refine (may_is p HL.out true hmay W1).mono ?_; rintro e W2 ⟨rfl, hb2⟩; have HM2 := (hb2.block _ (by omega)).trans HM1; obtain ⟨y0, y1, y2⟩ := RdL.parts0 ((hb2.block _ (by omega)).trans hn1); have hlk := set_look HM2 p false (decide_eq_false hmem); obtain ⟨W3, hup, ht3, hm3⟩ := set_add HM2 p hmem) | (refine wl_run (r_build31 rfl) ?_) | (refine wl_ld rt31 y2 (dgc_len _) ?_) | (refine wl_neq E ?_)
        exact ⟨⟨k + 1, by omega, by go_num, by rw [He.out, HP.out]; simp [readsE, hmay, hmem, hd], by rw [HP.out]; exact hm3, (Below.chain (Below.chain HB.out hb1) hb2).trans (ht3.below (Nat.le_refl _))⟩, by simp [intOf]; omega⟩
       ·have E := eqt_is (eqt31 d dg0) false (decide_eq_false hd)
        go_wp2_with first | (refine wl_ld rt100 L0 (RdL.len _) ?_) | (refine wl_new (xs := (RdL.cells ⟨p, false, d⟩).toArray) rt100 (by rw [List.size_toArray]; exact RdL.len _) (RdL.one _) ?_; intro W1 hb1 hn1 hs1; obtain ⟨z0, z1, z2⟩ := RdL.parts0 hn1; have HM1 := (hb1.block _ hBl).trans HM.out) | (go_at_call 51; refine (may_is p HL.out true hmay W1).mono ?_; rintro e W2 ⟨rfl, hb2⟩; have HM2 := (hb2.block _ (by omega)).trans HM1; obtain ⟨y0, y1, y2⟩ := RdL.parts0 ((hb2.block _ (by omega)).trans hn1); have hlk := set_look HM2 p false (decide_eq_false hmem)) | (refine wl_run (r_build31 rfl) ?_) | (refine wl_ld rt31 y2 (dgc_len _) ?_) | (refine wl_neq E ?_)
        go_ret
        exact ⟨by rw [He.out]; simp [readsE, hmay, hmem, hd], Below.chain (Below.chain HB.out hb1) hb2⟩
   ·go_wp2_with first | (refine wl_ld rt100 L0 (RdL.len _) ?_) | (refine wl_new (xs := (RdL.cells ⟨p, is, d⟩).toArray) rt100 (by rw [List.size_toArray]; exact RdL.len _) (RdL.one _) ?_; intro W1 hb1 hn1 hs1; obtain ⟨z0, z1, z2⟩ := RdL.parts0 hn1; have HM1 := (hb1.block _ hBl).trans HM.out) | (go_at_call 51; refine (may_is p HL.out false (by simpa using hmay) W1).mono ?_; rintro e W2 ⟨rfl, hb2⟩; have HM2 := (hb2.block _ (by omega)).trans HM1; obtain ⟨y0, y1, y2⟩ := RdL.parts0 ((hb2.block _ (by omega)).trans hn1); skip)
    go_ret
    exact ⟨by rw [He.out]; simp [readsE, hmay], Below.chain (Below.chain HB.out hb1) hb2⟩
  ·obtain rfl : k = l.length := by omega
   go_wp2_with fail
   go_ret
   exact ⟨by rw [He.out, List.drop_length]; rfl, hbe⟩
end Go.Proofs.YtlbipokkdiiaiaaGreatDoor
namespace Go.Proofs.YtlbipokkdiiaiaaGreatDoor
open Go.RowKit Go.Proofs.YtlbipokkdiiaiaaGreatDoor.Exec
set_option maxRecDepth 100000
def aheadL (l : List MdL) : Nat → Option (List UInt8)
 | 0 => none
 | j + 1 => (l[j]?).map (·.path)
set_option maxHeartbeats 2000000 in
theorem outs_any (v : Value) (l : List MdL) (w : World) (h : RowsOf w 33 MdL.cells v l) (hs : SmallM l) :
  Calls Tryz.prog 43 #[v] w fun e w' => e = .returned (.int .i64 (outsE none l)) ∧ Below w.heap.size w w' := by
 obtain ⟨a0, c0, rfl, hc0, hm0, -, hx⟩ := h.out MdL.len (by omega)
 unfold maxLen at hm0
 have HX := hid hx
 have HS := hid hs
 clear h hs hx
 go_enter Tryz.func43, Tryz.ntmps43
 go_wp2_with fail
 go_loopw [7] (fun i wr => ∃ k : Nat, k ≤ l.length ∧ i = .int .i64 k ∧ outsE none l = outsE (aheadL l k) (l.drop k) ∧ Below w.heap.size w wr) (fun i _ => l.length - (intOf i).toNat)
 case atStart => exact ⟨0, by omega, rfl, rfl, Below.refl _ _⟩
 case round =>
  obtain ⟨k, hk, rfl, he, hbe⟩ := hrel
  have He := hid he
  clear he
  by_cases hlt : k < l.length
  ·obtain ⟨b, off, rfl, hbw, hcl⟩ := HX.out k hlt
   have L0 := range_keeps hbe (hcl k hlt)
   have HL := hid (HS.out l[k] (List.getElem_mem hlt))
   have HD := hid (drop_at l k hlt)
   rw [HD.out] at He
   have HA := hid (show aheadL l (k + 1) = some l[k].path by simp [aheadL, hlt])
   have HB := hid hbe
   clear HD
   cases hX : l[k] with | mk p d =>
   rw [hX] at L0 HL He HA
   by_cases hu : underB p [111, 117, 116] = true
   ·by_cases h0 : k = 0
    ·have HE0 := hid (show aheadL l k = none by rw [h0]; rfl)
     have hgt : decide (0 < k) = false := decide_eq_false (by omega)
     have H0 := hid h0
     clear hcl hX HX HS h0
     go_wp2_with first | (refine wl_ld rt54 L0 (MdL.len _) ?_) | (refine wl_al rt54 ?_; intro zs W1 hzs hb1 hn1 hs1) | (refine wl_st (xs := (MdL.cells ⟨p, d⟩).toArray) rt54 hn1 hzs (by rw [List.size_toArray]; exact MdL.len _) (MdL.one _) ?_; intro W2 ht2 hn2 hs2; obtain ⟨z0, z1⟩ := MdL.parts0 hn2; have hb2 := hb1.trans (ht2.below (Nat.le_refl _))) | (go_at_call 89; refine (under_is p [111, 117, 116] HL.out (by decide) true hu W2).mono ?_; rintro e W3 ⟨rfl, hb3⟩; have y0 := Below.keeps hb3 z0)
     refine wp_region_wq (by kernel_rfl) (by kernel_rfl) ?_
     repeat (refine WQ.step (fun K hK => ?_); go_simp; first | (refine hK _ ?_; clear hK K) | (apply Exists.intro; refine ⟨fun W hW => ?_, hK _ ?_⟩; (first | with_reducible rfl | (go_simp; first | rfl | exact ⟨rfl, rfl⟩ | (rw [if_neg (by omega)]; exact ⟨rfl, rfl⟩))); clear hK K))
     refine WQ.nil ?_
     intro wq hwq
     go_wp2_with fail
     refine wp_region_wq (by kernel_rfl) (by kernel_rfl) ?_
     repeat (refine WQ.step (fun K hK => ?_); go_simp; first | (refine hK _ ?_; clear hK K) | (apply Exists.intro; refine ⟨fun W hW => ?_, hK _ ?_⟩; (first | with_reducible rfl | (go_simp; first | rfl | exact ⟨rfl, rfl⟩ | (rw [if_neg (by omega)]; exact ⟨rfl, rfl⟩))); clear hK K))
     refine WQ.nil ?_
     intro wr hwr
     go_wp2_with fail
     exact ⟨⟨k + 1, by omega, by go_num, by rw [He.out, HA.out, HE0.out]; simp [outsE, hu], Below.chain HB.out (Below.chain (Below.chain (Below.chain hb2 hb3) hwq) hwr)⟩, by simp [intOf]; omega⟩
    ·obtain ⟨j, hj⟩ : ∃ j, k = j + 1 := ⟨k - 1, by omega⟩
     have hgt : decide (0 < k) = true := decide_eq_true (by omega)
     have hjl : j < l.length := by omega
     have hkj : IntKind.i64.wrap ((k : Int) - 1) = (j : Int) := by
      rw [show (k : Int) - 1 = (j : Int) by omega]
      simp only [IntKind.wrap, IntKind.bits, IntKind.signed]
      simp
      omega
     have Q0 := (MdL.parts (range_keeps hbe (hcl j hjl))).1
     generalize hQ : (l[j]).path = q at Q0
     have HE0 := hid (show aheadL l k = some q by rw [hj, ← hQ]; simp [aheadL, hjl])
     have HJ := hid hj
     have H0 := hid h0
     clear hcl hX HX HS hQ hj h0
     by_cases hpq : p = q
     ·have HP := hid hpq
      have E8 : (p == q) = true := by rw [hpq]; simp
      clear hpq
      go_wp2_with first | (refine wl_ld rt54 L0 (MdL.len _) ?_) | (refine wl_al rt54 ?_; intro zs W1 hzs hb1 hn1 hs1) | (refine wl_st (xs := (MdL.cells ⟨p, d⟩).toArray) rt54 hn1 hzs (by rw [List.size_toArray]; exact MdL.len _) (MdL.one _) ?_; intro W2 ht2 hn2 hs2; obtain ⟨z0, z1⟩ := MdL.parts0 hn2; have hb2 := hb1.trans (ht2.below (Nat.le_refl _))) | (go_at_call 89; refine (under_is p [111, 117, 116] HL.out (by decide) true hu W2).mono ?_; rintro e W3 ⟨rfl, hb3⟩; have y0 := Below.keeps hb3 z0; have q1 := Below.keeps (Below.chain hb2 hb3) Q0)
      refine wp_region_wq (by kernel_rfl) (by kernel_rfl) ?_
      repeat (refine WQ.step (fun K hK => ?_); go_simp; first | (refine hK _ ?_; clear hK K) | (apply Exists.intro; refine ⟨fun W hW => ?_, hK _ ?_⟩; (first | with_reducible rfl | (have zz0 := Below.keeps hW y0; have zz1 := Below.keeps hW q1; go_simp; first | rfl | exact ⟨rfl, rfl⟩ | (rw [if_neg (by omega)]; exact ⟨rfl, rfl⟩))); clear hK K))
      refine WQ.nil ?_
      intro wq hwq
      go_wp2_with fail
      go_ret
      have hu2 := HP.out ▸ hu
      exact ⟨by rw [He.out, HE0.out]; simp [outsE, hu2, HP.out], Below.chain HB.out (Below.chain (Below.chain hb2 hb3) hwq)⟩
     ·have HP := hid hpq
      have E8 : (p == q) = false := by simpa using hpq
      clear hpq
      by_cases hls : less p q = true
      ·go_wp2_with first | (refine wl_ld rt54 L0 (MdL.len _) ?_) | (refine wl_al rt54 ?_; intro zs W1 hzs hb1 hn1 hs1) | (refine wl_st (xs := (MdL.cells ⟨p, d⟩).toArray) rt54 hn1 hzs (by rw [List.size_toArray]; exact MdL.len _) (MdL.one _) ?_; intro W2 ht2 hn2 hs2; obtain ⟨z0, z1⟩ := MdL.parts0 hn2; have hb2 := hb1.trans (ht2.below (Nat.le_refl _))) | (go_at_call 89; refine (under_is p [111, 117, 116] HL.out (by decide) true hu W2).mono ?_; rintro e W3 ⟨rfl, hb3⟩; have y0 := Below.keeps hb3 z0; have q1 := Below.keeps (Below.chain hb2 hb3) Q0)
       refine wp_region_wq (by kernel_rfl) (by kernel_rfl) ?_
       repeat (refine WQ.step (fun K hK => ?_); go_simp; first | (refine hK _ ?_; clear hK K) | (apply Exists.intro; refine ⟨fun W hW => ?_, hK _ ?_⟩; (first | with_reducible rfl | (have zz0 := Below.keeps hW y0; have zz1 := Below.keeps hW q1; go_simp; first | rfl | exact ⟨rfl, rfl⟩ | (rw [if_neg (by omega)]; exact ⟨rfl, rfl⟩))); clear hK K))
       refine WQ.nil ?_
       intro wq hwq
       go_wp2_with fail
       have y2 := Below.keeps hwq y0
       have q2 := Below.keeps hwq q1
       refine wp_region_wq (by kernel_rfl) (by kernel_rfl) ?_
       repeat (refine WQ.step (fun K hK => ?_); go_simp; first | (refine hK _ ?_; clear hK K) | (apply Exists.intro; refine ⟨fun W hW => ?_, hK _ ?_⟩; (first | with_reducible rfl | (have zz0 := Below.keeps hW y2; have zz1 := Below.keeps hW q2; go_simp; first | rfl | exact ⟨rfl, rfl⟩ | (rw [if_neg (by omega)]; exact ⟨rfl, rfl⟩))); clear hK K))
       refine WQ.nil ?_
       intro wr hwr
       go_wp2_with fail
       go_ret
       exact ⟨by rw [He.out, HE0.out]; simp [outsE, hu, HP.out, hls], Below.chain HB.out (Below.chain (Below.chain (Below.chain hb2 hb3) hwq) hwr)⟩
      ·have hls2 : less p q = false := by simpa using hls
       have HLS := hid hls
       clear hls
       go_wp2_with first | (refine wl_ld rt54 L0 (MdL.len _) ?_) | (refine wl_al rt54 ?_; intro zs W1 hzs hb1 hn1 hs1) | (refine wl_st (xs := (MdL.cells ⟨p, d⟩).toArray) rt54 hn1 hzs (by rw [List.size_toArray]; exact MdL.len _) (MdL.one _) ?_; intro W2 ht2 hn2 hs2; obtain ⟨z0, z1⟩ := MdL.parts0 hn2; have hb2 := hb1.trans (ht2.below (Nat.le_refl _))) | (go_at_call 89; refine (under_is p [111, 117, 116] HL.out (by decide) true hu W2).mono ?_; rintro e W3 ⟨rfl, hb3⟩; have y0 := Below.keeps hb3 z0; have q1 := Below.keeps (Below.chain hb2 hb3) Q0)
       refine wp_region_wq (by kernel_rfl) (by kernel_rfl) ?_
       repeat (refine WQ.step (fun K hK => ?_); go_simp; first | (refine hK _ ?_; clear hK K) | (apply Exists.intro; refine ⟨fun W hW => ?_, hK _ ?_⟩; (first | with_reducible rfl | (have zz0 := Below.keeps hW y0; have zz1 := Below.keeps hW q1; go_simp; first | rfl | exact ⟨rfl, rfl⟩ | (rw [if_neg (by omega)]; exact ⟨rfl, rfl⟩))); clear hK K))
       refine WQ.nil ?_
       intro wq hwq
       go_wp2_with fail
       have y2 := Below.keeps hwq y0
       have q2 := Below.keeps hwq q1
       refine wp_region_wq (by kernel_rfl) (by kernel_rfl) ?_
       repeat (refine WQ.step (fun K hK => ?_); go_simp; first | (refine hK _ ?_; clear hK K) | (apply Exists.intro; refine ⟨fun W hW => ?_, hK _ ?_⟩; (first | with_reducible rfl | (have zz0 := Below.keeps hW y2; have zz1 := Below.keeps hW q2; go_simp; first | rfl | exact ⟨rfl, rfl⟩ | (rw [if_neg (by omega)]; exact ⟨rfl, rfl⟩))); clear hK K))
       refine WQ.nil ?_
       intro wr hwr
       go_wp2_with fail
       exact ⟨⟨k + 1, by omega, by go_num, by rw [He.out, HA.out, HE0.out]; simp [outsE, hu, HP.out, HLS.out], Below.chain HB.out (Below.chain (Below.chain (Below.chain hb2 hb3) hwq) hwr)⟩, by simp [intOf]; omega⟩
   ·clear hcl hX HX HS
    go_wp2_with first | (refine wl_ld rt54 L0 (MdL.len _) ?_) | (refine wl_al rt54 ?_; intro zs W1 hzs hb1 hn1 hs1) | (refine wl_st (xs := (MdL.cells ⟨p, d⟩).toArray) rt54 hn1 hzs (by rw [List.size_toArray]; exact MdL.len _) (MdL.one _) ?_; intro W2 ht2 hn2 hs2; obtain ⟨z0, z1⟩ := MdL.parts0 hn2; have hb2 := hb1.trans (ht2.below (Nat.le_refl _))) | (go_at_call 89; refine (under_is p [111, 117, 116] HL.out (by decide) false (by simpa using hu) W2).mono ?_; rintro e W3 ⟨rfl, hb3⟩; have y0 := Below.keeps hb3 z0)
    go_ret
    exact ⟨by rw [He.out]; simp [outsE, hu], Below.chain HB.out (Below.chain hb2 hb3)⟩
  ·obtain rfl : k = l.length := by omega
   go_wp2_with fail
   go_ret
   exact ⟨by rw [He.out, List.drop_length]; rfl, hbe⟩
theorem reads_is (v : Value) (l : List RdL) (w : World) (h : RowsOf w 34 RdL.cells v l) (hs : SmallR l) (r : Int) (hr : readsE [] l = r) :
  Calls Tryz.prog 42 #[v] w fun e w' => e = .returned (.int .i64 r) ∧ Below w.heap.size w w' := hr ▸ reads_any v l w h hs
structure SmallT (t : TcL) : Prop where
 rd : SmallR t.reads
 ou : SmallM t.outs
theorem rows_len {w : World} {sz : Nat} {α : Type} {f : α → List Value} {v : Value} {l : List α} (h : RowsOf w sz f v l) : ∃ a c, v = .slice a l.length c ∧ l.length ≤ 9223372036854775807 := by
 obtain ⟨_, a, c, rfl, h1, h2, _⟩ := h
 exact ⟨a, c, rfl, by unfold maxLen at h2; omega⟩
set_option maxHeartbeats 2000000 in
theorem checkT_any (x : TcM) (w : World) (hx : HeldT w x) (hs : SmallT x.t) :
  Calls Tryz.prog 15 #[x.val] w fun e w' => e = .returned (.int .i64 (checkT x.t)) ∧ Below w.heap.size w w' := by
 unfold TcM.val
 obtain ⟨ra, rc, hrv, hr63⟩ := rows_len hx.1
 obtain ⟨oa, oc, hov, ho63⟩ := rows_len hx.2
 have HX := hid hx
 have HS := hid hs
 clear hx hs
 go_enter Tryz.func15, Tryz.ntmps15
 go_upto_region 1 with fail
 obtain ⟨W0, hW0, hb0, hn0⟩ := an0 w (.cells x.cells.toArray 44)
 rw [← hW0.out]
 clear hW0
 obtain ⟨x0, x1, x2⟩ := TcM.parts0 hn0
 rw [hrv] at x1
 rw [hov] at x2
 have HB := hid hb0
 have HX0 := hid (HX.out.keep hb0)
 rw [HeldT, hrv, hov] at HX0
 clear hn0 HX hb0 hrv hov
 by_cases h1 : x.t.reads.length ≤ 500
 ·have e1 : decide ((500 : Int) < (x.t.reads.length : Int)) = false := decide_eq_false (by omega)
  by_cases h2 : x.t.outs.length ≤ 1000
  ·have e2 : decide ((1000 : Int) < (x.t.outs.length : Int)) = false := decide_eq_false (by omega)
   by_cases h3 : readsE [] x.t.reads = 0
   ·have HR := hid (reads_is _ _ W0 HX0.out.1 HS.out.rd 0 h3)
    have HC := hid (show checkT x.t = outsE none x.t.outs by unfold checkT; rw [if_neg (by omega), if_neg (by simp [h3])])
    clear h3 h1 h2
    go_wp2_with first | (go_at_call 42; refine (HR.out).mono ?_; rintro e w1 ⟨rfl, hb1⟩; have x2' := Below.keeps hb1 x2) | (go_at_call 43; refine (outs_any _ _ _ (HX0.out.2.below hb1 (Nat.le_refl _)) HS.out.ou).mono ?_; rintro e w2 ⟨rfl, hb2⟩)
    go_ret
    exact ⟨by rw [HC.out]; rfl, Below.chain HB.out (Below.chain hb1 hb2)⟩
   ·obtain ⟨r, hr⟩ : ∃ r, readsE [] x.t.reads = r := ⟨_, rfl⟩
    have HR := hid (reads_is _ _ W0 HX0.out.1 HS.out.rd r hr)
    have HC := hid (show checkT x.t = r by unfold checkT; rw [if_neg (by omega), if_pos h3, hr])
    have hne : (r != 0) = true := neT (by rw [← hr]; exact h3)
    clear h3 h1 h2 hr
    go_wp2_with first | (go_at_call 42; refine (HR.out).mono ?_; rintro e w1 ⟨rfl, hb1⟩; have x2' := Below.keeps hb1 x2)
    go_ret
    exact ⟨by rw [HC.out]; rfl, Below.chain HB.out hb1⟩
  ·have e2 : decide ((1000 : Int) < (x.t.outs.length : Int)) = true := decide_eq_true (by omega)
   have HC := hid (show checkT x.t = 6 by unfold checkT; rw [if_pos (by omega)])
   clear h1 h2
   go_wp2_with fail
   go_ret
   exact ⟨by rw [HC.out]; rfl, HB.out⟩
 ·have e1 : decide ((500 : Int) < (x.t.reads.length : Int)) = true := decide_eq_true (by omega)
  have HC := hid (show checkT x.t = 6 by unfold checkT; rw [if_pos (by omega)])
  clear h1
  go_wp2_with fail
  go_ret
  exact ⟨by rw [HC.out]; rfl, HB.out⟩
end Go.Proofs.YtlbipokkdiiaiaaGreatDoor
