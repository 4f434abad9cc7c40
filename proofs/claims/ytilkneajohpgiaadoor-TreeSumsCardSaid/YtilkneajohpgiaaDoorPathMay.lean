/- The walks of package path: strings.SplitSeq's iterator, and May. -/
import Derived.Test.YtilkneajohpgiaaDoorPathWalks
namespace Go.Proofs.YtilkneajohpgiaaDoor
open Go.RowKit Go.Shelf
attribute [local go_sem] Oper.semAt_some

def lenAt (w : World) (b : Nat) : Nat := match w.cell? ⟨b, 0, none⟩ with | some (.string s) => s.size | _ => 0
theorem lenAt_of {w : World} {b : Nat} {s : List UInt8} (h : w.cell? ⟨b, 0, none⟩ = some (.string (bs s))) : lenAt w b = s.length := by unfold lenAt; rw [h]; rfl

set_option maxHeartbeats 2000000 in
set_option maxRecDepth 100000 in
/-- The iterator of SplitSeq at a stroke: its text in block b, the separator and the count in two others. -/
theorem split_in (n : Nat) (hn : 1 ≤ n) (l c b d lo hi : Nat) (hlo : lo ≤ c ∧ lo ≤ d ∧ lo ≤ b) (hhi : c < hi ∧ d < hi ∧ b < hi) (hbc : b ≠ c ∧ b ≠ d) (s : List UInt8) (hs : s.length ≤ 1000000000000)
    (J Jx : List (List UInt8) → World → Prop) (W : World) (hJ : AbidesAt b J)
    (hY : ∀ pre x W1, J pre W1 → YieldAt Fence.wide (n - 1) Tryd.prog l #[.string (bs x)] W1 fun e W' =>
      (e = .returned (.bool true) ∧ J (pre ++ [x]) W' ∧ KeepsBlk lo hi W1 W') ∨ (e = .returned (.bool false) ∧ Jx (pre ++ [x]) W'))
    (hc : W.cell? ⟨c, 0, none⟩ = some (.string (bs [47]))) (hd : W.cell? ⟨d, 0, none⟩ = some (.int .i64 0)) (hb : W.cell? ⟨b, 0, none⟩ = some (.string (bs s))) (hf : W.frozen? ⟨b, 0, none⟩ = false) (h0 : J [] W) :
    CallsIn Fence.wide n Tryd.prog 59 #[.func (.yield l) #[] #[], .pointer (some ⟨c, 0, none⟩), .pointer (some ⟨b, 0, none⟩), .pointer (some ⟨d, 0, none⟩)] W fun e W' => (∃ v, e = .returned v) ∧
      ((∃ ys, ys = splitL s ∧ J ys W') ∨ (∃ pre, pre <+: splitL s ∧ Jx pre W')) := by
  have Hs0 := hid hs; clear hs
  refine callsIn_of_wp Tryd.func59 rfl trivial ?_ rfl
  simp only [Tryd.ntmps59, List.size_toArray, List.length_cons, List.length_nil, Nat.reduceAdd, Nat.reduceSub, Array.replicate_succ, Array.replicate_zero, List.push_toArray, List.append_toArray, List.nil_append, List.cons_append]
  gi_wp2
  gi_loopw [7] (fun _ wr => ∃ (pre : List (List UInt8)) (rest : List UInt8), splitL s = pre ++ splitL rest ∧ rest.length ≤ s.length ∧ wr.cell? ⟨b, 0, none⟩ = some (.string (bs rest)) ∧ wr.frozen? ⟨b, 0, none⟩ = false ∧ wr.cell? ⟨c, 0, none⟩ = some (.string (bs [47])) ∧ wr.cell? ⟨d, 0, none⟩ = some (.int .i64 0) ∧ J pre wr) (fun _ wr => lenAt wr b)
  case atStart => exact ⟨[], s, rfl, Nat.le_refl _, hb, hf, hc, hd, h0⟩
  case round =>
    clear hb hf hc hd h0
    obtain ⟨pre, rest, hsp, hle, hb, hf, hc, hd, hj⟩ := hrel
    have Hsp := hid hsp; clear hsp
    have hlen : rest.length ≤ 1000000000000 := Nat.le_trans hle Hs0.out
    by_cases hneg : Lib.indexByte rest 47 < 0
    · obtain ⟨fn, tmps, assign, body, hy, hR⟩ := hY pre rest wr hj
      have Hsn := hid (split_none rest hneg)
      gi_wp2_with fail
      refine ⟨trivial, (callsIn_wide.2 (Tryd.strings_Index_one (bs rest) 47 _)).mono ?_⟩
      rintro e w' ⟨rfl, rfl⟩
      rw [list_bs]
      gi_wp2_with fail
      refine hR.mono ?_
      rintro e W' (⟨rfl, hj', hk⟩ | ⟨rfl, hjx⟩)
      · gi_wp2
        go_end0
        exact ⟨⟨_, rfl⟩, .inl ⟨pre ++ [rest], by rw [Hsp.out, Hsn.out], hj'⟩⟩
      · gi_wp2
        go_end0
        exact ⟨⟨_, rfl⟩, .inr ⟨pre ++ [rest], by rw [Hsp.out, Hsn.out]; exact List.prefix_refl _, hjx⟩⟩
    · obtain ⟨i, hi⟩ : ∃ i : Nat, Lib.indexByte rest 47 = i := ⟨(Lib.indexByte rest 47).toNat, by omega⟩
      have Hi := hid hi; clear hneg
      have hss := split_some rest i hi
      clear hi
      have hil := hss.2
      have Hss := hid hss.1; clear hss
      obtain ⟨fn, tmps, assign, body, hy, hR⟩ := hY pre (rest.take i) wr hj
      gi_wp2_with fail
      refine ⟨trivial, (callsIn_wide.2 (Tryd.strings_Index_one (bs rest) 47 _)).mono ?_⟩
      rintro e w' ⟨rfl, rfl⟩
      rw [list_bs, Hi.out]
      gi_wp2_with fail
      refine hR.mono ?_
      rintro e W' (⟨rfl, hj', hk⟩ | ⟨rfl, hjx⟩)
      · have hb' : W'.cell? ⟨b, 0, none⟩ = some (.string (bs rest)) := (hk.cell (p := ⟨b, 0, none⟩) hlo.2.2 hhi.2.2).trans hb
        have hc' : W'.cell? ⟨c, 0, none⟩ = some (.string (bs [47])) := (hk.cell (p := ⟨c, 0, none⟩) hlo.1 hhi.1).trans hc
        have hd' : W'.cell? ⟨d, 0, none⟩ = some (.int .i64 0) := (hk.cell (p := ⟨d, 0, none⟩) hlo.2.1 hhi.2.1).trans hd
        have hf' : W'.frozen? ⟨b, 0, none⟩ = false := (hk.frozen (p := ⟨b, 0, none⟩) hlo.2.2 hhi.2.2).trans hf
        gi_wp2
        have he : List.take (rest.length - (i + 1)) (List.drop (i + 1) rest) = List.drop (i + 1) rest := List.take_of_length_le (by rw [List.length_drop]; exact Nat.le_refl _)
        rw [he]
        have hcell : (W'.setCell ⟨b, 0, none⟩ (.string (bs (rest.drop (i + 1))))).cell? ⟨b, 0, none⟩ = some (.string (bs (rest.drop (i + 1)))) := World.cell?_setCell_same' _ _ _ (by rw [hb']; rfl)
        refine ⟨⟨pre ++ [rest.take i], rest.drop (i + 1), ?_, by rw [List.length_drop]; omega, hcell, by rw [World.frozen?_setCell]; exact hf', ?_, ?_, hJ _ _ _ hj'⟩, ?_⟩
        · rw [Hsp.out, Hss.out, List.append_assoc]; rfl
        · exact (World.cell?_of_block (w := W') (Below.heap_setCell W' _ _ c (by show c ≠ b; omega))).trans hc'
        · exact (World.cell?_of_block (w := W') (Below.heap_setCell W' _ _ d (by show d ≠ b; omega))).trans hd'
        · rw [lenAt_of hcell, lenAt_of hb, List.length_drop]; omega
      · gi_wp2
        refine bodyPost_ret (results_none rfl _ _ _) rfl ?_
        exact ⟨⟨_, rfl⟩, .inr ⟨pre ++ [rest.take i], ⟨splitL (rest.drop (i + 1)), by rw [Hsp.out, Hss.out, List.append_assoc]; rfl⟩, hjx⟩⟩

/-- SplitSeq's iterator, as the range's law wants it. -/
theorem split_seq (n : Nat) (hn : 1 ≤ n) (c b d lo hi : Nat) (hlo : lo ≤ c ∧ lo ≤ d ∧ lo ≤ b) (hhi : c < hi ∧ d < hi ∧ b < hi) (hbc : b ≠ c ∧ b ≠ d) (s : List UInt8) (hs : s.length ≤ 1000000000000) (w : World)
    (hc : w.cell? ⟨c, 0, none⟩ = some (.string (bs [47]))) (hd : w.cell? ⟨d, 0, none⟩ = some (.int .i64 0)) (hb : w.cell? ⟨b, 0, none⟩ = some (.string (bs s))) (hf : w.frozen? ⟨b, 0, none⟩ = false) :
    SeqSt Fence.wide n Tryd.prog 59 #[.pointer (some ⟨c, 0, none⟩), .pointer (some ⟨b, 0, none⟩), .pointer (some ⟨d, 0, none⟩)] (fun x : List UInt8 => #[.string (bs x)]) (KeepsBlk lo hi) b (fun xs => xs = splitL s) (fun pre => pre <+: splitL s) w := by
  intro l J Jx W hk _ _ hJ _ hY h0
  refine (split_in n hn l c b d lo hi hlo hhi hbc s hs J Jx W hJ hY ?_ ?_ ?_ ?_ h0).mono ?_
  · exact (hk.cell (p := ⟨c, 0, none⟩) hlo.1 hhi.1).trans hc
  · exact (hk.cell (p := ⟨d, 0, none⟩) hlo.2.1 hhi.2.1).trans hd
  · exact (hk.cell (p := ⟨b, 0, none⟩) hlo.2.2 hhi.2.2).trans hb
  · exact (hk.frozen (p := ⟨b, 0, none⟩) hlo.2.2 hhi.2.2).trans hf
  · rintro e W' ⟨h1, h2⟩; exact ⟨h1, h2⟩

set_option maxHeartbeats 400000 in
/-- strings.SplitSeq: three boxes and the closure over them. -/
theorem SplitSeq_any (s c : List UInt8) (w : World) :
    Calls Tryd.prog 42 #[.string (bs s), .string (bs c)] w fun e w' => e = .returned (.func (.func 59) #[] #[.pointer (some ⟨w.heap.size + 1, 0, none⟩), .pointer (some ⟨w.heap.size, 0, none⟩), .pointer (some ⟨w.heap.size + 2, 0, none⟩)]) ∧
      w' = ((w.alloc (.cells #[.string (bs s)] 9)).alloc (.cells #[.string (bs c)] 9)).alloc (.cells #[.int .i64 0] 3) := by
  go_enter Tryd.func42, Tryd.ntmps42
  go_wp2
  go_ret
  exact ⟨rfl, rfl⟩

/-- What May tells of the parts that came. -/
def goodTo (pre : List (List UInt8)) : Prop := pre.length ≤ 16 ∧ ∀ x ∈ pre, partB x = true
theorem may_yes {s : List UInt8} (h : goodTo (splitL s)) : mayB s = true := by
  unfold mayB
  rw [decide_eq_true h.1, Bool.true_and, List.all_eq_true]
  exact h.2
theorem may_no {s : List UInt8} {pre : List (List UInt8)} (hp : pre <+: splitL s) (h : ¬ goodTo pre) : mayB s = false := by
  rw [← Bool.not_eq_true]
  intro hm
  unfold mayB at hm
  simp only [Bool.and_eq_true, decide_eq_true_eq, List.all_eq_true] at hm
  exact h ⟨Nat.le_trans hp.length_le hm.1, fun x hx => hm.2 x (hp.subset hx)⟩

theorem cell_new (w : World) (v : Value) (t : TypeId) : (w.alloc (.cells #[v] t)).cell? ⟨w.heap.size, 0, none⟩ = some v ∧ (w.alloc (.cells #[v] t)).frozen? ⟨w.heap.size, 0, none⟩ = false := by
  refine ⟨by rw [World.cell?_alloc_mark]; rfl, ?_⟩
  rw [World.frozen?_alloc_mark]; rfl
theorem cell_old {w : World} {k : Nat} {v : Value} (o : Obj) (hk : k < w.heap.size) (h : w.cell? ⟨k, 0, none⟩ = some v ∧ w.frozen? ⟨k, 0, none⟩ = false) : (w.alloc o).cell? ⟨k, 0, none⟩ = some v ∧ (w.alloc o).frozen? ⟨k, 0, none⟩ = false :=
  ⟨(World.cell?_of_block (w := w) (Below.heap_alloc w o k hk)).trans h.1, (World.frozen?_of_block (w := w) (Below.heap_alloc w o k hk)).trans h.2⟩

set_option maxRecDepth 100000 in
set_option maxHeartbeats 2000000 in
theorem may_any (s : List UInt8) (hs : s.length ≤ 1000000000000) (w : World) :
    Calls Tryd.prog 30 #[.string (bs s)] w fun e w' => e = .returned (.bool (mayB s)) ∧ Below w.heap.size w w' := by
  refine (callsIn_wide (n := 5)).1 ?_
  refine callsIn_of_wp_marks Tryd.func30 rfl trivial ?_ rfl
  simp only [Tryd.ntmps30, List.size_toArray, List.length_cons, List.length_nil, Nat.reduceAdd, Nat.reduceSub, Array.replicate_succ, Array.replicate_zero, List.push_toArray, List.append_toArray, List.nil_append, List.cons_append]
  gi_wp2_with fail
  refine ⟨trivial, (callsIn_wide.2 (SplitSeq_any s [47] _)).mono ?_⟩
  rintro e w5 ⟨rfl, hw5⟩
  simp only [World.size_alloc]
  have hsz : w5.heap.size = w.heap.size + 5 := by rw [hw5]; simp
  have hB : Below w.heap.size w w5 := by
    rw [hw5]; exact (((((Below.refl _ w).alloc (Nat.le_refl _) _).alloc (by simp) _).alloc (by simp; omega) _).alloc (by simp; omega) _).alloc (by simp; omega) _
  have c0 : w5.cell? ⟨w.heap.size, 0, none⟩ = some (.bool false) ∧ w5.frozen? ⟨w.heap.size, 0, none⟩ = false := by
    rw [hw5]; exact cell_old _ (by simp; try omega) (cell_old _ (by simp; try omega) (cell_old _ (by simp; try omega) (cell_old _ (by simp) (cell_new w _ _))))
  have c1 : w5.cell? ⟨w.heap.size + 1, 0, none⟩ = some (.int .i64 0) ∧ w5.frozen? ⟨w.heap.size + 1, 0, none⟩ = false := by
    have := cell_new (w.alloc (.cells #[.bool false] 4)) (.int .i64 0) 3
    rw [World.size_alloc] at this
    rw [hw5]; exact cell_old _ (by simp; try omega) (cell_old _ (by simp; try omega) (cell_old _ (by simp) this))
  have c2 : w5.cell? ⟨w.heap.size + 2, 0, none⟩ = some (.string (bs s)) ∧ w5.frozen? ⟨w.heap.size + 2, 0, none⟩ = false := by
    have := cell_new ((w.alloc (.cells #[.bool false] 4)).alloc (.cells #[.int .i64 0] 3)) (.string (bs s)) 9
    simp only [World.size_alloc] at this
    rw [hw5]; exact cell_old _ (by simp) (cell_old _ (by simp) this)
  have c3 : w5.cell? ⟨w.heap.size + 3, 0, none⟩ = some (.string (bs [47])) := by
    have := cell_new (((w.alloc (.cells #[.bool false] 4)).alloc (.cells #[.int .i64 0] 3)).alloc (.cells #[.string (bs s)] 9)) (.string (bs [47])) 9
    simp only [World.size_alloc] at this
    rw [hw5]; exact (cell_old _ (by simp) this).1
  have c4 : w5.cell? ⟨w.heap.size + 4, 0, none⟩ = some (.int .i64 0) := by
    have := cell_new ((((w.alloc (.cells #[.bool false] 4)).alloc (.cells #[.int .i64 0] 3)).alloc (.cells #[.string (bs s)] 9)).alloc (.cells #[.string (bs [47])] 9)) (.int .i64 0) 3
    simp only [World.size_alloc] at this
    rw [hw5]; exact this.1
  clear hw5
  have Hsz := hid hsz
  clear hsz
  gi_wp2_with fail
  have hsz := Hsz.out
  refine wpIn_rangeFunc_st (lo := w.heap.size + 2) (hi := w.heap.size + 5) (b := w.heap.size + 2) rfl (by omega) (gf := 59) (lb := #[.pointer (some ⟨w.heap.size + 3, 0, none⟩), .pointer (some ⟨w.heap.size + 2, 0, none⟩), .pointer (some ⟨w.heap.size + 4, 0, none⟩)]) rfl trivial (enters_of Tryd.func59 (by kernel_rfl) rfl)
    (split_seq _ (by omega) (w.heap.size + 3) (w.heap.size + 2) (w.heap.size + 4) (w.heap.size + 2) (w.heap.size + 5) (by omega) (by omega) (by omega) s hs w5 c3 c4 c2.1 c2.2) (by omega) (by omega) (fun _ => rfl)
    (fun pre W => (goodTo pre ∧ W.cell? ⟨w.heap.size + 1, 0, none⟩ = some (.int .i64 pre.length) ∧ W.frozen? ⟨w.heap.size + 1, 0, none⟩ = false ∧ W.cell? ⟨w.heap.size, 0, none⟩ = some (.bool false) ∧ W.frozen? ⟨w.heap.size, 0, none⟩ = false) ∧ Below w.heap.size w5 W)
    (fun c pre W => (c = .ret ∧ ¬ goodTo pre ∧ W.cell? ⟨w.heap.size, 0, none⟩ = some (.bool false)) ∧ Below w.heap.size w5 W)
    (OwnFrom.and (Own.from (fun s A B row hs hg hr => ⟨hs.1, cell_kept hs.2.1 hg hr, (frozen_kept hs.2.1 hg hr).trans hs.2.2.1, cell_kept hs.2.2.2.1 hg hr, (frozen_kept hs.2.2.2.1 hg hr).trans hs.2.2.2.2⟩) _) (ownFrom_below (by omega) (by omega)))
    (fun c => OwnFrom.and (Own.from (fun s A B row hs hg hr => ⟨hs.1, hs.2.1, cell_kept hs.2.2 hg hr⟩) _) (ownFrom_below (by omega) (by omega)))
    (fun pre W v hs => ⟨⟨hs.1.1, (World.cell?_of_block (w := W) (Below.heap_setCell W _ _ (w.heap.size + 1) (by show _ ≠ w.heap.size + 2; omega))).trans hs.1.2.1, by rw [World.frozen?_setCell]; exact hs.1.2.2.1,
      (World.cell?_of_block (w := W) (Below.heap_setCell W _ _ w.heap.size (by show _ ≠ w.heap.size + 2; omega))).trans hs.1.2.2.2.1, by rw [World.frozen?_setCell]; exact hs.1.2.2.2.2⟩, hs.2.setCell (p := ⟨w.heap.size + 2, 0, none⟩) (by simp) _⟩)
    (fun c pre W v hs => ⟨⟨hs.1.1, hs.1.2.1, (World.cell?_of_block (w := W) (Below.heap_setCell W _ _ w.heap.size (by show _ ≠ w.heap.size + 2; omega))).trans hs.1.2.2⟩, hs.2.setCell (p := ⟨w.heap.size + 2, 0, none⟩) (by simp) _⟩)
    ⟨⟨⟨by simp, by simp⟩, c1.1, c1.2, c0.1, c0.2⟩, Below.refl _ _⟩
    (fun x => { tmps := #[.string (bs s), undef, .pointer (some ⟨w.heap.size, 0, none⟩), .pointer (some ⟨w.heap.size + 1, 0, none⟩), .string (bs x), .string (bs s), .func (.func 59) #[] #[.pointer (some ⟨w.heap.size + 3, 0, none⟩), .pointer (some ⟨w.heap.size + 2, 0, none⟩), .pointer (some ⟨w.heap.size + 4, 0, none⟩)], .string (bs x), undef, undef, undef, undef, undef, undef, undef, undef, undef], defers := [] }) ?assign ?body ?done ?stop
  case assign =>
    intro l x W K hK
    gi_wp2
    exact hK
  case body =>
    rintro l pre x W ⟨⟨hg, hn, hfn, hr, hfr⟩, hBW⟩
    have hgl := hg.1
    have Hg := hid hg
    clear hg c0 c1 c2 c3 c4 hB
    have hk1 : KeepsOthers W (W.setCell ⟨w.heap.size + 1, 0, none⟩ (.int .i64 (pre.length + 1))) := KeepsOthers.setCell _ _ _
    have hB1 : Below w.heap.size w5 (W.setCell ⟨w.heap.size + 1, 0, none⟩ (.int .i64 (pre.length + 1))) := hBW.setCell (p := ⟨w.heap.size + 1, 0, none⟩) (by simp) _
    have hc1 : (W.setCell ⟨w.heap.size + 1, 0, none⟩ (.int .i64 (pre.length + 1))).cell? ⟨w.heap.size + 1, 0, none⟩ = some (.int .i64 (pre.length + 1)) := World.cell?_setCell_same' _ _ _ (by rw [hn]; rfl)
    have hc0 : (W.setCell ⟨w.heap.size + 1, 0, none⟩ (.int .i64 (pre.length + 1))).cell? ⟨w.heap.size, 0, none⟩ = some (.bool false) := (World.cell?_of_block (w := W) (Below.heap_setCell W _ _ w.heap.size (by show _ ≠ w.heap.size + 1; omega))).trans hr
    have hf0 : (W.setCell ⟨w.heap.size + 1, 0, none⟩ (.int .i64 (pre.length + 1))).frozen? ⟨w.heap.size, 0, none⟩ = false := by rw [World.frozen?_setCell]; exact hfr
    have hf1 : (W.setCell ⟨w.heap.size + 1, 0, none⟩ (.int .i64 (pre.length + 1))).frozen? ⟨w.heap.size + 1, 0, none⟩ = false := by rw [World.frozen?_setCell]; exact hfn
    have hkb : KeepsBlk (w.heap.size + 2) (w.heap.size + 5) W (W.setCell ⟨w.heap.size + 1, 0, none⟩ (.int .i64 (pre.length + 1))) := KeepsBlk.setCell _ _ _ (.inl (by simp))
    have hz1 : w.heap.size + 5 ≤ W.heap.size → w.heap.size + 5 ≤ (W.setCell ⟨w.heap.size + 1, 0, none⟩ (.int .i64 (pre.length + 1))).heap.size := by simp [World.setCell]
    by_cases h16 : 16 ≤ pre.length
    · gi_wp2
      refine ⟨trivial, ?_⟩
      gi_wp2
      refine ⟨hk1.trans (KeepsOthers.setCell _ _ _), ⟨rfl, fun h => ?_, World.cell?_setCell_same' _ _ _ (by rw [hc0]; rfl)⟩, hB1.setCell (p := ⟨w.heap.size, 0, none⟩) (by simp) _⟩
      have := h.1
      simp at this
      omega
    · obtain ⟨b, hb⟩ : ∃ b, partB x = b := ⟨_, rfl⟩
      have Hb := hid hb; clear hb
      gi_wp2_with fail
      refine ⟨trivial, (CallsIn.inRound l (callsIn_wide.2 (part_is x b Hb.out _))).mono ?_⟩
      rintro e w2 ⟨rfl, hb2⟩
      have hko := hk1.trans (keepsOthers_of_below hb2)
      have hlt0 : w.heap.size + 5 ≤ W.heap.size := by have := hBW.size; omega
      have hlt1 : w.heap.size + 5 ≤ (W.setCell ⟨w.heap.size + 1, 0, none⟩ (.int .i64 (pre.length + 1))).heap.size := hz1 hlt0
      have hkb2 := hkb.trans (KeepsBlk.below hb2 (by omega))
      have hB2 := hB1.trans (hb2.mono (by omega))
      have d1 := (hb2.cell (p := ⟨w.heap.size + 1, 0, none⟩) (by simp; omega)).trans hc1
      have d0 := (hb2.cell (p := ⟨w.heap.size, 0, none⟩) (by simp; omega)).trans hc0
      have g0 := (hb2.frozen (p := ⟨w.heap.size, 0, none⟩) (by simp; omega)).trans hf0
      have g1 := (hb2.frozen (p := ⟨w.heap.size + 1, 0, none⟩) (by simp; omega)).trans hf1
      clear hb2 hc1 hc0 hf0 hf1 hz1 hn hfn hr hfr
      cases b with
      | true =>
        gi_wp2
        refine ⟨hko, hkb2, ⟨⟨?_, ?_⟩, ?_, g1, d0, g0⟩, hB2⟩
        · simp; omega
        · intro y hy
          rcases List.mem_append.1 hy with h | h
          · exact Hg.out.2 y h
          · rw [List.mem_singleton.1 h]; exact Hb.out
        · rw [d1, List.length_append]; simp
      | false =>
        gi_wp2
        refine ⟨hko.trans (KeepsOthers.setCell _ _ _), ⟨rfl, fun h => ?_, World.cell?_setCell_same' _ _ _ (by rw [d0]; rfl)⟩, hB2.setCell (p := ⟨w.heap.size, 0, none⟩) (by simp) _⟩
        have := h.2 x (by simp)
        rw [Hb.out] at this; cases this
  case done =>
    rintro D xs W hD rfl ⟨⟨hg, _, _, hr, hfr⟩, hBW⟩ hK
    gi_wp2
    have hK' := (KeepsOthers.setCell W ⟨w.heap.size, 0, none⟩ (.bool true)).same D _ hK rfl
    refine ⟨by simp, .inl ⟨_, _, rfl, run_takeDeferred hK', ?_⟩⟩
    have hc5 := cell_kept (World.cell?_setCell_same' W ⟨w.heap.size, 0, none⟩ (.bool true) (by rw [hr]; rfl)) (grownBy_putObj' _ D (.deferred none)) (fun r e => by cases e; exact ⟨_, hK', rfl⟩)
    refine ⟨.bool true, ?_, by rw [may_yes hg], hB.trans ((hBW.setCell (p := ⟨w.heap.size, 0, none⟩) (by simp) _).trans (belowK_b (w := w) (Nat.le_refl _) _ D _ _ (by omega) hK' rfl rfl))⟩
    simp [results, Tryd.f30, go_sem, hc5]
  case stop =>
    rintro D c pre W hD hpre ⟨⟨rfl, hbad, hr⟩, hBW⟩ hK
    gi_wp2
    refine ⟨by simp, .inl ⟨_, _, rfl, run_takeDeferred hK, ?_⟩⟩
    have hc5 := cell_kept hr (grownBy_putObj' _ D (.deferred none)) (fun r e => by cases e; exact ⟨_, hK, rfl⟩)
    refine ⟨.bool false, ?_, by rw [may_no hpre hbad], hB.trans (hBW.trans (belowK_b (w := w) (Nat.le_refl _) W D _ _ (by omega) hK rfl rfl))⟩
    simp [results, Tryd.f30, go_sem, hc5]
end Go.Proofs.YtilkneajohpgiaaDoor
