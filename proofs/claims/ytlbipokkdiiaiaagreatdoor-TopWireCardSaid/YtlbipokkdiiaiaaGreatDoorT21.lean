/- Lemmas for TopWire: W16, W17. -/
import Derived.Test.YtlbipokkdiiaiaaGreatDoorT20
import Derived.Lib.Overlaps
import Derived.Lib.AppendZerosOnto
import Derived.Test.YtlbipokkdiiaiaaGreatDoorT17
import Derived.Test.YtlbipokkdiiaiaaGreatDoorT19
import Derived.Great.BuildSlice
/- slices.Insert of one trace ahead of all others. -/
namespace Go.Proofs.YtlbipokkdiiaiaaGreatDoor
open Go.RowKit Go.Proofs.YtlbipokkdiiaiaaGreatDoor.Exec
set_option maxRecDepth 100000
/-- 'copy' of m traces into a row. -/
theorem copy_at (w : World) (g o : Nat) (L cs : List Value) (m dLen sLen : Nat) (a : Addr) (hg : w.heap[g]? = some (.cells L.toArray 44 (0, 0))) (hm : Nat.min sLen dLen = m) (hn : cs.length = m * 34)
    (hsrc : ∀ j v, cs[j]? = some v → w.cell? (a.add j) = some v) (hfit : o + m * 34 ≤ L.length) (h1 : ∀ v ∈ cs, v.oneCell' = true) :
    ∃ W, (∀ ty dc sc, (Builtin.copy_ #[32, 32] ty #[.slice (some ⟨g, o, none⟩) dLen dc, .slice (some a) sLen sc]).run Tryz.prog w = .ok (goInt m) W) ∧ W.heap[g]? = some (.cells (L.take o ++ cs ++ L.drop (o + m * 34)).toArray 44 (0, 0)) ∧ Turned g w W := by
  have hl := run_loadCells_list (P := Tryz.prog) w a cs hsrc
  have hst := run_storeCells_at (P := Tryz.prog) g o 44 cs 0 _ w hg (by rw [List.size_toArray, hn]; simpa using hfit) h1
  have hs : (Tryz.prog.info? 44).map (·.size) = some 34 := by kernel_rfl
  have hu : Tryz.prog.underlying 32 = some (.slice 44) := Tryz.underlying32
  refine ⟨w.setRow g (L.take o ++ cs ++ L.drop (o + m * 34)).toArray, fun ty dc sc => ?_, setRow_heap _ _ _ _ _ _ hg, ⟨(Array.getElem?_eq_some_iff.1 hg).1, rfl, rfl, rfl, by simp, fun k _ hne => setRow_other _ _ _ _ hne⟩⟩
  cases hq : Tryz.prog.info? 44 with
  | none => rw [hq] at hs; cases hs
  | some i =>
    have hi : i.size = 34 := by rw [hq] at hs; simpa using hs
    rw [hn] at hst
    simp only [Nat.add_zero] at hst
    rw [hn] at hl
    simp [Builtin.copy_, run_underlying hu, Builtin.lenOf, Builtin.firstCells, sizeOf, typeInfo, hq, hi, hm, hl, hst]
theorem at_add {w : World} {g o : Nat} {L cs A B : List Value} (hg : w.heap[g]? = some (.cells L.toArray 44 (0, 0))) (hL : L = A ++ cs ++ B) (hA : A.length = o) : ∀ j v, cs[j]? = some v → w.cell? ((⟨g, o, none⟩ : Addr).add j) = some v := by
  intro j v hj
  have hadd : (⟨g, o, none⟩ : Addr).add j = ⟨g, o + j, none⟩ := by unfold Addr.add; split <;> simp_all
  have hjl : j < cs.length := (List.getElem?_eq_some_iff.1 hj).1
  rw [hadd, cell_of_row _ _ _ _ _ _ hg, List.getElem?_toArray, hL, List.append_assoc, List.getElem?_append_right (by omega), hA, Nat.add_sub_cancel_left, List.getElem?_append_left hjl]
  exact hj
abbrev tcs (l : List TcM) : List Value := l.flatMap TcM.cells
def InsPost (l : List TcM) (x : TcM) (base : Nat) (v0 : Value) (w : World) (e : Ending) (w' : World) : Prop :=
  ∃ v', e = .returned v' ∧ w'.ownsRow base 44 34 v' (l.length + 1) (tcs (x :: l)) ∧ (∀ k, v'.ownBlock = some k → v0.ownBlock = some k ∨ w.heap.size ≤ k) ∧ Foot (fun b => v0.ownBlock = some b) w w'
set_option maxHeartbeats 2000000 in
/-- Into an empty row. -/
theorem insert_none (x : TcM) (b1 base : Nat) (v0 : Value) (w : World) (hown : w.ownsRow base 44 34 v0 0 []) (hcap : ∀ a n c, v0 = .slice (some a) n c → 1 ≤ c) (hne : v0.ownBlock ≠ some b1) (hx : w.heap[b1]? = some (.cells x.cells.toArray 44 (0, 0)))
    (h1 : ∀ u ∈ x.cells, u.oneCell' = true) (hbase : base ≤ w.heap.size) :
    Calls Tryz.prog 120 #[v0, .int .i64 0, .slice (some ⟨b1, 0, none⟩) 1 1] w (InsPost [] x base v0 w) := by
  obtain ⟨i0, z, hi, hz, hs, hby, hzs⟩ := infoOk_out (E := 44) (sz := 34) (by_ := 80) (by kernel_rfl)
  have hu : Tryz.prog.underlying 32 = some (.slice 44) := Tryz.underlying32
  have hsrc : ∀ j v, x.cells[j]? = some v → w.cell? ((⟨b1, 0, none⟩ : Addr).add j) = some v := at_add hx (A := []) (B := []) (by simp) rfl
  have hrun : ∃ v' w', (∀ ty, (Builtin.append_ #[32, 32] ty #[v0, .slice (some ⟨b1, 0, none⟩) 1 1]).run Tryz.prog w = .ok v' w') ∧ w'.ownsRow base 44 34 v' 1 (tcs [x]) ∧ (∀ k, v'.ownBlock = some k → v0.ownBlock = some k ∨ w.heap.size ≤ k) ∧ Foot (fun b => v0.ownBlock = some b) w w' := by
    obtain ⟨_, ⟨rfl, _⟩ | ⟨g, cap, cur, rfl, hgb, hg, hnc, hcm, hcs, ht⟩⟩ := hown
    · obtain ⟨v', w', hr0, ho, hgr, _⟩ := run_append_own (P := Tryz.prog) w w.heap.size 32 0 44 i0 z 34 80 hu hi hz hs hby hzs (by omega) (.slice none 0 0) 0 [] (World.ownsRow_nil _ _ _ _) ⟨b1, 0, none⟩ 1 1 x.cells (by rw [TcM.len]) hsrc h1 (by unfold maxLen; omega) (by omega) (Nat.le_refl _)
      refine ⟨v', w', fun ty => hr0, owns_base (by simpa using ho) hbase, fun k hk => .inr (ho.lt k hk).1, ⟨hgr.os, hgr.tape, hgr.output, hgr.size, fun k hk _ => hgr.block k hk (by simp [Value.ownBlock])⟩⟩
    · have hc1 := hcap _ _ _ rfl
      have hr := fun ty => run_append_room (P := Tryz.prog) w 32 ty 44 i0 hu hi g 0 cap cur hg ⟨b1, 0, none⟩ 1 1 x.cells (by rw [TcM.len, hs]) hsrc h1 (by omega) (by rw [TcM.len, hcs]; omega)
      refine ⟨_, _, hr, ?_, fun k hk => .inl hk, ⟨rfl, rfl, rfl, by simp, fun k hk hne => setRow_other _ _ _ _ (fun e => hne (by rw [e]; rfl))⟩⟩
      refine ⟨by simp [TcM.len], .inr ⟨g, cap, _, rfl, hgb, setRow_heap _ _ _ _ _ _ hg, hc1, hcm, ?_, ?_⟩⟩
      · have h34 : 34 ≤ cur.toList.length := by rw [Array.length_toList, hcs]; omega
        simp [TcM.len]
        rw [Array.length_toList] at h34
        omega
      · simp only [Nat.zero_mul, List.take_zero, List.nil_append, List.flatMap_cons, List.flatMap_nil, List.append_nil]
        exact List.take_left' (by rw [TcM.len])
  obtain ⟨v', w', hr, ho, hk, hf⟩ := hrun
  obtain ⟨a0, c0, rfl⟩ := owns_form hown
  obtain ⟨a1, c1, rfl⟩ := owns_form ho
  have HO := hid (And.intro ho (And.intro hk hf))
  clear ho hk hf hown hx h1 hsrc hne hcap
  go_enter Tryz.func120, Tryz.ntmps120
  go_wp2_with (at_builtin; refine Lib.wpList_append_run _ rfl _ _ _ _ rfl _ _ rfl rfl _ _ (hr _) ?_)
  go_ret
  exact ⟨_, rfl, HO.out⟩
set_option maxHeartbeats 2000000 in
/-- Into a row with room. -/
theorem insert_room (l : List TcM) (x : TcM) (g cap b1 base : Nat) (w : World) (h0 : l ≠ []) (hrow : TRow w g cap l) (hgb : base ≤ g) (hroom : l.length + 1 ≤ cap) (hne : b1 ≠ g) (hx : w.heap[b1]? = some (.cells x.cells.toArray 44 (0, 0)))
    (h1 : ∀ u ∈ tcs (x :: l), u.oneCell' = true) :
    Calls Tryz.prog 120 #[.slice (some ⟨g, 0, none⟩) l.length cap, .int .i64 0, .slice (some ⟨b1, 0, none⟩) 1 1] w (InsPost l x base (.slice (some ⟨g, 0, none⟩) l.length cap) w) := by
  obtain ⟨r, hg, hl, hc, hm⟩ := hrow
  have hb1w : b1 < w.heap.size := (Array.getElem?_eq_some_iff.1 hx).1
  have hgw : g < w.heap.size := (Array.getElem?_eq_some_iff.1 hg).1
  have hov : ∀ lb cb, (callFunc 170 #[.slice (some ⟨b1, 0, none⟩) 1 1, .slice (some ⟨g, 34, none⟩) lb cb]).run Tryz.prog w = .ok (.value (.bool false)) w := fun lb cb => by
    rw [run_callFunc_extern Tryz.func170 (by kernel_rfl) (by kernel_rfl) (by kernel_rfl) (e := Extern.SlicesOverlaps.overlaps #[32, 32] #[4]) (by kernel_rfl),
      Lib.run_overlaps_apart w 32 4 44 Tryz.underlying32 34 Tryz.sizeOf44 ⟨b1, 0, none⟩ ⟨g, 34, none⟩ 1 1 lb cb hne 44 44 34 (cap * 34)
        (by simp [World.shape?, hx, TcM.len]) (by simp only [World.shape?, hg, List.size_toArray, List.length_append, tcs_len, hl]) (by omega) (by simp [World.frozen?, hx]) (by simp [World.frozen?, hx])]
    rfl
  have hn0 : 0 < l.length := List.length_pos_iff.2 h0
  have h34 : (l.length + 1) * 34 ≤ cap * 34 := Nat.mul_le_mul_right _ hroom
  have hx1 : ∀ u ∈ x.cells, u.oneCell' = true := fun u hu => h1 u (by simp [tcs, hu])
  have hl1 : ∀ u ∈ tcs l, u.oneCell' = true := fun u hu => h1 u (by simp only [tcs, List.flatMap_cons, List.mem_append]; exact .inr hu)
  have hLl : (tcs l ++ r).length = cap * 34 := by rw [List.length_append, tcs_len, hl]
  have HC1 := hid (fun (W : World) (hW : Below w.heap.size w W) => copy_at W g 34 (tcs l ++ r) (tcs l) l.length l.length (l.length + 1) ⟨g, 0, none⟩ ((hW.block g hgw).trans hg) (by simp only [Nat.min_def]; split <;> omega) (tcs_len l)
    (at_add ((hW.block g hgw).trans hg) (A := []) (B := r) (by simp) rfl) (by rw [hLl]; omega) hl1)
  have hA1l : ((tcs l ++ r).take 34 ++ tcs l ++ (tcs l ++ r).drop (34 + l.length * 34)).length = cap * 34 := by
    rw [List.length_append, List.length_append, List.length_take, List.length_drop, hLl, tcs_len]; omega
  have HA := hid (show ((tcs l ++ r).take 34 ++ tcs l ++ (tcs l ++ r).drop (34 + l.length * 34)).drop (0 + 1 * 34) = tcs l ++ (tcs l ++ r).drop (34 + l.length * 34) by
    rw [List.append_assoc]; exact List.drop_left' (by rw [List.length_take, hLl]; omega))
  have hA2l : ((tcs l ++ r).drop (34 + l.length * 34)).length = cap * 34 - (34 + l.length * 34) := by rw [List.length_drop, hLl]
  generalize (tcs l ++ r).drop (34 + l.length * 34) = R at HC1 hA1l HA hA2l
  generalize hA1 : (tcs l ++ r).take 34 ++ tcs l ++ R = A1 at HC1 hA1l HA
  have HC2 := hid (fun (W W1 : World) (hW : Below w.heap.size w W) (hg1 : W1.heap[g]? = some (.cells A1.toArray 44 (0, 0))) (ht1 : Turned g W W1) => copy_at W1 g 0 A1 x.cells 1 (l.length + 1) 1 ⟨b1, 0, none⟩ hg1 (by simp only [Nat.min_def]; split <;> omega) (by rw [TcM.len])
    (at_add ((ht1.foot.block b1 (by have := hW.size; omega) hne).trans ((hW.block b1 hb1w).trans hx)) (A := []) (B := []) (by simp) rfl) (by rw [hA1l]; omega) hx1)
  clear hA1 hg hl1 h1 hx
  have hcl : ¬ (cap = 1) := by omega
  have hcl0 : ¬ (cap = 0) := by omega
  have hz2 : ¬ ((0 : Int) = (l.length : Int)) := by omega
  have hz3 : ¬ ((cap : Int) < (l.length : Int) + 1) := by omega
  have hw1 : IntKind.i64.wrap 1 = 1 := rfl
  have hb1 : (1 : Int) ≤ (l.length : Int) + 1 := by omega
  have hm2 : cap ≤ 9223372036854775807 := by unfold maxLen at hm; omega
  go_enter Tryz.func120, Tryz.ntmps120
  go_wp2_with fail
  refine wp_region_wl (fun W => True) 8 (by kernel_rfl) ?_
  intro Wd hbd
  have hS := trivial
  refine WL.tp 0 (some 69) (hi := rfl) (.inr hS) ?_
  apply Exists.intro
  refine ⟨fun W => ?_, ?_⟩
  · go_simp
    try rfl
  try simp only [Act.put, List.setIfInBounds_toArray, List.set_cons_zero, List.set_cons_succ]
  refine WL.tp 1 (some 70) (hi := rfl) (.inr hS) ?_
  apply Exists.intro
  refine ⟨fun W => ?_, ?_⟩
  · go_simp
    try rfl
  try simp only [Act.put, List.setIfInBounds_toArray, List.set_cons_zero, List.set_cons_succ]
  refine WL.tp 2 (some 71) (hi := rfl) (.inr hS) ?_
  apply Exists.intro
  refine ⟨fun W => ?_, ?_⟩
  · go_simp
    try rfl
  try simp only [Act.put, List.setIfInBounds_toArray, List.set_cons_zero, List.set_cons_succ]
  refine WL.tp 3 (some 72) (hi := rfl) (.inr hS) ?_
  apply Exists.intro
  refine ⟨fun W => ?_, ?_⟩
  · go_simp
    try rfl
  try simp only [Act.put, List.setIfInBounds_toArray, List.set_cons_zero, List.set_cons_succ]
  refine WL.tp 4 (some 73) (hi := rfl) (.inr hS) ?_
  apply Exists.intro
  refine ⟨fun W => ?_, ?_⟩
  · go_simp
    try rfl
  try simp only [Act.put, List.setIfInBounds_toArray, List.set_cons_zero, List.set_cons_succ]
  refine WL.tp 5 (some 74) (hi := rfl) (.inr hS) ?_
  apply Exists.intro
  refine ⟨fun W => ?_, ?_⟩
  · go_simp
    try rfl
  try simp only [Act.put, List.setIfInBounds_toArray, List.set_cons_zero, List.set_cons_succ]
  refine WL.tp 6 (some 75) (hi := rfl) (.inr hS) ?_
  apply Exists.intro
  refine ⟨fun W => ?_, ?_⟩
  · go_simp
    try rfl
  try simp only [Act.put, List.setIfInBounds_toArray, List.set_cons_zero, List.set_cons_succ]
  refine WL.tp 7 (some 76) (hi := rfl) (.inr hS) ?_
  apply Exists.intro
  refine ⟨fun W => ?_, ?_⟩
  · go_simp
    try rfl
  try simp only [Act.put, List.setIfInBounds_toArray, List.set_cons_zero, List.set_cons_succ]
  refine WL.o 8 (hi := rfl) ?_
  intro K hK
  obtain ⟨W1, hc1, hg1, ht1⟩ := HC1.out Wd hbd
  go_simp
  refine hK.out _ _ (.inl (by kernel_rfl)) ?_
  clear hK K
  try simp only [Act.put, List.setIfInBounds_toArray, List.set_cons_zero, List.set_cons_succ]
  refine WL.d ?_
  obtain ⟨W2, hc2, hg2, ht2⟩ := HC2.out Wd W1 hbd hg1 ht1
  go_wp2_with fail
  go_ret
  rw [HA.out] at hg2
  have hR : TRow W2 g cap (x :: l) := ⟨R, by simpa [tcs] using hg2, by rw [hA2l, List.length_cons]; omega, by simpa using hroom, hm⟩
  exact ⟨_, rfl, hR.owns hgb, fun k hk => .inl hk, ((Foot.of_below hbd).trans ht1.foot (fun b _ e => by rw [e]; rfl)).trans ht2.foot (fun b _ e => by rw [e]; rfl)⟩
set_option maxHeartbeats 2000000 in
/-- Into a row without room. -/
theorem insert_grow (l : List TcM) (x : TcM) (g cap b1 base : Nat) (w : World) (h0 : l ≠ []) (hrow : TRow w g cap l) (hbase : base ≤ w.heap.size) (hroom : cap < l.length + 1) (hlen : l.length ≤ 1000) (hx : w.heap[b1]? = some (.cells x.cells.toArray 44 (0, 0)))
    (h1 : ∀ u ∈ tcs (x :: l), u.oneCell' = true) :
    Calls Tryz.prog 120 #[.slice (some ⟨g, 0, none⟩) l.length cap, .int .i64 0, .slice (some ⟨b1, 0, none⟩) 1 1] w (InsPost l x base (.slice (some ⟨g, 0, none⟩) l.length cap) w) := by
  obtain ⟨r, hg, hl, hc, hm⟩ := hrow
  obtain rfl : cap = l.length := by omega
  obtain rfl : r = [] := List.eq_nil_of_length_eq_zero (by omega)
  rw [List.append_nil] at hg
  obtain ⟨i0, z, hi, hz, hs, hby, hzs⟩ := infoOk_out (E := 44) (sz := 34) (by_ := 80) (by kernel_rfl)
  have hb1w : b1 < w.heap.size := (Array.getElem?_eq_some_iff.1 hx).1
  have hgw : g < w.heap.size := (Array.getElem?_eq_some_iff.1 hg).1
  have hn0 : 0 < l.length := List.length_pos_iff.2 h0
  have hx1 : ∀ u ∈ x.cells, u.oneCell' = true := fun u hu => h1 u (by simp [tcs, hu])
  have hl1 : ∀ u ∈ tcs l, u.oneCell' = true := fun u hu => h1 u (by simp only [tcs, List.flatMap_cons, List.mem_append]; exact .inr hu)
  obtain ⟨G, hG⟩ : ∃ G, G = grownCap w (l.length + 1) l.length 44 := ⟨_, rfl⟩
  have hGn : l.length + 1 ≤ G := by rw [hG]; exact grownCap_ge w _ _ _
  have hG63 : G ≤ maxLen := by rw [hG]; exact grownCap_le_maxLen w _ _ _ (by unfold maxLen; omega)
  obtain ⟨Z, hZ⟩ : ∃ Z : List Value, Z = (Builtin.zeroCells z.cells (l.length + 1)).toList ++ (Builtin.zeroCells z.cells (G - (l.length + 1))).toList := ⟨_, rfl⟩
  have z1 : ∀ n, (Builtin.zeroCells z.cells n).toList.length = n * 34 := fun n => by rw [Array.length_toList, size_zeroCells, hzs]
  have hZl : Z.length = G * 34 := by
    rw [hZ, List.length_append, z1, z1, ← Nat.add_mul]
    congr 1
    omega
  have hn1 : ((l.length : Int) + 1 - 0) = ((l.length + 1 : Nat) : Int) := by omega
  have hrz : ∀ ty, (Builtin.append_ #[32, 3] ty #[.slice (some ⟨g, 0, none⟩) 0 l.length, .int .i64 ((l.length : Int) + 1)]).run Tryz.prog w = .ok (.slice (some ⟨w.heap.size, 0, none⟩) (l.length + 1) G) (w.drew.alloc (.cells Z.toArray 44)) := fun ty => by
    have h := Lib.run_append_grow_zeros (P := Tryz.prog) w 32 3 ty 44 i0 z .i64 .i64 Tryz.underlying32 Tryz.underlying3 hi hz (some ⟨g, 0, none⟩) 0 l.length [] (by rw [hs]; exact run_firstCells_some w.drew 34 0 ⟨g, 0, none⟩ 0 l.length [] rfl (by simp)) (l.length + 1) (by omega) (by omega) (by omega) (by omega) (by rw [hby]; omega) (by rw [hby]; exact growslice_fits (by omega) (by omega))
    rw [Nat.zero_add, ← hG] at h
    have hc : (l.length : Int) + 1 = ((l.length + 1 : Nat) : Int) := by omega
    have e : ∀ (p q : Array Value), (p.toList ++ q.toList).toArray = p ++ q := fun p q => by apply Array.ext'; simp
    rw [hc, h, hZ, e]
    simp
  obtain ⟨W1, hW1⟩ : ∃ W1, W1 = w.drew.alloc (.cells Z.toArray 44) := ⟨_, rfl⟩
  have hb1 : Below w.heap.size w W1 := by rw [hW1]; exact ((Below.refl w.heap.size w).drew).alloc (Nat.le_refl _) _
  have hn : W1.heap[w.heap.size]? = some (.cells Z.toArray 44 (0, 0)) := by rw [hW1]; exact Array.getElem?_push_size
  rw [← hW1] at hrz
  obtain ⟨W2, hc2, hg2, ht2⟩ := copy_at W1 w.heap.size 0 Z x.cells 1 (l.length + 1) 1 ⟨b1, 0, none⟩ hn (by simp only [Nat.min_def]; split <;> omega) (by rw [TcM.len]) (at_add ((hb1.block b1 hb1w).trans hx) (A := []) (B := []) (by simp) rfl) (by omega) hx1
  simp only [List.take_zero, List.nil_append, Nat.zero_add, Nat.one_mul] at hg2
  have hb2 : Below w.heap.size w W2 := hb1.trans (ht2.below (Nat.le_refl _))
  have hA1l : (x.cells ++ Z.drop 34).length = G * 34 := by rw [List.length_append, TcM.len, List.length_drop, hZl]; omega
  have HA := hid (show (x.cells ++ Z.drop 34).take 34 = x.cells from List.take_left' (TcM.len x))
  generalize x.cells ++ Z.drop 34 = A1 at hg2 hA1l HA
  have HC3 := hid (fun (W : World) (hW : Below W2.heap.size W2 W) => copy_at W w.heap.size 34 A1 (tcs l) l.length l.length l.length ⟨g, 0, none⟩ ((hW.block _ (lx (hid hg2))).trans hg2) (by simp) (tcs_len l)
    (at_add ((hW.block g (by have := hb2.size; omega)).trans ((hb2.block g hgw).trans hg)) (A := []) (B := []) (by simp) rfl) (by rw [hA1l]; omega) hl1)
  have HB2 := hid hb2
  have HG := hid (And.intro hGn hG63)
  clear hb2 hg hx hl1 h1 hn hb1 hW1 hZ hG hg2
  have hcl : ¬ (l.length = 0) := by omega
  have hz2 : ¬ ((0 : Int) = (l.length : Int)) := by omega
  have hz3 : (l.length : Int) < (l.length : Int) + 1 := by omega
  have hw1 : IntKind.i64.wrap 1 = 1 := rfl
  have hb1 : (1 : Int) ≤ (l.length : Int) + 1 := by omega
  have hG1 : ¬ (G = 1) := by omega
  have hG0 : ¬ (G = 0) := by omega
  go_enter Tryz.func120, Tryz.ntmps120
  go_wp2_with (at_builtin; refine Lib.wpList_append_run _ rfl _ _ _ _ rfl _ _ rfl rfl _ _ (hrz _) ?_)
  refine wp_region_wl (fun W => True) 8 (by kernel_rfl) ?_
  intro Wd hbd
  have hS := trivial
  refine WL.tp 0 (some 46) (hi := rfl) (.inr hS) ?_
  apply Exists.intro
  refine ⟨fun W => ?_, ?_⟩
  · go_simp
    try rfl
  try simp only [Act.put, List.setIfInBounds_toArray, List.set_cons_zero, List.set_cons_succ]
  refine WL.tp 1 (some 47) (hi := rfl) (.inr hS) ?_
  apply Exists.intro
  refine ⟨fun W => ?_, ?_⟩
  · go_simp
    try rfl
  try simp only [Act.put, List.setIfInBounds_toArray, List.set_cons_zero, List.set_cons_succ]
  refine WL.tp 2 (some 48) (hi := rfl) (.inr hS) ?_
  apply Exists.intro
  refine ⟨fun W => ?_, ?_⟩
  · go_simp
    try rfl
  try simp only [Act.put, List.setIfInBounds_toArray, List.set_cons_zero, List.set_cons_succ]
  refine WL.tp 3 (some 49) (hi := rfl) (.inr hS) ?_
  apply Exists.intro
  refine ⟨fun W => ?_, ?_⟩
  · go_simp
    try rfl
  try simp only [Act.put, List.setIfInBounds_toArray, List.set_cons_zero, List.set_cons_succ]
  refine WL.tp 4 (some 50) (hi := rfl) (.inr hS) ?_
  apply Exists.intro
  refine ⟨fun W => ?_, ?_⟩
  · go_simp
    try rfl
  try simp only [Act.put, List.setIfInBounds_toArray, List.set_cons_zero, List.set_cons_succ]
  refine WL.tp 5 (some 51) (hi := rfl) (.inr hS) ?_
  apply Exists.intro
  refine ⟨fun W => ?_, ?_⟩
  · go_simp
    try rfl
  try simp only [Act.put, List.setIfInBounds_toArray, List.set_cons_zero, List.set_cons_succ]
  refine WL.tp 6 (some 52) (hi := rfl) (.inr hS) ?_
  apply Exists.intro
  refine ⟨fun W => ?_, ?_⟩
  · go_simp
    try rfl
  try simp only [Act.put, List.setIfInBounds_toArray, List.set_cons_zero, List.set_cons_succ]
  refine WL.tp 7 (some 53) (hi := rfl) (.inr hS) ?_
  apply Exists.intro
  refine ⟨fun W => ?_, ?_⟩
  · go_simp
    try rfl
  try simp only [Act.put, List.setIfInBounds_toArray, List.set_cons_zero, List.set_cons_succ]
  refine WL.o 8 (hi := rfl) ?_
  intro K hK
  obtain ⟨W3, hc3, hg3, ht3⟩ := HC3.out Wd hbd
  go_simp
  refine hK.out _ _ (.inl (by kernel_rfl)) ?_
  clear hK K
  try simp only [Act.put, List.setIfInBounds_toArray, List.set_cons_zero, List.set_cons_succ]
  refine WL.d ?_
  go_wp2_with fail
  go_ret
  rw [HA.out] at hg3
  have hR : TRow W3 w.heap.size G (x :: l) := ⟨A1.drop (34 + l.length * 34), by simpa [tcs] using hg3, by rw [List.length_drop, hA1l, List.length_cons]; omega, by simpa using HG.out.1, HG.out.2⟩
  have hb3 : Below w.heap.size w W3 := (HB2.out.trans (hbd.mono HB2.out.size)).trans (ht3.below (Nat.le_refl _))
  exact ⟨_, rfl, hR.owns hbase, fun k hk => .inr (Nat.le_of_eq (Option.some.inj (show some w.heap.size = some k from hk))), Foot.of_below hb3⟩
theorem insert_any (l : List TcM) (x : TcM) (b1 base : Nat) (v0 : Value) (w : World) (hown : w.ownsRow base 44 34 v0 l.length (tcs l)) (hcap : ∀ a n c, v0 = .slice (some a) n c → 1 ≤ c) (hne : v0.ownBlock ≠ some b1) (hx : w.heap[b1]? = some (.cells x.cells.toArray 44 (0, 0)))
    (h1 : ∀ u ∈ tcs (x :: l), u.oneCell' = true) (hlen : l.length ≤ 1000) (hbase : base ≤ w.heap.size) :
    Calls Tryz.prog 120 #[v0, .int .i64 0, .slice (some ⟨b1, 0, none⟩) 1 1] w (InsPost l x base v0 w) := by
  by_cases h0 : l = []
  · subst h0
    exact insert_none x b1 base v0 w hown hcap hne hx (fun u hu => h1 u (by simp [tcs, hu])) hbase
  · obtain ⟨a0, c0, rfl⟩ := owns_form hown
    cases a0 with
    | none =>
      obtain ⟨_, ⟨_, h⟩ | ⟨g, cap, cur, h, _⟩⟩ := hown
      · exact absurd (List.eq_nil_of_length_eq_zero h) h0
      · cases h
    | some ad =>
      obtain ⟨g, off, sp⟩ := ad
      obtain rfl : sp = none := by
        obtain ⟨_, ⟨h, _⟩ | ⟨g', cap, cur, h, _⟩⟩ := hown
        · cases h
        · simp only [Value.slice.injEq, Option.some.injEq, Addr.mk.injEq] at h
          exact h.1.2.2
      obtain ⟨rfl, -, hgb, hrow⟩ := TRow.of_owns hown
      rcases Nat.lt_or_ge c0 (l.length + 1) with hc | hc
      · exact insert_grow l x g c0 b1 base w h0 hrow hbase hc hlen hx h1
      · exact insert_room l x g c0 b1 base w h0 hrow hgb hc (fun e => hne (by rw [e]; rfl)) hx h1
end Go.Proofs.YtlbipokkdiiaiaaGreatDoor
/- The database of traces in memory. -/
namespace Go.Proofs.YtlbipokkdiiaiaaGreatDoor
open Go.RowKit Go.Proofs.YtlbipokkdiiaiaaGreatDoor.Exec
set_option maxRecDepth 100000
section
variable {ops : Array Oper} {rest : List Oper} {o : Oper} {a : Act} {w : World} {Q : Exit → Act → World → Prop}
theorem r_bs {t e sz by_ : Nat} {xs : Array Value} (h0 : 0 < sz) (h1 : sz ≤ 1000) (hxs : xs.size = sz) (hu : Tryz.prog.underlying t = some (.slice e)) (hinfo : infoOk e sz by_ = true) (w : World) :
    (Instr.buildSlice t 1 #[(0, .agg xs)]).run Tryz.prog w = .ok (.slice (some ⟨w.heap.size, 0, none⟩) 1 1) (w.alloc (.cells xs e)) := by
  obtain ⟨i, z, hi, hz, hs, -, hzs⟩ := infoOk_out hinfo
  refine run_buildSlice w t e 1 _ xs i z hu hi hz (by rw [hs]; omega) (by rw [hs]; omega) ?_
  have := Great.fill_whole (s := sz) h0 [.agg xs] ((Array.range (1 * sz)).map (z.cells[· % z.cells.size]!)) (by simpa [Value.cells] using hxs) (by simp)
  rw [hs]
  simpa [Value.cells] using this
/-- A slice of one struct. -/
theorem wl_bs {t e sz by_ : Nat} {xs : Array Value} {p : Operand} (h0 : 0 < sz) (h1 : sz ≤ 1000) (hxs : xs.size = sz) (hu : Tryz.prog.underlying t = some (.slice e)) (hinfo : infoOk e sz by_ = true)
    (h : ∀ W1, Below w.heap.size w W1 → W1.heap[w.heap.size]? = some (.cells xs e (0, 0)) → W1.heap.size = w.heap.size + 1 → wpList Tryz.prog ops Q rest (a.put o.dst (.slice (some ⟨w.heap.size, 0, none⟩) 1 1)) W1)
    (ho : o.op = .buildSlice t 1 #[(0, p)] := by rfl) (hx : a.eval p = .agg xs := by rfl) (hw : Region.wanted o (yielded ops a.tmps) = true := by rfl) :
    wpList Tryz.prog ops Q (o :: rest) a w := by
  refine wl_run (v := .slice (some ⟨w.heap.size, 0, none⟩) 1 1) (w' := w.alloc (.cells xs e)) ?_ (h _ (below_new w _) (heap_alloc_new w _) (by rw [World.size_alloc])) hw
  have hr := r_bs (t := t) (e := e) (sz := sz) (by_ := by_) h0 h1 hxs hu hinfo w
  unfold execOp
  simp only [ho, List.map_toArray, List.map_cons, List.map_nil, hx, Sem.run_bind, hr, Result.andThen_ok, Sem.run_pure]
end
/-- In a region whose loads come early: a whole row. -/
theorem WL.ld {ops : Array Oper} {Q : Exit → Act → World → Prop} {S : World → Prop} {k fuel : Nat} {listed : Array Bool} {a : Act} {w : World} (i : Nat) (dst : Option Tmp) {ty n : Nat} (rt : RowTy ty n) {b off : Nat} {cs : List Value} {x : Operand} {oi : Oper}
    (hr : ∀ W, S W → W.rangeAt b off cs) (hl : cs.length = n) (hi : ops[i]? = some oi) (hS : S w) (h : WL Tryz.prog ops Q S k fuel (listed.setIfInBounds i true) (a.put dst (.agg cs.toArray)) w)
    (ho : oi.op = .load ty x := by rfl) (hx : a.eval x = .pointer (some ⟨b, off, none⟩) := by rfl) (hd : oi.dst = dst := by rfl)
    (hs : Region.noSelect ops = true := by kernel_rfl) (hf : Region.free .any ops listed i = true := by kernel_rfl) (hrd : (Region.ready .any ops listed).contains i = true := by kernel_rfl)
    (hQ : ∀ c a w, Q (.panic c) (a.put oi.dst (.agg cs.toArray)) w → Q (.panic c) a w := by exact fun _ _ _ h => h) (hwt : Region.wanted oi (yielded ops a.tmps) = true := by kernel_rfl) (hw : waits ops k i = true := by kernel_rfl) (hkl : listed.getD k false = false := by kernel_rfl) (hki : k ≠ i := by decide) : WL Tryz.prog ops Q S k (fuel + 1) listed a w :=
  WL.tk i dst _ hS h (fun W hW => r_ld rt (hr W hW) hl ho hx) hi hd hs hf hrd hQ hwt hw hkl hki
/-- What a trace's slices lie in. -/
def InT (I : Nat → Prop) (x : TcM) : Prop := (∀ k, x.rv.ownBlock = some k → I k) ∧ ∀ k, x.ov.ownBlock = some k → I k
theorem rows_keep {α : Type} {w w' : World} {sz : Nat} {f : α → List Value} {v : Value} {l : List α} (h : RowsOf w sz f v l) (hs : w.heap.size ≤ w'.heap.size) (hk : ∀ k, v.ownBlock = some k → k < w.heap.size → w'.heap[k]? = w.heap[k]?) : RowsOf w' sz f v l := by
  obtain ⟨hl, a, c, rfl, hc, hm, hn, hx⟩ := h
  refine ⟨hl, a, c, rfl, hc, hm, hn, fun hne => ?_⟩
  obtain ⟨b, off, rfl, hlt, hcl⟩ := hx hne
  exact ⟨b, off, rfl, Nat.lt_of_lt_of_le hlt hs, fun j u hu => (World.cell?_of_block (hk b rfl hlt)).trans (hcl j u hu)⟩
theorem HeldT.stay {w w' : World} {x : TcM} (h : HeldT w x) (hs : w.heap.size ≤ w'.heap.size) (hk : ∀ k, (x.rv.ownBlock = some k ∨ x.ov.ownBlock = some k) → k < w.heap.size → w'.heap[k]? = w.heap[k]?) : HeldT w' x :=
  ⟨rows_keep h.1 hs fun k e => hk k (.inl e), rows_keep h.2 hs fun k e => hk k (.inr e)⟩
theorem rows_keepE {α : Type} {w w' : World} {sz : Nat} {f : α → List Value} {v : Value} {l : List α} (h : RowsOf w sz f v l) (hs : w.heap.size ≤ w'.heap.size) (hk : ∀ k, l ≠ [] ∧ v.ownBlock = some k → k < w.heap.size → w'.heap[k]? = w.heap[k]?) : RowsOf w' sz f v l := by
  obtain ⟨hl, a, c, rfl, hc, hm, hn, hx⟩ := h
  refine ⟨hl, a, c, rfl, hc, hm, hn, fun hne => ?_⟩
  obtain ⟨b, off, rfl, hlt, hcl⟩ := hx hne
  exact ⟨b, off, rfl, Nat.lt_of_lt_of_le hlt hs, fun j u hu => (World.cell?_of_block (hk b ⟨(by rintro rfl; exact hne rfl), rfl⟩ hlt)).trans (hcl j u hu)⟩
theorem HeldT.stayE {w w' : World} {x : TcM} (h : HeldT w x) (hs : w.heap.size ≤ w'.heap.size) (hk : ∀ k, ((x.t.reads ≠ [] ∧ x.rv.ownBlock = some k) ∨ (x.t.outs ≠ [] ∧ x.ov.ownBlock = some k)) → k < w.heap.size → w'.heap[k]? = w.heap[k]?) : HeldT w' x :=
  ⟨rows_keepE h.1 hs fun k e => hk k (.inl e), rows_keepE h.2 hs fun k e => hk k (.inr e)⟩
/-- What a trace holds, where it holds something. -/
def InE (I : Nat → Prop) (x : TcM) : Prop := ∀ k, ((x.t.reads ≠ [] ∧ x.rv.ownBlock = some k) ∨ (x.t.outs ≠ [] ∧ x.ov.ownBlock = some k)) → I k
def nilS : Value := .slice none 0 0
/-- The database: D, the blocks that may be turned; I, those of its traces' slices. -/
structure DbIs (B : Nat) (D I : Nat → Prop) (w : World) (dp mb : Nat) (M : Dg → Option Value) (L : Dg → List TcM) : Prop where
  db : w.heap[dp]? = some (.cells #[.int .i64 8, .map (some mb)] 172 (0, 0))
  mp : ∃ o, w.heap[mb]? = some o ∧ MapIs dgv M o
  row : ∀ d, w.ownsRow B 44 34 ((M d).getD nilS) (L d).length (tcs (L d))
  few : ∀ d, (L d).length ≤ 8
  cap : ∀ d a n c, (M d).getD nilS = .slice (some a) n c → 1 ≤ c
  held : ∀ d, ∀ x ∈ L d, HeldT w x ∧ InT I x ∧ checkT x.t = 0 ∧ x.t.key = d
  dd : D dp
  dm : D mb
  dne : dp ≠ mb
  drow : ∀ d k, ((M d).getD nilS).ownBlock = some k → D k ∧ k ≠ mb ∧ k ≠ dp
  apart : ∀ d e k, ((M d).getD nilS).ownBlock = some k → ((M e).getD nilS).ownBlock = some k → d = e
  di : ∀ k, D k → ¬ I k
  db_ : ∀ k, D k → B ≤ k ∧ k < w.heap.size
  ib : ∀ k, I k → k < w.heap.size
theorem DbIs.keep {B : Nat} {D I F : Nat → Prop} {w w' : World} {dp mb : Nat} {M : Dg → Option Value} {L : Dg → List TcM} (h : DbIs B D I w dp mb M L) (hf : Foot F w w') (hF : ∀ k, D k ∨ I k → ¬ F k) : DbIs B D I w' dp mb M L where
  db := (hf.block dp (h.db_ dp h.dd).2 (hF dp (.inl h.dd))).trans h.db
  mp := by
    obtain ⟨o, ho, hm⟩ := h.mp
    exact ⟨o, (hf.block mb (h.db_ mb h.dm).2 (hF mb (.inl h.dm))).trans ho, hm⟩
  row := fun d => owns_keep (h.row d) fun k hk => hf.block k (h.db_ k (h.drow d k hk).1).2 (hF k (.inl (h.drow d k hk).1))
  few := h.few
  cap := h.cap
  held := fun d x hx => by
    obtain ⟨h1, h2, h3⟩ := h.held d x hx
    refine ⟨h1.stay hf.size fun k hk _ => ?_, h2, h3⟩
    have hI : I k := by rcases hk with hk | hk; exact h2.1 k hk; exact h2.2 k hk
    exact hf.block k (h.ib k hI) (hF k (.inr hI))
  dd := h.dd
  dm := h.dm
  dne := h.dne
  drow := h.drow
  apart := h.apart
  di := h.di
  db_ := fun k hk => ⟨(h.db_ k hk).1, Nat.lt_of_lt_of_le (h.db_ k hk).2 hf.size⟩
  ib := fun k hk => Nat.lt_of_lt_of_le (h.ib k hk) hf.size
theorem DbIs.below {B : Nat} {D I : Nat → Prop} {w w' : World} {dp mb : Nat} {M : Dg → Option Value} {L : Dg → List TcM} (h : DbIs B D I w dp mb M L) (hb : Below w.heap.size w w') : DbIs B D I w' dp mb M L :=
  h.keep (Foot.of_below (D := fun _ => False) hb) fun _ _ e => e
end Go.Proofs.YtlbipokkdiiaiaaGreatDoor
