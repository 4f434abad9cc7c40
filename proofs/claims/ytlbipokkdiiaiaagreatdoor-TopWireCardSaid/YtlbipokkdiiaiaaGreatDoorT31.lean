/- Lemmas for TopWire: W18, W19. -/
import Derived.Test.YtlbipokkdiiaiaaGreatDoorT21
/- db.Add: a trace that may be is kept, the latest first. -/
namespace Go.Proofs.YtlbipokkdiiaiaaGreatDoor
open Go.RowKit Go.Proofs.YtlbipokkdiiaiaaGreatDoor.Exec
set_option maxRecDepth 100000
def addT (l : List TcM) (y : TcM) : List TcM := (y :: filterT y.t l).take 8
theorem owns_take {w : World} {base m n : Nat} {a : Option Addr} {c : Nat} {l : List TcM} (h : w.ownsRow base 44 34 (.slice a n c) n (tcs l)) (hm : m ≤ n) (hn : n = l.length) : w.ownsRow base 44 34 (.slice a m c) m (tcs (l.take m)) := by
  subst hn
  have hl : (tcs (l.take m)).length = m * 34 := by rw [tcs, tcs_len, List.length_take, Nat.min_eq_left hm]
  obtain ⟨h1, ⟨h2, h3⟩ | ⟨g, cap, cur, h2, hb, hg, hc, hcm, hs, ht⟩⟩ := h
  · simp only [Value.slice.injEq] at h2
    obtain ⟨rfl, -, rfl⟩ := h2
    obtain rfl : m = 0 := by omega
    exact ⟨by simp, .inl ⟨rfl, rfl⟩⟩
  · simp only [Value.slice.injEq] at h2
    obtain ⟨rfl, -, rfl⟩ := h2
    refine ⟨hl, .inr ⟨g, c, cur, rfl, hb, hg, by omega, hcm, hs, ?_⟩⟩
    have hmn : m * 34 ≤ l.length * 34 := Nat.mul_le_mul_right _ hm
    have e : tcs l = tcs (l.take m) ++ tcs (l.drop m) := by rw [tcs, tcs, tcs, ← List.flatMap_append, List.take_append_drop]
    have := congrArg (List.take (m * 34)) ht
    rw [List.take_take, Nat.min_eq_left hmn, e, ← hl, List.take_left' rfl] at this
    rw [← hl]; exact this
theorem owns_cap {w : World} {base e sz n : Nat} {a : Option Addr} {c : Nat} {xs : List Value} (h : w.ownsRow base e sz (.slice a n c) n xs) (h0 : 0 < n) : n ≤ c ∧ c ≤ 9223372036854775807 := by
  obtain ⟨_, ⟨_, h⟩ | ⟨g, cap, cur, h2, hb, hg, hc, hcm, _⟩⟩ := h
  · omega
  · simp only [Value.slice.injEq] at h2
    unfold maxLen at hcm
    omega
set_option maxHeartbeats 4000000 in
theorem dbAdd_any {B : Nat} {D I : Nat → Prop} {w : World} {dp mb : Nat} {M : Dg → Option Value} {L : Dg → List TcM} (hdb : DbIs B D I w dp mb M L) (x : TcM) (hx : HeldT w x) (hxd : InE (fun k => ¬ D k) x) (hs : SmallT x.t) (hc : checkT x.t = 0) (hB : B ≤ w.heap.size) :
    Calls Tryz.prog 76 #[.pointer (some ⟨dp, 0, none⟩), x.val] w fun e w' => e = .returned (.int .i64 0) ∧ Foot D w w' ∧ ∃ (D' I' : Nat → Prop) (M' : Dg → Option Value) (y : TcM), y.t = x.t ∧ DbIs B D' I' w' dp mb M' (fun d => if d = x.t.key then addT (L d) y else L d) ∧ (∀ k, D' k → D k ∨ w.heap.size ≤ k) ∧ (∀ k, I' k → I k ∨ w.heap.size ≤ k) := by
  obtain ⟨o, hmo, hMo⟩ := hdb.mp
  obtain ⟨s0, hs0⟩ : ∃ s0, s0 = (M x.t.key).getD nilS := ⟨_, rfl⟩
  have hrow0 := hdb.row x.t.key
  rw [← hs0] at hrow0
  have hz : ∀ W, (zeroValue 32).run Tryz.prog W = .ok nilS W := fun W => rfl
  have ht170 : Tryz.prog.underlying 170 = some (.map 31 32) := by kernel_rfl
  have HLK := hid (fun (W : World) (h : W.heap[mb]? = some o) => show (Instr.lookup 170 (.map (some mb)) (.agg (dgc x.t.key).toArray) false).run Tryz.prog W = .ok s0 W by
    have := hMo.look keyDg h ht170 (hz W) x.t.key false
    simp only [Bool.false_eq_true, if_false, ← hs0] at this
    exact this)
  have hdpw := (hdb.db_ dp hdb.dd).2
  have hmbw := (hdb.db_ mb hdb.dm).2
  have hsd : ∀ k, s0.ownBlock = some k → D k ∧ k ≠ mb ∧ k ≠ dp := fun k hk => hdb.drow x.t.key k (hs0 ▸ hk)
  have hsw : ∀ k, s0.ownBlock = some k → k < w.heap.size := fun k hk => (hdb.db_ k (hsd k hk).1).2
  have HDB := hid hdb
  have HX := hid hx
  have hheld : ∀ W, Foot (fun b => s0.ownBlock = some b) w W → (∀ x' ∈ L x.t.key, HeldT W x') ∧ HeldT W x := fun W hf => by
    refine ⟨fun x' hx' => ?_, hx.stayE hf.size fun k hk hkw => hf.block k hkw fun e => hxd k hk (hsd k e).1⟩
    obtain ⟨h1, h2, _⟩ := hdb.held _ x' hx'
    refine h1.stay hf.size fun k hk _ => ?_
    have hI : I k := by rcases hk with hk | hk; exact h2.1 k hk; exact h2.2 k hk
    exact hf.block k (hdb.ib k hI) fun e => hdb.di k (hsd k e).1 hI
  have HH := hid hheld
  have HBX := hid (fun (W : World) (hb : Below w.heap.size w W) => And.intro ((hb.block dp hdpw).trans hdb.db) ((hb.block mb hmbw).trans hmo))
  have HROW := hid hrow0
  have HSD := hid hsd
  have HFEW := hid (hdb.few x.t.key)
  have hdn := hdb.dne
  have HS0 := hid hs0
  have HMO := hid hMo
  clear hrow0 hmo hMo hsd hheld hdb hx hz hs0
  unfold TcM.val
  go_enter Tryz.func76, Tryz.ntmps76
  go_wp2_with first | (refine wl_box rt44 ?_; intro W0 hb0 hn0 hs0') | (refine wl_ld rt44 (range_of_heap hn0) (TcM.len _) ?_) | (go_at_call 15; refine (checkT_any x W0 (HX.out.keep hb0) hs).mono ?_; rw [hc]; rintro e W1 ⟨rfl, hb1⟩)
  have HB1 := hid (Below.chain hb0 hb1)
  have HN1 := hid ((hb1.block _ (by omega)).trans hn0)
  have hsz1 := hb1.size
  have HKeepB := hid (fun (W : World) (hb : Below W1.heap.size W1 W) => And.intro ((hb.block w.heap.size (by omega)).trans HN1.out) (HBX.out W (Below.chain HB1.out hb)))
  have HDel := hid (fun (W : World) (hb : Below W1.heap.size W1 W) (hS : W.heap[w.heap.size]? = some (.cells x.cells.toArray 44 (0, 0)) ∧ W.heap[dp]? = some (.cells #[.int .i64 8, .map (some mb)] 172 (0, 0)) ∧ W.heap[mb]? = some o) =>
    delete_any (L x.t.key) x w.heap.size B s0 W hS.1 (owns_keep HROW.out fun k hk => (Below.chain HB1.out hb).block k (hsw k hk)) (by have := HFEW.out; omega) (fun e => by have := hsw _ e; omega)
      (fun W' hf => HH.out W' (Foot.trans (Foot.of_below (Below.chain HB1.out hb)) hf fun _ _ e => e)))
  have HKeep := hid (fun (W W' : World) (hS : W.heap[w.heap.size]? = some (.cells x.cells.toArray 44 (0, 0)) ∧ W.heap[dp]? = some (.cells #[.int .i64 8, .map (some mb)] 172 (0, 0)) ∧ W.heap[mb]? = some o) (hf : Foot (fun b => s0.ownBlock = some b) W W') =>
    And.intro ((hf.block w.heap.size (lx (hid hS.1)) (fun e => by have := hsw _ e; omega)).trans hS.1) (And.intro ((hf.block dp (lx (hid hS.2.1)) (fun e => (HSD.out dp e).2.2 rfl)).trans hS.2.1) ((hf.block mb (lx (hid hS.2.2)) (fun e => (HSD.out mb e).2.1 rfl)).trans hS.2.2)))
  refine wp_region_wl (fun W => W.heap[w.heap.size]? = some (.cells x.cells.toArray 44 (0, 0)) ∧ W.heap[dp]? = some (.cells #[.int .i64 8, .map (some mb)] 172 (0, 0)) ∧ W.heap[mb]? = some o) 9 (by kernel_rfl) ?_
  intro Wd hbd
  have hS := HKeepB.out _ hbd
  refine WL.tp 0 (some 14) (hi := rfl) (.inr hS) ?_
  apply Exists.intro
  refine ⟨fun W => ?_, ?_⟩
  · go_simp
    try rfl
  try simp only [Act.put, List.setIfInBounds_toArray, List.set_cons_zero, List.set_cons_succ]
  refine WL.tp 1 (some 15) (hi := rfl) (.inr hS) ?_
  apply Exists.intro
  refine ⟨fun W => ?_, ?_⟩
  · go_simp
    try rfl
  try simp only [Act.put, List.setIfInBounds_toArray, List.set_cons_zero, List.set_cons_succ]
  refine WL.tp 2 (some 16) (hi := rfl) (.inr hS) ?_
  apply Exists.intro
  refine ⟨fun W => ?_, ?_⟩
  · go_simp
    try rfl
  try simp only [Act.put, List.setIfInBounds_toArray, List.set_cons_zero, List.set_cons_succ]
  refine WL.te 3 (some 17) (hi := rfl) hS ?_
  apply Exists.intro
  refine ⟨fun W hW => ?_, ?_⟩
  · obtain ⟨e0, e1, e2⟩ := hW; have e3 := cell_of_row _ _ 0 _ _ _ e1; have e4 := cell_of_row _ _ 1 _ _ _ e1; have e5 := HLK.out _ e2; clear e0 e1 e2
    go_simp
    try rfl
  try simp only [Act.put, List.setIfInBounds_toArray, List.set_cons_zero, List.set_cons_succ]
  refine WL.tp 4 (some 18) (hi := rfl) (.inr hS) ?_
  apply Exists.intro
  refine ⟨fun W => ?_, ?_⟩
  · go_simp
    try rfl
  try simp only [Act.put, List.setIfInBounds_toArray, List.set_cons_zero, List.set_cons_succ]
  refine WL.ld 5 (some 19) rt31 (fun W hW => (TcM.parts0 hW.1).1) (dgc_len _) (hi := rfl) hS ?_
  try simp only [Act.put, List.setIfInBounds_toArray, List.set_cons_zero, List.set_cons_succ]
  refine WL.te 6 (some 20) (hi := rfl) hS ?_
  apply Exists.intro
  refine ⟨fun W hW => ?_, ?_⟩
  · obtain ⟨e0, e1, e2⟩ := hW; have e3 := cell_of_row _ _ 0 _ _ _ e1; have e4 := cell_of_row _ _ 1 _ _ _ e1; have e5 := HLK.out _ e2; clear e0 e1 e2
    go_simp
    try rfl
  try simp only [Act.put, List.setIfInBounds_toArray, List.set_cons_zero, List.set_cons_succ]
  refine WL.tp 7 (some 21) (hi := rfl) (.inr hS) ?_
  apply Exists.intro
  refine ⟨fun W => ?_, ?_⟩
  · go_simp
    try rfl
  try simp only [Act.put, List.setIfInBounds_toArray, List.set_cons_zero, List.set_cons_succ]
  refine WL.o 8 (hi := rfl) ?_
  intro K hK
  go_simp
  refine (HDel.out Wd hbd hS).mono ?_
  rintro e W2 ⟨v1, rfl, hv1, ho1, hf1⟩
  have hS2 := HKeep.out Wd W2 hS hf1
  refine hK.out _ _ (.inr hS2) ?_
  clear hK K
  try simp only [Act.put, List.setIfInBounds_toArray, List.set_cons_zero, List.set_cons_succ]
  refine WL.o 9 (hi := rfl) ?_
  intro K hK
  go_simp
  refine hK.out _ _ (.inl (by kernel_rfl)) ?_
  clear hK K
  try simp only [Act.put, List.setIfInBounds_toArray, List.set_cons_zero, List.set_cons_succ]
  refine WL.d ?_
  have HF2 := hid (Foot.trans (Foot.of_below (D := fun b => s0.ownBlock = some b) (Below.chain HB1.out hbd)) hf1 fun _ _ e => e)
  have HX2 := hid (HH.out W2 HF2.out)
  have HS2 := hid hS2
  have HO1 := hid ho1
  have HV1 := hid hv1
  have hg := goodT hc
  have hz2 := HF2.out.size
  have HG := hid (And.intro hg.nr hg.no)
  clear hg hS hS2 ho1 hf1 hv1 HDel HKeep HKeepB
  go_wp2_with first | (refine wl_ld rt44 (range_of_heap HS2.out.1) (TcM.len _) ?_) | (go_at_call 115; refine (cloneD_any x W2 HX2.out.2 (by have := HG.out.1; omega) (by have := HG.out.2; omega)).mono ?_; rintro e W3 ⟨y, hyt, rfl, hyr, hyo, hb3⟩; have HY3 := hid (show HeldT W3 y from ⟨rows_of_owns (by rw [hyt]; exact hyr) (by rw [hyt]; unfold maxLen; have := HG.out.1; omega), rows_of_owns (by rw [hyt]; exact hyo) (by rw [hyt]; unfold maxLen; have := HG.out.2; omega)⟩)) | (refine wl_bs (e := 44) (sz := 34) (by_ := 80) (xs := y.cells.toArray) (by decide) (by decide) (by rw [List.size_toArray]; exact TcM.len _) Tryz.underlying32 (by kernel_rfl) ?_; intro W4 hb4 hn4 hs4) | (go_at_call 120; refine (insert_any (filterT x.t (L x.t.key)) y W3.heap.size B v1 W4 ?i1 ?i2 ?i3 hn4 ?i4 ?i5 ?i6).mono ?_)
  case i1 => exact owns_keep HO1.out (fun k hk => (Below.chain hb3 hb4).block k (HO1.out.lt k hk).2)
  case i2 => exact HV1.out.cap (fun a n c e => HDB.out.cap x.t.key a n c (HS0.out.symm.trans e))
  case i3 => exact fun e => by have := (HO1.out.lt _ e).2; have := hb3.size; omega
  case i4 => exact one_flat (fun x' hx' => by
    rcases List.mem_cons.1 hx' with rfl | hx'
    · exact HY3.out.one
    · exact (HX2.out.1 x' (List.mem_filter.1 hx').1).one)
  case i5 => exact Nat.le_trans (List.length_filter_le _ _) (by have := HFEW.out; omega)
  case i6 => have := hb3.size; have := hb4.size; omega
  rintro e W5 ⟨v2, rfl, ho2, hk2, hf2⟩
  obtain ⟨a2, c2, rfl⟩ := owns_form ho2
  have hz3 := hb3.size
  have hz4 := hb4.size
  have hz5 := hf2.size
  have hf2' : Foot (fun b => s0.ownBlock = some b) W4 W5 := hf2.mono fun b _ e => by rw [← HV1.out.own]; exact e
  have HF35 := hid ((Foot.of_below (D := fun b => s0.ownBlock = some b) hb4).chain hf2')
  have HF25 := hid ((Foot.of_below (D := fun b => s0.ownBlock = some b) (Below.chain hb3 hb4)).chain hf2')
  have HS8 := hid (fun (W : World) (hb : Below W5.heap.size W5 W) => And.intro ((hb.block w.heap.size (by have := lx (hid HS2.out.1); omega)).trans ((HF25.out.block w.heap.size (lx (hid HS2.out.1)) (fun e => by have := hsw _ e; omega)).trans HS2.out.1)) ((hb.block dp (by omega)).trans ((HF25.out.block dp (by omega) (fun e => (HSD.out dp e).2.2 rfl)).trans HS2.out.2.1)))
  have HM8 := hid (fun (W : World) (hb : Below W5.heap.size W5 W) => (hb.block mb (by omega)).trans ((HF25.out.block mb (by omega) (fun e => (HSD.out mb e).2.1 rfl)).trans HS2.out.2.2))
  obtain ⟨m, hm⟩ : ∃ m, m = Nat.min ((filterT x.t (L x.t.key)).length + 1) 8 := ⟨_, rfl⟩
  have HUP := hid (fun (W : World) (hb : Below W5.heap.size W5 W) => show ∃ o', (Instr.mapUpdate 170 (.map (some mb)) (.agg (dgc x.t.key).toArray) (.slice a2 m c2)).run Tryz.prog W = .ok () (putObj W mb o') ∧ MapIs dgv (fun d => if d = x.t.key then some (.slice a2 m c2) else M d) o' from HMO.out.put keyDg (HM8.out W hb) ht170 x.t.key (.slice a2 m c2))
  have HO2 := hid ho2
  have HK2 := hid hk2
  have HY := hid (And.intro hyr hyo)
  have HYT := hid hyt
  have hn1 : (filterT x.t (L x.t.key)).length + 1 ≤ c2 ∧ c2 ≤ 9223372036854775807 := owns_cap ho2 (by omega)
  clear ho2 hk2 hf2 hf2' hn4 hyr hyo hyt hb3 hb4
  generalize hN : (filterT x.t (L x.t.key)).length = N at *
  have HN := hid hN
  have HM := hid hm
  have hmin : min ((N : Int) + 1) 8 = (m : Int) := by rw [hm]; simp only [Nat.min_def]; split <;> omega
  have hmc : m ≤ c2 ∧ m ≤ N + 1 ∧ 1 ≤ m := by rw [hm]; simp only [Nat.min_def]; split <;> omega
  have hmc1 := hmc.1
  clear hN hm
  go_wp2_with fail
  refine wp_region_wl (fun W => W.heap[w.heap.size]? = some (.cells x.cells.toArray 44 (0, 0)) ∧ W.heap[dp]? = some (.cells #[.int .i64 8, .map (some mb)] 172 (0, 0))) 15 (by kernel_rfl) ?_
  intro Wd8 hbd8
  have hS := HS8.out _ hbd8
  refine WL.tp 0 (some 28) (hi := rfl) (.inr hS) ?_
  apply Exists.intro
  refine ⟨fun W => ?_, ?_⟩
  · go_simp
    try rfl
  try simp only [Act.put, List.setIfInBounds_toArray, List.set_cons_zero, List.set_cons_succ]
  refine WL.tp 1 (some 29) (hi := rfl) (.inr hS) ?_
  apply Exists.intro
  refine ⟨fun W => ?_, ?_⟩
  · go_simp
    try rfl
  try simp only [Act.put, List.setIfInBounds_toArray, List.set_cons_zero, List.set_cons_succ]
  refine WL.tp 2 (some 30) (hi := rfl) (.inr hS) ?_
  apply Exists.intro
  refine ⟨fun W => ?_, ?_⟩
  · go_simp
    try rfl
  try simp only [Act.put, List.setIfInBounds_toArray, List.set_cons_zero, List.set_cons_succ]
  refine WL.te 3 (some 31) (hi := rfl) hS ?_
  apply Exists.intro
  refine ⟨fun W hW => ?_, ?_⟩
  · obtain ⟨e0, e1⟩ := hW; have e3 := cell_of_row _ _ 0 _ _ _ e1; have e4 := cell_of_row _ _ 1 _ _ _ e1; clear e0 e1
    go_simp
    try rfl
  try simp only [Act.put, List.setIfInBounds_toArray, List.set_cons_zero, List.set_cons_succ]
  refine WL.tp 4 (some 32) (hi := rfl) (.inr hS) ?_
  apply Exists.intro
  refine ⟨fun W => ?_, ?_⟩
  · go_simp
    try rfl
  try simp only [Act.put, List.setIfInBounds_toArray, List.set_cons_zero, List.set_cons_succ]
  refine WL.ld 5 (some 33) rt31 (fun W hW => (TcM.parts0 hW.1).1) (dgc_len _) (hi := rfl) hS ?_
  try simp only [Act.put, List.setIfInBounds_toArray, List.set_cons_zero, List.set_cons_succ]
  refine WL.tp 6 (some 34) (hi := rfl) (.inr hS) ?_
  apply Exists.intro
  refine ⟨fun W => ?_, ?_⟩
  · go_simp
    try rfl
  try simp only [Act.put, List.setIfInBounds_toArray, List.set_cons_zero, List.set_cons_succ]
  refine WL.tp 7 (some 35) (hi := rfl) (.inr hS) ?_
  apply Exists.intro
  refine ⟨fun W => ?_, ?_⟩
  · go_simp
    try rfl
  try simp only [Act.put, List.setIfInBounds_toArray, List.set_cons_zero, List.set_cons_succ]
  refine WL.tp 8 (some 36) (hi := rfl) (.inr hS) ?_
  apply Exists.intro
  refine ⟨fun W => ?_, ?_⟩
  · go_simp
    try rfl
  try simp only [Act.put, List.setIfInBounds_toArray, List.set_cons_zero, List.set_cons_succ]
  refine WL.tp 9 (some 37) (hi := rfl) (.inr hS) ?_
  apply Exists.intro
  refine ⟨fun W => ?_, ?_⟩
  · go_simp
    try rfl
  try simp only [Act.put, List.setIfInBounds_toArray, List.set_cons_zero, List.set_cons_succ]
  refine WL.tp 10 (some 38) (hi := rfl) (.inr hS) ?_
  apply Exists.intro
  refine ⟨fun W => ?_, ?_⟩
  · go_simp
    try rfl
  try simp only [Act.put, List.setIfInBounds_toArray, List.set_cons_zero, List.set_cons_succ]
  refine WL.tp 11 (some 39) (hi := rfl) (.inr hS) ?_
  apply Exists.intro
  refine ⟨fun W => ?_, ?_⟩
  · go_simp
    try rfl
  try simp only [Act.put, List.setIfInBounds_toArray, List.set_cons_zero, List.set_cons_succ]
  refine WL.te 12 (some 40) (hi := rfl) hS ?_
  apply Exists.intro
  refine ⟨fun W hW => ?_, ?_⟩
  · obtain ⟨e0, e1⟩ := hW; have e3 := cell_of_row _ _ 0 _ _ _ e1; have e4 := cell_of_row _ _ 1 _ _ _ e1; clear e0 e1
    go_simp
    try rfl
  try simp only [Act.put, List.setIfInBounds_toArray, List.set_cons_zero, List.set_cons_succ]
  refine WL.tp 13 (some 41) (hi := rfl) (.inr hS) ?_
  apply Exists.intro
  refine ⟨fun W => ?_, ?_⟩
  · go_simp
    try rfl
  try simp only [Act.put, List.setIfInBounds_toArray, List.set_cons_zero, List.set_cons_succ]
  refine WL.tp 14 (some 42) (hi := rfl) (.inr hS) ?_
  apply Exists.intro
  refine ⟨fun W => ?_, ?_⟩
  · go_simp
    try rfl
  try simp only [Act.put, List.setIfInBounds_toArray, List.set_cons_zero, List.set_cons_succ]
  refine WL.o 15 (hi := rfl) ?_
  intro K hK
  obtain ⟨o2, hup, hM2⟩ := HUP.out Wd8 hbd8
  go_simp
  refine hK.out _ _ (.inl (by kernel_rfl)) ?_
  clear hK K
  try simp only [Act.put, List.setIfInBounds_toArray, List.set_cons_zero, List.set_cons_succ]
  refine WL.d ?_
  go_wp2_with fail
  go_ret
  have hdb := HDB.out
  obtain ⟨hdm, hmn, hm1⟩ := hmc
  have hz8 := hbd8.size
  have hzp : (putObj Wd8 mb o2).heap.size = Wd8.heap.size := by simp [putObj]
  have hT : Turned mb Wd8 (putObj Wd8 mb o2) := putObj_turned (by omega) _
  have FF : Foot (fun b => s0.ownBlock = some b ∨ b = mb) w (putObj Wd8 mb o2) :=
    ((((HF2.out.mono fun b _ e => Or.inl e).chain (HF25.out.mono fun b _ e => Or.inl e)).then hbd8).trans hT.foot fun b _ e => Or.inr e)
  have hkeep2 : ∀ k, w.heap.size ≤ k → k < W3.heap.size → (putObj Wd8 mb o2).heap[k]? = W3.heap[k]? := fun k h1 h2 => by
    have h3 : (putObj Wd8 mb o2).heap[k]? = Wd8.heap[k]? := hT.foot.block k (by omega) (by omega)
    have h4 : Wd8.heap[k]? = W5.heap[k]? := hbd8.block k (by omega)
    have h5 : W5.heap[k]? = W3.heap[k]? := HF35.out.block k h2 (fun e => by have := hsw k e; omega)
    exact h3.trans (h4.trans h5)
  have hv3 : ∀ k, (Value.slice a2 m c2).ownBlock = some k → (s0.ownBlock = some k ∨ W4.heap.size ≤ k) ∧ B ≤ k ∧ k < W5.heap.size := fun k hk => by
    have hk' : (Value.slice a2 (N + 1) c2).ownBlock = some k := by rw [← hk]; cases a2 <;> rfl
    refine ⟨?_, HO2.out.lt k hk'⟩
    rcases HK2.out k hk' with h | h
    · exact .inl (by rw [← HV1.out.own]; exact h)
    · exact .inr h
  have hyb : ∀ k, y.rv.ownBlock = some k ∨ y.ov.ownBlock = some k → W2.heap.size ≤ k ∧ k < W3.heap.size := fun k hk => by
    rcases hk with hk | hk
    · exact HY.out.1.lt k hk
    · exact HY.out.2.lt k hk
  have hYY : HeldT (putObj Wd8 mb o2) y := HY3.out.stay (by omega) fun k hk hkw => hkeep2 k (by have := (hyb k hk).1; omega) hkw
  have hold : ∀ d, ∀ x' ∈ L d, HeldT (putObj Wd8 mb o2) x' := fun d x' hx' => by
    obtain ⟨h1, h2, _⟩ := hdb.held d x' hx'
    refine h1.stay FF.size fun k hk _ => ?_
    have hI : I k := by rcases hk with hk | hk; exact h2.1 k hk; exact h2.2 k hk
    exact FF.block k (hdb.ib k hI) fun e => by
      rcases e with e | e
      · exact hdb.di k (HSD.out k e).1 hI
      · exact hdb.di k (by rw [e]; exact hdb.dm) hI
  refine ⟨rfl, FF.mono (fun b _ e => by rcases e with e | e; exact (HSD.out b e).1; rw [e]; exact hdb.dm), fun k => D k ∨ (Value.slice a2 m c2).ownBlock = some k, fun k => I k ∨ (y.rv.ownBlock = some k ∨ y.ov.ownBlock = some k), fun d => if d = x.t.key then some (.slice a2 m c2) else M d, y, HYT.out, ?_, ?_, ?_⟩
  rotate_left
  · intro k hk
    rcases hk with hk | hk
    · exact .inl hk
    · rcases (hv3 k hk).1 with h | h
      · exact .inl (HSD.out k h).1
      · exact .inr (by omega)
  · intro k hk
    rcases hk with hk | hk
    · exact .inl hk
    · exact .inr (by have := (hyb k hk).1; omega)
  · refine ⟨(FF.block dp hdpw (fun e => ?_)).trans hdb.db, ⟨o2, putObj_at (by omega) _, hM2⟩, fun d => ?_, fun d => ?_, fun d a n c => ?_, fun d => ?_, .inl hdb.dd, .inl hdb.dm, hdn, fun d k => ?_, fun d e k => ?_, fun k => ?_, fun k => ?_, fun k => ?_⟩
    · rcases e with e | e
      · exact (HSD.out dp e).2.2 rfl
      · exact hdn e
    · by_cases hd : d = x.t.key
      · simp only [if_pos hd, Option.getD_some]
        have h1 := owns_take HO2.out hmn (by rw [List.length_cons, HN.out])
        have e1 : addT (L d) y = (y :: filterT x.t (L x.t.key)).take m := by
          unfold addT
          rw [hd, HYT.out, HM.out]
          rcases Nat.le_total (N + 1) 8 with h | h
          · have h8 : Nat.min (N + 1) 8 = N + 1 := Nat.min_eq_left h
            rw [h8, List.take_of_length_le (by rw [List.length_cons, HN.out]; omega), List.take_of_length_le (by rw [List.length_cons, HN.out]; omega)]
          · have : Nat.min (N + 1) 8 = 8 := Nat.min_eq_right h
            rw [this]
        have e2 : (addT (L d) y).length = m := by rw [e1, List.length_take, List.length_cons, HN.out]; exact Nat.min_eq_left hmn
        rw [e2, e1]
        refine owns_keep h1 fun k hk => ?_
        have h2 : (putObj Wd8 mb o2).heap[k]? = Wd8.heap[k]? := hT.foot.block k (by have := (hv3 k hk).2.2; omega) (fun e => by
          rcases (hv3 k hk).1 with h | h
          · exact (HSD.out k h).2.1 e
          · omega)
        exact h2.trans (hbd8.block k (hv3 k hk).2.2)
      · simp only [if_neg hd]
        refine owns_keep (hdb.row d) fun k hk => FF.block k ((hdb.db_ k (hdb.drow d k hk).1).2) fun e => ?_
        rcases e with e | e
        · exact hd (hdb.apart d x.t.key k hk (by rw [← HS0.out]; exact e))
        · exact (hdb.drow d k hk).2.1 e
    · by_cases hd : d = x.t.key
      · simp only [if_pos hd]
        unfold addT
        rw [List.length_take]
        exact Nat.min_le_left _ _
      · simp only [if_neg hd]
        exact hdb.few d
    · by_cases hd : d = x.t.key
      · simp only [if_pos hd, Option.getD_some]
        intro e
        simp only [Value.slice.injEq] at e
        omega
      · simp only [if_neg hd]
        exact hdb.cap d a n c
    · by_cases hd : d = x.t.key
      · simp only [if_pos hd]
        intro x' hx'
        rcases List.mem_cons.1 (List.mem_of_mem_take hx') with rfl | hx'
        · exact ⟨hYY, ⟨fun k hk => .inr (.inl hk), fun k hk => .inr (.inr hk)⟩, by rw [HYT.out]; exact hc, by rw [HYT.out]; exact hd.symm⟩
        · have hx2 := (List.mem_filter.1 hx').1
          obtain ⟨h1, h2, h3, h4⟩ := hdb.held d x' hx2
          exact ⟨hold d x' hx2, ⟨fun k hk => .inl (h2.1 k hk), fun k hk => .inl (h2.2 k hk)⟩, h3, h4⟩
      · simp only [if_neg hd]
        intro x' hx'
        obtain ⟨h1, h2, h3, h4⟩ := hdb.held d x' hx'
        exact ⟨hold d x' hx', ⟨fun k hk => .inl (h2.1 k hk), fun k hk => .inl (h2.2 k hk)⟩, h3, h4⟩
    · by_cases hd : d = x.t.key
      · simp only [if_pos hd, Option.getD_some]
        intro hk
        refine ⟨.inr hk, ?_⟩
        rcases (hv3 k hk).1 with h | h
        · exact (HSD.out k h).2
        · exact ⟨by omega, by omega⟩
      · simp only [if_neg hd]
        intro hk
        exact ⟨.inl (hdb.drow d k hk).1, (hdb.drow d k hk).2⟩
    · by_cases hd : d = x.t.key
      · by_cases he : e = x.t.key
        · intro _ _; rw [hd, he]
        · simp only [if_pos hd, if_neg he, Option.getD_some]
          intro hk hk2
          rcases (hv3 k hk).1 with h | h
          · exact absurd (hdb.apart e x.t.key k hk2 (by rw [← HS0.out]; exact h)) he
          · have := (hdb.db_ k (hdb.drow e k hk2).1).2
            omega
      · by_cases he : e = x.t.key
        · simp only [if_neg hd, if_pos he, Option.getD_some]
          intro hk2 hk
          rcases (hv3 k hk).1 with h | h
          · exact absurd (hdb.apart d x.t.key k hk2 (by rw [← HS0.out]; exact h)) hd
          · have := (hdb.db_ k (hdb.drow d k hk2).1).2
            omega
        · simp only [if_neg hd, if_neg he]
          exact hdb.apart d e k
    · intro hD hI
      rcases hD with hD | hD
      · rcases hI with hI | hI
        · exact hdb.di k hD hI
        · have := (hyb k hI).1
          have := (hdb.db_ k hD).2
          omega
      · rcases (hv3 k hD).1 with h | h
        · rcases hI with hI | hI
          · exact hdb.di k (HSD.out k h).1 hI
          · have := (hyb k hI).1
            have := hsw k h
            omega
        · rcases hI with hI | hI
          · have := hdb.ib k hI
            omega
          · have := (hyb k hI).2
            omega
    · intro hD
      rcases hD with hD | hD
      · have := hdb.db_ k hD
        omega
      · have := (hv3 k hD).2
        omega
    · intro hI
      rcases hI with hI | hI
      · have := hdb.ib k hI
        omega
      · have := (hyb k hI).2
        omega
end Go.Proofs.YtlbipokkdiiaiaaGreatDoor
/- db.Of: a key's traces, in new memory. -/
namespace Go.Proofs.YtlbipokkdiiaiaaGreatDoor
open Go.RowKit Go.Proofs.YtlbipokkdiiaiaaGreatDoor.Exec
set_option maxRecDepth 100000
theorem rt31b : RowTy 31 32 := rt31
theorem tcs_one {w : World} {l : List TcM} (h : ∀ x ∈ l, HeldT w x) : ∀ u ∈ tcs l, u.oneCell' = true := one_flat fun x hx => (h x hx).one
set_option maxHeartbeats 4000000 in
theorem dbOf_any {B : Nat} {D I : Nat → Prop} {w : World} {dp mb : Nat} {M : Dg → Option Value} {L : Dg → List TcM} (hdb : DbIs B D I w dp mb M L) (key : Dg) :
    Calls Tryz.prog 74 #[.pointer (some ⟨dp, 0, none⟩), dgv key] w fun e w' => ∃ (v : Value) (ys : List TcM), e = .returned v ∧ ys.map (·.t) = (L key).map (·.t) ∧ RowsOf w' 34 TcM.cells v ys ∧ (∀ y ∈ ys, HeldT w' y) ∧ ((∀ k, v.ownBlock = some k → w.heap.size ≤ k) ∧ ∀ y ∈ ys, InT (fun k => w.heap.size ≤ k) y) ∧ Below w.heap.size w w' := by
  obtain ⟨o, hmo, hMo⟩ := hdb.mp
  obtain ⟨s0, hs0⟩ : ∃ s0, s0 = (M key).getD nilS := ⟨_, rfl⟩
  have hrow0 := hdb.row key
  rw [← hs0] at hrow0
  have ht170 : Tryz.prog.underlying 170 = some (.map 31 32) := by kernel_rfl
  have HLK := hid (fun (W : World) (h : W.heap[mb]? = some o) => show (Instr.lookup 170 (.map (some mb)) (.agg (dgc key).toArray) false).run Tryz.prog W = .ok s0 W by
    have := hMo.look keyDg h ht170 (z := nilS) rfl key false
    simp only [Bool.false_eq_true, if_false, ← hs0] at this
    exact this)
  have hdpw := (hdb.db_ dp hdb.dd).2
  have hmbw := (hdb.db_ mb hdb.dm).2
  have HBX := hid (fun (W : World) (hb : Below w.heap.size w W) => And.intro ((hb.block dp hdpw).trans hdb.db) ((hb.block mb hmbw).trans hmo))
  have HROW := hid hrow0
  have HFEW := hid (hdb.few key)
  have HHELD := hid (fun x hx => And.intro (hdb.held key x hx).1 (goodT (hdb.held key x hx).2.2.1))
  clear hrow0 hmo hMo hdb hs0 ht170
  generalize L key = l at *
  unfold dgv
  go_enter Tryz.func74, Tryz.ntmps74
  go_wp2_with first | (refine wl_box rt31 ?_; intro W0 hb0 hn0 hs0')
  have HKeepB := hid (fun (W : World) (hb : Below W0.heap.size W0 W) => And.intro ((hb.block w.heap.size (by omega)).trans hn0) (HBX.out W (Below.chain hb0 hb)))
  have HCl := hid (fun (W : World) (hb : Below W0.heap.size W0 W) => cloneT_any s0 l W (SliceAt.below (rows_of_owns HROW.out (by unfold maxLen; have := HFEW.out; omega)) (Below.chain hb0 hb) (Nat.le_refl _)) (tcs_one fun x hx => (HHELD.out x hx).1) (by have := HFEW.out; omega))
  refine wp_region_wl (fun W => W.heap[w.heap.size]? = some (.cells (dgc key).toArray 31 (0, 0)) ∧ W.heap[dp]? = some (.cells #[.int .i64 8, .map (some mb)] 172 (0, 0)) ∧ W.heap[mb]? = some o) 7 (by kernel_rfl) ?_
  intro Wd hbd
  have hS := HKeepB.out _ hbd
  refine WL.tp 0 (some 9) (hi := rfl) (.inr hS) ?_
  apply Exists.intro
  refine ⟨fun W => ?_, ?_⟩
  · go_simp
    try rfl
  try simp only [Act.put, List.setIfInBounds_toArray, List.set_cons_zero, List.set_cons_succ]
  refine WL.tp 1 (some 10) (hi := rfl) (.inr hS) ?_
  apply Exists.intro
  refine ⟨fun W => ?_, ?_⟩
  · go_simp
    try rfl
  try simp only [Act.put, List.setIfInBounds_toArray, List.set_cons_zero, List.set_cons_succ]
  refine WL.tp 2 (some 11) (hi := rfl) (.inr hS) ?_
  apply Exists.intro
  refine ⟨fun W => ?_, ?_⟩
  · go_simp
    try rfl
  try simp only [Act.put, List.setIfInBounds_toArray, List.set_cons_zero, List.set_cons_succ]
  refine WL.te 3 (some 12) (hi := rfl) hS ?_
  apply Exists.intro
  refine ⟨fun W hW => ?_, ?_⟩
  · obtain ⟨e0, e1, e2⟩ := hW; have e3 := cell_of_row _ _ 0 _ _ _ e1; have e4 := cell_of_row _ _ 1 _ _ _ e1; have e5 := HLK.out _ e2; clear e0 e1 e2
    go_simp
    try rfl
  try simp only [Act.put, List.setIfInBounds_toArray, List.set_cons_zero, List.set_cons_succ]
  refine WL.ld 4 (some 13) rt31 (fun W hW => range_of_heap hW.1) (dgc_len _) (hi := rfl) hS ?_
  try simp only [Act.put, List.setIfInBounds_toArray, List.set_cons_zero, List.set_cons_succ]
  refine WL.te 5 (some 14) (hi := rfl) hS ?_
  apply Exists.intro
  refine ⟨fun W hW => ?_, ?_⟩
  · obtain ⟨e0, e1, e2⟩ := hW; have e3 := cell_of_row _ _ 0 _ _ _ e1; have e4 := cell_of_row _ _ 1 _ _ _ e1; have e5 := HLK.out _ e2; clear e0 e1 e2
    go_simp
    try rfl
  try simp only [Act.put, List.setIfInBounds_toArray, List.set_cons_zero, List.set_cons_succ]
  refine WL.o 6 (hi := rfl) ?_
  intro K hK
  go_simp
  refine (HCl.out Wd hbd).mono ?_
  rintro e W2 ⟨v1, rfl, ho1, hb2⟩
  have hS2 := And.intro ((hb2.block _ (lx (hid hS.1))).trans hS.1) (And.intro ((hb2.block _ (lx (hid hS.2.1))).trans hS.2.1) ((hb2.block _ (lx (hid hS.2.2))).trans hS.2.2))
  refine hK.out _ _ (.inr hS2) ?_
  clear hK K
  try simp only [Act.put, List.setIfInBounds_toArray, List.set_cons_zero, List.set_cons_succ]
  refine WL.o 7 (hi := rfl) ?_
  intro K hK
  go_simp
  refine hK.out _ _ (.inl (by kernel_rfl)) ?_
  clear hK K
  try simp only [Act.put, List.setIfInBounds_toArray, List.set_cons_zero, List.set_cons_succ]
  refine WL.d ?_
  have HB2 := hid (Below.chain hb0 (Below.chain hbd hb2))
  have hz0 : w.heap.size < Wd.heap.size := by have := hbd.size; omega
  have HO := hid (owns_base ho1 (Nat.le_of_lt hz0))
  have HO1 := hid ho1
  obtain ⟨a1, c1, rfl⟩ := owns_form ho1
  clear ho1 hS hS2
  go_wp2_with fail
  go_loopw [18] (fun i wr => ∃ (k : Nat) (ys : List TcM), k ≤ l.length ∧ i = .int .i64 k ∧ ys.length = k ∧ ys.map (·.t) = (l.take k).map (·.t) ∧ wr.ownsRow w.heap.size 44 34 (.slice a1 l.length c1) l.length (tcs (ys ++ l.drop k)) ∧ (∀ y ∈ ys, HeldT wr y ∧ InT (fun b => (Value.slice a1 l.length c1).ownBlock ≠ some b ∧ w.heap.size ≤ b) y) ∧ Below w.heap.size w wr) (fun i _ => l.length - (intOf i).toNat)
  case atStart => exact ⟨0, [], by omega, rfl, rfl, rfl, HO.out, by simp, HB2.out⟩
  case round =>
    obtain ⟨k, ys, hk, rfl, hyl, hyt, ho, hyh, hbe⟩ := hrel
    by_cases hlt : k < l.length
    · have hll : (ys ++ l.drop k).length = l.length := by rw [List.length_append, List.length_drop]; omega
      cases a1 with
      | none =>
        obtain ⟨_, ⟨_, h0⟩ | ⟨g, cap, cur, h, _⟩⟩ := ho
        · omega
        · cases h
      | some ad =>
        obtain ⟨g, off, sp⟩ := ad
        obtain rfl : sp = none := by
          obtain ⟨_, ⟨h, _⟩ | ⟨g', cap, cur, h, _⟩⟩ := ho
          · cases h
          · simp only [Value.slice.injEq, Option.some.injEq, Addr.mk.injEq] at h
            exact h.1.2.2
        have ho' := ho
        rw [← hll] at ho'
        obtain ⟨rfl, -, hgb, hrow⟩ := TRow.of_owns ho'
        have hkl : k < (ys ++ l.drop k).length := by omega
        have hxk : (ys ++ l.drop k)[k] = l[k] := by
          rw [List.getElem_append_right (by omega)]
          simp [hyl]
        have L0 := hrow.at k hkl
        rw [hxk] at L0
        have HS := hid (show (ys ++ l.drop k).set k = fun y => (ys ++ [y]) ++ l.drop (k + 1) from by
          funext y
          have h9 : ∀ (r : List TcM) (z : TcM), (ys ++ z :: r).set k y = (ys ++ [y]) ++ r := fun r z => by rw [← hyl]; simp
          rw [drop_at l k hlt]
          exact h9 _ _)
        have HX := hid (And.intro ((HHELD.out l[k] (List.getElem_mem hlt)).1.keep hbe) (HHELD.out l[k] (List.getElem_mem hlt)).2)
        have HT := hid (take_at l k hlt)
        have HR := hid hrow
        have HY := hid hyh
        have HYT := hid hyt
        have HB := hid hbe
        have HGB := hid hgb
        have hl8 : l.length ≤ 8 := HFEW.out
        clear ho ho' hrow hyh hyt hbe hxk hgb
        go_wp2_with first | (refine wl_ld rt44 L0 (TcM.len _) ?_) | (go_at_call 115; refine (cloneD_any l[k] wr HX.out.1 (by have := HX.out.2.nr; omega) (by have := HX.out.2.no; omega)).mono ?_; rintro e W3 ⟨y, hyt2, rfl, hyr, hyo, hb3⟩; have HY3 := hid (show HeldT W3 y from ⟨rows_of_owns (by rw [hyt2]; exact hyr) (by rw [hyt2]; unfold maxLen; have := HX.out.2.nr; omega), rows_of_owns (by rw [hyt2]; exact hyo) (by rw [hyt2]; unfold maxLen; have := HX.out.2.no; omega)⟩); have hrw3 := HR.out.keep (hb3.block g HR.out.lt)) | (refine wl_sm (k := k) hrw3 hkl HY3.out.one ?_; intro W4 ht4 hr4 hs4)
        rw [HS.out] at hr4
        have hgl := HR.out.lt
        refine ⟨⟨k + 1, ys ++ [y], by omega, by go_num, by simp [hyl], by rw [HT.out, List.map_append, List.map_append, HYT.out]; simp [hyt2], ?_, fun y' hy' => ?_, (Below.chain HB.out hb3).trans (ht4.below HGB.out)⟩, by simp [intOf]; omega⟩
        · have := hr4.owns HGB.out
          have hl4 : (ys ++ [y] ++ l.drop (k + 1)).length = l.length := by simp only [List.length_append, List.length_drop, List.length_cons, List.length_nil]; omega
          rw [hl4] at this
          exact this
        · rcases List.mem_append.1 hy' with hy' | hy'
          · obtain ⟨h1, h2⟩ := HY.out y' hy'
            refine ⟨(h1.keep hb3).stay ht4.foot.size fun k' hk' hw' => ht4.foot.block k' hw' fun e => ?_, h2⟩
            rcases hk' with hk' | hk'
            · exact (h2.1 k' hk').1 (by rw [e]; rfl)
            · exact (h2.2 k' hk').1 (by rw [e]; rfl)
          · obtain rfl := List.mem_singleton.1 hy'
            refine ⟨HY3.out.stay ht4.foot.size fun k' hk' hw' => ht4.foot.block k' hw' fun e => ?_, fun k' hk' => ⟨fun e => ?_, by have := (hyr.lt k' hk').1; have := HB.out.size; omega⟩, fun k' hk' => ⟨fun e => ?_, by have := (hyo.lt k' hk').1; have := HB.out.size; omega⟩⟩
            · rcases hk' with hk' | hk'
              · have := (hyr.lt k' hk').1; omega
              · have := (hyo.lt k' hk').1; omega
            · have h5 := (hyr.lt k' hk').1
              have h6 : g = k' := Option.some.inj e
              omega
            · have h5 := (hyo.lt k' hk').1
              have h6 : g = k' := Option.some.inj e
              omega
    · obtain rfl : k = l.length := by omega
      have HY := hid (And.intro hyh (And.intro hyt hyl))
      have HO4 := hid ho
      have HB := hid hbe
      clear hyh hyt ho hbe hyl
      go_wp2_with fail
      go_ret
      obtain ⟨h1, h2, h3⟩ := HY.out
      have h4 := HO4.out
      rw [List.drop_length, List.append_nil] at h4
      rw [List.take_length] at h2
      rw [← h3] at h4
      exact ⟨_, rfl, ys, h2, by rw [← h3]; exact rows_of_owns h4 (by unfold maxLen; have := HFEW.out; omega), fun y hy => (h1 y hy).1, ⟨fun k hk => (h4.lt k (by rw [← h3] at hk; exact hk)).1, fun y hy => ⟨fun k hk => ((h1 y hy).2.1 k hk).2, fun k hk => ((h1 y hy).2.2 k hk).2⟩⟩, HB.out⟩
end Go.Proofs.YtlbipokkdiiaiaaGreatDoor
