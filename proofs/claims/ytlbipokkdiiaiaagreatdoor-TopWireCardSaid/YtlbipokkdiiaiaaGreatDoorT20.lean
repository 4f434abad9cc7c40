/- Lemmas for TopWire: W13, W14, W15. -/
import Derived.Test.YtlbipokkdiiaiaaGreatDoorT19
import Derived.Test.YtlbipokkdiiaiaaGreatDoorT18
/- db.clone. -/
namespace Go.Proofs.YtlbipokkdiiaiaaGreatDoor
open Go.RowKit Go.Proofs.YtlbipokkdiiaiaaGreatDoor.Exec
set_option maxRecDepth 100000
theorem rds_one (l : List RdL) : ∀ u ∈ l.flatMap RdL.cells, u.oneCell' = true := one_flat fun r _ => r.one
theorem mds_one (l : List MdL) : ∀ u ∈ l.flatMap MdL.cells, u.oneCell' = true := one_flat fun r _ => r.one
theorem owns_form {w : World} {base e sz n : Nat} {v : Value} {xs : List Value} (h : w.ownsRow base e sz v n xs) : ∃ a c, v = .slice a n c := by
  obtain ⟨_, ⟨rfl, rfl⟩ | ⟨g, cap, cur, rfl, _⟩⟩ := h
  · exact ⟨_, _, rfl⟩
  · exact ⟨_, _, rfl⟩
theorem owns_keep {w w' : World} {base e sz n : Nat} {v : Value} {xs : List Value} (h : w.ownsRow base e sz v n xs) (hk : ∀ k, v.ownBlock = some k → w'.heap[k]? = w.heap[k]?) : w'.ownsRow base e sz v n xs := by
  obtain ⟨hl, ⟨rfl, rfl⟩ | ⟨g, cap, cur, rfl, hb, hg, hr⟩⟩ := h
  · exact ⟨hl, .inl ⟨rfl, rfl⟩⟩
  · exact ⟨hl, .inr ⟨g, cap, cur, rfl, hb, (hk g rfl).trans hg, hr⟩⟩
theorem owns_base {w : World} {base base' e sz n : Nat} {v : Value} {xs : List Value} (h : w.ownsRow base e sz v n xs) (hb : base' ≤ base) : w.ownsRow base' e sz v n xs := by
  obtain ⟨hl, ⟨rfl, rfl⟩ | ⟨g, cap, cur, rfl, hb', hr⟩⟩ := h
  · exact ⟨hl, .inl ⟨rfl, rfl⟩⟩
  · exact ⟨hl, .inr ⟨g, cap, cur, rfl, by omega, hr⟩⟩
theorem heap_set_ne (w : World) (b o k : Nat) (v : Value) (h : k ≠ b) : (w.setCell ⟨b, o, none⟩ v).heap[k]? = w.heap[k]? := Below.heap_setCell _ _ _ _ h
theorem set_heads (x : TcM) (a b : Value) : (x.cells.toArray.setIfInBounds 32 a).setIfInBounds 33 b = (TcM.cells ⟨x.t, a, b⟩).toArray := by
  apply Array.ext'
  simp [TcM.cells, dgc_len]
theorem set_head (x : TcM) (a : Value) : (x.cells.toArray.setIfInBounds 32 a)[33]? = some x.ov := by
  simp [TcM.cells, dgc_len]
set_option maxHeartbeats 2000000 in
theorem cloneD_any (x : TcM) (w : World) (hx : HeldT w x) (hr : x.t.reads.length ≤ 1000000) (ho : x.t.outs.length ≤ 1000000) :
    Calls Tryz.prog 115 #[x.val] w fun e w' => ∃ y : TcM, y.t = x.t ∧ e = .returned y.val ∧ w'.ownsRow w.heap.size 100 34 y.rv x.t.reads.length (x.t.reads.flatMap RdL.cells) ∧ w'.ownsRow w.heap.size 54 33 y.ov x.t.outs.length (x.t.outs.flatMap MdL.cells) ∧ Below w.heap.size w w' := by
  unfold TcM.val
  have HX := hid hx
  have H1 := hid (And.intro (rds_one x.t.reads) (mds_one x.t.outs))
  clear hx
  go_enter Tryz.func115, Tryz.ntmps115
  go_upto_region 1 with first | (refine wl_box rt44 ?_; intro W0 hb0 hn0 hs0) | (refine wl_al rt44 ?_; intro zs W1 hzs hb1 hn1 hs1)
  have hn0' := (hb1.block _ (by omega)).trans hn0
  rw [hs0] at hn1 hs1 ⊢
  have hn1' := hn1
  have HB := hid (Below.chain hb0 hb1)
  have HX1 := hid (HX.out.keep HB.out)
  clear HX hn0 hn1
  refine wp_region_wl (fun W => W.heap[w.heap.size]? = some (.cells x.cells.toArray 44 (0, 0)) ∧ W.heap[w.heap.size + 1]? = some (.cells zs 44 (0, 0))) 7 (by kernel_rfl) ?_
  intro Wd hbd
  have hS := And.intro ((hbd.block _ (lx (hid hn0'))).trans hn0') ((hbd.block _ (lx (hid hn1'))).trans hn1')
  refine WL.tp 0 (some 3) (hi := rfl) (.inr hS) ?_
  apply Exists.intro
  refine ⟨fun W => ?_, ?_⟩
  · go_simp
    try rfl
  try simp only [Act.put, List.setIfInBounds_toArray, List.set_cons_zero, List.set_cons_succ]
  refine WL.te 1 (some 4) (hi := rfl) hS ?_
  apply Exists.intro
  refine ⟨fun W hW => ?_, ?_⟩
  · obtain ⟨-, e0, e1⟩ := TcM.parts0 hW.1
    go_simp
    try rfl
  try simp only [Act.put, List.setIfInBounds_toArray, List.set_cons_zero, List.set_cons_succ]
  refine WL.tp 3 (some 6) (hi := rfl) (.inr hS) ?_
  apply Exists.intro
  refine ⟨fun W => ?_, ?_⟩
  · go_simp
    try rfl
  try simp only [Act.put, List.setIfInBounds_toArray, List.set_cons_zero, List.set_cons_succ]
  refine WL.te 4 (some 7) (hi := rfl) hS ?_
  apply Exists.intro
  refine ⟨fun W hW => ?_, ?_⟩
  · obtain ⟨-, e0, e1⟩ := TcM.parts0 hW.1
    go_simp
    try rfl
  try simp only [Act.put, List.setIfInBounds_toArray, List.set_cons_zero, List.set_cons_succ]
  refine WL.o 2 (hi := rfl) ?_
  intro K hK
  go_simp
  refine (cloneR_any _ _ _ ((HX1.out.keep hbd).1) H1.out.1 (by omega)).mono ?_
  rintro e w1 ⟨v1, rfl, ho1, hb1⟩
  obtain ⟨va, vc, rfl⟩ := owns_form ho1
  replace hS := And.intro ((hb1.block _ (lx (hid hS.1))).trans hS.1) ((hb1.block _ (lx (hid hS.2))).trans hS.2)
  refine hK.out _ _ (.inr hS) ?_
  clear hK K
  try simp only [Act.put, List.setIfInBounds_toArray, List.set_cons_zero, List.set_cons_succ]
  refine WL.tp 6 (some 9) (hi := rfl) (.inr hS) ?_
  apply Exists.intro
  refine ⟨fun W => ?_, ?_⟩
  · go_simp
    try rfl
  try simp only [Act.put, List.setIfInBounds_toArray, List.set_cons_zero, List.set_cons_succ]
  refine WL.o 5 (hi := rfl) ?_
  intro K hK
  go_simp
  refine (cloneM_any _ _ _ ((HX1.out.keep (Below.chain hbd hb1)).2) H1.out.2 (by omega)).mono ?_
  rintro e w2 ⟨v2, rfl, ho2, hb2⟩
  obtain ⟨ua, uc, rfl⟩ := owns_form ho2
  replace hS := And.intro ((hb2.block _ (lx (hid hS.1))).trans hS.1) ((hb2.block _ (lx (hid hS.2))).trans hS.2)
  refine hK.out _ _ (.inr hS) ?_
  clear hK K
  try simp only [Act.put, List.setIfInBounds_toArray, List.set_cons_zero, List.set_cons_succ]
  refine WL.o 7 (hi := rfl) ?_
  intro K hK
  have fz := Lib.frozen_of_heap hS.1 32
  obtain ⟨-, y1, y2⟩ := TcM.parts0 hS.1
  go_simp
  refine hK.out _ _ (.inl (by kernel_rfl)) ?_
  clear hK K
  try simp only [Act.put, List.setIfInBounds_toArray, List.set_cons_zero, List.set_cons_succ]
  have hT1 := heap_setCell_same w2 w.heap.size 32 _ _ (.slice va x.t.reads.length vc) hS.1
  refine WL.tp 8 (some 10) (hi := rfl) (.inl (by kernel_rfl)) ?_
  apply Exists.intro
  refine ⟨fun W => ?_, ?_⟩
  · go_simp
    try rfl
  try simp only [Act.put, List.setIfInBounds_toArray, List.set_cons_zero, List.set_cons_succ]
  refine WL.o 9 (hi := rfl) ?_
  intro K hK
  have fz2 := Lib.frozen_of_heap hT1 33
  have y3 := (cell_of_row _ _ 33 _ _ _ hT1).trans (set_head x _)
  go_simp
  refine hK.out _ _ (.inl (by kernel_rfl)) ?_
  clear hK K
  try simp only [Act.put, List.setIfInBounds_toArray, List.set_cons_zero, List.set_cons_succ]
  refine WL.d ?_
  have hT2 := heap_setCell_same _ w.heap.size 33 _ _ (.slice ua x.t.outs.length uc) hT1
  rw [set_heads] at hT2
  have z1 := hbd.size
  have z2 := hb1.size
  have z3 := hb2.size
  have hB2 : Below w.heap.size w w2 := Below.chain (Below.chain (Below.chain HB.out hbd) hb1) hb2
  have hb1' : ∀ k, (Value.slice va x.t.reads.length vc).ownBlock = some k → Wd.heap.size ≤ k ∧ k < w1.heap.size := ho1.lt
  have hb2' : ∀ k, (Value.slice ua x.t.outs.length uc).ownBlock = some k → w1.heap.size ≤ k ∧ k < w2.heap.size := ho2.lt
  obtain ⟨W3, hW3⟩ : ∃ W, W = (w2.setCell ⟨w.heap.size, 32, none⟩ (.slice va x.t.reads.length vc)).setCell ⟨w.heap.size, 33, none⟩ (.slice ua x.t.outs.length uc) := ⟨_, rfl⟩
  have k3 : ∀ k, k ≠ w.heap.size → W3.heap[k]? = w2.heap[k]? := fun k hk => by rw [hW3, heap_set_ne _ _ _ _ _ hk, heap_set_ne _ _ _ _ _ hk]
  have hB3 : Below w.heap.size w W3 := by rw [hW3]; exact (hB2.setCell (Nat.le_refl _) _).setCell (Nat.le_refl _) _
  have z4 : W3.heap.size = w2.heap.size := by rw [hW3]; simp [World.setCell]
  have hE : W3.heap[w.heap.size + 1]? = some (.cells zs 44 (0, 0)) := (k3 _ (by omega)).trans hS.2
  have hr1 := owns_base (base' := w.heap.size) (owns_keep (w' := W3) ho1 (fun k hk => (k3 k (by have := hb1' k hk; omega)).trans (hb2.block k (hb1' k hk).2))) (by omega)
  have hr2 := owns_base (base' := w.heap.size) (owns_keep (w' := W3) ho2 (fun k hk => k3 k (by have := hb2' k hk; omega))) (by omega)
  rw [← hW3] at hT2 ⊢
  have HO : ∀ u ∈ (TcM.cells ⟨x.t, .slice va x.t.reads.length vc, .slice ua x.t.outs.length uc⟩), u.oneCell' = true := by
    intro u hu
    simp only [TcM.cells, List.mem_append, List.mem_cons, List.not_mem_nil, or_false] at hu
    rcases hu with hu | rfl | rfl
    · exact dgc_one _ u hu
    · rfl
    · rfl
  clear hW3 k3 ho1 ho2 hT1 fz fz2 y1 y2 y3 hS
  go_wp2_with first | (refine wl_ld rt44 (range_of_heap hT2) (TcM.len _) ?_) | (refine wl_st (xs := (TcM.cells ⟨x.t, .slice va x.t.reads.length vc, .slice ua x.t.outs.length uc⟩).toArray) rt44 hE hzs (by rw [List.size_toArray]; exact TcM.len _) HO ?_; intro W4 ht4 hn4 hs4)
  refine br (w.heap.size + 1) hn4 ⟨⟨x.t, .slice va x.t.reads.length vc, .slice ua x.t.outs.length uc⟩, rfl, rfl, ?_, ?_, ?_⟩ (hu := Tryz.underlying44) (hi := by rw [List.size_toArray, TcM.len]; kernel_rfl)
  · exact owns_keep hr1 (fun k hk => ht4.foot.block k (by have := hb1' k hk; omega) (by have := hb1' k hk; omega))
  · exact owns_keep hr2 (fun k hk => ht4.foot.block k (by have := hb2' k hk; omega) (by have := hb2' k hk; omega))
  · exact hB3.trans (ht4.below (by omega))
end Go.Proofs.YtlbipokkdiiaiaaGreatDoor
/- A row of traces in memory; slices.IndexFunc and slices.DeleteFunc of traces, with the function of db.Add. -/
namespace Go.Proofs.YtlbipokkdiiaiaaGreatDoor
open Go.RowKit Go.Proofs.YtlbipokkdiiaiaaGreatDoor.Exec
set_option maxRecDepth 100000
/-- Traces that lie in the block g, ahead of cells that stand for nothing. -/
structure TRow (w : World) (g cap : Nat) (l : List TcM) : Prop where
  out : ∃ rest : List Value, w.heap[g]? = some (.cells (l.flatMap TcM.cells ++ rest).toArray 44 (0, 0)) ∧ l.length * 34 + rest.length = cap * 34 ∧ l.length ≤ cap ∧ cap ≤ maxLen
theorem tcs_len (l : List TcM) : (l.flatMap TcM.cells).length = l.length * 34 := flat_len _ _ TcM.len l
theorem TRow.lt {w : World} {g cap : Nat} {l : List TcM} (h : TRow w g cap l) : g < w.heap.size := by
  obtain ⟨r, h, _⟩ := h
  exact (Array.getElem?_eq_some_iff.1 h).1
theorem TRow.owns {w : World} {g cap base : Nat} {l : List TcM} (h : TRow w g cap l) (hb : base ≤ g) : w.ownsRow base 44 34 (.slice (some ⟨g, 0, none⟩) l.length cap) l.length (l.flatMap TcM.cells) := by
  obtain ⟨r, h, hr, hc, hm⟩ := h
  refine ⟨tcs_len l, .inr ⟨g, cap, _, rfl, hb, h, hc, hm, by rw [List.size_toArray, List.length_append, tcs_len, hr], ?_⟩⟩
  rw [← tcs_len l]; simp
theorem TRow.of_owns {w : World} {g off cap n base : Nat} {l : List TcM} (h : w.ownsRow base 44 34 (.slice (some ⟨g, off, none⟩) n cap) l.length (l.flatMap TcM.cells)) : off = 0 ∧ n = l.length ∧ base ≤ g ∧ TRow w g cap l := by
  obtain ⟨_, ⟨h, _⟩ | ⟨g', cap', cur, h1, hb, hg, hc, hm, hs, ht⟩⟩ := h
  · cases h
  · simp only [Value.slice.injEq, Option.some.injEq, Addr.mk.injEq, and_true] at h1
    obtain ⟨⟨rfl, rfl⟩, rfl, rfl⟩ := h1
    refine ⟨rfl, rfl, hb, ⟨cur.toList.drop (l.length * 34), ?_, ?_, hc, hm⟩⟩
    · rw [← ht, List.take_append_drop, Array.toArray_toList]; exact hg
    · have h2 : cur.toList.length = cap * 34 := (Array.length_toList).trans hs
      have : l.length * 34 ≤ cap * 34 := Nat.mul_le_mul_right _ hc
      rw [List.length_drop, h2]
      omega
theorem TRow.at {w : World} {g cap : Nat} {l : List TcM} (h : TRow w g cap l) (k : Nat) (hk : k < l.length) : w.rangeAt g (k * 34) l[k].cells := by
  obtain ⟨r, h, _⟩ := h
  intro j v hv
  have hj : j < 34 := by rw [← TcM.len l[k]]; exact (List.getElem?_eq_some_iff.1 hv).1
  have hk2 : (k + 1) * 34 ≤ l.length * 34 := Nat.mul_le_mul_right _ hk
  rw [cell_of_row _ _ _ _ _ _ h, List.getElem?_toArray, List.getElem?_append_left (by rw [tcs_len]; omega), flat_at _ _ TcM.len l k hk j hj]
  exact hv
theorem TRow.keep {w w' : World} {g cap : Nat} {l : List TcM} (h : TRow w g cap l) (hk : w'.heap[g]? = w.heap[g]?) : TRow w' g cap l := by
  obtain ⟨r, h, hr⟩ := h
  exact ⟨r, hk.trans h, hr⟩
theorem flat_mid (a b : List TcM) (y x : TcM) (r : List Value) : ((a ++ y :: b).flatMap TcM.cells ++ r).take (a.length * 34) ++ x.cells ++ ((a ++ y :: b).flatMap TcM.cells ++ r).drop (a.length * 34 + 34) = (a ++ x :: b).flatMap TcM.cells ++ r := by
  have e : (a ++ y :: b).flatMap TcM.cells ++ r = a.flatMap TcM.cells ++ (y.cells ++ (b.flatMap TcM.cells ++ r)) := by simp
  have e2 : (a ++ y :: b).flatMap TcM.cells ++ r = (a.flatMap TcM.cells ++ y.cells) ++ (b.flatMap TcM.cells ++ r) := by simp
  have t : ((a ++ y :: b).flatMap TcM.cells ++ r).take (a.length * 34) = a.flatMap TcM.cells := by rw [e]; exact List.take_left' (tcs_len a)
  have d : ((a ++ y :: b).flatMap TcM.cells ++ r).drop (a.length * 34 + 34) = b.flatMap TcM.cells ++ r := by rw [e2]; exact List.drop_left' (by rw [List.length_append, tcs_len, TcM.len])
  rw [t, d]
  simp
theorem flat_set (l : List TcM) (k : Nat) (hk : k < l.length) (x : TcM) (r : List Value) : (l.flatMap TcM.cells ++ r).take (k * 34) ++ x.cells ++ (l.flatMap TcM.cells ++ r).drop (k * 34 + 34) = (l.set k x).flatMap TcM.cells ++ r := by
  obtain ⟨a, b, hab, rfl⟩ := split_at (List.getElem?_eq_getElem hk)
  generalize l[a.length] = y at hab
  subst hab
  rw [flat_mid a b y x r]
  simp
section
variable {ops : Array Oper} {rest : List Oper} {o : Oper} {a : Act} {w : World} {Q : Exit → Act → World → Prop}
/-- A trace is stored over one of a row. -/
theorem wl_sm {g cap k : Nat} {l : List TcM} {x : TcM} {p q : Operand} (hr : TRow w g cap l) (hk : k < l.length) (h1 : ∀ u ∈ x.cells, u.oneCell' = true)
    (h : ∀ W1, Turned g w W1 → TRow W1 g cap (l.set k x) → W1.heap.size = w.heap.size → wpList Tryz.prog ops Q rest (a.put o.dst undef) W1)
    (ho : o.op = .store 44 p q := by rfl) (hx : a.eval p = .pointer (some ⟨g, k * 34, none⟩) := by rfl) (hy : a.eval q = .agg x.cells.toArray := by rfl) (hw : Region.wanted o (yielded ops a.tmps) = true := by rfl) :
    wpList Tryz.prog ops Q (o :: rest) a w := by
  have hlt := hr.lt
  obtain ⟨r, hg, hl, hc, hm⟩ := hr
  have hk34 : (k + 1) * 34 ≤ l.length * 34 := Nat.mul_le_mul_right _ hk
  have hst := run_storeCells_at (P := Tryz.prog) g (k * 34) 44 x.cells 0 _ w hg (by rw [List.size_toArray, List.length_append, tcs_len, TcM.len]; omega) h1
  simp only [Nat.add_zero, TcM.len] at hst
  rw [flat_set l k hk x r] at hst
  have hi : (Tryz.prog.info? 44).map (·.size) = some 34 := by kernel_rfl
  refine wl_skip (w' := w.setRow g ((l.set k x).flatMap TcM.cells ++ r).toArray) ?_ (h _ ⟨hlt, rfl, rfl, rfl, by simp, fun k _ hne => setRow_other _ _ _ _ hne⟩ ⟨r, setRow_heap _ _ _ _ _ _ hg, by simpa using hl, by simpa using hc, hm⟩ (by simp)) hw
  unfold execOp
  cases hq : Tryz.prog.info? 44 with
  | none => rw [hq] at hi; cases hi
  | some i =>
    have hs : i.size = 34 := by rw [hq] at hi; simpa using hi
    simp [ho, hx, hy, Instr.storeAt, Instr.sureAddr, storeVar, sizeOf, typeInfo, hq, Value.cells, hs, TcM.len, hst]
end
theorem sameT_is (x y : TcM) (w : World) (hx : HeldT w x) (hy : HeldT w y) (b : Bool) (hb : decide (x.t = y.t) = b) :
    Calls Tryz.prog 12 #[x.val, y.val] w fun e w' => e = .returned (.bool b) ∧ Below w.heap.size w w' := hb ▸ sameT_any x y w hx hy
set_option maxHeartbeats 1000000 in
theorem addclo_any (x y : TcM) (q : Nat) (w : World) (hq : w.heap[q]? = some (.cells y.cells.toArray 44 (0, 0))) (hx : HeldT w x) (hy : HeldT w y) (b : Bool) (hb : decide (x.t = y.t) = b) :
    Calls Tryz.prog 119 #[x.val, .pointer (some ⟨q, 0, none⟩)] w fun e w' => e = .returned (.bool b) ∧ Below w.heap.size w w' := by
  have HX := hid hx
  have HY := hid hy
  have HQ := hid hq
  unfold TcM.val
  clear hx hy hq
  go_enter Tryz.func119, Tryz.ntmps119
  go_wp2_with first | (refine wl_box rt44 ?_; intro W0 hb0 hn0 hs0) | (refine wl_ld rt44 (range_of_heap hn0) (TcM.len _) ?_) | (refine wl_ld rt44 (range_of_heap ((hb0.block _ (lx HQ)).trans HQ.out)) (TcM.len _) ?_) | (go_at_call 12; refine (sameT_is x y W0 (HX.out.keep hb0) (HY.out.keep hb0) b hb).mono ?_; rintro e w1 ⟨rfl, hb1⟩)
  go_ret
  exact ⟨rfl, Below.chain hb0 hb1⟩
/-- The place of the first one that is the same. -/
def idxT (y : TcL) : Nat → List TcM → Int
  | _, [] => -1
  | k, x :: l => if x.t = y then (k : Int) else idxT y (k + 1) l
set_option maxHeartbeats 1000000 in
theorem idxT_any (l : List TcM) (y : TcM) (q : Nat) (v : Value) (w : World) (hq : w.heap[q]? = some (.cells y.cells.toArray 44 (0, 0))) (h0 : RowsOf w 34 TcM.cells v l) (hl : ∀ x ∈ l, HeldT w x) (hy : HeldT w y) :
    Calls Tryz.prog 169 #[v, .func (.func 119) #[] #[.pointer (some ⟨q, 0, none⟩)]] w fun e w' => e = .returned (.int .i64 (idxT y.t 0 l)) ∧ Below w.heap.size w w' := by
  obtain ⟨a0, c0, rfl, hc0, hm0, -, hx⟩ := h0.out TcM.len (by omega)
  unfold maxLen at hm0
  have HX := hid hx
  have HL := hid hl
  have HY := hid hy
  have HQ := hid hq
  clear h0 hx hl hy hq
  go_enter Tryz.func169, Tryz.ntmps169
  go_wp2_with fail
  go_loopw [8] (fun i wr => ∃ k : Nat, k ≤ l.length ∧ i = .int .i64 k ∧ idxT y.t 0 l = idxT y.t k (l.drop k) ∧ Below w.heap.size w wr) (fun i _ => l.length - (intOf i).toNat)
  case atStart => exact ⟨0, by omega, rfl, rfl, Below.refl _ _⟩
  case round =>
    obtain ⟨k, hk, rfl, he, hbe⟩ := hrel
    have He := hid he
    clear he
    by_cases hlt : k < l.length
    · obtain ⟨b, off, rfl, hbw, hcl⟩ := HX.out k hlt
      have L0 := range_keeps hbe (hcl k hlt)
      have HD := hid (drop_at l k hlt)
      rw [HD.out] at He
      have HK := hid ((HL.out l[k] (List.getElem_mem hlt)).keep hbe)
      have HQ2 := hid ((hbe.block _ (lx HQ)).trans HQ.out)
      have HY2 := hid (HY.out.keep hbe)
      have HB := hid hbe
      clear hcl hbe HD HX HL
      by_cases hs : l[k].t = y.t
      · have HC := hid (addclo_any l[k] y q wr HQ2.out HK.out HY2.out true (decide_eq_true hs))
        have HS := hid hs
        clear hs
        go_wp2_with first | (refine wl_ld rt44 L0 (TcM.len _) ?_) | (go_at_call 119; refine (HC.out).mono ?_; rintro e w1 ⟨rfl, hb1⟩)
        go_ret
        exact ⟨by rw [He.out, idxT, if_pos HS.out]; rfl, Below.chain HB.out hb1⟩
      · have HC := hid (addclo_any l[k] y q wr HQ2.out HK.out HY2.out false (decide_eq_false hs))
        have HS := hid hs
        clear hs
        go_wp2_with first | (refine wl_ld rt44 L0 (TcM.len _) ?_) | (go_at_call 119; refine (HC.out).mono ?_; rintro e w1 ⟨rfl, hb1⟩)
        exact ⟨⟨k + 1, by omega, by go_num, by rw [He.out, idxT, if_neg HS.out], Below.chain HB.out hb1⟩, by simp [intOf]; omega⟩
    · obtain rfl : k = l.length := by omega
      go_wp2_with fail
      go_ret
      exact ⟨by rw [He.out, List.drop_length]; rfl, hbe⟩
end Go.Proofs.YtlbipokkdiiaiaaGreatDoor
/- slices.DeleteFunc of traces, with the function of db.Add. -/
namespace Go.Proofs.YtlbipokkdiiaiaaGreatDoor
open Go.RowKit Go.Proofs.YtlbipokkdiiaiaaGreatDoor.Exec
set_option maxRecDepth 100000
noncomputable def zeroOne (E : Nat) : Bool := match Tryz.prog.info? E with | some i => (match i.zero with | some z => z.cells.all (·.oneCell') | _ => false) | none => false
theorem zero44 : ∃ z : Value, z.cells.size = 34 ∧ (∀ u ∈ z.cells.toList, u.oneCell' = true) ∧ ∀ w, (zeroValue 44).run Tryz.prog w = .ok z w := by
  obtain ⟨i, z, hi, hz, hs, -, hzs⟩ := infoOk_out (E := 44) (sz := 34) (by_ := 80) (by kernel_rfl)
  have h1 : zeroOne 44 = true := by kernel_rfl
  unfold zeroOne at h1
  rw [hi] at h1
  simp only [hz] at h1
  exact ⟨z, hzs, fun u hu => (Array.all_eq_true_iff_forall_mem.1 h1) u (by simpa using hu), fun w => by simp [zeroValue, typeInfo, hi, hz]⟩
theorem zeros_one {z : Array Value} (h : ∀ u ∈ z.toList, u.oneCell' = true) (h0 : 0 < z.size) (n : Nat) : ∀ u ∈ (Builtin.zeroCells z n).toList, u.oneCell' = true := by
  intro u hu
  simp only [Builtin.zeroCells, Array.toList_map, List.mem_map] at hu
  obtain ⟨i, _, rfl⟩ := hu
  have hm : i % z.size < z.size := Nat.mod_lt _ h0
  rw [getElem!_pos z (i % z.size) hm]
  exact h _ (by simp)
theorem clear_row {w : World} {g cap : Nat} {l : List TcM} (hr : TRow w g cap l) (i : Nat) (hi : i < l.length) :
    ∃ W, (∀ ty c, (Builtin.clear_ #[32] ty #[.slice (some ⟨g, i * 34, none⟩) (l.length - i) c]).run Tryz.prog w = .ok (.tuple #[]) W) ∧ Turned g w W ∧ TRow W g cap (l.take i) := by
  have hlt := hr.lt
  obtain ⟨r, hg, hl, hc, hm⟩ := hr
  obtain ⟨z, hzs, hz1, hz⟩ := zero44
  have hZ : (Builtin.zeroCells z.cells (l.length - i)).toList.length = (l.length - i) * 34 := by rw [Array.length_toList, size_zeroCells, hzs]
  have hi34 : i * 34 + (l.length - i) * 34 = l.length * 34 := by rw [← Nat.add_mul]; congr 1; omega
  have hst := run_storeCells_at (P := Tryz.prog) g (i * 34) 44 (Builtin.zeroCells z.cells (l.length - i)).toList 0 _ w hg (by rw [List.size_toArray, List.length_append, tcs_len, hZ]; omega) (zeros_one hz1 (by omega) _)
  simp only [Nat.add_zero, hZ] at hst
  have ht : ((l.flatMap TcM.cells ++ r).take (i * 34)) = (l.take i).flatMap TcM.cells := by
    have e : l.flatMap TcM.cells ++ r = (l.take i).flatMap TcM.cells ++ ((l.drop i).flatMap TcM.cells ++ r) := by
      rw [← List.append_assoc, ← List.flatMap_append, List.take_append_drop]
    rw [e]
    exact List.take_left' (by rw [tcs_len, List.length_take, Nat.min_eq_left (by omega)])
  rw [ht] at hst
  have hd : ((l.flatMap TcM.cells ++ r).drop (i * 34 + (l.length - i) * 34)) = r := by
    rw [hi34]
    exact List.drop_left' (tcs_len l)
  rw [hd] at hst
  refine ⟨w.setRow g ((l.take i).flatMap TcM.cells ++ ((Builtin.zeroCells z.cells (l.length - i)).toList ++ r)).toArray, fun ty c => ?_, ⟨hlt, rfl, rfl, rfl, by simp, fun k _ hne => setRow_other _ _ _ _ hne⟩, ⟨(Builtin.zeroCells z.cells (l.length - i)).toList ++ r, ?_, ?_, ?_, hm⟩⟩
  rotate_left
  · exact setRow_heap _ _ _ _ _ _ hg
  · rw [List.length_append, hZ, List.length_take, Nat.min_eq_left (by omega)]; omega
  · rw [List.length_take]; omega
  · obtain ⟨m, hm⟩ : ∃ m, l.length - i = m + 1 := ⟨l.length - i - 1, by omega⟩
    rw [hm] at hst ⊢
    have hu : Tryz.prog.underlying 32 = some (.slice 44) := Tryz.underlying32
    simp [Builtin.clear_, run_underlying hu, hz, hst]
/-- Those that are not the same. -/
def filterT (y : TcL) (l : List TcM) : List TcM := l.filter fun x => !decide (x.t = y)
theorem filterT_one (y : TcL) (x : TcM) (l : List TcM) : filterT y (x :: l) = if x.t = y then filterT y l else x :: filterT y l := by
  unfold filterT
  rw [List.filter_cons]
  by_cases h : x.t = y <;> simp [h]
theorem idxT_cases (y : TcL) : ∀ (l : List TcM) (k : Nat), (idxT y k l = -1 ∧ filterT y l = l) ∨ ∃ i, i < l.length ∧ idxT y k l = ((k + i : Nat) : Int) ∧ filterT y (l.take (i + 1)) = l.take i
  | [], _ => .inl ⟨rfl, rfl⟩
  | x :: l, k => by
    by_cases h : x.t = y
    · refine .inr ⟨0, by simp, by simp [idxT, h], ?_⟩
      simp only [Nat.zero_add, List.take_succ_cons, List.take_zero]
      rw [filterT_one, if_pos h]; rfl
    · rcases idxT_cases y l (k + 1) with ⟨h1, h2⟩ | ⟨i, h1, h2, h3⟩
      · exact .inl ⟨by rw [idxT, if_neg h, h1], by rw [filterT_one, if_neg h, h2]⟩
      · refine .inr ⟨i + 1, by simpa using h1, by rw [idxT, if_neg h, h2]; congr 1; omega, ?_⟩
        rw [List.take_succ_cons, filterT_one, if_neg h, h3]; rfl
theorem filterT_take (y : TcL) (l : List TcM) (j : Nat) (h : j < l.length) : filterT y (l.take (j + 1)) = if l[j].t = y then filterT y (l.take j) else filterT y (l.take j) ++ [l[j]] := by
  unfold filterT
  rw [take_at _ _ h, List.filter_append]
  by_cases e : l[j].t = y <;> simp [e]
theorem take_set_at {α : Type} {ys : List α} {i : Nat} (x : α) (h : i < ys.length) : (ys.set i x).take (i + 1) = ys.take i ++ [x] := by
  rw [take_at _ i (by simpa using h), List.take_set, List.set_eq_of_length_le (by simp; omega)]
  simp
/-- The same row, perhaps of another length. -/
def SameRow (v' v : Value) : Prop := ∃ a n n' c, v' = .slice a n c ∧ v = .slice a n' c
theorem SameRow.own {v' v : Value} (h : SameRow v' v) : v'.ownBlock = v.ownBlock := by
  obtain ⟨a, n, n', c, rfl, rfl⟩ := h
  cases a <;> rfl
theorem SameRow.cap {v' v : Value} (h : SameRow v' v) (hc : ∀ a n c, v = .slice (some a) n c → 1 ≤ c) : ∀ a n c, v' = .slice (some a) n c → 1 ≤ c := by
  obtain ⟨a, n, n', c, rfl, rfl⟩ := h
  intro a' m c' e
  simp only [Value.slice.injEq] at e
  obtain ⟨rfl, -, rfl⟩ := e
  exact hc _ _ _ rfl
set_option maxHeartbeats 4000000 in
theorem delete_any (l : List TcM) (y : TcM) (q base : Nat) (v : Value) (w : World) (hq : w.heap[q]? = some (.cells y.cells.toArray 44 (0, 0))) (hown : w.ownsRow base 44 34 v l.length (l.flatMap TcM.cells)) (hlen : l.length ≤ 1000) (hqv : v.ownBlock ≠ some q)
    (hh : ∀ W, Foot (fun b => v.ownBlock = some b) w W → (∀ x ∈ l, HeldT W x) ∧ HeldT W y) :
    Calls Tryz.prog 118 #[v, .func (.func 119) #[] #[.pointer (some ⟨q, 0, none⟩)]] w fun e w' => ∃ v', e = .returned v' ∧ SameRow v' v ∧ w'.ownsRow base 44 34 v' (filterT y.t l).length ((filterT y.t l).flatMap TcM.cells) ∧ Foot (fun b => v.ownBlock = some b) w w' := by
  have h0 := rows_of_owns hown (by unfold maxLen; omega)
  have hw := hh w (Foot.refl _ _)
  have HI := hid (idxT_any l y q v w hq h0 hw.1 hw.2)
  rcases idxT_cases y.t l 0 with ⟨h1, h2⟩ | ⟨i0, h1, h2, h3⟩
  · rw [h1] at HI
    have HF := hid h2
    have HO := hid hown
    obtain ⟨a0, c0, rfl⟩ := owns_form hown
    clear h0 hw h1 h2 hown hh hq hqv
    go_enter Tryz.func118, Tryz.ntmps118
    go_wp2_with (go_at_call 169; refine (HI.out).mono ?_; rintro e w1 ⟨rfl, hb1⟩)
    go_ret
    exact ⟨_, rfl, ⟨_, _, _, _, rfl, rfl⟩, by rw [HF.out]; exact owns_keep HO.out (fun k hk => hb1.block k (HO.out.lt k hk).2), Foot.of_below hb1⟩
  · rw [h2] at HI
    obtain ⟨a0, c0, rfl⟩ := owns_form hown
    cases a0 with
    | none =>
      obtain ⟨_, ⟨_, h⟩ | ⟨g, cap, cur, h, _⟩⟩ := hown
      · omega
      · cases h
    | some ad =>
      obtain ⟨g, off, sp⟩ := ad
      obtain rfl : sp = none := by
        obtain ⟨_, ⟨h, _⟩ | ⟨g', cap, cur, h, _⟩⟩ := hown
        · cases h
        · simp only [Value.slice.injEq, Option.some.injEq, Addr.mk.injEq] at h
          exact h.1.2.2
      obtain ⟨rfl, -, hgb, hrow⟩ := TRow.of_owns hown
      have HR := hid hrow
      have HH := hid hh
      have HQ := hid hq
      have HF := hid h3
      have hqg : q ≠ g := fun e => hqv (by rw [e]; rfl)
      have hcap : l.length ≤ c0 ∧ c0 ≤ 9223372036854775807 := by
        obtain ⟨r, _, _, h5, h6⟩ := hrow
        exact ⟨h5, by unfold maxLen at h6; omega⟩
      clear h0 hw h2 hown hh hq hqv hrow h3
      go_enter Tryz.func118, Tryz.ntmps118
      go_wp2_with (go_at_call 169; refine (HI.out).mono ?_; rintro e w1 ⟨rfl, hb1⟩)
      go_loopw [5, 6] (fun a b wr => ∃ (i j : Nat) (ys : List TcM), a = .int .i64 i ∧ b = .int .i64 j ∧ i < j ∧ j ≤ l.length ∧ ys.length = l.length ∧ ys.take i = filterT y.t (l.take j) ∧ ys.drop j = l.drop j ∧ TRow wr g c0 ys ∧ wr.heap[q]? = some (.cells y.cells.toArray 44 (0, 0)) ∧ Foot (fun b => some g = some b) w wr) (fun _ b _ => l.length - (intOf b).toNat)
      case atStart => exact ⟨i0, i0 + 1, l, by simp, by go_num, by omega, by omega, rfl, HF.out.symm, rfl, HR.out.keep (hb1.block g HR.out.lt), (hb1.block q (lx HQ)).trans HQ.out, Foot.of_below hb1⟩
      case round =>
        obtain ⟨i, j, ys, rfl, rfl, hij, hjn, hyl, hti, hdj, hrow, hqr, hbw⟩ := hrel
        by_cases hlt : j < l.length
        · have hd1 := drop_at ys j (by omega)
          have hd2 := drop_at l j hlt
          rw [hd1, hd2] at hdj
          obtain ⟨hyj, hdj⟩ := List.cons.inj hdj
          have L0 := hrow.at j (by omega)
          rw [hyj] at L0
          have HW := hid (HH.out wr hbw)
          have HJ := hid ((HW.out.1) l[j] (List.getElem_mem hlt))
          have HT := hid (filterT_take y.t l j hlt)
          have HTI := hid hti
          have HDJ := hid hdj
          have HRW := hid hrow
          have HQR := hid hqr
          have HB := hid hbw
          clear hti hdj hd1 hd2 hrow hqr hbw hyj
          generalize l[j] = x at L0 HJ HT
          have hgl := HRW.out.lt
          by_cases hs : x.t = y.t
          · have HC := hid (fun W hb => addclo_any x y q W ((Below.block hb q (lx HQR)).trans HQR.out) (HJ.out.keep hb) (HW.out.2.keep hb) true (decide_eq_true hs))
            have HT2 := hid (show filterT y.t (l.take (j + 1)) = filterT y.t (l.take j) by rw [HT.out, if_pos hs])
            clear hs HT
            go_wp2_with first | (refine wl_ld rt44 L0 (TcM.len _) ?_) | (refine wl_new (xs := x.cells.toArray) rt44 (by rw [List.size_toArray]; exact TcM.len _) (HJ.out.one) ?_; intro W2 hb2 hn2 hs2) | (refine wl_ld rt44 (range_of_heap hn2) (TcM.len _) ?_) | (go_at_call 119; refine (HC.out _ hb2).mono ?_; rintro e w3 ⟨rfl, hb3⟩)
            have hb4 := Below.chain hb2 hb3
            refine ⟨?_, by simp [intOf]; omega⟩
            (repeat apply Exists.intro)
            exact ⟨⟨i, j + 1, ys, rfl, by go_num, by omega, by omega, hyl, by rw [HTI.out, HT2.out], HDJ.out, HRW.out.keep (hb4.block g hgl), (hb4.block q (lx HQR)).trans HQR.out, HB.out.then hb4⟩, rfl⟩
          · have HC := hid (fun W hb => addclo_any x y q W ((Below.block hb q (lx HQR)).trans HQR.out) (HJ.out.keep hb) (HW.out.2.keep hb) false (decide_eq_false hs))
            have HT2 := hid (show filterT y.t (l.take (j + 1)) = filterT y.t (l.take j) ++ [x] by rw [HT.out, if_neg hs])
            clear hs HT
            go_wp2_with first | (refine wl_ld rt44 L0 (TcM.len _) ?_) | (refine wl_new (xs := x.cells.toArray) rt44 (by rw [List.size_toArray]; exact TcM.len _) (HJ.out.one) ?_; intro W2 hb2 hn2 hs2) | (refine wl_ld rt44 (range_of_heap hn2) (TcM.len _) ?_) | (go_at_call 119; refine (HC.out _ hb2).mono ?_; rintro e w3 ⟨rfl, hb3⟩; have hn3 := (hb3.block _ (by omega)).trans hn2; have hr3 := HRW.out.keep ((Below.chain hb2 hb3).block g hgl)) | (refine wl_ld rt44 (range_of_heap hn3) (TcM.len _) ?_) | (refine wl_sm (k := i) hr3 (by omega) HJ.out.one ?_; intro W4 ht4 hr4 hs4)
            have hb4 := Below.chain hb2 hb3
            have hz := hb4.size
            refine ⟨?_, by simp [intOf]; omega⟩
            (repeat apply Exists.intro)
            exact ⟨⟨i + 1, j + 1, ys.set i x, by go_num, by go_num, by omega, by omega, by simpa using hyl, by rw [take_set_at _ (by omega), HTI.out, HT2.out], by rw [List.drop_set_of_lt (by omega)]; exact HDJ.out, hr4, (ht4.foot.block q (by have := lx HQR; omega) hqg).trans ((hb4.block q (lx HQR)).trans HQR.out), (HB.out.then hb4).trans ht4.foot (fun b _ e => by rw [e])⟩, rfl⟩
        · obtain rfl : j = l.length := by omega
          rw [List.take_length] at hti
          obtain ⟨W5, hcl, ht5, hr5⟩ := clear_row hrow i (by omega)
          rw [hyl] at hcl
          have HTI := hid hti
          have HB := hid hbw
          clear hti hdj hrow hqr hbw
          go_wp2_with fail
          go_ret
          have hli : (ys.take i).length = i := by rw [List.length_take]; omega
          have ho := hr5.owns hgb
          rw [hli] at ho
          exact ⟨_, rfl, ⟨_, _, _, _, rfl, rfl⟩, by rw [← HTI.out, hli]; exact ho, HB.out.trans ht5.foot (fun b _ e => by rw [e])⟩
end Go.Proofs.YtlbipokkdiiaiaaGreatDoor
