/- Lemmas for TopTwice: W19, W32. -/
import Derived.Test.YtlbipokkdiiaiaaGreatDoorU27
import Derived.Test.YtlbipokkdiiaiaaGreatDoorU20
open List renaming setIfInBounds_toArray → sA, set_cons_zero → sB, set_cons_succ → sC
namespace Go.Proofs.YtlbipokkdiiaiaaGreatDoor
open Go.RowKit Go.Proofs.YtlbipokkdiiaiaaGreatDoor.Exec
set_option maxRecDepth 100000
theorem tcs_one {w : World} {l : List TcM} (h : ∀ x ∈ l, HeldT w x) : ∀ u ∈ tcs l, u.oneCell' = true := one_flat fun x hx => (h x hx).one
set_option maxHeartbeats 4000000 in
theorem dbOf_any {B : Nat} {D I : Nat → Prop} {w : World} {dp mb : Nat} {M : Dg → Option Value} {L : Dg → List TcM} (hdb : DbIs B D I w dp mb M L) (key : Dg) :
  Calls Tryz.prog 74 #[.pointer (some ⟨dp, 0, none⟩), dgv key] w fun e w' => ∃ (v : Value) (ys : List TcM), e = .returned v ∧ ys.map (·.t) = (L key).map (·.t) ∧ RowsOf w' 34 TcM.cells v ys ∧ (∀ y ∈ ys, HeldT w' y) ∧ ((∀ k, v.ownBlock = some k → w.heap.size ≤ k) ∧ ∀ y ∈ ys, InT (fun k => w.heap.size ≤ k) y) ∧ Below w.heap.size w w' := by
 obtain ⟨o, hmo, hMo⟩ := hdb.mp
 obtain ⟨s0, hs0⟩ : ∃ s0, s0 = (M key).getD nilS := ⟨_, rfl⟩
 have hrow0 := hdb.row key
 rw [← hs0] at hrow0
 have ht170 : Tryz.prog.underlying 170 = some (.map 31 32) := by kernel_rfl
 have HLK := hid (fun (W : World) (h : W.heap[mb]? = some o) => show (Instr.lookup 170 (.map (some mb)) (.agg (dgc key).toArray) false).run Tryz.prog W = .ok s0 W by
  have := hMo.look keyDg h ht170 (z := nilS) rfl key false
  simp only [Bool.false_eq_true, if_false, ← hs0] at this
  exact this)
 have hdpw := (hdb.db_ dp hdb.dd).2
 have hmbw := (hdb.db_ mb hdb.dm).2
 have HBX := hid (fun (W : World) (hb : Below w.heap.size w W) => And.intro ((hb.block dp hdpw).trans hdb.db) ((hb.block mb hmbw).trans hmo))
 have HROW := hid hrow0
 have HFEW := hid (hdb.few key)
 have HHELD := hid (fun x hx => And.intro (hdb.held key x hx).1 (goodT (hdb.held key x hx).2.2.1))
 clear hrow0 hmo hMo hdb hs0 ht170
 generalize L key = l at *
 unfold dgv
 go_enter Tryz.func74, Tryz.ntmps74
 go_wp2_with first | (refine wl_box rt31 ?_; intro W0 hb0 hn0 hs0')
 have HKeepB := hid (fun (W : World) (hb : Below W0.heap.size W0 W) => And.intro ((hb.block w.heap.size (by omega)).trans hn0) (HBX.out W (Below.chain hb0 hb)))
 have HCl := hid (fun (W : World) (hb : Below W0.heap.size W0 W) => cloneT_any s0 l W (SliceAt.below (rows_of_owns HROW.out (by unfold maxLen; have := HFEW.out; omega)) (Below.chain hb0 hb) (Nat.le_refl _)) (tcs_one fun x hx => (HHELD.out x hx).1) (by have := HFEW.out; omega))
 refine wp_region_wl (fun W => W.heap[w.heap.size]? = some (.cells (dgc key).toArray 31 (0, 0)) ∧ W.heap[dp]? = some (.cells #[.int .i64 8, .map (some mb)] 172 (0, 0)) ∧ W.heap[mb]? = some o) 7 (by kernel_rfl) ?_
 intro Wd hbd
 have hS := HKeepB.out _ hbd
 refine WL.tp 0 (some 9) (hi := rfl) (.inr hS) ?_
 apply Exists.intro
 refine ⟨fun W => ?_, ?_⟩
 ·go_simp
  try rfl
 try simp only [Act.put, sA, sB, sC]
 refine WL.tp 1 (some 10) (hi := rfl) (.inr hS) ?_
 apply Exists.intro
 refine ⟨fun W => ?_, ?_⟩
 ·go_simp
  try rfl
 try simp only [Act.put, sA, sB, sC]
 refine WL.tp 2 (some 11) (hi := rfl) (.inr hS) ?_
 apply Exists.intro
 refine ⟨fun W => ?_, ?_⟩
 ·go_simp
  try rfl
 try simp only [Act.put, sA, sB, sC]
 refine WL.te 3 (some 12) (hi := rfl) hS ?_
 apply Exists.intro
 refine ⟨fun W hW => ?_, ?_⟩
 ·obtain ⟨e0, e1, e2⟩ := hW; have e3 := cell_of_row _ _ 0 _ _ _ e1; have e4 := cell_of_row _ _ 1 _ _ _ e1; have e5 := HLK.out _ e2; clear e0 e1 e2
  go_simp
  try rfl
 try simp only [Act.put, sA, sB, sC]
 refine WL.ld 4 (some 13) rt31 (fun W hW => range_of_heap hW.1) (dgc_len _) (hi := rfl) hS ?_
 try simp only [Act.put, sA, sB, sC]
 refine WL.te 5 (some 14) (hi := rfl) hS ?_
 apply Exists.intro
 refine ⟨fun W hW => ?_, ?_⟩
 ·obtain ⟨e0, e1, e2⟩ := hW; have e3 := cell_of_row _ _ 0 _ _ _ e1; have e4 := cell_of_row _ _ 1 _ _ _ e1; have e5 := HLK.out _ e2; clear e0 e1 e2
  go_simp
  try rfl
 try simp only [Act.put, sA, sB, sC]
 refine WL.o 6 (hi := rfl) ?_
 intro K hK
 go_simp
 refine (HCl.out Wd hbd).mono ?_
 rintro e W2 ⟨v1, rfl, ho1, hb2⟩
 have hS2 := And.intro ((hb2.block _ (lx (hid hS.1))).trans hS.1) (And.intro ((hb2.block _ (lx (hid hS.2.1))).trans hS.2.1) ((hb2.block _ (lx (hid hS.2.2))).trans hS.2.2))
 refine hK.out _ _ (.inr hS2) ?_
 clear hK K
 try simp only [Act.put, sA, sB, sC]
 refine WL.o 7 (hi := rfl) ?_
 intro K hK
 go_simp
 refine hK.out _ _ (.inl (by kernel_rfl)) ?_
 clear hK K
 try simp only [Act.put, sA, sB, sC]
 refine WL.d ?_
 have HB2 := hid (Below.chain hb0 (Below.chain hbd hb2))
 have hz0 : w.heap.size < Wd.heap.size := by have := hbd.size; omega
 have HO := hid (owns_base ho1 (Nat.le_of_lt hz0))
 have HO1 := hid ho1
 obtain ⟨a1, c1, rfl⟩ := owns_form ho1
 clear ho1 hS hS2
 go_wp2_with fail
 go_loopw [18] (fun i wr => ∃ (k : Nat) (ys : List TcM), k ≤ l.length ∧ i = .int .i64 k ∧ ys.length = k ∧ ys.map (·.t) = (l.take k).map (·.t) ∧ wr.ownsRow w.heap.size 44 34 (.slice a1 l.length c1) l.length (tcs (ys ++ l.drop k)) ∧ (∀ y ∈ ys, HeldT wr y ∧ InT (fun b => (Value.slice a1 l.length c1).ownBlock ≠ some b ∧ w.heap.size ≤ b) y) ∧ Below w.heap.size w wr) (fun i _ => l.length - (intOf i).toNat)
 case atStart => exact ⟨0, [], by omega, rfl, rfl, rfl, HO.out, by simp, HB2.out⟩
 case round =>
  obtain ⟨k, ys, hk, rfl, hyl, hyt, ho, hyh, hbe⟩ := hrel
  by_cases hlt : k < l.length
  ·have hll : (ys ++ l.drop k).length = l.length := by rw [List.length_append, List.length_drop]; omega
   cases a1 with
   | none =>
     obtain ⟨_, ⟨_, h0⟩ | ⟨g, cap, cur, h, _⟩⟩ := ho
     ·omega
     ·cases h
   | some ad =>
     obtain ⟨g, off, sp⟩ := ad
     obtain rfl : sp = none := by
      obtain ⟨_, ⟨h, _⟩ | ⟨g', cap, cur, h, _⟩⟩ := ho
      ·cases h
      ·simp only [Value.slice.injEq, Option.some.injEq, Addr.mk.injEq] at h
       exact h.1.2.2
     have ho' := ho
     rw [← hll] at ho'
     obtain ⟨rfl, -, hgb, hrow⟩ := TRow.of_owns ho'
     have hkl : k < (ys ++ l.drop k).length := by omega
     have hxk : (ys ++ l.drop k)[k] = l[k] := by
      rw [List.getElem_append_right (by omega)]
      simp [hyl]
     have L0 := hrow.at k hkl
     rw [hxk] at L0
     have HS := hid (show (ys ++ l.drop k).set k = fun y => (ys ++ [y]) ++ l.drop (k + 1) from by
      funext y
      have h9 : ∀ (r : List TcM) (z : TcM), (ys ++ z :: r).set k y = (ys ++ [y]) ++ r := fun r z => by rw [← hyl]; simp
      rw [drop_at l k hlt]
      exact h9 _ _)
     have HX := hid (And.intro ((HHELD.out l[k] (List.getElem_mem hlt)).1.keep hbe) (HHELD.out l[k] (List.getElem_mem hlt)).2)
     have HT := hid (take_at l k hlt)
     have HR := hid hrow
     have HY := hid hyh
     have HYT := hid hyt
     have HB := hid hbe
     have HGB := hid hgb
     have hl8 : l.length ≤ 8 := HFEW.out
     clear ho ho' hrow hyh hyt hbe hxk hgb
     go_wp2_with first | (refine wl_ld rt44 L0 (TcM.len _) ?_) | (go_at_call 115; refine (cloneD_any l[k] wr HX.out.1 (by have := HX.out.2.nr; omega) (by have := HX.out.2.no; omega)).mono ?_; rintro e W3 ⟨y, hyt2, rfl, hyr, hyo, hb3⟩; have HY3 := hid (show HeldT W3 y from ⟨rows_of_owns (by rw [hyt2]; exact hyr) (by rw [hyt2]; unfold maxLen; have := HX.out.2.nr; omega), rows_of_owns (by rw [hyt2]; exact hyo) (by rw [hyt2]; unfold maxLen; have := HX.out.2.no; omega)⟩); have hrw3 := HR.out.keep (hb3.block g HR.out.lt)) | (refine wl_sm (k := k) hrw3 hkl HY3.out.one ?_; intro W4 ht4 hr4 hs4)
     rw [HS.out] at hr4
     have hgl := HR.out.lt
     refine ⟨⟨k + 1, ys ++ [y], by omega, by go_num, by simp [hyl], by rw [HT.out, List.map_append, List.map_append, HYT.out]; simp [hyt2], ?_, fun y' hy' => ?_, (Below.chain HB.out hb3).trans (ht4.below HGB.out)⟩, by simp [intOf]; omega⟩
     ·have := hr4.owns HGB.out
      have hl4 : (ys ++ [y] ++ l.drop (k + 1)).length = l.length := by simp only [List.length_append, List.length_drop, List.length_cons, List.length_nil]; omega
      rw [hl4] at this
      exact this
     ·rcases List.mem_append.1 hy' with hy' | hy'
      ·obtain ⟨h1, h2⟩ := HY.out y' hy'
       refine ⟨(h1.keep hb3).stay ht4.foot.size fun k' hk' hw' => ht4.foot.block k' hw' fun e => ?_, h2⟩
       rcases hk' with hk' | hk'
       ·exact (h2.1 k' hk').1 (by rw [e]; rfl)
       ·exact (h2.2 k' hk').1 (by rw [e]; rfl)
      ·obtain rfl := List.mem_singleton.1 hy'
       refine ⟨HY3.out.stay ht4.foot.size fun k' hk' hw' => ht4.foot.block k' hw' fun e => ?_, fun k' hk' => ⟨fun e => ?_, by have := (hyr.lt k' hk').1; have := HB.out.size; omega⟩, fun k' hk' => ⟨fun e => ?_, by have := (hyo.lt k' hk').1; have := HB.out.size; omega⟩⟩
       ·rcases hk' with hk' | hk'
        ·have := (hyr.lt k' hk').1; omega
        ·have := (hyo.lt k' hk').1; omega
       ·have h5 := (hyr.lt k' hk').1
        have h6 : g = k' := Option.some.inj e
        omega
       ·have h5 := (hyo.lt k' hk').1
        have h6 : g = k' := Option.some.inj e
        omega
  ·obtain rfl : k = l.length := by omega
   have HY := hid (And.intro hyh (And.intro hyt hyl))
   have HO4 := hid ho
   have HB := hid hbe
   clear hyh hyt ho hbe hyl
   go_wp2_with fail
   go_ret
   obtain ⟨h1, h2, h3⟩ := HY.out
   have h4 := HO4.out
   rw [List.drop_length, List.append_nil] at h4
   rw [List.take_length] at h2
   rw [← h3] at h4
   exact ⟨_, rfl, ys, h2, by rw [← h3]; exact rows_of_owns h4 (by unfold maxLen; have := HFEW.out; omega), fun y hy => (h1 y hy).1, ⟨fun k hk => (h4.lt k (by rw [← h3] at hk; exact hk)).1, fun y hy => ⟨fun k hk => ((h1 y hy).2.1 k hk).2, fun k hk => ((h1 y hy).2.2 k hk).2⟩⟩, HB.out⟩
end Go.Proofs.YtlbipokkdiiaiaaGreatDoor
namespace Go.Proofs.YtlbipokkdiiaiaaGreatDoor
open Go.RowKit Go.Proofs.YtlbipokkdiiaiaaGreatDoor.Exec
set_option maxRecDepth 100000
structure CaL where
 most : Nat
 rows : List (Dg × List UInt8)
 db : Dg → List TcL
def CacheIs (B : Nat) (F : Nat → Prop) (w : World) (cb : Nat) (c : CaL) : Prop :=
 ∃ (R D I : Nat → Prop) (rb dp mb : Nat) (M : Dg → Option Value) (l : List Rw) (L : Dg → List TcM), (∀ k, F k ↔ R k ∨ D k ∨ I k) ∧ RingIs B R w cb rb dp c.most l ∧ plainR l = c.rows ∧ DbIs B D I w dp mb M L ∧ (∀ d, (L d).map (·.t) = c.db d) ∧ (∀ k, R k → ¬ D k ∧ ¬ I k) ∧ ∀ k, I k → B ≤ k
def Went (B : Nat) (F : Nat → Prop) (w w' : World) (cb : Nat) (c' : CaL) : Prop := ∃ F' : Nat → Prop, (∀ k, F' k → F k ∨ w.heap.size ≤ k) ∧ Foot F w w' ∧ CacheIs B F' w' cb c'
theorem CacheIs.bd {B : Nat} {F : Nat → Prop} {w : World} {cb : Nat} {c : CaL} (h : CacheIs B F w cb c) : ∀ k, F k → B ≤ k ∧ k < w.heap.size := by
 obtain ⟨R, D, I, rb, dp, mb, M, l, L, hF, hR, -, hD, -, -, hIB⟩ := h
 intro k hk
 rcases (hF k).1 hk with h | h | h
 ·exact hR.bd k h
 ·exact hD.db_ k h
 ·exact ⟨hIB k h, hD.ib k h⟩
theorem CacheIs.keep {B : Nat} {F G : Nat → Prop} {w w' : World} {cb : Nat} {c : CaL} (h : CacheIs B F w cb c) (hf : Foot G w w') (hG : ∀ k, F k → ¬ G k) : CacheIs B F w' cb c := by
 obtain ⟨R, D, I, rb, dp, mb, M, l, L, hF, hR, h1, hD, h2, h3⟩ := h
 exact ⟨R, D, I, rb, dp, mb, M, l, L, hF, hR.keep hf fun k hk => hG k ((hF k).2 (.inl hk)), h1, hD.keep hf fun k hk => hG k ((hF k).2 (.inr hk)), h2, h3⟩
theorem CacheIs.below {B : Nat} {F : Nat → Prop} {w w' : World} {cb : Nat} {c : CaL} (h : CacheIs B F w cb c) (hb : Below w.heap.size w w') : CacheIs B F w' cb c := by
 obtain ⟨R, D, I, rb, dp, mb, M, l, L, hF, hR, h1, hD, h2, h3⟩ := h
 exact ⟨R, D, I, rb, dp, mb, M, l, L, hF, hR.below hb, h1, hD.below hb, h2, h3⟩
def addTL (l : List TcL) (y : TcL) : List TcL := (y :: l.filter fun x => !decide (x = y)).take 8
theorem addT_map (l : List TcM) (y : TcM) : (addT l y).map (·.t) = addTL (l.map (·.t)) y.t := by
 unfold addT addTL filterT
 rw [List.map_take, List.map_cons, List.filter_map]
 rfl
def okM (k : Int) (s : Dg) (d : List UInt8) (ts : List TcL) : MsgL := ⟨k, 0, s, d, ts, 0⟩
inductive Ans (c : CaL) (m : MsgL) : CaL → MsgL → Int → Prop
 | bad (h : checkM m ≠ 0) : Ans c m c (okM 0 dg0 [] []) (checkM m)
 | traces (h : checkM m = 0) (k : m.kind = 1) : Ans c m c (okM 5 dg0 [] (c.db m.sum)) 0
 | noblob (h : checkM m = 0) (k : m.kind = 2) (hn : ∀ r ∈ c.rows, r.1 ≠ m.sum) : Ans c m c (okM 0 dg0 [] []) 10
 | blob (h : checkM m = 0) (k : m.kind = 2) (data : List UInt8) (hm : (m.sum, data) ∈ c.rows) : Ans c m { c with rows := without m.sum c.rows ++ [(m.sum, data)] } (okM 6 m.sum data []) 0
 | trace (h : checkM m = 0) (k : m.kind = 3) (t : TcL) (ht : m.traces = [t]) : Ans c m { c with db := fun d => if d = t.key then addTL (c.db d) t else c.db d } (okM 7 dg0 [] []) 0
 | nosum (h : checkM m = 0) (k : m.kind = 4) (hs : shaD m.data ≠ m.sum) : Ans c m c (okM 0 dg0 [] []) 5
 | noroom (h : checkM m = 0) (k : m.kind = 4) (hs : shaD m.data = m.sum) (hl : c.most < m.data.length) : Ans c m c (okM 0 dg0 [] []) 6
 | put (h : checkM m = 0) (k : m.kind = 4) (hs : shaD m.data = m.sum) (hl : m.data.length ≤ c.most) : Ans c m { c with rows := fitR c.most m.data.length (without m.sum c.rows) ++ [(m.sum, m.data)] } (okM 7 dg0 [] []) 0
 | other (h : checkM m = 0) (k : m.kind ≠ 1 ∧ m.kind ≠ 2 ∧ m.kind ≠ 3 ∧ m.kind ≠ 4) : Ans c m c (okM 0 dg0 [] []) 1
theorem checkM_is (x : MsgM) (w : World) (hx : HeldM w x) (hk0 : -9223372036854775808 ≤ x.kind) (hk1 : x.kind ≤ 9223372036854775807) (hd : x.data.length ≤ 1000000000000) (hs : ∀ t ∈ x.ts, SmallT t.t) (r : Int) (hr : checkM x.l = r) :
  Calls Tryz.prog 34 #[x.val] w fun e w' => e = .returned (.int .i64 r) ∧ Below w.heap.size w w' := hr ▸ checkM_any x w hx hk0 hk1 hd hs
structure OutM (N : Nat → Prop) (w : World) (x : MsgM) : Prop where
 held : HeldM w x
 k0 : -9223372036854775808 ≤ x.kind
 k1 : x.kind ≤ 9223372036854775807
 nd : x.data.length ≤ 1000
 sm : ∀ t ∈ x.ts, SmallT t.t
 lo : ∀ t ∈ x.ts, InE (fun k => ¬ N k) t
 tl : x.ts ≠ [] → ∀ k, x.tv.ownBlock = some k → ¬ N k ∧ k < w.heap.size
theorem OutM.keep {N : Nat → Prop} {w W : World} {x : MsgM} (h : OutM N w x) (hb : Below w.heap.size w W) : OutM N W x := ⟨h.held.keep hb, h.k0, h.k1, h.nd, h.sm, h.lo, fun hne k hk => ⟨(h.tl hne k hk).1, Nat.lt_of_lt_of_le (h.tl hne k hk).2 hb.size⟩⟩
def OwnM (P : Nat → Prop) (y : MsgM) : Prop := (∀ k, y.tv.ownBlock = some k → P k) ∧ ∀ t ∈ y.ts, InT P t
theorem ownN {P : Nat → Prop} {y : MsgM} (h : y.ts = [] ∧ y.tv = nilS) : OwnM P y := by
 obtain ⟨k, i, s, d, v, l, z⟩ := y
 obtain ⟨rfl, rfl⟩ := h
 exact ⟨fun k h => (by cases h), fun t h => (by cases h)⟩
theorem OwnM.mono {P Q : Nat → Prop} {y : MsgM} (h : OwnM P y) (hs : ∀ k, P k → Q k) : OwnM Q y := ⟨fun k hk => hs k (h.1 k hk), fun t ht => ⟨fun k hk => hs k ((h.2 t ht).1 k hk), fun k hk => hs k ((h.2 t ht).2 k hk)⟩⟩
theorem HeldM.stay {w w' : World} {x : MsgM} (h : HeldM w x) (hs : w.heap.size ≤ w'.heap.size) {P : Nat → Prop} (ho : OwnM P x) (hk : ∀ k, P k → k < w.heap.size → w'.heap[k]? = w.heap[k]?) : HeldM w' x :=
 ⟨rows_keep h.1 hs fun k h1 h2 => hk k (ho.1 k h1) h2, fun t ht => (h.2 t ht).stay hs fun k h1 h2 => hk k (by rcases h1 with h1 | h1; exact (ho.2 t ht).1 k h1; exact (ho.2 t ht).2 k h1) h2⟩
theorem heldN {w : World} {y : MsgM} (h : y.ts = [] ∧ y.tv = nilS) : HeldM w y := by
 obtain ⟨k, i, s, d, v, l, z⟩ := y
 obtain ⟨rfl, rfl⟩ := h
 exact held0 w
theorem kind3 {m : MsgL} (h : checkM m = 0) (k : m.kind = 3) : ∃ t, m.traces = [t] ∧ checkT t = 0 := by
 unfold checkM at h
 rw [if_neg (by omega)] at h
 split at h
 ·exact absurd h (by decide)
 ·rename_i hb
  split at h
  ·exact absurd h (by decide)
  ·have hl : m.traces.length = 1 := by
    unfold argB at hb
    rw [k] at hb
    have e : hasL 3 = ⟨false, false, false, 1, 1⟩ := rfl
    rw [e] at hb
    simp only [Bool.or_eq_true, not_or] at hb
    have h1 := hb.1.1.2
    simpa using h1
   match ht : m.traces, hl with
   | [t], _ => exact ⟨t, rfl, tracesE_all _ h t (by rw [ht]; simp)⟩
theorem caches_ring {B cb rb dp mb r : Nat} {R D I : Nat → Prop} {w W2 W3 W4 : World} {c : CaL} {M : Dg → Option Value} {l : List Rw} {L : Dg → List TcM} {rows : List (Dg × List UInt8)} {F : Nat → Prop} (hF : ∀ k, F k ↔ R k ∨ D k ∨ I k) (hIB : ∀ k, I k → B ≤ k) (hR : RingIs B R w cb rb dp c.most l) (hDB : DbIs B D I w dp mb M L) (hdb : ∀ d, (L d).map (·.t) = c.db d) (hRD : ∀ k, R k → ¬ D k ∧ ¬ I k)
  (_hB : B ≤ w.heap.size) (hb : Below w.heap.size w W2) (ha : AnsIs B R cb rb dp c.most W2 W3 rows) (ht : Turned r W3 W4) (h1 : w.heap.size ≤ r) (h2 : r < W2.heap.size) : Went B F w W4 cb { c with rows := rows } := by
 obtain ⟨l', R', hR', hl', hs⟩ := ha.ring
 have hz := hb.size
 have hRr : ∀ k, R' k → ¬ k = r := fun k hk e => by
  rcases hs k hk with h | h
  ·have := (hR.bd k h).2; omega
  ·omega
 have hDB3 := (hDB.below hb).keep ((ha.foot.mono fun _ _ e => Or.inl e).chain (ht.foot.mono fun _ _ e => Or.inr (Or.inr e)) : Foot (fun k => R k ∨ W2.heap.size ≤ k ∨ k = r) W2 W4) (fun k hk h => by
  have hlt : k < w.heap.size := by
   rcases hk with hk | hk
   ·exact (hDB.db_ k hk).2
   ·exact hDB.ib k hk
  rcases h with h | h | h
  ·rcases hk with hk | hk
   ·exact (hRD k h).1 hk
   ·exact (hRD k h).2 hk
  ·omega
  ·omega)
 refine ⟨fun k => R' k ∨ D k ∨ I k, fun k hk => ?_, ?_, R', D, I, rb, dp, mb, M, l', L, fun k => Iff.rfl, hR'.keep ht.foot hRr, hl', hDB3, hdb, fun k hk => ?_, hIB⟩
 ·rcases hk with hk | hk
  ·rcases hs k hk with h | h
   ·exact .inl ((hF k).2 (.inl h))
   ·exact .inr (by omega)
  ·exact .inl ((hF k).2 (.inr hk))
 ·exact ((Foot.of_below (D := F) hb).chain (ha.foot.mono fun k _ h => (hF k).2 (.inl h))).trans ht.foot fun i h1' e => by omega
 ·rcases hs k hk with h | h
  ·exact hRD k h
  ·exact ⟨fun e => by have := (hDB.db_ k e).2; omega, fun e => by have := hDB.ib k e; omega⟩
theorem caches_db {B cb rb dp mb r : Nat} {R D I : Nat → Prop} {w W2 W3 W4 : World} {c : CaL} {M : Dg → Option Value} {l : List Rw} {L : Dg → List TcM} {t : TcL} {F : Nat → Prop} (hF : ∀ k, F k ↔ R k ∨ D k ∨ I k) (hIB : ∀ k, I k → B ≤ k) (hR : RingIs B R w cb rb dp c.most l) (hrows : plainR l = c.rows) (hDB : DbIs B D I w dp mb M L) (hdb : ∀ d, (L d).map (·.t) = c.db d) (hRD : ∀ k, R k → ¬ D k ∧ ¬ I k)
  (hB : B ≤ w.heap.size) (hb : Below w.heap.size w W2) (hf : Foot D W2 W3) {D' I' : Nat → Prop} {M' : Dg → Option Value} {y : TcM} (hy : y.t = t) (hDB' : DbIs B D' I' W3 dp mb M' (fun d => if d = t.key then addT (L d) y else L d)) (hD : ∀ k, D' k → D k ∨ W2.heap.size ≤ k) (hI : ∀ k, I' k → I k ∨ W2.heap.size ≤ k)
  (ht : Turned r W3 W4) (h1 : w.heap.size ≤ r) (h2 : r < W2.heap.size) : Went B F w W4 cb { c with db := fun d => if d = t.key then addTL (c.db d) t else c.db d } := by
 have hz := hb.size
 have hf3 : Foot (fun k => D k ∨ k = r) W2 W4 := (hf.mono fun _ _ h => .inl h).chain (ht.foot.mono fun _ _ h => .inr h)
 refine ⟨fun k => R k ∨ D' k ∨ I' k, fun k hk => ?_, ?_, R, D', I', rb, dp, mb, M', l, _, fun k => Iff.rfl, (hR.below hb).keep hf3 fun k hk h => ?_, hrows, hDB'.keep ht.foot fun k hk h => ?_, fun d => ?_, fun k hk => ⟨fun e => ?_, fun e => ?_⟩, fun k hk => ?_⟩
 ·rcases hk with hk | hk | hk
  ·exact .inl ((hF k).2 (.inl hk))
  ·rcases hD k hk with h | h
   ·exact .inl ((hF k).2 (.inr (.inl h)))
   ·exact .inr (by omega)
  ·rcases hI k hk with h | h
   ·exact .inl ((hF k).2 (.inr (.inr h)))
   ·exact .inr (by omega)
 ·exact ((Foot.of_below (D := F) hb).chain (hf.mono fun k _ h => (hF k).2 (.inr (.inl h)))).trans ht.foot fun i h1' e => by omega
 ·rcases h with h | h
  ·exact (hRD k hk).1 h
  ·have := (hR.bd k hk).2; omega
 ·rcases hk with hk | hk
  ·rcases hD k hk with h | h
   ·have := (hDB.db_ k h).2; omega
   ·omega
  ·rcases hI k hk with h | h
   ·have := hDB.ib k h; omega
   ·omega
 ·show (if d = t.key then addT (L d) y else L d).map (·.t) = if d = t.key then addTL (c.db d) t else c.db d
  by_cases h : d = t.key
  ·rw [if_pos h, if_pos h, addT_map, hdb, hy]
  ·rw [if_neg h, if_neg h, hdb]
 ·rcases hD k e with h | h
  ·exact (hRD k hk).1 h
  ·have := (hR.bd k hk).2; omega
 ·rcases hI k e with h | h
  ·exact (hRD k hk).2 h
  ·have := (hR.bd k hk).2; omega
 ·rcases hI k hk with h | h
  ·exact hIB k h
  ·omega
set_option maxHeartbeats 4000000 in
theorem answer_any {B cb : Nat} {F N : Nat → Prop} {w : World} {c : CaL} (hc : CacheIs B F w cb c) (x : MsgM) (hx : OutM N w x) (hFN : ∀ k, F k → N k) (hB : B ≤ w.heap.size) :
  Calls Tryz.prog 33 #[.pointer (some ⟨cb, 0, none⟩), x.val] w fun e w' => ∃ (y : MsgM) (er : Int) (c' : CaL), e = .returned (.tuple #[y.val, .int .i64 er]) ∧ Ans c x.l c' y.l er ∧ Went B F w w' cb c' ∧ HeldM w' y ∧ OwnM (fun k => w.heap.size ≤ k) y := by
 obtain ⟨R, D, I, rb, dp, mb, M, l, L, hF, hR, hrows, hDB, hdb, hRD, hIB⟩ := hc
 have HFI := hid (And.intro hF hIB)
 have HFN := hid hFN
 have HR := hid hR
 have HDB := hid hDB
 have HP := hid (And.intro hrows hdb)
 have HRD := hid hRD
 have HX := hid hx
 have HBS := hid hB
 have HCD := hid hR.cd
 have HCL : Hid (∀ W c', Below w.heap.size w W → c' = c → Went B F w W cb c') := hid (fun W c' hb e => by
  subst e
  exact ⟨F, fun k h => .inl h, Foot.of_below hb, R, D, I, rb, dp, mb, M, l, L, hF, hR.below hb, hrows, hDB.below hb, hdb, hRD, hIB⟩)
 have HRZ : Hid (∀ k, w.heap.size ≤ k → ¬ R k) := hid (fun k hk e => by have := (HR.out.bd k e).2; omega)
 unfold MsgM.val
 clear hF hIB hR hDB hrows hdb hRD hx hB hFN
 by_cases hck : checkM x.l = 0
 ·have HCK := hid hck
  have HC := hid (fun (W : World) (hb : Below w.heap.size w W) => checkM_is x W (HX.out.held.keep hb) HX.out.k0 HX.out.k1 (by have := HX.out.nd; omega) HX.out.sm 0 hck)
  clear hck
  go_enter Tryz.func33, Tryz.ntmps33
  go_upto_region 5 with first | (refine wl_box rt34 ?_; intro W0 hb0 hn0 hs0) | (refine wl_al rt34 ?_; intro zs W1 hzs hb1 hn1 hs1; rw [hs0] at hn1; have hn0' := (hb1.block _ (by omega)).trans hn0) | (refine wl_ld rt34 (range_of_heap hn0') (MsgM.len _) ?_) | (go_at_call 34; refine (HC.out _ (Below.chain hb0 hb1)).mono ?_; rintro e W2 ⟨rfl, hb2⟩; have m0 := (MsgM.parts ((hb2.block _ (by omega)).trans hn0')).1)
  have HB := hid (Below.chain (Below.chain hb0 hb1) hb2)
  have hz2 := hb2.size
  have HN := hid (And.intro ((hb2.block _ (by omega)).trans hn0') ((hb2.block _ (by omega)).trans hn1))
  have HK := hid (fun (W : World) (hb : Below W2.heap.size W2 W) => And.intro ((hb.block _ (by omega)).trans HN.out.1) (And.intro (Below.keeps (Below.chain HB.out hb) HCD.out) ((hb.block _ (by omega)).trans HN.out.2)))
  have HZ := hid (show w.heap.size + 2 ≤ W2.heap.size by omega)
  have HKE : Hid (x.l.kind = x.kind) := hid rfl
  clear hb0 hb1 hb2 hn0 hn0' hn1 hs0 hs1 hz2
  by_cases k1 : x.kind = 1
  ·have E1 := eqT k1
   have HKI := hid k1
   clear k1
   go_wp2_with fail
   refine wp_region_wl (fun W => W.heap[w.heap.size]? = some (.cells x.cells.toArray 34 (0, 0)) ∧ W.cell? ⟨cb, 2, none⟩ = some (.pointer (some ⟨dp, 0, none⟩)) ∧ W.heap[w.heap.size + 1]? = some (.cells zs 34 (0, 0))) 8 (by kernel_rfl) ?_
   intro Wd hbd
   have hS := HK.out _ hbd
   refine WL.tp 0 (some 17) (hi := rfl) (.inr hS) ?_
   apply Exists.intro
   refine ⟨fun W => ?_, ?_⟩
   ·go_simp
    try rfl
   try simp only [Act.put, sA, sB, sC]
   refine WL.tp 1 (some 18) (hi := rfl) (.inr hS) ?_
   apply Exists.intro
   refine ⟨fun W => ?_, ?_⟩
   ·go_simp
    try rfl
   try simp only [Act.put, sA, sB, sC]
   refine WL.tp 2 (some 19) (hi := rfl) (.inr hS) ?_
   apply Exists.intro
   refine ⟨fun W => ?_, ?_⟩
   ·go_simp
    try rfl
   try simp only [Act.put, sA, sB, sC]
   refine WL.te 3 (some 20) (hi := rfl) hS ?_
   apply Exists.intro
   refine ⟨fun W hW => ?_, ?_⟩
   ·obtain ⟨-, e1, -⟩ := hW
    go_simp
    try rfl
   try simp only [Act.put, sA, sB, sC]
   refine WL.tp 4 (some 21) (hi := rfl) (.inr hS) ?_
   apply Exists.intro
   refine ⟨fun W => ?_, ?_⟩
   ·go_simp
    try rfl
   try simp only [Act.put, sA, sB, sC]
   refine WL.ld 5 (some 22) rt31 (fun W hW => (MsgM.parts hW.1).2.2.1) (dgc_len _) (hi := rfl) hS ?_
   try simp only [Act.put, sA, sB, sC]
   refine WL.o 6 (hi := rfl) ?_
   intro K hK
   go_simp
   refine (dbOf_any (HDB.out.below (Below.chain HB.out hbd)) x.sum).mono ?_
   rintro e W3 ⟨v, ys, rfl, hyt, hrow, hheld, hin, hb3⟩
   obtain ⟨va, vc, hv, -⟩ := rows_len hrow
   subst hv
   have hS3 := HK.out _ (Below.chain hbd hb3)
   refine hK.out _ _ (.inr hS3) ?_
   clear hK K
   try simp only [Act.put, sA, sB, sC]
   refine WL.tp 7 (some 24) (hi := rfl) (.inr hS3) ⟨_, fun W => r_build (built_traces 5 va ys.length vc) rfl (by simp only [List.map_toArray, List.map_cons, List.map_nil]; rfl), ?_⟩
   try simp only [Act.put, sA, sB, sC]
   refine WL.o 8 (hi := rfl) ?_
   intro K hK
   refine wp_st (xs := (msgC 5 0 dg0 [] (.slice va ys.length vc) 0).toArray) rt34 hS3.2.2 hzs (by rw [List.size_toArray, msgC_len]) (msgC_one rfl) ?_
   intro W4 ht4 hn4 hs4
   refine hK.out _ _ (.inl (by kernel_rfl)) ?_
   clear hK K
   try simp only [Act.put, sA]
   refine WL.o 9 (hi := rfl) ?_
   intro K hK
   go_simp
   refine hK.out _ _ (.inl (by kernel_rfl)) ?_
   clear hK K
   try simp only [Act.put, sA, sB, sC]
   refine WL.d ?_
   go_wp2_with fail
   have hb4 : Below w.heap.size w W4 := (Below.chain (Below.chain HB.out hbd) hb3).trans (ht4.below (by omega))
   refine br2 _ hn4 ⟨⟨5, 0, dg0, [], .slice va ys.length vc, ys, 0⟩, 0, rfl, c, ?_, HCL.out _ _ hb4 rfl, ?_, ?_⟩ (hu := Tryz.underlying34) (hi := by rw [List.size_toArray, msgC_len]; kernel_rfl)
   ·have e1 : ys.map (·.t) = c.db x.sum := by rw [hyt, HP.out.2]
    have := Ans.traces (c := c) (m := x.l) HCK.out HKI.out
    unfold MsgM.l at this ⊢
    simp only [okM] at this ⊢
    rw [e1]
    exact this
   ·have hz3 := hb3.size
    have hzd := hbd.size
    have hT := ht4.below (B := w.heap.size + 1) (Nat.le_refl _)
    have hne : ∀ k, Wd.heap.size ≤ k → ¬ k = w.heap.size + 1 := fun k hk e => by have := HZ.out; omega
    exact ⟨rows_keep hrow ht4.foot.size fun k hk hl => ht4.foot.block k hl (hne k (hin.1 k hk)), fun t ht => (hheld t ht).stay ht4.foot.size fun k hk hl => ht4.foot.block k hl (hne k (by rcases hk with hk | hk; exact (hin.2 t ht).1 k hk; exact (hin.2 t ht).2 k hk))⟩
   ·exact OwnM.mono (P := fun k => Wd.heap.size ≤ k) ⟨hin.1, hin.2⟩ fun k hk => by have := hbd.size; have := HZ.out; omega
  ·have E1 := eqF k1
   by_cases k2 : x.kind = 2
   ·have E2 := eqT k2
    have HKI := hid k2
    clear k1 k2
    have HQ : Hid (Calls Tryz.prog 75 #[.pointer (some ⟨cb, 0, none⟩), x.val] W2 fun e W3 => ∃ (y : MsgM) (er : Int) (rows : List (Dg × List UInt8)), e = .returned (.tuple #[.agg y.cells.toArray, .int .i64 er]) ∧ (y.ts = [] ∧ y.tv = nilS) ∧ Ans c x.l { c with rows := rows } y.l er ∧ AnsIs B R cb rb dp c.most W2 W3 rows) := hid (by
     refine (blob_any (HR.out.below HB.out) x (HX.out.held.keep HB.out) (by have := HBS.out; have := HB.out.size; omega)).mono ?_
     rintro e W3 (⟨hno, rfl, ha⟩ | ⟨data, hm, rfl, ha⟩)
     ·refine ⟨msg0, 10, c.rows, rfl, ⟨rfl, rfl⟩, .noblob HCK.out HKI.out ?_, by rw [← HP.out.1]; exact ha⟩
      rw [← HP.out.1]
      intro r hr
      obtain ⟨q, hq, rfl⟩ := List.mem_map.1 hr
      exact hno q hq
     ·refine ⟨⟨6, 0, x.sum, data, nilS, [], 0⟩, 0, without x.sum c.rows ++ [(x.sum, data)], rfl, ⟨rfl, rfl⟩, .blob HCK.out HKI.out data ?_, by rw [← HP.out.1]; exact ha⟩
      rw [← HP.out.1]
      exact hm)
    have HX2 := hid HN.out.1
    unfold MsgM.val at HQ
    go_wp2_with first | (refine wl_ld rt34 (range_of_heap HX2.out) (MsgM.len _) ?_) | (go_at_call 75; refine HQ.out.mono ?_; rintro e W3 ⟨y, er, rows, rfl, hy, hans, hais⟩; have hn3 := (hais.foot.block (w.heap.size + 1) (by have := HZ.out; omega) (HRZ.out _ (Nat.le_succ _))).trans HN.out.2; have hyo := (heldN (w := W3) hy).one) | (refine wl_st (xs := y.cells.toArray) rt34 hn3 hzs (by rw [List.size_toArray]; exact MsgM.len _) hyo ?_; intro W4 ht4 hn4 hs4)
    have hca := caches_ring HFI.out.1 HFI.out.2 HR.out HDB.out HP.out.2 HRD.out HBS.out HB.out hais ht4 (Nat.le_succ _) (by have := HZ.out; omega)
    exact br2 _ hn4 ⟨y, er, _, rfl, hans, hca, heldN hy, ownN hy⟩ (hu := Tryz.underlying34) (hi := by rw [List.size_toArray, MsgM.len]; kernel_rfl)
   ·have E2 := eqF k2
    by_cases k3 : x.kind = 3
    ·have E3 := eqT k3
     have HKI := hid k3
     clear k1 k2 k3
     obtain ⟨t0l, ht0l, hct⟩ := kind3 HCK.out HKI.out
     obtain ⟨t0, hts, ht0⟩ : ∃ t0, x.ts = [t0] ∧ t0.t = t0l := by
      have e : x.ts.map (·.t) = [t0l] := ht0l
      match hx : x.ts, e with
      | [a], e => exact ⟨a, rfl, by simpa using e⟩
     subst ht0
     have hmem : t0 ∈ x.ts := by rw [hts]; simp
     have hrw := (HX.out.held.keep HB.out).1
     rw [hts] at hrw
     obtain ⟨va, vc, htv, hvc1, -, -, hat⟩ := hrw.out TcM.len (by omega)
     obtain ⟨tb, off, rfl, htb, hra⟩ := hat 0 (by simp)
     have L0 : W2.rangeAt tb off t0.cells := by have := hra 0 (by simp); simpa using this
     have HTV := hid htv
     have HTS := hid ht0l
     have HTL := hid (show ¬ F tb ∧ tb < w.heap.size from ⟨fun e => (HX.out.tl (by rw [hts]; simp) tb (by rw [htv]; rfl)).1 (HFN.out tb e), (HX.out.tl (by rw [hts]; simp) tb (by rw [htv]; rfl)).2⟩)
     have HT0 := hid (And.intro (HX.out.held.2 t0 hmem) (And.intro (show InE (fun k => ¬ D k) t0 from fun k hk hD => by
       exact HX.out.lo t0 hmem k hk (HFN.out k ((HFI.out.1 k).2 (.inr (.inl hD))))) (And.intro (HX.out.sm t0 hmem) hct)))
     have HKF : Hid (∀ Wd, Below W2.heap.size W2 Wd → ∀ W3, Foot D Wd W3 → W3.heap[w.heap.size]? = some (.cells x.cells.toArray 34 (0, 0)) ∧ W3.cell? ⟨cb, 2, none⟩ = some (.pointer (some ⟨dp, 0, none⟩)) ∧ W3.heap[w.heap.size + 1]? = some (.cells zs 34 (0, 0)) ∧ W3.rangeAt tb off t0.cells) := hid (fun Wd hb W3 hf => by
      obtain ⟨a1, a2, a3⟩ := HK.out Wd hb
      have hz := hb.size
      have hz2 := HZ.out
      have hbd := HR.out.bd cb HR.out.rc
      have hnD : ∀ k, w.heap.size ≤ k → ¬ D k := fun k hk e => by have := (HDB.out.db_ k e).2; omega
      have htD : ¬ D tb := fun e => HTL.out.1 ((HFI.out.1 tb).2 (.inr (.inl e)))
      refine ⟨(hf.block _ (by omega) (hnD _ (Nat.le_refl _))).trans a1, (World.cell?_of_block (hf.block cb (by omega) (HRD.out cb HR.out.rc).1)).trans a2, (hf.block _ (by omega) (hnD _ (Nat.le_succ _))).trans a3, fun j v hv => ?_⟩
      rw [World.cell?_of_block (hf.block tb (by have := HTL.out.2; omega) htD)]
      exact range_keeps hb L0 j v hv)
     have HKG : Hid (∀ W Wz : World, (W.heap[w.heap.size]? = some (.cells x.cells.toArray 34 (0, 0)) ∧ W.cell? ⟨cb, 2, none⟩ = some (.pointer (some ⟨dp, 0, none⟩)) ∧ W.rangeAt tb off t0.cells) → Turned (w.heap.size + 1) W Wz → ∀ {n : Nat}, n ≤ W.heap.size → W2.heap.size ≤ n → Wz.heap[w.heap.size]? = some (.cells x.cells.toArray 34 (0, 0)) ∧ Wz.cell? ⟨cb, 2, none⟩ = some (.pointer (some ⟨dp, 0, none⟩)) ∧ Wz.rangeAt tb off t0.cells) := hid (fun W Wz ⟨a1, a2, a3⟩ ht n hn1 hn2 => by
      have hz2 := HZ.out
      have hbd := HR.out.bd cb HR.out.rc
      refine ⟨(ht.foot.block _ (by omega) (by omega)).trans a1, (World.cell?_of_block (ht.foot.block cb (by omega) (by omega))).trans a2, fun j v hv => ?_⟩
      rw [World.cell?_of_block (ht.foot.block tb (by have := HTL.out.2; omega) (by have := HTL.out.2; omega))]
      exact a3 j v hv)
     clear hrw hat hra htv hts ht0l hvc1 hmem hct htb
     go_wp2_with fail
     refine wp_region_wl (fun W => W.heap[w.heap.size]? = some (.cells x.cells.toArray 34 (0, 0)) ∧ W.cell? ⟨cb, 2, none⟩ = some (.pointer (some ⟨dp, 0, none⟩)) ∧ W.rangeAt tb off t0.cells) 11 (by kernel_rfl) ?_
     intro Wd hbd
     have hS := And.intro (HK.out _ hbd).1 (And.intro (HK.out _ hbd).2.1 (range_keeps hbd L0))
     refine WL.tp 0 (some 34) (hi := rfl) (.inr hS) ⟨_, fun W => r_build (built_kind 7) rfl (by simp only [List.map_toArray, List.map_cons, List.map_nil]; rfl), ?_⟩
     try simp only [Act.put, sA, sB, sC]
     refine WL.tp 1 (some 35) (hi := rfl) (.inr hS) ?_
     apply Exists.intro
     refine ⟨fun W => ?_, ?_⟩
     ·go_simp
      try rfl
     try simp only [Act.put, sA, sB, sC]
     refine WL.tp 2 (some 36) (hi := rfl) (.inr hS) ?_
     apply Exists.intro
     refine ⟨fun W => ?_, ?_⟩
     ·go_simp
      try rfl
     try simp only [Act.put, sA, sB, sC]
     refine WL.tp 3 (some 37) (hi := rfl) (.inr hS) ?_
     apply Exists.intro
     refine ⟨fun W => ?_, ?_⟩
     ·go_simp
      try rfl
     try simp only [Act.put, sA, sB, sC]
     refine WL.te 4 (some 38) (hi := rfl) hS ?_
     apply Exists.intro
     refine ⟨fun W hW => ?_, ?_⟩
     ·obtain ⟨e0, e1, -⟩ := hW; obtain ⟨-, -, -, -, e5, -⟩ := MsgM.parts e0; clear e0; rw [HTV.out] at e5; simp only [List.length_cons, List.length_nil] at e5
      go_simp
      try rfl
     try simp only [Act.put, sA, sB, sC]
     refine WL.tp 5 (some 39) (hi := rfl) (.inr hS) ?_
     apply Exists.intro
     refine ⟨fun W => ?_, ?_⟩
     ·go_simp
      try rfl
     try simp only [Act.put, sA, sB, sC]
     refine WL.te 6 (some 40) (hi := rfl) hS ?_
     apply Exists.intro
     refine ⟨fun W hW => ?_, ?_⟩
     ·obtain ⟨e0, e1, -⟩ := hW; obtain ⟨-, -, -, -, e5, -⟩ := MsgM.parts e0; clear e0; rw [HTV.out] at e5; simp only [List.length_cons, List.length_nil] at e5
      go_simp
      try rfl
     try simp only [Act.put, sA, sB, sC]
     refine WL.tp 7 (some 41) (hi := rfl) (.inr hS) ?_
     apply Exists.intro
     refine ⟨fun W => ?_, ?_⟩
     ·go_simp
      try rfl
     try simp only [Act.put, sA, sB, sC]
     refine WL.ld 8 (some 42) rt44 (fun W hW => hW.2.2) (TcM.len _) (hi := rfl) hS ?_
     try simp only [Act.put, sA, sB, sC]
     refine WL.o 9 (hi := rfl) ?_
     intro K hK
     go_simp
     refine (dbAdd_any (HDB.out.below (Below.chain HB.out hbd)) t0 (HT0.out.1.keep (Below.chain HB.out hbd)) HT0.out.2.1 HT0.out.2.2.1 HT0.out.2.2.2 (Nat.le_trans HBS.out (Below.chain HB.out hbd).size)).mono ?_
     rintro e W3 ⟨rfl, hf3, D', I', M', y, hyt, hdb3, hD3, hI3⟩
     have hT3 := HKF.out _ hbd _ hf3
     have hS3 := And.intro hT3.1 (And.intro hT3.2.1 hT3.2.2.2)
     refine hK.out _ _ (.inr hS3) ?_
     clear hK K
     try simp only [Act.put, sA, sB, sC]
     refine WL.o 10 (hi := rfl) ?_
     intro K hK
     refine wp_st (xs := (msgC 7 0 dg0 [] nilS 0).toArray) rt34 hT3.2.2.1 hzs (by rw [List.size_toArray, msgC_len]) (msgC_one rfl) ?_
     intro W4 ht4 hn4 hs4
     have hS4 := HKG.out _ _ hS3 ht4 hf3.size hbd.size
     refine hK.out _ _ (.inr hS4) ?_
     clear hK K
     try simp only [Act.put, sA]
     refine WL.o 11 (hi := rfl) ?_
     intro K hK
     go_simp
     refine hK.out _ _ (.inl (by kernel_rfl)) ?_
     clear hK K
     try simp only [Act.put, sA, sB, sC]
     refine WL.d ?_
     go_wp2_with fail
     have HBW := Below.chain HB.out hbd
     have hca := caches_db HFI.out.1 HFI.out.2 HR.out HP.out.1 HDB.out HP.out.2 HRD.out HBS.out HBW hf3 hyt hdb3 hD3 hI3 ht4 (Nat.le_succ _) (by have := HZ.out; have := hbd.size; omega)
     refine br2 _ hn4 ⟨⟨7, 0, dg0, [], nilS, [], 0⟩, 0, _, rfl, .trace HCK.out HKI.out t0.t HTS.out, hca, heldN ⟨rfl, rfl⟩, ownN ⟨rfl, rfl⟩⟩ (hu := Tryz.underlying34) (hi := by rw [List.size_toArray, msgC_len]; kernel_rfl)
    ·have E3 := eqF k3
     by_cases k4 : x.kind = 4
     ·have E4 := eqT k4
      have HKI := hid k4
      clear k1 k2 k3 k4
      have HQ : Hid (Calls Tryz.prog 77 #[.pointer (some ⟨cb, 0, none⟩), x.val] W2 fun e W3 => ∃ (y : MsgM) (er : Int) (rows : List (Dg × List UInt8)), e = .returned (.tuple #[.agg y.cells.toArray, .int .i64 er]) ∧ (y.ts = [] ∧ y.tv = nilS) ∧ Ans c x.l { c with rows := rows } y.l er ∧ AnsIs B R cb rb dp c.most W2 W3 rows) := hid (by
       refine (put_any (HR.out.below HB.out) x (HX.out.held.keep HB.out) (by have := HBS.out; have := HB.out.size; omega) HX.out.nd).mono ?_
       rintro e W3 (⟨hs, rfl, ha⟩ | ⟨hs, hm, rfl, ha⟩ | ⟨hs, hm, rfl, ha⟩)
       ·exact ⟨msg0, 5, c.rows, rfl, ⟨rfl, rfl⟩, .nosum HCK.out HKI.out hs, by rw [← HP.out.1]; exact ha⟩
       ·exact ⟨msg0, 6, c.rows, rfl, ⟨rfl, rfl⟩, .noroom HCK.out HKI.out hs hm, by rw [← HP.out.1]; exact ha⟩
       ·exact ⟨⟨7, 0, dg0, [], nilS, [], 0⟩, 0, fitR c.most x.data.length (without x.sum c.rows) ++ [(x.sum, x.data)], rfl, ⟨rfl, rfl⟩, .put HCK.out HKI.out hs hm, by rw [← HP.out.1]; exact ha⟩)
      have HX2 := hid HN.out.1
      unfold MsgM.val at HQ
      go_wp2_with first | (refine wl_ld rt34 (range_of_heap HX2.out) (MsgM.len _) ?_) | (go_at_call 77; refine HQ.out.mono ?_; rintro e W3 ⟨y, er, rows, rfl, hy, hans, hais⟩; have hn3 := (hais.foot.block (w.heap.size + 1) (by have := HZ.out; omega) (HRZ.out _ (Nat.le_succ _))).trans HN.out.2; have hyo := (heldN (w := W3) hy).one) | (refine wl_st (xs := y.cells.toArray) rt34 hn3 hzs (by rw [List.size_toArray]; exact MsgM.len _) hyo ?_; intro W4 ht4 hn4 hs4)
      have hca := caches_ring HFI.out.1 HFI.out.2 HR.out HDB.out HP.out.2 HRD.out HBS.out HB.out hais ht4 (Nat.le_succ _) (by have := HZ.out; omega)
      exact br2 _ hn4 ⟨y, er, _, rfl, hans, hca, heldN hy, ownN hy⟩ (hu := Tryz.underlying34) (hi := by rw [List.size_toArray, MsgM.len]; kernel_rfl)
     ·have E4 := eqF k4
      have HKI := hid (And.intro k1 (And.intro k2 (And.intro k3 k4)))
      clear k1 k2 k3 k4
      go_wp2_with first | (refine wl_run (r_build built_done rfl (by simp only [List.map_toArray, List.map_nil])) ?_) | (refine wl_st (xs := msg0.cells.toArray) rt34 HN.out.2 hzs (by rw [List.size_toArray]; exact MsgM.len _) (msgC_one rfl) ?_; intro W4 ht4 hn4 hs4)
      have hb4 : Below w.heap.size w W4 := HB.out.trans (ht4.below (by omega))
      refine br2 _ hn4 ⟨msg0, 1, c, rfl, .other HCK.out HKI.out, HCL.out _ _ hb4 rfl, held0 _, ownN ⟨rfl, rfl⟩⟩ (hu := Tryz.underlying34) (hi := by rw [List.size_toArray, MsgM.len]; kernel_rfl)
 ·obtain ⟨r, hr⟩ : ∃ r, checkM x.l = r := ⟨_, rfl⟩
  have HCK := hid hck
  have HCR := hid hr
  have HC := hid (fun (W : World) (hb : Below w.heap.size w W) => checkM_is x W (HX.out.held.keep hb) HX.out.k0 HX.out.k1 (by have := HX.out.nd; omega) HX.out.sm r hr)
  have hne : (r != 0) = true := neT (by rw [← hr]; exact hck)
  clear hck hr
  go_enter Tryz.func33, Tryz.ntmps33
  go_wp2_with first | (refine wl_box rt34 ?_; intro W0 hb0 hn0 hs0) | (refine wl_al rt34 ?_; intro zs W1 hzs hb1 hn1 hs1; rw [hs0] at hn1; have hn0' := (hb1.block _ (by omega)).trans hn0) | (refine wl_ld rt34 (range_of_heap hn0') (MsgM.len _) ?_) | (go_at_call 34; refine (HC.out _ (Below.chain hb0 hb1)).mono ?_; rintro e W2 ⟨rfl, hb2⟩; have hn2 := (hb2.block _ (by omega)).trans hn1) | (refine wl_run (r_build built_done rfl (by simp only [List.map_toArray, List.map_nil])) ?_) | (refine wl_st (xs := msg0.cells.toArray) rt34 hn2 hzs (by rw [List.size_toArray]; exact MsgM.len _) (msgC_one rfl) ?_; intro W4 ht4 hn4 hs4)
  have hb4 : Below w.heap.size w W4 := (Below.chain (Below.chain hb0 hb1) hb2).trans (ht4.below (by omega))
  refine br2 _ hn4 ⟨msg0, r, c, rfl, by rw [← HCR.out]; exact .bad HCK.out, HCL.out _ _ hb4 rfl, held0 _, ownN ⟨rfl, rfl⟩⟩ (hu := Tryz.underlying34) (hi := by rw [List.size_toArray, MsgM.len]; kernel_rfl)
end Go.Proofs.YtlbipokkdiiaiaaGreatDoor
