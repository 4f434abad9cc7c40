/- Lemmas for TopWire: W32, W33. -/
import Derived.Test.YtlbipokkdiiaiaaGreatDoorT30
import Derived.Test.YtlbipokkdiiaiaaGreatDoorT31
import Derived.Test.YtlbipokkdiiaiaaGreatDoorT23
/- cache.answer. -/
namespace Go.Proofs.YtlbipokkdiiaiaaGreatDoor
open Go.RowKit Go.Proofs.YtlbipokkdiiaiaaGreatDoor.Exec
set_option maxRecDepth 100000
/-- What a cache keeps: its rows, the oldest first; the traces of each key, the latest first. -/
structure CaL where
  most : Nat
  rows : List (Dg × List UInt8)
  db : Dg → List TcL
def CacheIs (B : Nat) (F : Nat → Prop) (w : World) (cb : Nat) (c : CaL) : Prop :=
  ∃ (R D I : Nat → Prop) (rb dp mb : Nat) (M : Dg → Option Value) (l : List Rw) (L : Dg → List TcM), (∀ k, F k ↔ R k ∨ D k ∨ I k) ∧ RingIs B R w cb rb dp c.most l ∧ plainR l = c.rows ∧ DbIs B D I w dp mb M L ∧ (∀ d, (L d).map (·.t) = c.db d) ∧ (∀ k, R k → ¬ D k ∧ ¬ I k) ∧ ∀ k, I k → B ≤ k
/-- A cache has gone on: only its own blocks are turned. -/
def Went (B : Nat) (F : Nat → Prop) (w w' : World) (cb : Nat) (c' : CaL) : Prop := ∃ F' : Nat → Prop, (∀ k, F' k → F k ∨ w.heap.size ≤ k) ∧ Foot F w w' ∧ CacheIs B F' w' cb c'
theorem CacheIs.bd {B : Nat} {F : Nat → Prop} {w : World} {cb : Nat} {c : CaL} (h : CacheIs B F w cb c) : ∀ k, F k → B ≤ k ∧ k < w.heap.size := by
  obtain ⟨R, D, I, rb, dp, mb, M, l, L, hF, hR, -, hD, -, -, hIB⟩ := h
  intro k hk
  rcases (hF k).1 hk with h | h | h
  · exact hR.bd k h
  · exact hD.db_ k h
  · exact ⟨hIB k h, hD.ib k h⟩
theorem CacheIs.keep {B : Nat} {F G : Nat → Prop} {w w' : World} {cb : Nat} {c : CaL} (h : CacheIs B F w cb c) (hf : Foot G w w') (hG : ∀ k, F k → ¬ G k) : CacheIs B F w' cb c := by
  obtain ⟨R, D, I, rb, dp, mb, M, l, L, hF, hR, h1, hD, h2, h3⟩ := h
  exact ⟨R, D, I, rb, dp, mb, M, l, L, hF, hR.keep hf fun k hk => hG k ((hF k).2 (.inl hk)), h1, hD.keep hf fun k hk => hG k ((hF k).2 (.inr hk)), h2, h3⟩
theorem CacheIs.below {B : Nat} {F : Nat → Prop} {w w' : World} {cb : Nat} {c : CaL} (h : CacheIs B F w cb c) (hb : Below w.heap.size w w') : CacheIs B F w' cb c := by
  obtain ⟨R, D, I, rb, dp, mb, M, l, L, hF, hR, h1, hD, h2, h3⟩ := h
  exact ⟨R, D, I, rb, dp, mb, M, l, L, hF, hR.below hb, h1, hD.below hb, h2, h3⟩
def addTL (l : List TcL) (y : TcL) : List TcL := (y :: l.filter fun x => !decide (x = y)).take 8
theorem addT_map (l : List TcM) (y : TcM) : (addT l y).map (·.t) = addTL (l.map (·.t)) y.t := by
  unfold addT addTL filterT
  rw [List.map_take, List.map_cons, List.filter_map]
  rfl
def okM (k : Int) (s : Dg) (d : List UInt8) (ts : List TcL) : MsgL := ⟨k, 0, s, d, ts, 0⟩
/-- The answer, and what comes of the cache. -/
inductive Ans (c : CaL) (m : MsgL) : CaL → MsgL → Int → Prop
  | bad (h : checkM m ≠ 0) : Ans c m c (okM 0 dg0 [] []) (checkM m)
  | traces (h : checkM m = 0) (k : m.kind = 1) : Ans c m c (okM 5 dg0 [] (c.db m.sum)) 0
  | noblob (h : checkM m = 0) (k : m.kind = 2) (hn : ∀ r ∈ c.rows, r.1 ≠ m.sum) : Ans c m c (okM 0 dg0 [] []) 10
  | blob (h : checkM m = 0) (k : m.kind = 2) (data : List UInt8) (hm : (m.sum, data) ∈ c.rows) : Ans c m { c with rows := without m.sum c.rows ++ [(m.sum, data)] } (okM 6 m.sum data []) 0
  | trace (h : checkM m = 0) (k : m.kind = 3) (t : TcL) (ht : m.traces = [t]) : Ans c m { c with db := fun d => if d = t.key then addTL (c.db d) t else c.db d } (okM 7 dg0 [] []) 0
  | nosum (h : checkM m = 0) (k : m.kind = 4) (hs : shaD m.data ≠ m.sum) : Ans c m c (okM 0 dg0 [] []) 5
  | noroom (h : checkM m = 0) (k : m.kind = 4) (hs : shaD m.data = m.sum) (hl : c.most < m.data.length) : Ans c m c (okM 0 dg0 [] []) 6
  | put (h : checkM m = 0) (k : m.kind = 4) (hs : shaD m.data = m.sum) (hl : m.data.length ≤ c.most) : Ans c m { c with rows := fitR c.most m.data.length (without m.sum c.rows) ++ [(m.sum, m.data)] } (okM 7 dg0 [] []) 0
  | other (h : checkM m = 0) (k : m.kind ≠ 1 ∧ m.kind ≠ 2 ∧ m.kind ≠ 3 ∧ m.kind ≠ 4) : Ans c m c (okM 0 dg0 [] []) 1
theorem checkM_is (x : MsgM) (w : World) (hx : HeldM w x) (hk0 : -9223372036854775808 ≤ x.kind) (hk1 : x.kind ≤ 9223372036854775807) (hd : x.data.length ≤ 1000000000000) (hs : ∀ t ∈ x.ts, SmallT t.t) (r : Int) (hr : checkM x.l = r) :
    Calls Tryz.prog 34 #[x.val] w fun e w' => e = .returned (.int .i64 r) ∧ Below w.heap.size w w' := hr ▸ checkM_any x w hx hk0 hk1 hd hs
/-- A message that comes from outside. -/
structure OutM (B : Nat) (w : World) (x : MsgM) : Prop where
  held : HeldM w x
  k0 : -9223372036854775808 ≤ x.kind
  k1 : x.kind ≤ 9223372036854775807
  nd : x.data.length ≤ 1000
  sm : ∀ t ∈ x.ts, SmallT t.t
  lo : ∀ t ∈ x.ts, InE (fun k => k < B) t
  tl : x.ts ≠ [] → ∀ k, x.tv.ownBlock = some k → k < B
/-- Where what a message holds lies. -/
def OwnM (P : Nat → Prop) (y : MsgM) : Prop := (∀ k, y.tv.ownBlock = some k → P k) ∧ ∀ t ∈ y.ts, InT P t
theorem ownN {P : Nat → Prop} {y : MsgM} (h : y.ts = [] ∧ y.tv = nilS) : OwnM P y := by
  obtain ⟨k, i, s, d, v, l, z⟩ := y
  obtain ⟨rfl, rfl⟩ := h
  exact ⟨fun k h => (by cases h), fun t h => (by cases h)⟩
theorem OwnM.mono {P Q : Nat → Prop} {y : MsgM} (h : OwnM P y) (hs : ∀ k, P k → Q k) : OwnM Q y := ⟨fun k hk => hs k (h.1 k hk), fun t ht => ⟨fun k hk => hs k ((h.2 t ht).1 k hk), fun k hk => hs k ((h.2 t ht).2 k hk)⟩⟩
theorem HeldM.stay {w w' : World} {x : MsgM} (h : HeldM w x) (hs : w.heap.size ≤ w'.heap.size) {P : Nat → Prop} (ho : OwnM P x) (hk : ∀ k, P k → k < w.heap.size → w'.heap[k]? = w.heap[k]?) : HeldM w' x :=
  ⟨rows_keep h.1 hs fun k h1 h2 => hk k (ho.1 k h1) h2, fun t ht => (h.2 t ht).stay hs fun k h1 h2 => hk k (by rcases h1 with h1 | h1; exact (ho.2 t ht).1 k h1; exact (ho.2 t ht).2 k h1) h2⟩
theorem heldN {w : World} {y : MsgM} (h : y.ts = [] ∧ y.tv = nilS) : HeldM w y := by
  obtain ⟨k, i, s, d, v, l, z⟩ := y
  obtain ⟨rfl, rfl⟩ := h
  exact held0 w
theorem kind3 {m : MsgL} (h : checkM m = 0) (k : m.kind = 3) : ∃ t, m.traces = [t] ∧ checkT t = 0 := by
  unfold checkM at h
  rw [if_neg (by omega)] at h
  split at h
  · exact absurd h (by decide)
  · rename_i hb
    split at h
    · exact absurd h (by decide)
    · have hl : m.traces.length = 1 := by
        unfold argB at hb
        rw [k] at hb
        have e : hasL 3 = ⟨false, false, false, 1, 1⟩ := rfl
        rw [e] at hb
        simp only [Bool.or_eq_true, not_or] at hb
        have h1 := hb.1.1.2
        simpa using h1
      match ht : m.traces, hl with
      | [t], _ => exact ⟨t, rfl, tracesE_all _ h t (by rw [ht]; simp)⟩
theorem caches_ring {B cb rb dp mb r : Nat} {R D I : Nat → Prop} {w W2 W3 W4 : World} {c : CaL} {M : Dg → Option Value} {l : List Rw} {L : Dg → List TcM} {rows : List (Dg × List UInt8)} {F : Nat → Prop} (hF : ∀ k, F k ↔ R k ∨ D k ∨ I k) (hIB : ∀ k, I k → B ≤ k) (hR : RingIs B R w cb rb dp c.most l) (hDB : DbIs B D I w dp mb M L) (hdb : ∀ d, (L d).map (·.t) = c.db d) (hRD : ∀ k, R k → ¬ D k ∧ ¬ I k)
    (_hB : B ≤ w.heap.size) (hb : Below w.heap.size w W2) (ha : AnsIs B R cb rb dp c.most W2 W3 rows) (ht : Turned r W3 W4) (h1 : w.heap.size ≤ r) (h2 : r < W2.heap.size) : Went B F w W4 cb { c with rows := rows } := by
  obtain ⟨l', R', hR', hl', hs⟩ := ha.ring
  have hz := hb.size
  have hRr : ∀ k, R' k → ¬ k = r := fun k hk e => by
    rcases hs k hk with h | h
    · have := (hR.bd k h).2; omega
    · omega
  have hDB3 := (hDB.below hb).keep ((ha.foot.mono fun _ _ e => Or.inl e).chain (ht.foot.mono fun _ _ e => Or.inr (Or.inr e)) : Foot (fun k => R k ∨ W2.heap.size ≤ k ∨ k = r) W2 W4) (fun k hk h => by
    have hlt : k < w.heap.size := by
      rcases hk with hk | hk
      · exact (hDB.db_ k hk).2
      · exact hDB.ib k hk
    rcases h with h | h | h
    · rcases hk with hk | hk
      · exact (hRD k h).1 hk
      · exact (hRD k h).2 hk
    · omega
    · omega)
  refine ⟨fun k => R' k ∨ D k ∨ I k, fun k hk => ?_, ?_, R', D, I, rb, dp, mb, M, l', L, fun k => Iff.rfl, hR'.keep ht.foot hRr, hl', hDB3, hdb, fun k hk => ?_, hIB⟩
  · rcases hk with hk | hk
    · rcases hs k hk with h | h
      · exact .inl ((hF k).2 (.inl h))
      · exact .inr (by omega)
    · exact .inl ((hF k).2 (.inr hk))
  · exact ((Foot.of_below (D := F) hb).chain (ha.foot.mono fun k _ h => (hF k).2 (.inl h))).trans ht.foot fun i h1' e => by omega
  · rcases hs k hk with h | h
    · exact hRD k h
    · exact ⟨fun e => by have := (hDB.db_ k e).2; omega, fun e => by have := hDB.ib k e; omega⟩
theorem caches_db {B cb rb dp mb r : Nat} {R D I : Nat → Prop} {w W2 W3 W4 : World} {c : CaL} {M : Dg → Option Value} {l : List Rw} {L : Dg → List TcM} {t : TcL} {F : Nat → Prop} (hF : ∀ k, F k ↔ R k ∨ D k ∨ I k) (hIB : ∀ k, I k → B ≤ k) (hR : RingIs B R w cb rb dp c.most l) (hrows : plainR l = c.rows) (hDB : DbIs B D I w dp mb M L) (hdb : ∀ d, (L d).map (·.t) = c.db d) (hRD : ∀ k, R k → ¬ D k ∧ ¬ I k)
    (hB : B ≤ w.heap.size) (hb : Below w.heap.size w W2) (hf : Foot D W2 W3) {D' I' : Nat → Prop} {M' : Dg → Option Value} {y : TcM} (hy : y.t = t) (hDB' : DbIs B D' I' W3 dp mb M' (fun d => if d = t.key then addT (L d) y else L d)) (hD : ∀ k, D' k → D k ∨ W2.heap.size ≤ k) (hI : ∀ k, I' k → I k ∨ W2.heap.size ≤ k)
    (ht : Turned r W3 W4) (h1 : w.heap.size ≤ r) (h2 : r < W2.heap.size) : Went B F w W4 cb { c with db := fun d => if d = t.key then addTL (c.db d) t else c.db d } := by
  have hz := hb.size
  have hf3 : Foot (fun k => D k ∨ k = r) W2 W4 := (hf.mono fun _ _ h => .inl h).chain (ht.foot.mono fun _ _ h => .inr h)
  refine ⟨fun k => R k ∨ D' k ∨ I' k, fun k hk => ?_, ?_, R, D', I', rb, dp, mb, M', l, _, fun k => Iff.rfl, (hR.below hb).keep hf3 fun k hk h => ?_, hrows, hDB'.keep ht.foot fun k hk h => ?_, fun d => ?_, fun k hk => ⟨fun e => ?_, fun e => ?_⟩, fun k hk => ?_⟩
  · rcases hk with hk | hk | hk
    · exact .inl ((hF k).2 (.inl hk))
    · rcases hD k hk with h | h
      · exact .inl ((hF k).2 (.inr (.inl h)))
      · exact .inr (by omega)
    · rcases hI k hk with h | h
      · exact .inl ((hF k).2 (.inr (.inr h)))
      · exact .inr (by omega)
  · exact ((Foot.of_below (D := F) hb).chain (hf.mono fun k _ h => (hF k).2 (.inr (.inl h)))).trans ht.foot fun i h1' e => by omega
  · rcases h with h | h
    · exact (hRD k hk).1 h
    · have := (hR.bd k hk).2; omega
  · rcases hk with hk | hk
    · rcases hD k hk with h | h
      · have := (hDB.db_ k h).2; omega
      · omega
    · rcases hI k hk with h | h
      · have := hDB.ib k h; omega
      · omega
  · show (if d = t.key then addT (L d) y else L d).map (·.t) = if d = t.key then addTL (c.db d) t else c.db d
    by_cases h : d = t.key
    · rw [if_pos h, if_pos h, addT_map, hdb, hy]
    · rw [if_neg h, if_neg h, hdb]
  · rcases hD k e with h | h
    · exact (hRD k hk).1 h
    · have := (hR.bd k hk).2; omega
  · rcases hI k e with h | h
    · exact (hRD k hk).2 h
    · have := (hR.bd k hk).2; omega
  · rcases hI k hk with h | h
    · exact hIB k h
    · omega
theorem below_of_foot {B : Nat} {F : Nat → Prop} {w w' : World} (h : Foot F w w') (hB : B ≤ w.heap.size) (hF : ∀ k, F k → B ≤ k) : Below B w w' := h.below hB hF
set_option maxHeartbeats 4000000 in
theorem answer_any {B cb : Nat} {F : Nat → Prop} {w : World} {c : CaL} (hc : CacheIs B F w cb c) (x : MsgM) (hx : OutM B w x) (hB : B ≤ w.heap.size) :
    Calls Tryz.prog 33 #[.pointer (some ⟨cb, 0, none⟩), x.val] w fun e w' => ∃ (y : MsgM) (er : Int) (c' : CaL), e = .returned (.tuple #[y.val, .int .i64 er]) ∧ Ans c x.l c' y.l er ∧ Went B F w w' cb c' ∧ HeldM w' y ∧ OwnM (fun k => w.heap.size ≤ k) y := by
  obtain ⟨R, D, I, rb, dp, mb, M, l, L, hF, hR, hrows, hDB, hdb, hRD, hIB⟩ := hc
  have HFI := hid (And.intro hF hIB)
  have HR := hid hR
  have HDB := hid hDB
  have HP := hid (And.intro hrows hdb)
  have HRD := hid hRD
  have HX := hid hx
  have HBS := hid hB
  have HCD := hid hR.cd
  have HCL : Hid (∀ W c', Below w.heap.size w W → c' = c → Went B F w W cb c') := hid (fun W c' hb e => by
    subst e
    exact ⟨F, fun k h => .inl h, Foot.of_below hb, R, D, I, rb, dp, mb, M, l, L, hF, hR.below hb, hrows, hDB.below hb, hdb, hRD, hIB⟩)
  have HRZ : Hid (∀ k, w.heap.size ≤ k → ¬ R k) := hid (fun k hk e => by have := (HR.out.bd k e).2; omega)
  unfold MsgM.val
  clear hF hIB hR hDB hrows hdb hRD hx hB
  by_cases hck : checkM x.l = 0
  · have HCK := hid hck
    have HC := hid (fun (W : World) (hb : Below w.heap.size w W) => checkM_is x W (HX.out.held.keep hb) HX.out.k0 HX.out.k1 (by have := HX.out.nd; omega) HX.out.sm 0 hck)
    clear hck
    go_enter Tryz.func33, Tryz.ntmps33
    go_upto_region 5 with first | (refine wl_box rt34 ?_; intro W0 hb0 hn0 hs0) | (refine wl_al rt34 ?_; intro zs W1 hzs hb1 hn1 hs1; rw [hs0] at hn1; have hn0' := (hb1.block _ (by omega)).trans hn0) | (refine wl_ld rt34 (range_of_heap hn0') (MsgM.len _) ?_) | (go_at_call 34; refine (HC.out _ (Below.chain hb0 hb1)).mono ?_; rintro e W2 ⟨rfl, hb2⟩; have m0 := (MsgM.parts ((hb2.block _ (by omega)).trans hn0')).1)
    have HB := hid (Below.chain (Below.chain hb0 hb1) hb2)
    have hz2 := hb2.size
    have HN := hid (And.intro ((hb2.block _ (by omega)).trans hn0') ((hb2.block _ (by omega)).trans hn1))
    have HK := hid (fun (W : World) (hb : Below W2.heap.size W2 W) => And.intro ((hb.block _ (by omega)).trans HN.out.1) (And.intro (Below.keeps (Below.chain HB.out hb) HCD.out) ((hb.block _ (by omega)).trans HN.out.2)))
    have HZ := hid (show w.heap.size + 2 ≤ W2.heap.size by omega)
    have HKE : Hid (x.l.kind = x.kind) := hid rfl
    clear hb0 hb1 hb2 hn0 hn0' hn1 hs0 hs1 hz2
    by_cases k1 : x.kind = 1
    · have E1 := eqT k1
      have HKI := hid k1
      clear k1
      go_wp2_with fail
      refine wp_region_wl (fun W => W.heap[w.heap.size]? = some (.cells x.cells.toArray 34 (0, 0)) ∧ W.cell? ⟨cb, 2, none⟩ = some (.pointer (some ⟨dp, 0, none⟩)) ∧ W.heap[w.heap.size + 1]? = some (.cells zs 34 (0, 0))) 8 (by kernel_rfl) ?_
      intro Wd hbd
      have hS := HK.out _ hbd
      refine WL.tp 0 (some 17) (hi := rfl) (.inr hS) ?_
      apply Exists.intro
      refine ⟨fun W => ?_, ?_⟩
      · go_simp
        try rfl
      try simp only [Act.put, List.setIfInBounds_toArray, List.set_cons_zero, List.set_cons_succ]
      refine WL.tp 1 (some 18) (hi := rfl) (.inr hS) ?_
      apply Exists.intro
      refine ⟨fun W => ?_, ?_⟩
      · go_simp
        try rfl
      try simp only [Act.put, List.setIfInBounds_toArray, List.set_cons_zero, List.set_cons_succ]
      refine WL.tp 2 (some 19) (hi := rfl) (.inr hS) ?_
      apply Exists.intro
      refine ⟨fun W => ?_, ?_⟩
      · go_simp
        try rfl
      try simp only [Act.put, List.setIfInBounds_toArray, List.set_cons_zero, List.set_cons_succ]
      refine WL.te 3 (some 20) (hi := rfl) hS ?_
      apply Exists.intro
      refine ⟨fun W hW => ?_, ?_⟩
      · obtain ⟨-, e1, -⟩ := hW
        go_simp
        try rfl
      try simp only [Act.put, List.setIfInBounds_toArray, List.set_cons_zero, List.set_cons_succ]
      refine WL.tp 4 (some 21) (hi := rfl) (.inr hS) ?_
      apply Exists.intro
      refine ⟨fun W => ?_, ?_⟩
      · go_simp
        try rfl
      try simp only [Act.put, List.setIfInBounds_toArray, List.set_cons_zero, List.set_cons_succ]
      refine WL.ld 5 (some 22) rt31 (fun W hW => (MsgM.parts hW.1).2.2.1) (dgc_len _) (hi := rfl) hS ?_
      try simp only [Act.put, List.setIfInBounds_toArray, List.set_cons_zero, List.set_cons_succ]
      refine WL.o 6 (hi := rfl) ?_
      intro K hK
      go_simp
      refine (dbOf_any (HDB.out.below (Below.chain HB.out hbd)) x.sum).mono ?_
      rintro e W3 ⟨v, ys, rfl, hyt, hrow, hheld, hin, hb3⟩
      obtain ⟨va, vc, hv, -⟩ := rows_len hrow
      subst hv
      have hS3 := HK.out _ (Below.chain hbd hb3)
      refine hK.out _ _ (.inr hS3) ?_
      clear hK K
      try simp only [Act.put, List.setIfInBounds_toArray, List.set_cons_zero, List.set_cons_succ]
      refine WL.tp 7 (some 24) (hi := rfl) (.inr hS3) ⟨_, fun W => r_build (built_traces 5 va ys.length vc) rfl (by simp only [List.map_toArray, List.map_cons, List.map_nil]; rfl), ?_⟩
      try simp only [Act.put, List.setIfInBounds_toArray, List.set_cons_zero, List.set_cons_succ]
      refine WL.o 8 (hi := rfl) ?_
      intro K hK
      refine wp_st (xs := (msgC 5 0 dg0 [] (.slice va ys.length vc) 0).toArray) rt34 hS3.2.2 hzs (by rw [List.size_toArray, msgC_len]) (msgC_one rfl) ?_
      intro W4 ht4 hn4 hs4
      refine hK.out _ _ (.inl (by kernel_rfl)) ?_
      clear hK K
      try simp only [Act.put, List.setIfInBounds_toArray]
      refine WL.o 9 (hi := rfl) ?_
      intro K hK
      go_simp
      refine hK.out _ _ (.inl (by kernel_rfl)) ?_
      clear hK K
      try simp only [Act.put, List.setIfInBounds_toArray, List.set_cons_zero, List.set_cons_succ]
      refine WL.d ?_
      go_wp2_with fail
      have hb4 : Below w.heap.size w W4 := (Below.chain (Below.chain HB.out hbd) hb3).trans (ht4.below (by omega))
      refine br2 _ hn4 ⟨⟨5, 0, dg0, [], .slice va ys.length vc, ys, 0⟩, 0, rfl, c, ?_, HCL.out _ _ hb4 rfl, ?_, ?_⟩ (hu := Tryz.underlying34) (hi := by rw [List.size_toArray, msgC_len]; kernel_rfl)
      · have e1 : ys.map (·.t) = c.db x.sum := by rw [hyt, HP.out.2]
        have := Ans.traces (c := c) (m := x.l) HCK.out HKI.out
        unfold MsgM.l at this ⊢
        simp only [okM] at this ⊢
        rw [e1]
        exact this
      · have hz3 := hb3.size
        have hzd := hbd.size
        have hT := ht4.below (B := w.heap.size + 1) (Nat.le_refl _)
        have hne : ∀ k, Wd.heap.size ≤ k → ¬ k = w.heap.size + 1 := fun k hk e => by have := HZ.out; omega
        exact ⟨rows_keep hrow ht4.foot.size fun k hk hl => ht4.foot.block k hl (hne k (hin.1 k hk)), fun t ht => (hheld t ht).stay ht4.foot.size fun k hk hl => ht4.foot.block k hl (hne k (by rcases hk with hk | hk; exact (hin.2 t ht).1 k hk; exact (hin.2 t ht).2 k hk))⟩
      · exact OwnM.mono (P := fun k => Wd.heap.size ≤ k) ⟨hin.1, hin.2⟩ fun k hk => by have := hbd.size; have := HZ.out; omega
    · have E1 := eqF k1
      by_cases k2 : x.kind = 2
      · have E2 := eqT k2
        have HKI := hid k2
        clear k1 k2
        have HQ : Hid (Calls Tryz.prog 75 #[.pointer (some ⟨cb, 0, none⟩), x.val] W2 fun e W3 => ∃ (y : MsgM) (er : Int) (rows : List (Dg × List UInt8)), e = .returned (.tuple #[.agg y.cells.toArray, .int .i64 er]) ∧ (y.ts = [] ∧ y.tv = nilS) ∧ Ans c x.l { c with rows := rows } y.l er ∧ AnsIs B R cb rb dp c.most W2 W3 rows) := hid (by
          refine (blob_any (HR.out.below HB.out) x (HX.out.held.keep HB.out) (by have := HBS.out; have := HB.out.size; omega)).mono ?_
          rintro e W3 (⟨hno, rfl, ha⟩ | ⟨data, hm, rfl, ha⟩)
          · refine ⟨msg0, 10, c.rows, rfl, ⟨rfl, rfl⟩, .noblob HCK.out HKI.out ?_, by rw [← HP.out.1]; exact ha⟩
            rw [← HP.out.1]
            intro r hr
            obtain ⟨q, hq, rfl⟩ := List.mem_map.1 hr
            exact hno q hq
          · refine ⟨⟨6, 0, x.sum, data, nilS, [], 0⟩, 0, without x.sum c.rows ++ [(x.sum, data)], rfl, ⟨rfl, rfl⟩, .blob HCK.out HKI.out data ?_, by rw [← HP.out.1]; exact ha⟩
            rw [← HP.out.1]
            exact hm)
        have HX2 := hid HN.out.1
        unfold MsgM.val at HQ
        go_wp2_with first | (refine wl_ld rt34 (range_of_heap HX2.out) (MsgM.len _) ?_) | (go_at_call 75; refine HQ.out.mono ?_; rintro e W3 ⟨y, er, rows, rfl, hy, hans, hais⟩; have hn3 := (hais.foot.block (w.heap.size + 1) (by have := HZ.out; omega) (HRZ.out _ (Nat.le_succ _))).trans HN.out.2; have hyo := (heldN (w := W3) hy).one) | (refine wl_st (xs := y.cells.toArray) rt34 hn3 hzs (by rw [List.size_toArray]; exact MsgM.len _) hyo ?_; intro W4 ht4 hn4 hs4)
        have hca := caches_ring HFI.out.1 HFI.out.2 HR.out HDB.out HP.out.2 HRD.out HBS.out HB.out hais ht4 (Nat.le_succ _) (by have := HZ.out; omega)
        exact br2 _ hn4 ⟨y, er, _, rfl, hans, hca, heldN hy, ownN hy⟩ (hu := Tryz.underlying34) (hi := by rw [List.size_toArray, MsgM.len]; kernel_rfl)
      · have E2 := eqF k2
        by_cases k3 : x.kind = 3
        · have E3 := eqT k3
          have HKI := hid k3
          clear k1 k2 k3
          obtain ⟨t0l, ht0l, hct⟩ := kind3 HCK.out HKI.out
          obtain ⟨t0, hts, ht0⟩ : ∃ t0, x.ts = [t0] ∧ t0.t = t0l := by
            have e : x.ts.map (·.t) = [t0l] := ht0l
            match hx : x.ts, e with
            | [a], e => exact ⟨a, rfl, by simpa using e⟩
          subst ht0
          have hmem : t0 ∈ x.ts := by rw [hts]; simp
          have hrw := (HX.out.held.keep HB.out).1
          rw [hts] at hrw
          obtain ⟨va, vc, htv, hvc1, -, -, hat⟩ := hrw.out TcM.len (by omega)
          obtain ⟨tb, off, rfl, htb, hra⟩ := hat 0 (by simp)
          have L0 : W2.rangeAt tb off t0.cells := by have := hra 0 (by simp); simpa using this
          have HTV := hid htv
          have HTS := hid ht0l
          have HTL := hid (show tb < B from HX.out.tl (by rw [hts]; simp) tb (by rw [htv]; rfl))
          have HT0 := hid (And.intro (HX.out.held.2 t0 hmem) (And.intro (show InE (fun k => ¬ D k) t0 from fun k hk hD => by
              have h1 := (HDB.out.db_ k hD).1
              have h2 : k < B := HX.out.lo t0 hmem k hk
              omega) (And.intro (HX.out.sm t0 hmem) hct)))
          have HKF : Hid (∀ Wd, Below W2.heap.size W2 Wd → ∀ W3, Foot D Wd W3 → W3.heap[w.heap.size]? = some (.cells x.cells.toArray 34 (0, 0)) ∧ W3.cell? ⟨cb, 2, none⟩ = some (.pointer (some ⟨dp, 0, none⟩)) ∧ W3.heap[w.heap.size + 1]? = some (.cells zs 34 (0, 0)) ∧ W3.rangeAt tb off t0.cells) := hid (fun Wd hb W3 hf => by
            obtain ⟨a1, a2, a3⟩ := HK.out Wd hb
            have hz := hb.size
            have hz2 := HZ.out
            have hbd := HR.out.bd cb HR.out.rc
            have hnD : ∀ k, w.heap.size ≤ k → ¬ D k := fun k hk e => by have := (HDB.out.db_ k e).2; omega
            have htD : ¬ D tb := fun e => by have := (HDB.out.db_ tb e).1; have := HTL.out; omega
            refine ⟨(hf.block _ (by omega) (hnD _ (Nat.le_refl _))).trans a1, (World.cell?_of_block (hf.block cb (by omega) (HRD.out cb HR.out.rc).1)).trans a2, (hf.block _ (by omega) (hnD _ (Nat.le_succ _))).trans a3, fun j v hv => ?_⟩
            rw [World.cell?_of_block (hf.block tb (by have := HTL.out; have := HBS.out; omega) htD)]
            exact range_keeps hb L0 j v hv)
          have HKG : Hid (∀ W Wz : World, (W.heap[w.heap.size]? = some (.cells x.cells.toArray 34 (0, 0)) ∧ W.cell? ⟨cb, 2, none⟩ = some (.pointer (some ⟨dp, 0, none⟩)) ∧ W.rangeAt tb off t0.cells) → Turned (w.heap.size + 1) W Wz → ∀ {n : Nat}, n ≤ W.heap.size → W2.heap.size ≤ n → Wz.heap[w.heap.size]? = some (.cells x.cells.toArray 34 (0, 0)) ∧ Wz.cell? ⟨cb, 2, none⟩ = some (.pointer (some ⟨dp, 0, none⟩)) ∧ Wz.rangeAt tb off t0.cells) := hid (fun W Wz ⟨a1, a2, a3⟩ ht n hn1 hn2 => by
            have hz2 := HZ.out
            have hbd := HR.out.bd cb HR.out.rc
            refine ⟨(ht.foot.block _ (by omega) (by omega)).trans a1, (World.cell?_of_block (ht.foot.block cb (by omega) (by omega))).trans a2, fun j v hv => ?_⟩
            rw [World.cell?_of_block (ht.foot.block tb (by have := HTL.out; have := HBS.out; omega) (by have := HTL.out; have := HBS.out; omega))]
            exact a3 j v hv)
          clear hrw hat hra htv hts ht0l hvc1 hmem hct htb
          go_wp2_with fail
          refine wp_region_wl (fun W => W.heap[w.heap.size]? = some (.cells x.cells.toArray 34 (0, 0)) ∧ W.cell? ⟨cb, 2, none⟩ = some (.pointer (some ⟨dp, 0, none⟩)) ∧ W.rangeAt tb off t0.cells) 11 (by kernel_rfl) ?_
          intro Wd hbd
          have hS := And.intro (HK.out _ hbd).1 (And.intro (HK.out _ hbd).2.1 (range_keeps hbd L0))
          refine WL.tp 0 (some 34) (hi := rfl) (.inr hS) ⟨_, fun W => r_build (built_kind 7) rfl (by simp only [List.map_toArray, List.map_cons, List.map_nil]; rfl), ?_⟩
          try simp only [Act.put, List.setIfInBounds_toArray, List.set_cons_zero, List.set_cons_succ]
          refine WL.tp 1 (some 35) (hi := rfl) (.inr hS) ?_
          apply Exists.intro
          refine ⟨fun W => ?_, ?_⟩
          · go_simp
            try rfl
          try simp only [Act.put, List.setIfInBounds_toArray, List.set_cons_zero, List.set_cons_succ]
          refine WL.tp 2 (some 36) (hi := rfl) (.inr hS) ?_
          apply Exists.intro
          refine ⟨fun W => ?_, ?_⟩
          · go_simp
            try rfl
          try simp only [Act.put, List.setIfInBounds_toArray, List.set_cons_zero, List.set_cons_succ]
          refine WL.tp 3 (some 37) (hi := rfl) (.inr hS) ?_
          apply Exists.intro
          refine ⟨fun W => ?_, ?_⟩
          · go_simp
            try rfl
          try simp only [Act.put, List.setIfInBounds_toArray, List.set_cons_zero, List.set_cons_succ]
          refine WL.te 4 (some 38) (hi := rfl) hS ?_
          apply Exists.intro
          refine ⟨fun W hW => ?_, ?_⟩
          · obtain ⟨e0, e1, -⟩ := hW; obtain ⟨-, -, -, -, e5, -⟩ := MsgM.parts e0; clear e0; rw [HTV.out] at e5; simp only [List.length_cons, List.length_nil] at e5
            go_simp
            try rfl
          try simp only [Act.put, List.setIfInBounds_toArray, List.set_cons_zero, List.set_cons_succ]
          refine WL.tp 5 (some 39) (hi := rfl) (.inr hS) ?_
          apply Exists.intro
          refine ⟨fun W => ?_, ?_⟩
          · go_simp
            try rfl
          try simp only [Act.put, List.setIfInBounds_toArray, List.set_cons_zero, List.set_cons_succ]
          refine WL.te 6 (some 40) (hi := rfl) hS ?_
          apply Exists.intro
          refine ⟨fun W hW => ?_, ?_⟩
          · obtain ⟨e0, e1, -⟩ := hW; obtain ⟨-, -, -, -, e5, -⟩ := MsgM.parts e0; clear e0; rw [HTV.out] at e5; simp only [List.length_cons, List.length_nil] at e5
            go_simp
            try rfl
          try simp only [Act.put, List.setIfInBounds_toArray, List.set_cons_zero, List.set_cons_succ]
          refine WL.tp 7 (some 41) (hi := rfl) (.inr hS) ?_
          apply Exists.intro
          refine ⟨fun W => ?_, ?_⟩
          · go_simp
            try rfl
          try simp only [Act.put, List.setIfInBounds_toArray, List.set_cons_zero, List.set_cons_succ]
          refine WL.ld 8 (some 42) rt44 (fun W hW => hW.2.2) (TcM.len _) (hi := rfl) hS ?_
          try simp only [Act.put, List.setIfInBounds_toArray, List.set_cons_zero, List.set_cons_succ]
          refine WL.o 9 (hi := rfl) ?_
          intro K hK
          go_simp
          refine (dbAdd_any (HDB.out.below (Below.chain HB.out hbd)) t0 (HT0.out.1.keep (Below.chain HB.out hbd)) HT0.out.2.1 HT0.out.2.2.1 HT0.out.2.2.2 (Nat.le_trans HBS.out (Below.chain HB.out hbd).size)).mono ?_
          rintro e W3 ⟨rfl, hf3, D', I', M', y, hyt, hdb3, hD3, hI3⟩
          have hT3 := HKF.out _ hbd _ hf3
          have hS3 := And.intro hT3.1 (And.intro hT3.2.1 hT3.2.2.2)
          refine hK.out _ _ (.inr hS3) ?_
          clear hK K
          try simp only [Act.put, List.setIfInBounds_toArray, List.set_cons_zero, List.set_cons_succ]
          refine WL.o 10 (hi := rfl) ?_
          intro K hK
          refine wp_st (xs := (msgC 7 0 dg0 [] nilS 0).toArray) rt34 hT3.2.2.1 hzs (by rw [List.size_toArray, msgC_len]) (msgC_one rfl) ?_
          intro W4 ht4 hn4 hs4
          have hS4 := HKG.out _ _ hS3 ht4 hf3.size hbd.size
          refine hK.out _ _ (.inr hS4) ?_
          clear hK K
          try simp only [Act.put, List.setIfInBounds_toArray]
          refine WL.o 11 (hi := rfl) ?_
          intro K hK
          go_simp
          refine hK.out _ _ (.inl (by kernel_rfl)) ?_
          clear hK K
          try simp only [Act.put, List.setIfInBounds_toArray, List.set_cons_zero, List.set_cons_succ]
          refine WL.d ?_
          go_wp2_with fail
          have HBW := Below.chain HB.out hbd
          have hca := caches_db HFI.out.1 HFI.out.2 HR.out HP.out.1 HDB.out HP.out.2 HRD.out HBS.out HBW hf3 hyt hdb3 hD3 hI3 ht4 (Nat.le_succ _) (by have := HZ.out; have := hbd.size; omega)
          refine br2 _ hn4 ⟨⟨7, 0, dg0, [], nilS, [], 0⟩, 0, _, rfl, .trace HCK.out HKI.out t0.t HTS.out, hca, heldN ⟨rfl, rfl⟩, ownN ⟨rfl, rfl⟩⟩ (hu := Tryz.underlying34) (hi := by rw [List.size_toArray, msgC_len]; kernel_rfl)
        · have E3 := eqF k3
          by_cases k4 : x.kind = 4
          · have E4 := eqT k4
            have HKI := hid k4
            clear k1 k2 k3 k4
            have HQ : Hid (Calls Tryz.prog 77 #[.pointer (some ⟨cb, 0, none⟩), x.val] W2 fun e W3 => ∃ (y : MsgM) (er : Int) (rows : List (Dg × List UInt8)), e = .returned (.tuple #[.agg y.cells.toArray, .int .i64 er]) ∧ (y.ts = [] ∧ y.tv = nilS) ∧ Ans c x.l { c with rows := rows } y.l er ∧ AnsIs B R cb rb dp c.most W2 W3 rows) := hid (by
              refine (put_any (HR.out.below HB.out) x (HX.out.held.keep HB.out) (by have := HBS.out; have := HB.out.size; omega) HX.out.nd).mono ?_
              rintro e W3 (⟨hs, rfl, ha⟩ | ⟨hs, hm, rfl, ha⟩ | ⟨hs, hm, rfl, ha⟩)
              · exact ⟨msg0, 5, c.rows, rfl, ⟨rfl, rfl⟩, .nosum HCK.out HKI.out hs, by rw [← HP.out.1]; exact ha⟩
              · exact ⟨msg0, 6, c.rows, rfl, ⟨rfl, rfl⟩, .noroom HCK.out HKI.out hs hm, by rw [← HP.out.1]; exact ha⟩
              · exact ⟨⟨7, 0, dg0, [], nilS, [], 0⟩, 0, fitR c.most x.data.length (without x.sum c.rows) ++ [(x.sum, x.data)], rfl, ⟨rfl, rfl⟩, .put HCK.out HKI.out hs hm, by rw [← HP.out.1]; exact ha⟩)
            have HX2 := hid HN.out.1
            unfold MsgM.val at HQ
            go_wp2_with first | (refine wl_ld rt34 (range_of_heap HX2.out) (MsgM.len _) ?_) | (go_at_call 77; refine HQ.out.mono ?_; rintro e W3 ⟨y, er, rows, rfl, hy, hans, hais⟩; have hn3 := (hais.foot.block (w.heap.size + 1) (by have := HZ.out; omega) (HRZ.out _ (Nat.le_succ _))).trans HN.out.2; have hyo := (heldN (w := W3) hy).one) | (refine wl_st (xs := y.cells.toArray) rt34 hn3 hzs (by rw [List.size_toArray]; exact MsgM.len _) hyo ?_; intro W4 ht4 hn4 hs4)
            have hca := caches_ring HFI.out.1 HFI.out.2 HR.out HDB.out HP.out.2 HRD.out HBS.out HB.out hais ht4 (Nat.le_succ _) (by have := HZ.out; omega)
            exact br2 _ hn4 ⟨y, er, _, rfl, hans, hca, heldN hy, ownN hy⟩ (hu := Tryz.underlying34) (hi := by rw [List.size_toArray, MsgM.len]; kernel_rfl)
          · have E4 := eqF k4
            have HKI := hid (And.intro k1 (And.intro k2 (And.intro k3 k4)))
            clear k1 k2 k3 k4
            go_wp2_with first | (refine wl_run (r_build built_done rfl (by simp only [List.map_toArray, List.map_nil])) ?_) | (refine wl_st (xs := msg0.cells.toArray) rt34 HN.out.2 hzs (by rw [List.size_toArray]; exact MsgM.len _) (msgC_one rfl) ?_; intro W4 ht4 hn4 hs4)
            have hb4 : Below w.heap.size w W4 := HB.out.trans (ht4.below (by omega))
            refine br2 _ hn4 ⟨msg0, 1, c, rfl, .other HCK.out HKI.out, HCL.out _ _ hb4 rfl, held0 _, ownN ⟨rfl, rfl⟩⟩ (hu := Tryz.underlying34) (hi := by rw [List.size_toArray, MsgM.len]; kernel_rfl)
  · obtain ⟨r, hr⟩ : ∃ r, checkM x.l = r := ⟨_, rfl⟩
    have HCK := hid hck
    have HCR := hid hr
    have HC := hid (fun (W : World) (hb : Below w.heap.size w W) => checkM_is x W (HX.out.held.keep hb) HX.out.k0 HX.out.k1 (by have := HX.out.nd; omega) HX.out.sm r hr)
    have hne : (r != 0) = true := neT (by rw [← hr]; exact hck)
    clear hck hr
    go_enter Tryz.func33, Tryz.ntmps33
    go_wp2_with first | (refine wl_box rt34 ?_; intro W0 hb0 hn0 hs0) | (refine wl_al rt34 ?_; intro zs W1 hzs hb1 hn1 hs1; rw [hs0] at hn1; have hn0' := (hb1.block _ (by omega)).trans hn0) | (refine wl_ld rt34 (range_of_heap hn0') (MsgM.len _) ?_) | (go_at_call 34; refine (HC.out _ (Below.chain hb0 hb1)).mono ?_; rintro e W2 ⟨rfl, hb2⟩; have hn2 := (hb2.block _ (by omega)).trans hn1) | (refine wl_run (r_build built_done rfl (by simp only [List.map_toArray, List.map_nil])) ?_) | (refine wl_st (xs := msg0.cells.toArray) rt34 hn2 hzs (by rw [List.size_toArray]; exact MsgM.len _) (msgC_one rfl) ?_; intro W4 ht4 hn4 hs4)
    have hb4 : Below w.heap.size w W4 := (Below.chain (Below.chain hb0 hb1) hb2).trans (ht4.below (by omega))
    refine br2 _ hn4 ⟨msg0, r, c, rfl, by rw [← HCR.out]; exact .bad HCK.out, HCL.out _ _ hb4 rfl, held0 _, ownN ⟨rfl, rfl⟩⟩ (hu := Tryz.underlying34) (hi := by rw [List.size_toArray, MsgM.len]; kernel_rfl)
end Go.Proofs.YtlbipokkdiiaiaaGreatDoor
/- db.New and cache.New. -/
namespace Go.Proofs.YtlbipokkdiiaiaaGreatDoor
open Go.RowKit Go.Proofs.YtlbipokkdiiaiaaGreatDoor.Exec
set_option maxRecDepth 100000
theorem rt172 : RowTy 172 2 := ⟨_, Tryz.underlying172, rfl, by kernel_rfl⟩
theorem rt115 : RowTy 115 39 := ⟨_, Tryz.underlying115, rfl, by kernel_rfl⟩
theorem info172 : builtInfo 172 = some (#[.int .i64 0, .map none], [(0, 1), (1, 1)]) := by kernel_rfl
theorem built172 (n : Int) (m : Option Nat) : Tryz.prog.built 172 [(0, .int .i64 n), (1, .map m)] = some #[.int .i64 n, .map m] := by rw [built_of info172]; rfl
def cacC (most : Int) (t : Option Addr) (r : Option Nat) (o n : Value) : List Value := [.int .i64 most, .int .i64 0, .pointer t, .map r] ++ rowC dg0 [] o n
theorem cacC_len (most : Int) (t : Option Addr) (r : Option Nat) (o n : Value) : (cacC most t r o n).length = 39 := by simp [cacC, rowC_len]
theorem info115 : builtInfo 115 = some ((cacC 0 none none (.pointer none) (.pointer none)).toArray, [(0, 1), (1, 1), (2, 1), (3, 1), (4, 35)]) := by kernel_rfl
theorem built115 (n : Int) (t : Option Addr) (m : Option Nat) : Tryz.prog.built 115 [(0, .int .i64 n), (2, .pointer t), (3, .map m)] = some (cacC n t m (.pointer none) (.pointer none)).toArray := by
  rw [built_of info115]
  unfold cacC
  rw [show ([Value.int .i64 0, .int .i64 0, .pointer none, .map none] ++ rowC dg0 [] (.pointer none) (.pointer none)) = [] ++ [Value.int .i64 0] ++ ([.int .i64 0, .pointer none, .map none] ++ rowC dg0 [] (.pointer none) (.pointer none)) from rfl,
    fill_step (i := 0) (off := 0) (size := 1) (xs := [.int .i64 n]) rfl rfl rfl rfl rfl,
    show [] ++ [Value.int .i64 n] ++ ([.int .i64 0, .pointer none, .map none] ++ rowC dg0 [] (.pointer none) (.pointer none)) = [.int .i64 n, .int .i64 0] ++ [Value.pointer none] ++ ([.map none] ++ rowC dg0 [] (.pointer none) (.pointer none)) from rfl,
    fill_step (i := 2) (off := 2) (size := 1) (xs := [.pointer t]) rfl rfl rfl rfl rfl,
    show [Value.int .i64 n, .int .i64 0] ++ [.pointer t] ++ ([.map none] ++ rowC dg0 [] (.pointer none) (.pointer none)) = [.int .i64 n, .int .i64 0, .pointer t] ++ [Value.map none] ++ (rowC dg0 [] (.pointer none) (.pointer none)) from rfl,
    fill_step (i := 3) (off := 3) (size := 1) (xs := [.map m]) rfl rfl rfl rfl rfl]
  rfl
theorem dbNew_any (w : World) : Calls Tryz.prog 32 #[.int .i64 8] w fun e w' => ∃ dp mb, e = .returned (.tuple #[.pointer (some ⟨dp, 0, none⟩), .int .i64 0]) ∧ DbIs w.heap.size (fun k => k = dp ∨ k = mb) (fun _ => False) w' dp mb (fun _ => none) (fun _ => []) ∧ Below w.heap.size w w' := by
  have hmm := @run_makeMap Tryz.prog
  go_enter Tryz.func32, Tryz.ntmps32
  go_wp2_with first | (refine wl_run (r_build (built172 _ _) rfl (by simp only [List.map_toArray, List.map_cons, List.map_nil]; rfl)) ?_) | (refine wl_box rt172 ?_; intro W1 hb1 hn1 hs1)
  have hmb : (w.alloc (.map #[] 0)).heap[w.heap.size]? = some (.map #[] 0) := heap_alloc_new w _
  have hz : (w.alloc (.map #[] 0)).heap.size = w.heap.size + 1 := World.size_alloc _ _
  have hb0 := below_new w (.map #[] 0)
  generalize w.alloc (.map #[] 0) = W0 at *
  rw [hz] at hn1 hs1
  go_ret2
  refine ⟨w.heap.size + 1, w.heap.size, rfl, ?_, Below.chain hb0 hb1⟩
  exact
    { db := hn1
      mp := ⟨.map #[] 0, (hb1.block _ (by omega)).trans hmb, MapIs.nil _⟩
      row := fun d => ⟨rfl, .inl ⟨rfl, rfl⟩⟩
      few := fun d => Nat.zero_le _
      cap := fun d a n c h => by cases h
      held := fun d x hx => by cases hx
      dd := .inl rfl
      dm := .inr rfl
      dne := by omega
      drow := fun d k h => by cases h
      apart := fun d e k h => by cases h
      di := fun k _ h => h
      db_ := fun k h => by rcases h with rfl | rfl <;> omega
      ib := fun k h => h.elim }
set_option maxHeartbeats 2000000 in
theorem cacheNew_any (w : World) (n : Nat) (hn : n ≤ 1073741824) : Calls Tryz.prog 8 #[.int .i64 n] w fun e w' => ∃ cb, e = .returned (.tuple #[.pointer (some ⟨cb, 0, none⟩), .int .i64 0]) ∧ ∃ F, CacheIs w.heap.size F w' cb ⟨n, [], fun _ => []⟩ ∧ Below w.heap.size w w' := by
  have hmm := @run_makeMap Tryz.prog
  have E1 : decide ((n : Int) < 0) = false := decide_eq_false (by omega)
  have E2 : decide (1073741824 < (n : Int)) = false := decide_eq_false (by omega)
  go_enter Tryz.func8, Tryz.ntmps8
  go_upto_region 4 with (go_at_call 32; refine (dbNew_any w).mono ?_; rintro e W1 ⟨dp, mb, rfl, hdb, hb1⟩)
  have HDB := hid hdb
  have HB1 := hid hb1
  clear hdb hb1
  go_upto_region 5 with first | (refine wl_run (r_build (built115 _ _ _) rfl (by simp only [List.map_toArray, List.map_cons, List.map_nil]; rfl)) ?_) | (refine wl_box rt115 ?_; intro W3 hb3 hn3 hs3)
  have hrb : (W1.alloc (.map #[] 0)).heap[W1.heap.size]? = some (.map #[] 0) := heap_alloc_new W1 _
  have hz : (W1.alloc (.map #[] 0)).heap.size = W1.heap.size + 1 := World.size_alloc _ _
  have hb2 := below_new W1 (.map #[] 0)
  generalize W1.alloc (.map #[] 0) = W2 at *
  obtain ⟨rb, hrbe⟩ : ∃ rb, rb = W1.heap.size := ⟨_, rfl⟩
  obtain ⟨cb, hcb⟩ : ∃ cb, cb = rb + 1 := ⟨_, rfl⟩
  rw [hz] at hn3 hs3
  rw [← hrbe] at hn3 hs3 hz hrb ⊢
  rw [← hcb] at hn3 hs3 hz ⊢
  have hcw : cb < W3.heap.size := by omega
  have hcl : ∀ W, Below W3.heap.size W3 W → W.cell? ⟨cb, 37, none⟩ = some (.pointer none) ∧ W.cell? ⟨cb, 38, none⟩ = some (.pointer none) := fun W hb => by
    have h := (hb.block cb hcw).trans hn3
    exact ⟨(cell_of_row _ _ 37 _ _ _ h).trans rfl, (cell_of_row _ _ 38 _ _ _ h).trans rfl⟩
  have hfz : ∀ W, Below W3.heap.size W3 W → ∀ j, W.frozen? ⟨cb, j, none⟩ = false := fun W hb j => Lib.frozen_of_heap ((hb.block cb hcw).trans hn3) j
  have HF := hid (And.intro hcl hfz)
  have HN := hid (And.intro hn3 (And.intro hrb (And.intro hcw (And.intro hb3 (And.intro hz (And.intro hs3 (And.intro hcb (And.intro hrbe hb2))))))))
  clear hcl hfz hn3 hrb hcw hb3 hz hs3 hcb hrbe hb2
  refine wp_region_wl (fun W => True) 15 (by kernel_rfl) ?_
  intro Wd hbd
  have hS := trivial
  refine WL.tp 0 (some 22) (hi := rfl) (.inr hS) ?_
  apply Exists.intro
  refine ⟨fun W => ?_, ?_⟩
  · go_simp
    try rfl
  try simp only [Act.put, List.setIfInBounds_toArray, List.set_cons_zero, List.set_cons_succ]
  refine WL.tp 1 (some 23) (hi := rfl) (.inr hS) ?_
  apply Exists.intro
  refine ⟨fun W => ?_, ?_⟩
  · go_simp
    try rfl
  try simp only [Act.put, List.setIfInBounds_toArray, List.set_cons_zero, List.set_cons_succ]
  refine WL.tp 2 (some 24) (hi := rfl) (.inr hS) ?_
  apply Exists.intro
  refine ⟨fun W => ?_, ?_⟩
  · go_simp
    try rfl
  try simp only [Act.put, List.setIfInBounds_toArray, List.set_cons_zero, List.set_cons_succ]
  refine WL.tp 3 (some 25) (hi := rfl) (.inr hS) ?_
  apply Exists.intro
  refine ⟨fun W => ?_, ?_⟩
  · go_simp
    try rfl
  try simp only [Act.put, List.setIfInBounds_toArray, List.set_cons_zero, List.set_cons_succ]
  refine WL.tp 4 (some 26) (hi := rfl) (.inr hS) ?_
  apply Exists.intro
  refine ⟨fun W => ?_, ?_⟩
  · go_simp
    try rfl
  try simp only [Act.put, List.setIfInBounds_toArray, List.set_cons_zero, List.set_cons_succ]
  refine WL.tp 5 (some 27) (hi := rfl) (.inr hS) ?_
  apply Exists.intro
  refine ⟨fun W => ?_, ?_⟩
  · go_simp
    try rfl
  try simp only [Act.put, List.setIfInBounds_toArray, List.set_cons_zero, List.set_cons_succ]
  refine WL.tp 6 (some 28) (hi := rfl) (.inr hS) ?_
  apply Exists.intro
  refine ⟨fun W => ?_, ?_⟩
  · go_simp
    try rfl
  try simp only [Act.put, List.setIfInBounds_toArray, List.set_cons_zero, List.set_cons_succ]
  refine WL.tp 7 (some 29) (hi := rfl) (.inr hS) ?_
  apply Exists.intro
  refine ⟨fun W => ?_, ?_⟩
  · go_simp
    try rfl
  try simp only [Act.put, List.setIfInBounds_toArray, List.set_cons_zero, List.set_cons_succ]
  refine WL.tp 8 (some 30) (hi := rfl) (.inr hS) ?_
  apply Exists.intro
  refine ⟨fun W => ?_, ?_⟩
  · go_simp
    try rfl
  try simp only [Act.put, List.setIfInBounds_toArray, List.set_cons_zero, List.set_cons_succ]
  refine WL.tp 9 (some 31) (hi := rfl) (.inr hS) ?_
  apply Exists.intro
  refine ⟨fun W => ?_, ?_⟩
  · go_simp
    try rfl
  try simp only [Act.put, List.setIfInBounds_toArray, List.set_cons_zero, List.set_cons_succ]
  refine WL.tp 10 (some 32) (hi := rfl) (.inr hS) ?_
  apply Exists.intro
  refine ⟨fun W => ?_, ?_⟩
  · go_simp
    try rfl
  try simp only [Act.put, List.setIfInBounds_toArray, List.set_cons_zero, List.set_cons_succ]
  refine WL.o 11 (hi := rfl) ?_
  intro K hK
  have f0 := HF.out.2 Wd hbd 37
  have c0 := (HF.out.1 Wd hbd).1
  go_simp
  refine hK.out _ _ (.inr trivial) ?_
  clear hK K
  try simp only [Act.put, List.setIfInBounds_toArray, List.set_cons_zero, List.set_cons_succ]
  refine WL.tp 12 (some 33) (hi := rfl) (.inr hS) ?_
  apply Exists.intro
  refine ⟨fun W => ?_, ?_⟩
  · go_simp
    try rfl
  try simp only [Act.put, List.setIfInBounds_toArray, List.set_cons_zero, List.set_cons_succ]
  refine WL.tp 13 (some 34) (hi := rfl) (.inr hS) ?_
  apply Exists.intro
  refine ⟨fun W => ?_, ?_⟩
  · go_simp
    try rfl
  try simp only [Act.put, List.setIfInBounds_toArray, List.set_cons_zero, List.set_cons_succ]
  refine WL.tp 14 (some 35) (hi := rfl) (.inr hS) ?_
  apply Exists.intro
  refine ⟨fun W => ?_, ?_⟩
  · go_simp
    try rfl
  try simp only [Act.put, List.setIfInBounds_toArray, List.set_cons_zero, List.set_cons_succ]
  refine WL.o 15 (hi := rfl) ?_
  intro K hK
  have f1 : (Wd.setCell ⟨cb, 37, none⟩ (.pointer (some ⟨cb, 4, none⟩))).frozen? ⟨cb, 38, none⟩ = false := (World.frozen?_setCell _ _ _ _).trans (HF.out.2 Wd hbd 38)
  have c1 := (cell_ne (w := Wd) (.pointer (some ⟨cb, 4, none⟩)) (show ¬ (cb = cb ∧ 37 = 38) by omega)).trans (HF.out.1 Wd hbd).2
  go_simp
  refine hK.out _ _ (.inr trivial) ?_
  clear hK K
  try simp only [Act.put, List.setIfInBounds_toArray, List.set_cons_zero, List.set_cons_succ]
  refine WL.d ?_
  have HBD := hid hbd
  clear f0 c0 f1 c1 hS hbd
  go_wp2_with fail
  go_ret2
  obtain ⟨hn3, hrb, hcw, hb3, hz, hs3, hcb, hrbe, hb2⟩ := HN.out
  have hz1 := HB1.out.size
  have hb23 := (HBD.out.block cb hcw).trans hn3
  have hc : ∀ j, j < 37 → ((Wd.setCell ⟨cb, 37, none⟩ (.pointer (some ⟨cb, 4, none⟩))).setCell ⟨cb, 38, none⟩ (.pointer (some ⟨cb, 4, none⟩))).cell? ⟨cb, j, none⟩ = (cacC n (some ⟨dp, 0, none⟩) (some rb) (.pointer none) (.pointer none)).toArray[j]? := fun j hj => by
    rw [cell_ne _ (by omega), cell_ne _ (by omega)]
    exact cell_of_row _ _ j _ _ _ hb23
  have hset : ∀ k, k ≠ cb → ((Wd.setCell ⟨cb, 37, none⟩ (.pointer (some ⟨cb, 4, none⟩))).setCell ⟨cb, 38, none⟩ (.pointer (some ⟨cb, 4, none⟩))).heap[k]? = Wd.heap[k]? := fun k hk => by
    rw [heap_set_ne _ _ _ _ _ hk, heap_set_ne _ _ _ _ _ hk]
  have hzd := HBD.out.size
  have hcd : cb < Wd.heap.size := by omega
  have hT : Foot (fun k => k = cb) Wd ((Wd.setCell ⟨cb, 37, none⟩ (.pointer (some ⟨cb, 4, none⟩))).setCell ⟨cb, 38, none⟩ (.pointer (some ⟨cb, 4, none⟩))) :=
    (turned_cell (b := cb) 37 _ hcd).foot.trans (turned_cell (b := cb) 38 _ (by simp [World.setCell]; omega)).foot fun _ _ e => e
  have hB0 : Below W1.heap.size W1 Wd := Below.chain hb2 (Below.chain hb3 HBD.out)
  refine ⟨cb, rfl, _, ⟨fun k => k = cb ∨ k = rb, _, _, rb, dp, mb, _, [], _, fun k => Iff.rfl, ?_, rfl, (HDB.out.below hB0).keep hT ?_, fun d => rfl, ?_, fun k h => h.elim⟩, (Below.chain HB1.out hB0).trans (hT.below (by have := hB0.size; omega) (fun k e => by omega))⟩
  · exact
      { ob := set_ob (set_ob ⟨_, hb23, by rw [List.size_toArray, cacC_len]⟩)
        cm := hc 0 (by omega)
        cs := hc 1 (by omega)
        cd := hc 2 (by omega)
        cr := hc 3 (by omega)
        row := fun r hr => by cases hr
        ch := ⟨World.cell?_setCell_same _ _ _ ((cell_ne _ (by omega)).trans (HF.out.1 Wd HBD.out).2), (cell_ne _ (by omega)).trans (World.cell?_setCell_same _ _ _ (HF.out.1 Wd HBD.out).1)⟩
        mp := ⟨.map #[] 0, fun _ => none, (hset rb (by omega)).trans ((Below.chain hb3 HBD.out).block rb (by omega) |>.trans hrb), MapIs.nil _, by simp⟩
        dist := List.nodup_nil
        bl := by simp; omega
        fit := Nat.zero_le _
        mx := hn
        sm := by simp
        rc := .inl rfl
        rr := .inr rfl
        rl := by simp
        bd := fun k hk => by
          have := hT.size
          rcases hk with rfl | rfl
          · exact ⟨by omega, by omega⟩
          · exact ⟨by omega, by omega⟩ }
  · rintro k ((rfl | rfl) | h) e
    · have := (HDB.out.db_ _ HDB.out.dd).2; omega
    · have := (HDB.out.db_ _ HDB.out.dm).2; omega
    · exact h
  · rintro k hk
    refine ⟨fun e => ?_, fun e => e⟩
    have h1 := (HDB.out.db_ _ HDB.out.dd).2
    have h2 := (HDB.out.db_ _ HDB.out.dm).2
    omega
end Go.Proofs.YtlbipokkdiiaiaaGreatDoor
