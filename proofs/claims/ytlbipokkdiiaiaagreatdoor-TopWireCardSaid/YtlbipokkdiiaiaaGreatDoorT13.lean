/- Lemmas for TopWire: W3, W4, W5. -/
import Derived.Test.YtlbipokkdiiaiaaGreatDoorT12
import Derived.WideKeyArr
import Derived.MapFrom
import Derived.Carry
import Derived.Deep.WholeRow
/- Traces in memory; trace.Same. -/
namespace Go.Proofs.YtlbipokkdiiaiaaGreatDoor
open Go.RowKit Go.Proofs.YtlbipokkdiiaiaaGreatDoor.Exec
set_option maxRecDepth 100000
theorem range_of_heap {w : World} {b : Nat} {cs : List Value} {t : TypeId} {fr : Nat × Nat} (h : w.heap[b]? = some (.cells cs.toArray t fr)) : w.rangeAt b 0 cs := fun j v hv => by
  rw [cell_of_row w b (0 + j) cs.toArray t fr h, Nat.zero_add]; simpa using hv
theorem range_app {w : World} {b o : Nat} {l r : List Value} (h : w.rangeAt b o (l ++ r)) : w.rangeAt b o l ∧ w.rangeAt b (o + l.length) r :=
  ⟨fun j v hv => h j v (by rw [List.getElem?_append_left (List.getElem?_eq_some_iff.1 hv).1]; exact hv), fun j v hv => by
    rw [Nat.add_assoc]; exact h _ v (by rw [List.getElem?_append_right (by omega), Nat.add_sub_cancel_left]; exact hv)⟩
theorem range_cons {w : World} {b o : Nat} {v : Value} {r : List Value} (h : w.rangeAt b o (v :: r)) : w.cell? ⟨b, o, none⟩ = some v ∧ w.rangeAt b (o + 1) r :=
  ⟨h 0 v rfl, fun j u hu => by rw [show o + 1 + j = o + (j + 1) by omega]; exact h (j + 1) u (by simpa using hu)⟩
/-- A trace in memory: its slices' heads. -/
structure TcM where
  t : TcL
  rv : Value
  ov : Value
def TcM.cells (x : TcM) : List Value := dgc x.t.key ++ [x.rv, x.ov]
def TcM.val (x : TcM) : Value := .agg x.cells.toArray
def HeldT (w : World) (x : TcM) : Prop := RowsOf w 34 RdL.cells x.rv x.t.reads ∧ RowsOf w 33 MdL.cells x.ov x.t.outs
theorem TcM.len (x : TcM) : x.cells.length = 34 := by simp [TcM.cells, dgc_len]
theorem HeldT.below {w w' : World} {B : Nat} {x : TcM} (h : HeldT w x) (hb : Below B w w') (hB : w.heap.size ≤ B) : HeldT w' x := ⟨h.1.below hb hB, h.2.below hb hB⟩
theorem HeldT.keep {w w' : World} {x : TcM} (h : HeldT w x) (hb : Below w.heap.size w w') : HeldT w' x := h.below hb (Nat.le_refl _)
theorem TcM.parts {w : World} {b o : Nat} {x : TcM} (h : w.rangeAt b o x.cells) : w.rangeAt b o (dgc x.t.key) ∧ w.cell? ⟨b, o + 32, none⟩ = some x.rv ∧ w.cell? ⟨b, o + 33, none⟩ = some x.ov := by
  obtain ⟨h1, h2⟩ := range_app h
  rw [dgc_len] at h2
  obtain ⟨h3, h4⟩ := range_cons h2
  exact ⟨h1, h3, (range_cons h4).1⟩
theorem TcM.parts0 {w : World} {b : Nat} {x : TcM} {t : TypeId} {fr : Nat × Nat} (h : w.heap[b]? = some (.cells x.cells.toArray t fr)) : w.rangeAt b 0 (dgc x.t.key) ∧ w.cell? ⟨b, 32, none⟩ = some x.rv ∧ w.cell? ⟨b, 33, none⟩ = some x.ov := by
  simpa using TcM.parts (range_of_heap h)
theorem rows_one {α : Type} {w : World} {sz : Nat} {f : α → List Value} {v : Value} {l : List α} (h : RowsOf w sz f v l) : v.oneCell' = true := by
  obtain ⟨_, a, c, rfl, _⟩ := h; rfl
theorem HeldT.one {w : World} {x : TcM} (h : HeldT w x) : ∀ u ∈ x.cells, u.oneCell' = true := by
  intro u hu
  simp only [TcM.cells, List.mem_append, List.mem_cons, List.not_mem_nil, or_false] at hu
  rcases hu with hu | rfl | rfl
  · exact dgc_one _ u hu
  · exact rows_one h.1
  · exact rows_one h.2
theorem eqt_is {t : TypeId} {x y : Array Value} {p : Prop} [Decidable p] (h : EqTy t x y (decide p)) (b : Bool) (hb : decide p = b) : EqTy t x y b := hb ▸ h
theorem eqReads_is (b : Bool) (v0 v1 : Value) (l r : List RdL) (w : World) (h0 : RowsOf w 34 RdL.cells v0 l) (h1 : RowsOf w 34 RdL.cells v1 r) (hb : decide (l = r) = b) :
    Calls Tryz.prog 40 #[v0, v1] w fun e w' => e = .returned (.bool b) ∧ Below w.heap.size w w' := hb ▸ eqReads_any v0 v1 l r w h0 h1
theorem eqMades_is (b : Bool) (v0 v1 : Value) (l r : List MdL) (w : World) (h0 : RowsOf w 33 MdL.cells v0 l) (h1 : RowsOf w 33 MdL.cells v1 r) (hb : decide (l = r) = b) :
    Calls Tryz.prog 41 #[v0, v1] w fun e w' => e = .returned (.bool b) ∧ Below w.heap.size w w' := hb ▸ eqMades_any v0 v1 l r w h0 h1
set_option maxHeartbeats 1000000 in
theorem sameT_any (x y : TcM) (w : World) (hx : HeldT w x) (hy : HeldT w y) :
    Calls Tryz.prog 12 #[x.val, y.val] w fun e w' => e = .returned (.bool (decide (x.t = y.t))) ∧ Below w.heap.size w w' := by
  unfold TcM.val
  have HX := hid hx
  have HY := hid hy
  clear hx hy
  go_enter Tryz.func12, Tryz.ntmps12
  go_upto_region 1 with fail
  obtain ⟨W0, hW0, hb0, hn0, hn1⟩ := an2 w (.cells x.cells.toArray 44) (.cells y.cells.toArray 44)
  rw [← hW0.out]
  clear hW0
  obtain ⟨x0, x1, x2⟩ := TcM.parts0 hn0
  obtain ⟨y0, y1, y2⟩ := TcM.parts0 hn1
  have HB := hid hb0
  have HX0 := hid (HX.out.keep hb0)
  have HY0 := hid (HY.out.keep hb0)
  clear hn0 hn1 HX HY hb0
  by_cases hk : x.t.key = y.t.key
  · have E := eqt_is (eqt31 x.t.key y.t.key) true (decide_eq_true hk)
    by_cases hr : x.t.reads = y.t.reads
    · have HR := hid (eqReads_is true x.rv y.rv _ _ W0 HX0.out.1 HY0.out.1 (decide_eq_true hr))
      by_cases ho : x.t.outs = y.t.outs
      · have HO := hid (fun (W1 : World) (hb : Below W0.heap.size W0 W1) => eqMades_is true x.ov y.ov _ _ W1 (HX0.out.keep hb).2 (HY0.out.keep hb).2 (decide_eq_true ho))
        have HD := hid (show x.t = y.t by cases hx : x.t; cases hy : y.t; simp_all)
        clear hk hr ho
        go_wp2_with first | (refine wl_ld rt31 x0 (dgc_len _) ?_) | (refine wl_ld rt31 y0 (dgc_len _) ?_) | (refine wl_eql E ?_) | (go_at_call 40; refine (HR.out).mono ?_; rintro e w1 ⟨rfl, hb1⟩; have x2' := Below.keeps hb1 x2; have y2' := Below.keeps hb1 y2) | (go_at_call 41; refine (HO.out _ hb1).mono ?_; rintro e w2 ⟨rfl, hb2⟩)
        go_ret
        exact ⟨by rw [decide_eq_true HD.out]; rfl, Below.chain HB.out (Below.chain hb1 hb2)⟩
      · have HO := hid (fun (W1 : World) (hb : Below W0.heap.size W0 W1) => eqMades_is false x.ov y.ov _ _ W1 (HX0.out.keep hb).2 (HY0.out.keep hb).2 (decide_eq_false ho))
        have HD := hid (show ¬ x.t = y.t from fun e => ho (by rw [e]))
        clear hk hr ho
        go_wp2_with first | (refine wl_ld rt31 x0 (dgc_len _) ?_) | (refine wl_ld rt31 y0 (dgc_len _) ?_) | (refine wl_eql E ?_) | (go_at_call 40; refine (HR.out).mono ?_; rintro e w1 ⟨rfl, hb1⟩; have x2' := Below.keeps hb1 x2; have y2' := Below.keeps hb1 y2) | (go_at_call 41; refine (HO.out _ hb1).mono ?_; rintro e w2 ⟨rfl, hb2⟩)
        go_ret
        exact ⟨by rw [decide_eq_false HD.out]; rfl, Below.chain HB.out (Below.chain hb1 hb2)⟩
    · have HR := hid (eqReads_is false x.rv y.rv _ _ W0 HX0.out.1 HY0.out.1 (decide_eq_false hr))
      have HD := hid (show ¬ x.t = y.t from fun e => hr (by rw [e]))
      clear hk hr
      go_wp2_with first | (refine wl_ld rt31 x0 (dgc_len _) ?_) | (refine wl_ld rt31 y0 (dgc_len _) ?_) | (refine wl_eql E ?_) | (go_at_call 40; refine (HR.out).mono ?_; rintro e w1 ⟨rfl, hb1⟩; have x2' := Below.keeps hb1 x2; have y2' := Below.keeps hb1 y2)
      go_ret
      exact ⟨by rw [decide_eq_false HD.out]; rfl, Below.chain HB.out hb1⟩
  · have E := eqt_is (eqt31 x.t.key y.t.key) false (decide_eq_false hk)
    have HD := hid (show ¬ x.t = y.t from fun e => hk (by rw [e]))
    clear hk
    go_wp2_with first | (refine wl_ld rt31 x0 (dgc_len _) ?_) | (refine wl_ld rt31 y0 (dgc_len _) ?_) | (refine wl_eql E ?_)
    go_ret
    exact ⟨by rw [decide_eq_false HD.out]; rfl, HB.out⟩
end Go.Proofs.YtlbipokkdiiaiaaGreatDoor
/- What is turned; maps: looked up, set, deleted; sets of texts. -/
namespace Go.Proofs.YtlbipokkdiiaiaaGreatDoor
open Go.RowKit Go.Proofs.YtlbipokkdiiaiaaGreatDoor.Exec
set_option maxRecDepth 100000
/-- Only blocks of D are turned. -/
structure Foot (D : Nat → Prop) (w w' : World) : Prop where
  os : w'.os = w.os
  tape : w'.tape = w.tape
  output : w'.output = w.output
  size : w.heap.size ≤ w'.heap.size
  block : ∀ k, k < w.heap.size → ¬ D k → w'.heap[k]? = w.heap[k]?
theorem Foot.refl (D : Nat → Prop) (w : World) : Foot D w w := ⟨rfl, rfl, rfl, Nat.le_refl _, fun _ _ _ => rfl⟩
theorem Foot.of_below {D : Nat → Prop} {w w' : World} (h : Below w.heap.size w w') : Foot D w w' := ⟨h.os, h.tape, h.output, h.size, fun k hk _ => h.block k hk⟩
theorem Foot.trans {D D' : Nat → Prop} {a b c : World} (h : Foot D a b) (k : Foot D' b c) (hD : ∀ i, i < a.heap.size → D' i → D i) : Foot D a c :=
  ⟨k.os.trans h.os, k.tape.trans h.tape, k.output.trans h.output, Nat.le_trans h.size k.size, fun i hi hd => (k.block i (Nat.lt_of_lt_of_le hi h.size) (fun e => hd (hD i hi e))).trans (h.block i hi hd)⟩
theorem Foot.chain {D : Nat → Prop} {a b c : World} (h : Foot D a b) (k : Foot D b c) : Foot D a c := h.trans k fun _ _ e => e
theorem Foot.then {D : Nat → Prop} {a b c : World} (h : Foot D a b) (k : Below b.heap.size b c) : Foot D a c := h.chain (Foot.of_below k)
theorem Foot.mono {D D' : Nat → Prop} {a b : World} (h : Foot D a b) (hD : ∀ i, i < a.heap.size → D i → D' i) : Foot D' a b :=
  ⟨h.os, h.tape, h.output, h.size, fun i hi hd => h.block i hi (fun e => hd (hD i hi e))⟩
theorem Foot.below {D : Nat → Prop} {B : Nat} {w w' : World} (h : Foot D w w') (hB : B ≤ w.heap.size) (hD : ∀ i, D i → B ≤ i) : Below B w w' :=
  ⟨h.os, h.tape, h.output, h.size, fun k hk => h.block k (by omega) (fun e => by have := hD k e; omega)⟩
/-- Only the block r is turned. -/
structure Turned (r : Nat) (w w' : World) : Prop where
  lt : r < w.heap.size
  foot : Foot (fun b => b = r) w w'
theorem Turned.below {r B : Nat} {w w' : World} (h : Turned r w w') (hB : B ≤ r) : Below B w w' :=
  h.foot.below (by have := h.lt; omega) (fun i e => by omega)
theorem Turned.trans {r : Nat} {a b c : World} (h : Turned r a b) (k : Turned r b c) : Turned r a c := ⟨h.lt, h.foot.chain k.foot⟩
theorem Turned.then {r : Nat} {a b c : World} (h : Turned r a b) (k : Below b.heap.size b c) : Turned r a c := ⟨h.lt, h.foot.then k⟩
theorem Turned.setCell {w : World} (x : Addr) (v : Value) (hx : x.block < w.heap.size) : Turned x.block w (w.setCell x v) := by
  refine ⟨hx, rfl, rfl, rfl, ?_, fun k hk hne => ?_⟩
  · unfold World.setCell; split <;> simp
  · unfold World.setCell
    split
    all_goals (simp only [Array.getElem?_modify]; rw [if_neg (fun e => hne e.symm)])
theorem turned_cell {w : World} {b : Nat} (o : Nat) (v : Value) (h : b < w.heap.size) : Turned b w (w.setCell ⟨b, o, none⟩ v) := Turned.setCell ⟨b, o, none⟩ v h
/-- A block's object in place of another. -/
def putObj (w : World) (r : Nat) (o : Obj) : World := { w with heap := w.heap.setIfInBounds r o }
theorem putObj_at {w : World} {r : Nat} (h : r < w.heap.size) (o : Obj) : (putObj w r o).heap[r]? = some o := by
  simp [putObj, h]
theorem putObj_turned {w : World} {r : Nat} (h : r < w.heap.size) (o : Obj) : Turned r w (putObj w r o) :=
  ⟨h, rfl, rfl, rfl, by simp [putObj], fun k _ hne => by simp only [putObj, Array.getElem?_setIfInBounds]; rw [if_neg (fun e => hne e.symm)]⟩
/-- Keys of a map. -/
structure KeyOk (kt : TypeId) {κ : Type} (kv : κ → Value) : Prop where
  inj : ∀ a b, kv a = kv b → a = b
  check : ∀ (w : World) (em : Bool) (d : κ), (Instr.checkKey em 10000 kt (kv d)).run Tryz.prog w = .ok () w
  find : ∀ (w : World) (d : κ) (es : List MapEntry), (∀ e ∈ es, ∃ x, e.key = kv x) → ((Instr.findKey kt (kv d) es).run Tryz.prog w = .ok none w ∧ ∀ e ∈ es, e.key ≠ kv d) ∨
    ∃ j e, (Instr.findKey kt (kv d) es).run Tryz.prog w = .ok (some (j, e.val)) w ∧ es[j]? = some e ∧ e.key = kv d
  stays : ∀ (w : World) (d : κ), (Instr.keyThatStays (kv d) (kv d)).run Tryz.prog w = .ok (kv d) w
theorem dg_keyOf (d : Dg) : ∃ l, keyOf Tryz.prog 31 (dgv d) = some l := by
  have hu : Tryz.prog.underlying 31 = some (.array 32 5) := by kernel_rfl
  have hi : Tryz.prog.underlying 5 = some (.int .u8) := by kernel_rfl
  have hk : Tryz.prog.keyType 31 = true := by kernel_rfl
  have hc : Tryz.prog.cellsOf 31 = 32 := by kernel_rfl
  have h1 : Tryz.prog.cellsOf 5 = 1 := by kernel_rfl
  have hp : decide (0 < Tryz.prog.types.size) = true := by kernel_rfl
  have hp := of_decide_eq_true hp
  obtain ⟨n, hn⟩ : ∃ n, Tryz.prog.types.size + 1 = n + 2 := ⟨Tryz.prog.types.size - 1, by omega⟩
  have hf : (dgv d).formed Tryz.prog 31 = true := by
    unfold dgv Value.formed
    simp only [hu, hc, List.size_toArray, dgc_len, beq_self_eq_true]
  have hl : ∃ L, Tryz.prog.keyLits (n + 2) 31 (dgc d) = some L := by
    unfold Program.keyLits
    simp only [hu, hc, dgc_len, h1, if_true, Nat.mul_one]
    obtain ⟨r, hr⟩ := MapFrom.mapM_some (l := List.range 32) (f := fun i => Tryz.prog.keyLits (n + 1) 5 (((dgc d).drop i).take 1)) (fun i hi2 => by
      have hlt : i < d.1.length := by rw [d.2]; simpa using hi2
      have e : ((dgc d).drop i).take 1 = [Value.int .u8 (d.1[i].toNat : Int)] := by
        unfold dgc Lib.byteCells
        rw [List.drop_eq_getElem_cons (by simpa using hlt)]
        simp
      rw [e]
      refine ⟨[.int .u8 (d.1[i].toNat : Int)], ?_⟩
      unfold Program.keyLits
      simp only [hi]
      have hb := d.1[i].toNat_lt
      have hw : (Lit.int .u8 (d.1[i].toNat : Int)).wf = true := by
        have m1 : IntKind.u8.min = 0 := rfl
        have m2 : IntKind.u8.max = 255 := rfl
        simp only [Lit.wf, m1, m2, Bool.and_eq_true, decide_eq_true_eq]
        omega
      simp only [hw, and_self, if_true])
    exact ⟨_, by rw [hr]; rfl⟩
  obtain ⟨L, hL⟩ := hl
  unfold keyOf
  simp only [hu, hk, hf, Bool.and_self, if_true, hn]
  show ∃ l, (Tryz.prog.keyLits (n + 2) 31 (dgc d)).map _ = some l
  rw [hL]
  exact ⟨_, rfl⟩
theorem keyDg : KeyOk 31 dgv := by
  have K : WideMaps.KeyLaw Tryz.prog 31 := WideMaps.ArrKey.law (n := 32) (e := 5) ⟨by kernel_rfl, by kernel_rfl, by kernel_rfl, by kernel_rfl⟩
  refine ⟨fun a b h => ?_, fun w em d => ?_, fun w d es h => ?_, fun w d => ?_⟩
  · unfold dgv at h
    exact dgc_inj (by simpa using h)
  · obtain ⟨l, hl⟩ := dg_keyOf d
    exact K.check w em hl
  · obtain ⟨l, hl⟩ := dg_keyOf d
    exact K.find w hl es (fun e he => by obtain ⟨x, hx⟩ := h e he; rw [hx]; exact dg_keyOf x)
  · obtain ⟨l, hl⟩ := dg_keyOf d
    exact K.stays w hl
def strv (l : List UInt8) : Value := .string (bs l)
theorem keyStr : KeyOk 9 strv := by
  have hu : Tryz.prog.underlying 9 = some .string := by kernel_rfl
  refine ⟨fun a b h => ?_, fun w em d => ?_, fun w d es h => ?_, fun w d => ?_⟩
  · unfold strv bs at h
    simpa using h
  · exact MapKept.run_checkKey hu (d := .string) (by simp [MapKept.IsKey, strv]) em 9999
  · unfold Instr.findKey
    rcases MapKept.findNow_spec (d := .string) (k := strv d) (by simp [MapKept.IsKey, strv]) es 0 (fun e he => by obtain ⟨x, hx⟩ := h e he; rw [hx]; simp [MapKept.IsKey, strv]) with ⟨h1, h2⟩ | ⟨j, e, h1, h2, h3⟩
    · exact .inl ⟨by simp [run_underlying hu, h1], h2⟩
    · exact .inr ⟨j, e, by simp [run_underlying hu, h1], h2, h3⟩
  · unfold Instr.keyThatStays strv
    have : Instr.sameBits 10000 (.string (bs d)) (.string (bs d)) = true := by
      show ((bs d).data == (bs d).data) = true
      simp
    simp [this]
theorem modify_mid {α : Type} (f : α → α) : ∀ (a : List α) (x : α) (b : List α), (a ++ x :: b).modify a.length f = a ++ f x :: b
  | [], x, b => by simp
  | y :: a, x, b => by simp [List.modify_succ_cons, modify_mid f a x b]
theorem erase_mid {α : Type} : ∀ (a : List α) (x : α) (b : List α), (a ++ x :: b).eraseIdx a.length = a ++ b
  | [], x, b => by simp
  | y :: a, x, b => by simp [erase_mid a x b]
theorem split_at {α : Type} {l : List α} {j : Nat} {x : α} (h : l[j]? = some x) : ∃ a b, l = a ++ x :: b ∧ a.length = j := by
  obtain ⟨hlt, rfl⟩ := List.getElem?_eq_some_iff.1 h
  exact ⟨l.take j, l.drop (j + 1), by rw [← List.drop_eq_getElem_cons hlt, List.take_append_drop], by rw [List.length_take]; omega⟩
/-- A map in memory. -/
def MapIs {κ : Type} (kv : κ → Value) (M : κ → Option Value) (o : Obj) : Prop :=
  ∃ es clock, o = .map es clock ∧ (∀ e ∈ es.toList, ∃ d, e.key = kv d) ∧ (es.toList.map (·.key)).Nodup ∧ ∀ d v, M d = some v ↔ ∃ e ∈ es.toList, e.key = kv d ∧ e.val = v
theorem MapIs.nil {κ : Type} (kv : κ → Value) : MapIs kv (fun _ => none) (.map #[] 0) := ⟨#[], 0, rfl, by simp, by simp, by simp⟩
section
variable {κ : Type} {kt : TypeId} {kv : κ → Value} {M : κ → Option Value} {o : Obj} {w : World} {r : Nat} {t e : TypeId}
theorem MapIs.look (h : MapIs kv M o) (K : KeyOk kt kv) (hm : w.heap[r]? = some o) (ht : Tryz.prog.underlying t = some (.map kt e)) {z : Value} (hz : (zeroValue e).run Tryz.prog w = .ok z w) (d : κ) (c : Bool) :
    (Instr.lookup t (.map (some r)) (kv d) c).run Tryz.prog w = .ok (if c then .tuple #[(M d).getD z, .bool (M d).isSome] else (M d).getD z) w := by
  obtain ⟨es, clock, rfl, hk, hn, hM⟩ := h
  rcases K.find w d es.toList hk with ⟨h1, h2⟩ | ⟨j, x, h1, h2, h3⟩
  · have : M d = none := by
      cases hd : M d with
      | none => rfl
      | some v =>
        obtain ⟨x, hx, hx2, _⟩ := (hM d v).1 hd
        exact absurd hx2 (h2 x hx)
    simp [Instr.lookup, run_underlying ht, MapKept.run_getObj_map hm, K.check, h1, hz, Result.andThen, this]
  · have : M d = some x.val := (hM d x.val).2 ⟨x, List.mem_of_getElem? h2, h3, rfl⟩
    simp [Instr.lookup, run_underlying ht, MapKept.run_getObj_map hm, K.check, h1, Result.andThen, this]
theorem MapIs.put [DecidableEq κ] (h : MapIs kv M o) (K : KeyOk kt kv) (hm : w.heap[r]? = some o) (ht : Tryz.prog.underlying t = some (.map kt e)) (d : κ) (v : Value) :
    ∃ o', (Instr.mapUpdate t (.map (some r)) (kv d) v).run Tryz.prog w = .ok () (putObj w r o') ∧ MapIs kv (fun x => if x = d then some v else M x) o' := by
  obtain ⟨es, clock, rfl, hk, hn, hM⟩ := h
  rcases K.find w d es.toList hk with ⟨h1, h2⟩ | ⟨j, x, h1, h2, h3⟩
  · refine ⟨.map (es.push ⟨kv d, v, clock⟩) (clock + 1), ?_, ⟨_, _, rfl, ?_, ?_, ?_⟩⟩
    · simp [Instr.mapUpdate, run_underlying ht, MapKept.run_getObj_map hm, K.check, h1, MapKept.run_setObj_map _ hm, Result.andThen, putObj]
    · intro y hy
      simp only [Array.toList_push, List.mem_append, List.mem_singleton] at hy
      rcases hy with hy | rfl
      · exact hk y hy
      · exact ⟨d, rfl⟩
    · simp only [Array.toList_push, List.map_append, List.map_cons, List.map_nil]
      refine List.nodup_append.2 ⟨hn, by simp, fun a ha b hb => ?_⟩
      simp only [List.mem_singleton] at hb
      subst hb
      obtain ⟨y, hy, rfl⟩ := List.mem_map.1 ha
      exact h2 y hy
    · intro x u
      simp only [Array.toList_push, List.mem_append, List.mem_singleton]
      by_cases hx : x = d
      · subst hx
        simp only [if_true, Option.some.injEq]
        constructor
        · rintro rfl
          exact ⟨_, .inr rfl, rfl, rfl⟩
        · rintro ⟨y, hy | rfl, h5, h6⟩
          · exact absurd h5 (h2 y hy)
          · exact h6
      · simp only [if_neg hx, hM]
        constructor
        · rintro ⟨y, hy, h5⟩
          exact ⟨y, .inl hy, h5⟩
        · rintro ⟨y, hy | rfl, h5, h6⟩
          · exact ⟨y, hy, h5, h6⟩
          · exact absurd (K.inj _ _ h5).symm hx
  · have hj : es[j]? = some x := by simpa using h2
    obtain ⟨a, b, hab, rfl⟩ := split_at h2
    have hl : (es.modify a.length (fun e' => { e' with key := kv d, val := v })).toList = a ++ { x with key := kv d, val := v } :: b := by
      rw [Array.toList_modify, hab, modify_mid]
    refine ⟨.map (es.modify a.length (fun e' => { e' with key := kv d, val := v })) clock, ?_, ⟨_, _, rfl, ?_, ?_, ?_⟩⟩
    · simp [Instr.mapUpdate, run_underlying ht, MapKept.run_getObj_map hm, K.check, h1, hj, h3, K.stays, MapKept.run_setObj_map _ hm, Result.andThen, putObj]
    · rw [hl]
      intro y hy
      simp only [List.mem_append, List.mem_cons] at hy
      rcases hy with hy | rfl | hy
      · exact hk y (by rw [hab]; simp [hy])
      · exact ⟨d, rfl⟩
      · exact hk y (by rw [hab]; simp [hy])
    · rw [hl]
      rw [hab] at hn
      simpa [h3] using hn
    · rw [hl]
      rw [hab] at hn hM
      intro y u
      have hp := (List.perm_middle (l₁ := a.map (·.key)) (l₂ := b.map (·.key)) (a := x.key)).nodup_iff.1 (by simpa using hn)
      have hno : ∀ z, z ∈ a ∨ z ∈ b → z.key ≠ x.key := fun z hz e => (List.nodup_cons.1 hp).1 (by rw [← e, ← List.map_append]; exact List.mem_map.2 ⟨z, by simpa using hz, rfl⟩)
      simp only [List.mem_append, List.mem_cons] at hM ⊢
      by_cases hx : y = d
      · subst hx
        simp only [if_true, Option.some.injEq]
        constructor
        · rintro rfl
          exact ⟨_, .inr (.inl rfl), rfl, rfl⟩
        · rintro ⟨z, hz | rfl | hz, h5, h6⟩
          · exact absurd (h5.trans h3.symm) (hno z (.inl hz))
          · exact h6
          · exact absurd (h5.trans h3.symm) (hno z (.inr hz))
      · simp only [if_neg hx, hM]
        constructor
        · rintro ⟨z, hz | rfl | hz, h5, h6⟩
          · exact ⟨z, .inl hz, h5, h6⟩
          · exact absurd (K.inj _ _ (h5.symm.trans h3)) hx
          · exact ⟨z, .inr (.inr hz), h5, h6⟩
        · rintro ⟨z, hz | rfl | hz, h5, h6⟩
          · exact ⟨z, .inl hz, h5, h6⟩
          · exact absurd (K.inj _ _ h5).symm hx
          · exact ⟨z, .inr (.inr hz), h5, h6⟩
theorem MapIs.del [DecidableEq κ] (h : MapIs kv M o) (K : KeyOk kt kv) (hm : w.heap[r]? = some o) (ht : Tryz.prog.underlying t = some (.map kt e)) (d : κ) (ty : TypeId) :
    ∃ o', (Builtin.delete_ #[t, kt] ty #[.map (some r), kv d]).run Tryz.prog w = .ok (.tuple #[]) (putObj w r o') ∧ MapIs kv (fun x => if x = d then none else M x) o' := by
  obtain ⟨es, clock, rfl, hk, hn, hM⟩ := h
  rcases K.find w d es.toList hk with ⟨h1, h2⟩ | ⟨j, x, h1, h2, h3⟩
  · refine ⟨.map es clock, ?_, ⟨_, _, rfl, hk, hn, fun x u => ?_⟩⟩
    · simp [Builtin.delete_, run_underlying ht, MapKept.run_getObj_map hm, K.check, h1, MapKept.run_setObj_map _ hm, Result.andThen, putObj]
    · by_cases hx : x = d
      · subst hx
        simp only [if_true, reduceCtorEq, false_iff]
        rintro ⟨y, hy, h5, _⟩
        exact h2 y hy h5
      · simp only [if_neg hx, hM]
  · obtain ⟨a, b, hab, rfl⟩ := split_at h2
    have hjs : a.length < es.size := by
      rw [← Array.length_toList, hab]; simp
    have hl : (es.eraseIdxIfInBounds a.length).toList = a ++ b := by
      unfold Array.eraseIdxIfInBounds
      rw [dif_pos hjs, Array.toList_eraseIdx, hab, erase_mid]
    refine ⟨.map (es.eraseIdxIfInBounds a.length) clock, ?_, ⟨_, _, rfl, ?_, ?_, ?_⟩⟩
    · simp [Builtin.delete_, run_underlying ht, MapKept.run_getObj_map hm, K.check, h1, MapKept.run_setObj_map _ hm, Result.andThen, putObj]
    · rw [hl]
      intro y hy
      exact hk y (by rw [hab]; simp only [List.mem_append, List.mem_cons] at hy ⊢; rcases hy with hy | hy <;> simp [hy])
    · rw [hl]
      rw [hab] at hn
      have hp := (List.perm_middle (l₁ := a.map (·.key)) (l₂ := b.map (·.key)) (a := x.key)).nodup_iff.1 (by simpa using hn)
      simpa using (List.nodup_cons.1 hp).2
    · rw [hl]
      rw [hab] at hn hM
      intro y u
      have hp := (List.perm_middle (l₁ := a.map (·.key)) (l₂ := b.map (·.key)) (a := x.key)).nodup_iff.1 (by simpa using hn)
      have hno : ∀ z, z ∈ a ∨ z ∈ b → z.key ≠ x.key := fun z hz e => (List.nodup_cons.1 hp).1 (by rw [← e, ← List.map_append]; exact List.mem_map.2 ⟨z, by simpa using hz, rfl⟩)
      simp only [List.mem_append, List.mem_cons] at hM ⊢
      by_cases hx : y = d
      · subst hx
        simp only [if_true, reduceCtorEq, false_iff]
        rintro ⟨z, hz, h5, h6⟩
        exact hno z hz (h5.trans h3.symm)
      · simp only [if_neg hx, hM]
        constructor
        · rintro ⟨z, hz | rfl | hz, h5, h6⟩
          · exact ⟨z, .inl hz, h5, h6⟩
          · exact absurd (K.inj _ _ (h5.symm.trans h3)) hx
          · exact ⟨z, .inr hz, h5, h6⟩
        · rintro ⟨z, hz | hz, h5, h6⟩
          · exact ⟨z, .inl hz, h5, h6⟩
          · exact ⟨z, .inr (.inr hz), h5, h6⟩
end
/-- Sets of texts: map[string]bool. -/
def setE (l : List (List UInt8)) : List MapEntry := l.zipIdx.map fun x => ⟨strv x.1, .bool true, x.2⟩
def setO (l : List (List UInt8)) : Obj := .map (setE l).toArray l.length
theorem setE_mem {l : List (List UInt8)} {e : MapEntry} (h : e ∈ setE l) : ∃ p ∈ l, e.key = strv p ∧ e.val = .bool true := by
  obtain ⟨⟨p, i⟩, hx, rfl⟩ := List.mem_map.1 h
  exact ⟨p, (List.mem_zipIdx' hx).2 ▸ List.getElem_mem _, rfl, rfl⟩
theorem mem_setE {l : List (List UInt8)} {p : List UInt8} (h : p ∈ l) : ∃ e ∈ setE l, e.key = strv p := by
  obtain ⟨i, hi, rfl⟩ := List.getElem_of_mem h
  exact ⟨_, List.mem_map.2 ⟨(l[i], i), List.mk_mem_zipIdx_iff_getElem?.2 (by simp [hi]), rfl⟩, rfl⟩
theorem set_look {w : World} {r : Nat} {l : List (List UInt8)} (hm : w.heap[r]? = some (setO l)) (p : List UInt8) (b : Bool) (hb : decide (p ∈ l) = b) :
    (Instr.lookup 195 (.map (some r)) (.string (bs p)) false).run Tryz.prog w = .ok (.bool b) w := by
  have ht : Tryz.prog.underlying 195 = some (.map 9 4) := by kernel_rfl
  have hz : (zeroValue 4).run Tryz.prog w = .ok (.bool false) w := rfl
  unfold setO at hm
  have hk : ∀ e ∈ setE l, ∃ x, e.key = strv x := fun e he => by obtain ⟨q, _, h, _⟩ := setE_mem he; exact ⟨q, h⟩
  have hc : ∀ em, (Instr.checkKey em 10000 9 (.string (bs p))).run Tryz.prog w = .ok () w := fun em => keyStr.check w em p
  rcases keyStr.find w p (setE l) hk with ⟨h1, h2⟩ | ⟨j, x, h1, h2, h3⟩
  · have : p ∉ l := fun hp => by obtain ⟨e, he, h⟩ := mem_setE hp; exact h2 e he h
    rw [decide_eq_false this] at hb
    subst hb
    unfold strv at h1
    simp [Instr.lookup, run_underlying ht, MapKept.run_getObj_map hm, hc, h1, hz, Result.andThen]
  · obtain ⟨q, hq, hq1, hq2⟩ := setE_mem (List.mem_of_getElem? h2)
    have : p = q := keyStr.inj _ _ (h3.symm.trans hq1)
    subst this
    rw [decide_eq_true hq] at hb
    subst hb
    unfold strv at h1
    simp [Instr.lookup, run_underlying ht, MapKept.run_getObj_map hm, hc, h1, hq2, Result.andThen]
theorem set_add {w : World} {r : Nat} {l : List (List UInt8)} (hm : w.heap[r]? = some (setO l)) (p : List UInt8) (hb : p ∉ l) :
    ∃ W, (Instr.mapUpdate 195 (.map (some r)) (.string (bs p)) (.bool true)).run Tryz.prog w = .ok () W ∧ Turned r w W ∧ W.heap[r]? = some (setO (l ++ [p])) := by
  have ht : Tryz.prog.underlying 195 = some (.map 9 4) := by kernel_rfl
  have hr : r < w.heap.size := (Array.getElem?_eq_some_iff.1 hm).1
  unfold setO at hm
  have hk : ∀ e ∈ setE l, ∃ x, e.key = strv x := fun e he => by obtain ⟨q, _, h, _⟩ := setE_mem he; exact ⟨q, h⟩
  have hc := keyStr.check w false p
  unfold strv at hc
  have h1 : (Instr.findKey 9 (.string (bs p)) (setE l)).run Tryz.prog w = .ok none w := by
    rcases keyStr.find w p (setE l) hk with ⟨h1, h2⟩ | ⟨j, x, h1, h2, h3⟩
    · exact h1
    · obtain ⟨q, hq, hq1, hq2⟩ := setE_mem (List.mem_of_getElem? h2)
      exact absurd (keyStr.inj _ _ (h3.symm.trans hq1) ▸ hq) hb
  refine ⟨putObj w r (setO (l ++ [p])), ?_, putObj_turned hr _, putObj_at hr _⟩
  have he : setO (l ++ [p]) = .map ((setE l).toArray.push ⟨.string (bs p), .bool true, l.length⟩) (l.length + 1) := by
    simp [setO, setE, List.zipIdx_append, strv]
  rw [he]
  simp [Instr.mapUpdate, run_underlying ht, MapKept.run_getObj_map hm, hc, h1, MapKept.run_setObj_map _ hm, Result.andThen, putObj]
end Go.Proofs.YtlbipokkdiiaiaaGreatDoor
/- Whole rows: made, stored, read in parts. -/
namespace Go.Proofs.YtlbipokkdiiaiaaGreatDoor
open Go.RowKit Go.Proofs.YtlbipokkdiiaiaaGreatDoor.Exec
set_option maxRecDepth 100000
noncomputable def zeroOk (ty n : Nat) : Bool := match Tryz.prog.info? ty with | some i => (match i.zero with | some (.agg z) => z.size == n | _ => false) | none => false
theorem zeroOk_out {ty n : Nat} (h : zeroOk ty n = true) : ∃ zs : Array Value, zs.size = n ∧ ∀ w, (zeroValue ty).run Tryz.prog w = .ok (.agg zs) w := by
  unfold zeroOk at h
  split at h
  · rename_i i hi
    split at h
    · rename_i z hz
      exact ⟨z, by simpa using h, fun w => by simp [zeroValue, typeInfo, hi, hz]⟩
    · cases h
  · cases h
theorem run_alloc_row {ty : TypeId} {zs : Array Value} (w : World) (hz : ∀ w, (zeroValue ty).run Tryz.prog w = .ok (.agg zs) w) :
    (Instr.alloc ty true (.tuple #[])).run Tryz.prog w = .ok (.pointer (some ⟨w.heap.size, 0, none⟩)) (w.alloc (.cells zs ty)) := by
  unfold Instr.alloc
  rw [Sem.run_bind, hz w]
  rfl
section
variable {ops : Array Oper} {rest : List Oper} {o o2 : Oper} {a : Act} {w : World} {Q : Exit → Act → World → Prop}
theorem wl_skip {w' : World} (hr : (execOp a.eval o).run Tryz.prog w = .ok .skip w') (h : wpList Tryz.prog ops Q rest (a.put o.dst undef) w') (hw : Region.wanted o (yielded ops a.tmps) = true := by rfl) : wpList Tryz.prog ops Q (o :: rest) a w := by
  refine wpList_step fun K hK => ?_
  rw [if_pos hw]
  unfold Oper.wp
  rw [hr]
  exact hK _ _ h
/-- A new variable and what is stored there. -/
theorem wl_new {ty n : Nat} {xs : Array Value} {x y : Operand} (rt : RowTy ty n) (hs : xs.size = n) (h1 : ∀ u ∈ xs.toList, u.oneCell' = true)
    (h : ∀ W1, Below w.heap.size w W1 → W1.heap[w.heap.size]? = some (.cells xs ty (0, 0)) → W1.heap.size = w.heap.size + 1 → wpList Tryz.prog ops Q rest ((a.put o.dst (.pointer (some ⟨w.heap.size, 0, none⟩))).put o2.dst undef) W1)
    (ho : o.op = .alloc ty := by rfl) (ho2 : o2.op = .store ty x y := by rfl) (hx : (a.put o.dst (.pointer (some ⟨w.heap.size, 0, none⟩))).eval x = .pointer (some ⟨w.heap.size, 0, none⟩) := by rfl) (hy : (a.put o.dst (.pointer (some ⟨w.heap.size, 0, none⟩))).eval y = .agg xs := by rfl)
    (hw : Region.wanted o (yielded ops a.tmps) = true := by rfl) (hw2 : Region.wanted o2 (yielded ops (a.put o.dst (.pointer (some ⟨w.heap.size, 0, none⟩))).tmps) = true := by rfl) (hz : zeroOk ty n = true := by kernel_rfl) :
    wpList Tryz.prog ops Q (o :: o2 :: rest) a w := by
  obtain ⟨zs, hzs, hz⟩ := zeroOk_out hz
  obtain ⟨d, _, _, h3⟩ := rt.out
  refine wl_run (v := .pointer (some ⟨w.heap.size, 0, none⟩)) (w' := w.alloc (.cells zs ty)) ?_ ?_ hw
  · unfold execOp
    simp only [ho, Sem.run_bind, run_alloc_row w hz, Result.andThen_ok, Sem.run_pure]
  · refine wl_skip (w' := w.alloc (.cells xs ty)) ?_ (h _ (below_new w _) (heap_alloc_new w _) (by rw [World.size_alloc])) hw2
    have hst := run_storeAt_new (P := Tryz.prog) w ty zs xs (by rw [h3, hs]) (by rw [hzs, hs]) (by rw [← Array.toArray_toList (xs := xs)]; exact all_oneCell_toArray h1)
    unfold execOp
    simp only [ho2, hx, hy, Sem.run_bind, hst, Result.andThen_ok, Sem.run_pure]
/-- A new variable with a value. -/
theorem wl_box {ty n : Nat} {xs : Array Value} {x : Operand} (_ : RowTy ty n)
    (h : ∀ W1, Below w.heap.size w W1 → W1.heap[w.heap.size]? = some (.cells xs ty (0, 0)) → W1.heap.size = w.heap.size + 1 → wpList Tryz.prog ops Q rest (a.put o.dst (.pointer (some ⟨w.heap.size, 0, none⟩))) W1)
    (ho : o.op = .box ty x := by rfl) (hx : a.eval x = .agg xs := by rfl) (hw : Region.wanted o (yielded ops a.tmps) = true := by rfl) :
    wpList Tryz.prog ops Q (o :: rest) a w := by
  refine wl_run (v := .pointer (some ⟨w.heap.size, 0, none⟩)) (w' := w.alloc (.cells xs ty)) ?_ (h _ (below_new w _) (heap_alloc_new w _) (by rw [World.size_alloc])) hw
  unfold execOp
  simp only [ho, hx]
  rfl
/-- A new variable, as it begins. -/
theorem wl_alloc {ty : Nat} {zs : Array Value} (hz : (Tryz.prog.info? ty).map (·.zero) = some (some (.agg zs)))
    (h : ∀ W1, Below w.heap.size w W1 → W1.heap[w.heap.size]? = some (.cells zs ty (0, 0)) → W1.heap.size = w.heap.size + 1 → wpList Tryz.prog ops Q rest (a.put o.dst (.pointer (some ⟨w.heap.size, 0, none⟩))) W1)
    (ho : o.op = .alloc ty := by rfl) (hw : Region.wanted o (yielded ops a.tmps) = true := by rfl) :
    wpList Tryz.prog ops Q (o :: rest) a w := by
  have hz' : ∀ w, (zeroValue ty).run Tryz.prog w = .ok (.agg zs) w := fun w => by
    cases hi : Tryz.prog.info? ty with
    | none => rw [hi] at hz; cases hz
    | some i => rw [hi] at hz; simp only [Option.map_some, Option.some.injEq] at hz; simp [zeroValue, typeInfo, hi, hz]
  refine wl_run (v := .pointer (some ⟨w.heap.size, 0, none⟩)) (w' := w.alloc (.cells zs ty)) ?_ (h _ (below_new w _) (heap_alloc_new w _) (by rw [World.size_alloc])) hw
  unfold execOp
  simp only [ho, Sem.run_bind, run_alloc_row w hz', Result.andThen_ok, Sem.run_pure]
/-- A new variable, whatever it begins with. -/
theorem wl_al {ty n : Nat} (_ : RowTy ty n)
    (h : ∀ (zs : Array Value) (W1 : World), zs.size = n → Below w.heap.size w W1 → W1.heap[w.heap.size]? = some (.cells zs ty (0, 0)) → W1.heap.size = w.heap.size + 1 → wpList Tryz.prog ops Q rest (a.put o.dst (.pointer (some ⟨w.heap.size, 0, none⟩))) W1)
    (ho : o.op = .alloc ty := by rfl) (hw : Region.wanted o (yielded ops a.tmps) = true := by rfl) (hz : zeroOk ty n = true := by kernel_rfl) :
    wpList Tryz.prog ops Q (o :: rest) a w := by
  obtain ⟨zs, hzs, hz⟩ := zeroOk_out hz
  refine wl_run (v := .pointer (some ⟨w.heap.size, 0, none⟩)) (w' := w.alloc (.cells zs ty)) ?_ (h zs _ hzs (below_new w _) (heap_alloc_new w _) (by rw [World.size_alloc])) hw
  unfold execOp
  simp only [ho, Sem.run_bind, run_alloc_row w hz, Result.andThen_ok, Sem.run_pure]
/-- A whole block is stored anew. -/
theorem wl_st {ty n r : Nat} {xs old : Array Value} {x y : Operand} {t : TypeId} (rt : RowTy ty n) (hr : w.heap[r]? = some (.cells old t (0, 0))) (hold : old.size = n) (hs : xs.size = n) (h1 : ∀ u ∈ xs.toList, u.oneCell' = true)
    (h : ∀ W1, Turned r w W1 → W1.heap[r]? = some (.cells xs t (0, 0)) → W1.heap.size = w.heap.size → wpList Tryz.prog ops Q rest (a.put o.dst undef) W1)
    (ho : o.op = .store ty x y := by rfl) (hx : a.eval x = .pointer (some ⟨r, 0, none⟩) := by rfl) (hy : a.eval y = .agg xs := by rfl) (hw : Region.wanted o (yielded ops a.tmps) = true := by rfl) :
    wpList Tryz.prog ops Q (o :: rest) a w := by
  obtain ⟨d, _, _, h3⟩ := rt.out
  have hlt : r < w.heap.size := (Array.getElem?_eq_some_iff.1 hr).1
  have hst := run_storeVar_row (P := Tryz.prog) w r t ty old xs hr (by rw [h3, hs]) (by rw [hold, hs]) (by rw [← Array.toArray_toList (xs := xs)]; exact all_oneCell_toArray h1)
  refine wl_skip (w' := w.setRow r xs) ?_ (h _ ⟨hlt, rfl, rfl, rfl, by simp, fun k _ hne => setRow_other _ _ _ _ hne⟩ (setRow_heap _ _ _ _ _ _ hr) (by simp)) hw
  unfold execOp
  simp only [ho, hx, hy, Instr.storeAt, Instr.sureAddr, Sem.run_bind, Sem.run_pure, Result.andThen_ok, hst]
end
theorem RdL.parts {w : World} {b o : Nat} {r : RdL} (h : w.rangeAt b o r.cells) : w.cell? ⟨b, o, none⟩ = some (.string (bs r.path)) ∧ w.cell? ⟨b, o + 1, none⟩ = some (.bool r.is) ∧ w.rangeAt b (o + 2) (dgc r.sum) := by
  obtain ⟨h1, h2⟩ := range_cons h
  obtain ⟨h3, h4⟩ := range_cons h2
  exact ⟨h1, h3, h4⟩
theorem RdL.parts0 {w : World} {b : Nat} {r : RdL} {t : TypeId} {fr : Nat × Nat} (h : w.heap[b]? = some (.cells r.cells.toArray t fr)) : w.cell? ⟨b, 0, none⟩ = some (.string (bs r.path)) ∧ w.cell? ⟨b, 1, none⟩ = some (.bool r.is) ∧ w.rangeAt b 2 (dgc r.sum) := by
  simpa using RdL.parts (range_of_heap h)
theorem MdL.parts {w : World} {b o : Nat} {r : MdL} (h : w.rangeAt b o r.cells) : w.cell? ⟨b, o, none⟩ = some (.string (bs r.path)) ∧ w.rangeAt b (o + 1) (dgc r.sum) := range_cons h
theorem MdL.parts0 {w : World} {b : Nat} {r : MdL} {t : TypeId} {fr : Nat × Nat} (h : w.heap[b]? = some (.cells r.cells.toArray t fr)) : w.cell? ⟨b, 0, none⟩ = some (.string (bs r.path)) ∧ w.rangeAt b 1 (dgc r.sum) := by
  simpa using MdL.parts (range_of_heap h)
end Go.Proofs.YtlbipokkdiiaiaaGreatDoor
