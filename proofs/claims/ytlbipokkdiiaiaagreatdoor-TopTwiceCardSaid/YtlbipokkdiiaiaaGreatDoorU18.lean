/- Lemmas for TopTwice: W14, W15, W16. -/
import Derived.Test.YtlbipokkdiiaiaaGreatDoorU17
import Derived.Lib.Overlaps
import Derived.Lib.AppendZerosOnto
open List renaming setIfInBounds_toArray → sA, set_cons_zero → sB, set_cons_succ → sC
namespace Go.Proofs.YtlbipokkdiiaiaaGreatDoor
open Go.RowKit Go.Proofs.YtlbipokkdiiaiaaGreatDoor.Exec
set_option maxRecDepth 100000
structure TRow (w : World) (g cap : Nat) (l : List TcM) : Prop where
 out : ∃ rest : List Value, w.heap[g]? = some (.cells (l.flatMap TcM.cells ++ rest).toArray 44 (0, 0)) ∧ l.length * 34 + rest.length = cap * 34 ∧ l.length ≤ cap ∧ cap ≤ maxLen
theorem tcs_len (l : List TcM) : (l.flatMap TcM.cells).length = l.length * 34 := flat_len _ _ TcM.len l
theorem TRow.lt {w : World} {g cap : Nat} {l : List TcM} (h : TRow w g cap l) : g < w.heap.size := by
 obtain ⟨r, h, _⟩ := h
 exact (Array.getElem?_eq_some_iff.1 h).1
theorem TRow.owns {w : World} {g cap base : Nat} {l : List TcM} (h : TRow w g cap l) (hb : base ≤ g) : w.ownsRow base 44 34 (.slice (some ⟨g, 0, none⟩) l.length cap) l.length (l.flatMap TcM.cells) := by
 obtain ⟨r, h, hr, hc, hm⟩ := h
 refine ⟨tcs_len l, .inr ⟨g, cap, _, rfl, hb, h, hc, hm, by rw [List.size_toArray, List.length_append, tcs_len, hr], ?_⟩⟩
 rw [← tcs_len l]; simp
theorem TRow.of_owns {w : World} {g off cap n base : Nat} {l : List TcM} (h : w.ownsRow base 44 34 (.slice (some ⟨g, off, none⟩) n cap) l.length (l.flatMap TcM.cells)) : off = 0 ∧ n = l.length ∧ base ≤ g ∧ TRow w g cap l := by
 obtain ⟨_, ⟨h, _⟩ | ⟨g', cap', cur, h1, hb, hg, hc, hm, hs, ht⟩⟩ := h
 ·cases h
 ·simp only [Value.slice.injEq, Option.some.injEq, Addr.mk.injEq, and_true] at h1
  obtain ⟨⟨rfl, rfl⟩, rfl, rfl⟩ := h1
  refine ⟨rfl, rfl, hb, ⟨cur.toList.drop (l.length * 34), ?_, ?_, hc, hm⟩⟩
  ·rw [← ht, List.take_append_drop, Array.toArray_toList]; exact hg
  ·have h2 : cur.toList.length = cap * 34 := (Array.length_toList).trans hs
   have : l.length * 34 ≤ cap * 34 := Nat.mul_le_mul_right _ hc
   rw [List.length_drop, h2]
   omega
theorem TRow.at {w : World} {g cap : Nat} {l : List TcM} (h : TRow w g cap l) (k : Nat) (hk : k < l.length) : w.rangeAt g (k * 34) l[k].cells := by
 obtain ⟨r, h, _⟩ := h
 intro j v hv
 have hj : j < 34 := by rw [← TcM.len l[k]]; exact (List.getElem?_eq_some_iff.1 hv).1
 have hk2 : (k + 1) * 34 ≤ l.length * 34 := Nat.mul_le_mul_right _ hk
 rw [cell_of_row _ _ _ _ _ _ h, List.getElem?_toArray, List.getElem?_append_left (by rw [tcs_len]; omega), flat_at _ _ TcM.len l k hk j hj]
 exact hv
theorem TRow.keep {w w' : World} {g cap : Nat} {l : List TcM} (h : TRow w g cap l) (hk : w'.heap[g]? = w.heap[g]?) : TRow w' g cap l := by
 obtain ⟨r, h, hr⟩ := h
 exact ⟨r, hk.trans h, hr⟩
theorem flat_mid (a b : List TcM) (y x : TcM) (r : List Value) : ((a ++ y :: b).flatMap TcM.cells ++ r).take (a.length * 34) ++ x.cells ++ ((a ++ y :: b).flatMap TcM.cells ++ r).drop (a.length * 34 + 34) = (a ++ x :: b).flatMap TcM.cells ++ r := by
 have e : (a ++ y :: b).flatMap TcM.cells ++ r = a.flatMap TcM.cells ++ (y.cells ++ (b.flatMap TcM.cells ++ r)) := by simp
 have e2 : (a ++ y :: b).flatMap TcM.cells ++ r = (a.flatMap TcM.cells ++ y.cells) ++ (b.flatMap TcM.cells ++ r) := by simp
 have t : ((a ++ y :: b).flatMap TcM.cells ++ r).take (a.length * 34) = a.flatMap TcM.cells := by rw [e]; exact List.take_left' (tcs_len a)
 have d : ((a ++ y :: b).flatMap TcM.cells ++ r).drop (a.length * 34 + 34) = b.flatMap TcM.cells ++ r := by rw [e2]; exact List.drop_left' (by rw [List.length_append, tcs_len, TcM.len])
 rw [t, d]
 simp
theorem flat_set (l : List TcM) (k : Nat) (hk : k < l.length) (x : TcM) (r : List Value) : (l.flatMap TcM.cells ++ r).take (k * 34) ++ x.cells ++ (l.flatMap TcM.cells ++ r).drop (k * 34 + 34) = (l.set k x).flatMap TcM.cells ++ r := by
 obtain ⟨a, b, hab, rfl⟩ := split_at (List.getElem?_eq_getElem hk)
 generalize l[a.length] = y at hab
 subst hab
 rw [flat_mid a b y x r]
 simp
section
variable {ops : Array Oper} {rest : List Oper} {o : Oper} {a : Act} {w : World} {Q : Exit → Act → World → Prop}
theorem wl_sm {g cap k : Nat} {l : List TcM} {x : TcM} {p q : Operand} (hr : TRow w g cap l) (hk : k < l.length) (h1 : ∀ u ∈ x.cells, u.oneCell' = true)
  (h : ∀ W1, Turned g w W1 → TRow W1 g cap (l.set k x) → W1.heap.size = w.heap.size → wpList Tryz.prog ops Q rest (a.put o.dst undef) W1)
  (ho : o.op = .store 44 p q := by rfl) (hx : a.eval p = .pointer (some ⟨g, k * 34, none⟩) := by rfl) (hy : a.eval q = .agg x.cells.toArray := by rfl) (hw : Region.wanted o (yielded ops a.tmps) = true := by rfl) :
  wpList Tryz.prog ops Q (o :: rest) a w := by
 have hlt := hr.lt
 obtain ⟨r, hg, hl, hc, hm⟩ := hr
 have hk34 : (k + 1) * 34 ≤ l.length * 34 := Nat.mul_le_mul_right _ hk
 have hst := run_storeCells_at (P := Tryz.prog) g (k * 34) 44 x.cells 0 _ w hg (by rw [List.size_toArray, List.length_append, tcs_len, TcM.len]; omega) h1
 simp only [Nat.add_zero, TcM.len] at hst
 rw [flat_set l k hk x r] at hst
 have hi : (Tryz.prog.info? 44).map (·.size) = some 34 := by kernel_rfl
 refine wl_skip (w' := w.setRow g ((l.set k x).flatMap TcM.cells ++ r).toArray) ?_ (h _ ⟨hlt, rfl, rfl, rfl, by simp, fun k _ hne => setRow_other _ _ _ _ hne⟩ ⟨r, setRow_heap _ _ _ _ _ _ hg, by simpa using hl, by simpa using hc, hm⟩ (by simp)) hw
 unfold execOp
 cases hq : Tryz.prog.info? 44 with
 | none => rw [hq] at hi; cases hi
 | some i =>
   have hs : i.size = 34 := by rw [hq] at hi; simpa using hi
   simp [ho, hx, hy, Instr.storeAt, Instr.sureAddr, storeVar, sizeOf, typeInfo, hq, Value.cells, hs, TcM.len, hst]
end
theorem sameT_is (x y : TcM) (w : World) (hx : HeldT w x) (hy : HeldT w y) (b : Bool) (hb : decide (x.t = y.t) = b) :
  Calls Tryz.prog 12 #[x.val, y.val] w fun e w' => e = .returned (.bool b) ∧ Below w.heap.size w w' := hb ▸ sameT_any x y w hx hy
set_option maxHeartbeats 1000000 in
theorem addclo_any (x y : TcM) (q : Nat) (w : World) (hq : w.heap[q]? = some (.cells y.cells.toArray 44 (0, 0))) (hx : HeldT w x) (hy : HeldT w y) (b : Bool) (hb : decide (x.t = y.t) = b) :
  Calls Tryz.prog 119 #[x.val, .pointer (some ⟨q, 0, none⟩)] w fun e w' => e = .returned (.bool b) ∧ Below w.heap.size w w' := by
 have HX := hid hx
 have HY := hid hy
 have HQ := hid hq
 unfold TcM.val
 clear hx hy hq
 go_enter Tryz.func119, Tryz.ntmps119
 go_wp2_with first | (refine wl_box rt44 ?_; intro W0 hb0 hn0 hs0) | (refine wl_ld rt44 (range_of_heap hn0) (TcM.len _) ?_) | (refine wl_ld rt44 (range_of_heap ((hb0.block _ (lx HQ)).trans HQ.out)) (TcM.len _) ?_) | (go_at_call 12; refine (sameT_is x y W0 (HX.out.keep hb0) (HY.out.keep hb0) b hb).mono ?_; rintro e w1 ⟨rfl, hb1⟩)
 go_ret
 exact ⟨rfl, Below.chain hb0 hb1⟩
def idxT (y : TcL) : Nat → List TcM → Int
 | _, [] => -1
 | k, x :: l => if x.t = y then (k : Int) else idxT y (k + 1) l
set_option maxHeartbeats 1000000 in
theorem idxT_any (l : List TcM) (y : TcM) (q : Nat) (v : Value) (w : World) (hq : w.heap[q]? = some (.cells y.cells.toArray 44 (0, 0))) (h0 : RowsOf w 34 TcM.cells v l) (hl : ∀ x ∈ l, HeldT w x) (hy : HeldT w y) :
  Calls Tryz.prog 169 #[v, .func (.func 119) #[] #[.pointer (some ⟨q, 0, none⟩)]] w fun e w' => e = .returned (.int .i64 (idxT y.t 0 l)) ∧ Below w.heap.size w w' := by
 obtain ⟨a0, c0, rfl, hc0, hm0, -, hx⟩ := h0.out TcM.len (by omega)
 unfold maxLen at hm0
 have HX := hid hx
 have HL := hid hl
 have HY := hid hy
 have HQ := hid hq
 clear h0 hx hl hy hq
 go_enter Tryz.func169, Tryz.ntmps169
 go_wp2_with fail
 go_loopw [8] (fun i wr => ∃ k : Nat, k ≤ l.length ∧ i = .int .i64 k ∧ idxT y.t 0 l = idxT y.t k (l.drop k) ∧ Below w.heap.size w wr) (fun i _ => l.length - (intOf i).toNat)
 case atStart => exact ⟨0, by omega, rfl, rfl, Below.refl _ _⟩
 case round =>
  obtain ⟨k, hk, rfl, he, hbe⟩ := hrel
  have He := hid he
  clear he
  by_cases hlt : k < l.length
  ·obtain ⟨b, off, rfl, hbw, hcl⟩ := HX.out k hlt
   have L0 := range_keeps hbe (hcl k hlt)
   have HD := hid (drop_at l k hlt)
   rw [HD.out] at He
   have HK := hid ((HL.out l[k] (List.getElem_mem hlt)).keep hbe)
   have HQ2 := hid ((hbe.block _ (lx HQ)).trans HQ.out)
   have HY2 := hid (HY.out.keep hbe)
   have HB := hid hbe
   clear hcl hbe HD HX HL
   by_cases hs : l[k].t = y.t
   ·have HC := hid (addclo_any l[k] y q wr HQ2.out HK.out HY2.out true (decide_eq_true hs))
    have HS := hid hs
    clear hs
    go_wp2_with first | (refine wl_ld rt44 L0 (TcM.len _) ?_) | (go_at_call 119; refine (HC.out).mono ?_; rintro e w1 ⟨rfl, hb1⟩)
    go_ret
    exact ⟨by rw [He.out, idxT, if_pos HS.out]; rfl, Below.chain HB.out hb1⟩
   ·have HC := hid (addclo_any l[k] y q wr HQ2.out HK.out HY2.out false (decide_eq_false hs))
    have HS := hid hs
    clear hs
    go_wp2_with first | (refine wl_ld rt44 L0 (TcM.len _) ?_) | (go_at_call 119; refine (HC.out).mono ?_; rintro e w1 ⟨rfl, hb1⟩)
    exact ⟨⟨k + 1, by omega, by go_num, by rw [He.out, idxT, if_neg HS.out], Below.chain HB.out hb1⟩, by simp [intOf]; omega⟩
  ·obtain rfl : k = l.length := by omega
   go_wp2_with fail
   go_ret
   exact ⟨by rw [He.out, List.drop_length]; rfl, hbe⟩
end Go.Proofs.YtlbipokkdiiaiaaGreatDoor
namespace Go.Proofs.YtlbipokkdiiaiaaGreatDoor
open Go.RowKit Go.Proofs.YtlbipokkdiiaiaaGreatDoor.Exec
set_option maxRecDepth 100000
noncomputable def zeroOne (E : Nat) : Bool := match Tryz.prog.info? E with | some i => (match i.zero with | some z => z.cells.all (·.oneCell') | _ => false) | none => false
theorem zero44 : ∃ z : Value, z.cells.size = 34 ∧ (∀ u ∈ z.cells.toList, u.oneCell' = true) ∧ ∀ w, (zeroValue 44).run Tryz.prog w = .ok z w := by
 obtain ⟨i, z, hi, hz, hs, -, hzs⟩ := infoOk_out (E := 44) (sz := 34) (by_ := 80) (by kernel_rfl)
 have h1 : zeroOne 44 = true := by kernel_rfl
 unfold zeroOne at h1
 rw [hi] at h1
 simp only [hz] at h1
 exact ⟨z, hzs, fun u hu => (Array.all_eq_true_iff_forall_mem.1 h1) u (by simpa using hu), fun w => by simp [zeroValue, typeInfo, hi, hz]⟩
theorem zeros_one {z : Array Value} (h : ∀ u ∈ z.toList, u.oneCell' = true) (h0 : 0 < z.size) (n : Nat) : ∀ u ∈ (Builtin.zeroCells z n).toList, u.oneCell' = true := by
 intro u hu
 simp only [Builtin.zeroCells, Array.toList_map, List.mem_map] at hu
 obtain ⟨i, _, rfl⟩ := hu
 have hm : i % z.size < z.size := Nat.mod_lt _ h0
 rw [getElem!_pos z (i % z.size) hm]
 exact h _ (by simp)
theorem clear_row {w : World} {g cap : Nat} {l : List TcM} (hr : TRow w g cap l) (i : Nat) (hi : i < l.length) :
  ∃ W, (∀ ty c, (Builtin.clear_ #[32] ty #[.slice (some ⟨g, i * 34, none⟩) (l.length - i) c]).run Tryz.prog w = .ok (.tuple #[]) W) ∧ Turned g w W ∧ TRow W g cap (l.take i) := by
 have hlt := hr.lt
 obtain ⟨r, hg, hl, hc, hm⟩ := hr
 obtain ⟨z, hzs, hz1, hz⟩ := zero44
 have hZ : (Builtin.zeroCells z.cells (l.length - i)).toList.length = (l.length - i) * 34 := by rw [Array.length_toList, size_zeroCells, hzs]
 have hi34 : i * 34 + (l.length - i) * 34 = l.length * 34 := by rw [← Nat.add_mul]; congr 1; omega
 have hst := run_storeCells_at (P := Tryz.prog) g (i * 34) 44 (Builtin.zeroCells z.cells (l.length - i)).toList 0 _ w hg (by rw [List.size_toArray, List.length_append, tcs_len, hZ]; omega) (zeros_one hz1 (by omega) _)
 simp only [Nat.add_zero, hZ] at hst
 have ht : ((l.flatMap TcM.cells ++ r).take (i * 34)) = (l.take i).flatMap TcM.cells := by
  have e : l.flatMap TcM.cells ++ r = (l.take i).flatMap TcM.cells ++ ((l.drop i).flatMap TcM.cells ++ r) := by
   rw [← List.append_assoc, ← List.flatMap_append, List.take_append_drop]
  rw [e]
  exact List.take_left' (by rw [tcs_len, List.length_take, Nat.min_eq_left (by omega)])
 rw [ht] at hst
 have hd : ((l.flatMap TcM.cells ++ r).drop (i * 34 + (l.length - i) * 34)) = r := by
  rw [hi34]
  exact List.drop_left' (tcs_len l)
 rw [hd] at hst
 refine ⟨w.setRow g ((l.take i).flatMap TcM.cells ++ ((Builtin.zeroCells z.cells (l.length - i)).toList ++ r)).toArray, fun ty c => ?_, ⟨hlt, rfl, rfl, rfl, by simp, fun k _ hne => setRow_other _ _ _ _ hne⟩, ⟨(Builtin.zeroCells z.cells (l.length - i)).toList ++ r, ?_, ?_, ?_, hm⟩⟩
 rotate_left
 ·exact setRow_heap _ _ _ _ _ _ hg
 ·rw [List.length_append, hZ, List.length_take, Nat.min_eq_left (by omega)]; omega
 ·rw [List.length_take]; omega
 ·obtain ⟨m, hm⟩ : ∃ m, l.length - i = m + 1 := ⟨l.length - i - 1, by omega⟩
  rw [hm] at hst ⊢
  have hu : Tryz.prog.underlying 32 = some (.slice 44) := Tryz.underlying32
  simp [Builtin.clear_, run_underlying hu, hz, hst]
def filterT (y : TcL) (l : List TcM) : List TcM := l.filter fun x => !decide (x.t = y)
theorem filterT_one (y : TcL) (x : TcM) (l : List TcM) : filterT y (x :: l) = if x.t = y then filterT y l else x :: filterT y l := by
 unfold filterT
 rw [List.filter_cons]
 by_cases h : x.t = y <;> simp [h]
theorem idxT_cases (y : TcL) : ∀ (l : List TcM) (k : Nat), (idxT y k l = -1 ∧ filterT y l = l) ∨ ∃ i, i < l.length ∧ idxT y k l = ((k + i : Nat) : Int) ∧ filterT y (l.take (i + 1)) = l.take i
 | [], _ => .inl ⟨rfl, rfl⟩
 | x :: l, k => by
   by_cases h : x.t = y
   ·refine .inr ⟨0, by simp, by simp [idxT, h], ?_⟩
    simp only [Nat.zero_add, List.take_succ_cons, List.take_zero]
    rw [filterT_one, if_pos h]; rfl
   ·rcases idxT_cases y l (k + 1) with ⟨h1, h2⟩ | ⟨i, h1, h2, h3⟩
    ·exact .inl ⟨by rw [idxT, if_neg h, h1], by rw [filterT_one, if_neg h, h2]⟩
    ·refine .inr ⟨i + 1, by simpa using h1, by rw [idxT, if_neg h, h2]; congr 1; omega, ?_⟩
     rw [List.take_succ_cons, filterT_one, if_neg h, h3]; rfl
theorem filterT_take (y : TcL) (l : List TcM) (j : Nat) (h : j < l.length) : filterT y (l.take (j + 1)) = if l[j].t = y then filterT y (l.take j) else filterT y (l.take j) ++ [l[j]] := by
 unfold filterT
 rw [take_at _ _ h, List.filter_append]
 by_cases e : l[j].t = y <;> simp [e]
theorem take_set_at {α : Type} {ys : List α} {i : Nat} (x : α) (h : i < ys.length) : (ys.set i x).take (i + 1) = ys.take i ++ [x] := by
 rw [take_at _ i (by simpa using h), List.take_set, List.set_eq_of_length_le (by simp; omega)]
 simp
def SameRow (v' v : Value) : Prop := ∃ a n n' c, v' = .slice a n c ∧ v = .slice a n' c
theorem SameRow.own {v' v : Value} (h : SameRow v' v) : v'.ownBlock = v.ownBlock := by
 obtain ⟨a, n, n', c, rfl, rfl⟩ := h
 cases a <;> rfl
theorem SameRow.cap {v' v : Value} (h : SameRow v' v) (hc : ∀ a n c, v = .slice (some a) n c → 1 ≤ c) : ∀ a n c, v' = .slice (some a) n c → 1 ≤ c := by
 obtain ⟨a, n, n', c, rfl, rfl⟩ := h
 intro a' m c' e
 simp only [Value.slice.injEq] at e
 obtain ⟨rfl, -, rfl⟩ := e
 exact hc _ _ _ rfl
set_option maxHeartbeats 4000000 in
theorem delete_any (l : List TcM) (y : TcM) (q base : Nat) (v : Value) (w : World) (hq : w.heap[q]? = some (.cells y.cells.toArray 44 (0, 0))) (hown : w.ownsRow base 44 34 v l.length (l.flatMap TcM.cells)) (hlen : l.length ≤ 1000) (hqv : v.ownBlock ≠ some q)
  (hh : ∀ W, Foot (fun b => v.ownBlock = some b) w W → (∀ x ∈ l, HeldT W x) ∧ HeldT W y) :
  Calls Tryz.prog 118 #[v, .func (.func 119) #[] #[.pointer (some ⟨q, 0, none⟩)]] w fun e w' => ∃ v', e = .returned v' ∧ SameRow v' v ∧ w'.ownsRow base 44 34 v' (filterT y.t l).length ((filterT y.t l).flatMap TcM.cells) ∧ Foot (fun b => v.ownBlock = some b) w w' := by
 have h0 := rows_of_owns hown (by unfold maxLen; omega)
 have hw := hh w (Foot.refl _ _)
 have HI := hid (idxT_any l y q v w hq h0 hw.1 hw.2)
 rcases idxT_cases y.t l 0 with ⟨h1, h2⟩ | ⟨i0, h1, h2, h3⟩
 ·rw [h1] at HI
  have HF := hid h2
  have HO := hid hown
  obtain ⟨a0, c0, rfl⟩ := owns_form hown
  clear h0 hw h1 h2 hown hh hq hqv
  go_enter Tryz.func118, Tryz.ntmps118
  go_wp2_with (go_at_call 169; refine (HI.out).mono ?_; rintro e w1 ⟨rfl, hb1⟩)
  go_ret
  exact ⟨_, rfl, ⟨_, _, _, _, rfl, rfl⟩, by rw [HF.out]; exact owns_keep HO.out (fun k hk => hb1.block k (HO.out.lt k hk).2), Foot.of_below hb1⟩
 ·rw [h2] at HI
  obtain ⟨a0, c0, rfl⟩ := owns_form hown
  cases a0 with
  | none =>
    obtain ⟨_, ⟨_, h⟩ | ⟨g, cap, cur, h, _⟩⟩ := hown
    ·omega
    ·cases h
  | some ad =>
    obtain ⟨g, off, sp⟩ := ad
    obtain rfl : sp = none := by
     obtain ⟨_, ⟨h, _⟩ | ⟨g', cap, cur, h, _⟩⟩ := hown
     ·cases h
     ·simp only [Value.slice.injEq, Option.some.injEq, Addr.mk.injEq] at h
      exact h.1.2.2
    obtain ⟨rfl, -, hgb, hrow⟩ := TRow.of_owns hown
    have HR := hid hrow
    have HH := hid hh
    have HQ := hid hq
    have HF := hid h3
    have hqg : q ≠ g := fun e => hqv (by rw [e]; rfl)
    have hcap : l.length ≤ c0 ∧ c0 ≤ 9223372036854775807 := by
     obtain ⟨r, _, _, h5, h6⟩ := hrow
     exact ⟨h5, by unfold maxLen at h6; omega⟩
    clear h0 hw h2 hown hh hq hqv hrow h3
    go_enter Tryz.func118, Tryz.ntmps118
    go_wp2_with (go_at_call 169; refine (HI.out).mono ?_; rintro e w1 ⟨rfl, hb1⟩)
    go_loopw [5, 6] (fun a b wr => ∃ (i j : Nat) (ys : List TcM), a = .int .i64 i ∧ b = .int .i64 j ∧ i < j ∧ j ≤ l.length ∧ ys.length = l.length ∧ ys.take i = filterT y.t (l.take j) ∧ ys.drop j = l.drop j ∧ TRow wr g c0 ys ∧ wr.heap[q]? = some (.cells y.cells.toArray 44 (0, 0)) ∧ Foot (fun b => some g = some b) w wr) (fun _ b _ => l.length - (intOf b).toNat)
    case atStart => exact ⟨i0, i0 + 1, l, by simp, by go_num, by omega, by omega, rfl, HF.out.symm, rfl, HR.out.keep (hb1.block g HR.out.lt), (hb1.block q (lx HQ)).trans HQ.out, Foot.of_below hb1⟩
    case round =>
     obtain ⟨i, j, ys, rfl, rfl, hij, hjn, hyl, hti, hdj, hrow, hqr, hbw⟩ := hrel
     by_cases hlt : j < l.length
     ·have hd1 := drop_at ys j (by omega)
      have hd2 := drop_at l j hlt
      rw [hd1, hd2] at hdj
      obtain ⟨hyj, hdj⟩ := List.cons.inj hdj
      have L0 := hrow.at j (by omega)
      rw [hyj] at L0
      have HW := hid (HH.out wr hbw)
      have HJ := hid ((HW.out.1) l[j] (List.getElem_mem hlt))
      have HT := hid (filterT_take y.t l j hlt)
      have HTI := hid hti
      have HDJ := hid hdj
      have HRW := hid hrow
      have HQR := hid hqr
      have HB := hid hbw
      clear hti hdj hd1 hd2 hrow hqr hbw hyj
      generalize l[j] = x at L0 HJ HT
      have hgl := HRW.out.lt
      by_cases hs : x.t = y.t
      ·have HC := hid (fun W hb => addclo_any x y q W ((Below.block hb q (lx HQR)).trans HQR.out) (HJ.out.keep hb) (HW.out.2.keep hb) true (decide_eq_true hs))
       have HT2 := hid (show filterT y.t (l.take (j + 1)) = filterT y.t (l.take j) by rw [HT.out, if_pos hs])
       clear hs HT
       go_wp2_with first | (refine wl_ld rt44 L0 (TcM.len _) ?_) | (refine wl_new (xs := x.cells.toArray) rt44 (by rw [List.size_toArray]; exact TcM.len _) (HJ.out.one) ?_; intro W2 hb2 hn2 hs2) | (refine wl_ld rt44 (range_of_heap hn2) (TcM.len _) ?_) | (go_at_call 119; refine (HC.out _ hb2).mono ?_; rintro e w3 ⟨rfl, hb3⟩)
       have hb4 := Below.chain hb2 hb3
       refine ⟨?_, by simp [intOf]; omega⟩
       (repeat apply Exists.intro)
       exact ⟨⟨i, j + 1, ys, rfl, by go_num, by omega, by omega, hyl, by rw [HTI.out, HT2.out], HDJ.out, HRW.out.keep (hb4.block g hgl), (hb4.block q (lx HQR)).trans HQR.out, HB.out.then hb4⟩, rfl⟩
      ·have HC := hid (fun W hb => addclo_any x y q W ((Below.block hb q (lx HQR)).trans HQR.out) (HJ.out.keep hb) (HW.out.2.keep hb) false (decide_eq_false hs))
       have HT2 := hid (show filterT y.t (l.take (j + 1)) = filterT y.t (l.take j) ++ [x] by rw [HT.out, if_neg hs])
       clear hs HT
       go_wp2_with first | (refine wl_ld rt44 L0 (TcM.len _) ?_) | (refine wl_new (xs := x.cells.toArray) rt44 (by rw [List.size_toArray]; exact TcM.len _) (HJ.out.one) ?_; intro W2 hb2 hn2 hs2) | (refine wl_ld rt44 (range_of_heap hn2) (TcM.len _) ?_) | (go_at_call 119; refine (HC.out _ hb2).mono ?_; rintro e w3 ⟨rfl, hb3⟩; have hn3 := (hb3.block _ (by omega)).trans hn2; have hr3 := HRW.out.keep ((Below.chain hb2 hb3).block g hgl)) | (refine wl_ld rt44 (range_of_heap hn3) (TcM.len _) ?_) | (refine wl_sm (k := i) hr3 (by omega) HJ.out.one ?_; intro W4 ht4 hr4 hs4)
       have hb4 := Below.chain hb2 hb3
       have hz := hb4.size
       refine ⟨?_, by simp [intOf]; omega⟩
       (repeat apply Exists.intro)
       exact ⟨⟨i + 1, j + 1, ys.set i x, by go_num, by go_num, by omega, by omega, by simpa using hyl, by rw [take_set_at _ (by omega), HTI.out, HT2.out], by rw [List.drop_set_of_lt (by omega)]; exact HDJ.out, hr4, (ht4.foot.block q (by have := lx HQR; omega) hqg).trans ((hb4.block q (lx HQR)).trans HQR.out), (HB.out.then hb4).trans ht4.foot (fun b _ e => by rw [e])⟩, rfl⟩
     ·obtain rfl : j = l.length := by omega
      rw [List.take_length] at hti
      obtain ⟨W5, hcl, ht5, hr5⟩ := clear_row hrow i (by omega)
      rw [hyl] at hcl
      have HTI := hid hti
      have HB := hid hbw
      clear hti hdj hrow hqr hbw
      go_wp2_with fail
      go_ret
      have hli : (ys.take i).length = i := by rw [List.length_take]; omega
      have ho := hr5.owns hgb
      rw [hli] at ho
      exact ⟨_, rfl, ⟨_, _, _, _, rfl, rfl⟩, by rw [← HTI.out, hli]; exact ho, HB.out.trans ht5.foot (fun b _ e => by rw [e])⟩
end Go.Proofs.YtlbipokkdiiaiaaGreatDoor
namespace Go.Proofs.YtlbipokkdiiaiaaGreatDoor
open Go.RowKit Go.Proofs.YtlbipokkdiiaiaaGreatDoor.Exec
set_option maxRecDepth 100000
theorem copy_at (w : World) (g o : Nat) (L cs : List Value) (m dLen sLen : Nat) (a : Addr) (hg : w.heap[g]? = some (.cells L.toArray 44 (0, 0))) (hm : Nat.min sLen dLen = m) (hn : cs.length = m * 34)
  (hsrc : ∀ j v, cs[j]? = some v → w.cell? (a.add j) = some v) (hfit : o + m * 34 ≤ L.length) (h1 : ∀ v ∈ cs, v.oneCell' = true) :
  ∃ W, (∀ ty dc sc, (Builtin.copy_ #[32, 32] ty #[.slice (some ⟨g, o, none⟩) dLen dc, .slice (some a) sLen sc]).run Tryz.prog w = .ok (goInt m) W) ∧ W.heap[g]? = some (.cells (L.take o ++ cs ++ L.drop (o + m * 34)).toArray 44 (0, 0)) ∧ Turned g w W := by
 have hl := run_loadCells_list (P := Tryz.prog) w a cs hsrc
 have hst := run_storeCells_at (P := Tryz.prog) g o 44 cs 0 _ w hg (by rw [List.size_toArray, hn]; simpa using hfit) h1
 have hs : (Tryz.prog.info? 44).map (·.size) = some 34 := by kernel_rfl
 have hu : Tryz.prog.underlying 32 = some (.slice 44) := Tryz.underlying32
 refine ⟨w.setRow g (L.take o ++ cs ++ L.drop (o + m * 34)).toArray, fun ty dc sc => ?_, setRow_heap _ _ _ _ _ _ hg, ⟨(Array.getElem?_eq_some_iff.1 hg).1, rfl, rfl, rfl, by simp, fun k _ hne => setRow_other _ _ _ _ hne⟩⟩
 cases hq : Tryz.prog.info? 44 with
 | none => rw [hq] at hs; cases hs
 | some i =>
   have hi : i.size = 34 := by rw [hq] at hs; simpa using hs
   rw [hn] at hst
   simp only [Nat.add_zero] at hst
   rw [hn] at hl
   simp [Builtin.copy_, run_underlying hu, Builtin.lenOf, Builtin.firstCells, sizeOf, typeInfo, hq, hi, hm, hl, hst]
theorem at_add {w : World} {g o : Nat} {L cs A B : List Value} (hg : w.heap[g]? = some (.cells L.toArray 44 (0, 0))) (hL : L = A ++ cs ++ B) (hA : A.length = o) : ∀ j v, cs[j]? = some v → w.cell? ((⟨g, o, none⟩ : Addr).add j) = some v := by
 intro j v hj
 have hadd : (⟨g, o, none⟩ : Addr).add j = ⟨g, o + j, none⟩ := by unfold Addr.add; split <;> simp_all
 have hjl : j < cs.length := (List.getElem?_eq_some_iff.1 hj).1
 rw [hadd, cell_of_row _ _ _ _ _ _ hg, List.getElem?_toArray, hL, List.append_assoc, List.getElem?_append_right (by omega), hA, Nat.add_sub_cancel_left, List.getElem?_append_left hjl]
 exact hj
abbrev tcs (l : List TcM) : List Value := l.flatMap TcM.cells
def InsPost (l : List TcM) (x : TcM) (base : Nat) (v0 : Value) (w : World) (e : Ending) (w' : World) : Prop :=
 ∃ v', e = .returned v' ∧ w'.ownsRow base 44 34 v' (l.length + 1) (tcs (x :: l)) ∧ (∀ k, v'.ownBlock = some k → v0.ownBlock = some k ∨ w.heap.size ≤ k) ∧ Foot (fun b => v0.ownBlock = some b) w w'
set_option maxHeartbeats 2000000 in
theorem insert_none (x : TcM) (b1 base : Nat) (v0 : Value) (w : World) (hown : w.ownsRow base 44 34 v0 0 []) (hcap : ∀ a n c, v0 = .slice (some a) n c → 1 ≤ c) (hne : v0.ownBlock ≠ some b1) (hx : w.heap[b1]? = some (.cells x.cells.toArray 44 (0, 0)))
  (h1 : ∀ u ∈ x.cells, u.oneCell' = true) (hbase : base ≤ w.heap.size) :
  Calls Tryz.prog 120 #[v0, .int .i64 0, .slice (some ⟨b1, 0, none⟩) 1 1] w (InsPost [] x base v0 w) := by
 obtain ⟨i0, z, hi, hz, hs, hby, hzs⟩ := infoOk_out (E := 44) (sz := 34) (by_ := 80) (by kernel_rfl)
 have hu : Tryz.prog.underlying 32 = some (.slice 44) := Tryz.underlying32
 have hsrc : ∀ j v, x.cells[j]? = some v → w.cell? ((⟨b1, 0, none⟩ : Addr).add j) = some v := at_add hx (A := []) (B := []) (by simp) rfl
 have hrun : ∃ v' w', (∀ ty, (Builtin.append_ #[32, 32] ty #[v0, .slice (some ⟨b1, 0, none⟩) 1 1]).run Tryz.prog w = .ok v' w') ∧ w'.ownsRow base 44 34 v' 1 (tcs [x]) ∧ (∀ k, v'.ownBlock = some k → v0.ownBlock = some k ∨ w.heap.size ≤ k) ∧ Foot (fun b => v0.ownBlock = some b) w w' := by
  obtain ⟨_, ⟨rfl, _⟩ | ⟨g, cap, cur, rfl, hgb, hg, hnc, hcm, hcs, ht⟩⟩ := hown
  ·obtain ⟨v', w', hr0, ho, hgr, _⟩ := run_append_own (P := Tryz.prog) w w.heap.size 32 0 44 i0 z 34 80 hu hi hz hs hby hzs (by omega) (.slice none 0 0) 0 [] (World.ownsRow_nil _ _ _ _) ⟨b1, 0, none⟩ 1 1 x.cells (by rw [TcM.len]) hsrc h1 (by unfold maxLen; omega) (by omega) (Nat.le_refl _)
   refine ⟨v', w', fun ty => hr0, owns_base (by simpa using ho) hbase, fun k hk => .inr (ho.lt k hk).1, ⟨hgr.os, hgr.tape, hgr.output, hgr.size, fun k hk _ => hgr.block k hk (by simp [Value.ownBlock])⟩⟩
  ·have hc1 := hcap _ _ _ rfl
   have hr := fun ty => run_append_room (P := Tryz.prog) w 32 ty 44 i0 hu hi g 0 cap cur hg ⟨b1, 0, none⟩ 1 1 x.cells (by rw [TcM.len, hs]) hsrc h1 (by omega) (by rw [TcM.len, hcs]; omega)
   refine ⟨_, _, hr, ?_, fun k hk => .inl hk, ⟨rfl, rfl, rfl, by simp, fun k hk hne => setRow_other _ _ _ _ (fun e => hne (by rw [e]; rfl))⟩⟩
   refine ⟨by simp [TcM.len], .inr ⟨g, cap, _, rfl, hgb, setRow_heap _ _ _ _ _ _ hg, hc1, hcm, ?_, ?_⟩⟩
   ·have h34 : 34 ≤ cur.toList.length := by rw [Array.length_toList, hcs]; omega
    simp [TcM.len]
    rw [Array.length_toList] at h34
    omega
   ·simp only [Nat.zero_mul, List.take_zero, List.nil_append, List.flatMap_cons, List.flatMap_nil, List.append_nil]
    exact List.take_left' (by rw [TcM.len])
 obtain ⟨v', w', hr, ho, hk, hf⟩ := hrun
 obtain ⟨a0, c0, rfl⟩ := owns_form hown
 obtain ⟨a1, c1, rfl⟩ := owns_form ho
 have HO := hid (And.intro ho (And.intro hk hf))
 clear ho hk hf hown hx h1 hsrc hne hcap
 go_enter Tryz.func120, Tryz.ntmps120
 go_wp2_with (at_builtin; refine Lib.wpList_append_run _ rfl _ _ _ _ rfl _ _ rfl rfl _ _ (hr _) ?_)
 go_ret
 exact ⟨_, rfl, HO.out⟩
set_option maxHeartbeats 2000000 in
theorem insert_room (l : List TcM) (x : TcM) (g cap b1 base : Nat) (w : World) (h0 : l ≠ []) (hrow : TRow w g cap l) (hgb : base ≤ g) (hroom : l.length + 1 ≤ cap) (hne : b1 ≠ g) (hx : w.heap[b1]? = some (.cells x.cells.toArray 44 (0, 0)))
  (h1 : ∀ u ∈ tcs (x :: l), u.oneCell' = true) :
  Calls Tryz.prog 120 #[.slice (some ⟨g, 0, none⟩) l.length cap, .int .i64 0, .slice (some ⟨b1, 0, none⟩) 1 1] w (InsPost l x base (.slice (some ⟨g, 0, none⟩) l.length cap) w) := by
 obtain ⟨r, hg, hl, hc, hm⟩ := hrow
 have hb1w : b1 < w.heap.size := (Array.getElem?_eq_some_iff.1 hx).1
 have hgw : g < w.heap.size := (Array.getElem?_eq_some_iff.1 hg).1
 have hov : ∀ lb cb, (callFunc 170 #[.slice (some ⟨b1, 0, none⟩) 1 1, .slice (some ⟨g, 34, none⟩) lb cb]).run Tryz.prog w = .ok (.value (.bool false)) w := fun lb cb => by
  rw [run_callFunc_extern Tryz.func170 (by kernel_rfl) (by kernel_rfl) (by kernel_rfl) (e := Extern.SlicesOverlaps.overlaps #[32, 32] #[4]) (by kernel_rfl),
   Lib.run_overlaps_apart w 32 4 44 Tryz.underlying32 34 Tryz.sizeOf44 ⟨b1, 0, none⟩ ⟨g, 34, none⟩ 1 1 lb cb hne 44 44 34 (cap * 34)
    (by simp [World.shape?, hx, TcM.len]) (by simp only [World.shape?, hg, List.size_toArray, List.length_append, tcs_len, hl]) (by omega) (by simp [World.frozen?, hx]) (by simp [World.frozen?, hx])]
  rfl
 have hn0 : 0 < l.length := List.length_pos_iff.2 h0
 have h34 : (l.length + 1) * 34 ≤ cap * 34 := Nat.mul_le_mul_right _ hroom
 have hx1 : ∀ u ∈ x.cells, u.oneCell' = true := fun u hu => h1 u (by simp [tcs, hu])
 have hl1 : ∀ u ∈ tcs l, u.oneCell' = true := fun u hu => h1 u (by simp only [tcs, List.flatMap_cons, List.mem_append]; exact .inr hu)
 have hLl : (tcs l ++ r).length = cap * 34 := by rw [List.length_append, tcs_len, hl]
 have HC1 := hid (fun (W : World) (hW : Below w.heap.size w W) => copy_at W g 34 (tcs l ++ r) (tcs l) l.length l.length (l.length + 1) ⟨g, 0, none⟩ ((hW.block g hgw).trans hg) (by simp only [Nat.min_def]; split <;> omega) (tcs_len l)
  (at_add ((hW.block g hgw).trans hg) (A := []) (B := r) (by simp) rfl) (by rw [hLl]; omega) hl1)
 have hA1l : ((tcs l ++ r).take 34 ++ tcs l ++ (tcs l ++ r).drop (34 + l.length * 34)).length = cap * 34 := by
  rw [List.length_append, List.length_append, List.length_take, List.length_drop, hLl, tcs_len]; omega
 have HA := hid (show ((tcs l ++ r).take 34 ++ tcs l ++ (tcs l ++ r).drop (34 + l.length * 34)).drop (0 + 1 * 34) = tcs l ++ (tcs l ++ r).drop (34 + l.length * 34) by
  rw [List.append_assoc]; exact List.drop_left' (by rw [List.length_take, hLl]; omega))
 have hA2l : ((tcs l ++ r).drop (34 + l.length * 34)).length = cap * 34 - (34 + l.length * 34) := by rw [List.length_drop, hLl]
 generalize (tcs l ++ r).drop (34 + l.length * 34) = R at HC1 hA1l HA hA2l
 generalize hA1 : (tcs l ++ r).take 34 ++ tcs l ++ R = A1 at HC1 hA1l HA
 have HC2 := hid (fun (W W1 : World) (hW : Below w.heap.size w W) (hg1 : W1.heap[g]? = some (.cells A1.toArray 44 (0, 0))) (ht1 : Turned g W W1) => copy_at W1 g 0 A1 x.cells 1 (l.length + 1) 1 ⟨b1, 0, none⟩ hg1 (by simp only [Nat.min_def]; split <;> omega) (by rw [TcM.len])
  (at_add ((ht1.foot.block b1 (by have := hW.size; omega) hne).trans ((hW.block b1 hb1w).trans hx)) (A := []) (B := []) (by simp) rfl) (by rw [hA1l]; omega) hx1)
 clear hA1 hg hl1 h1 hx
 have hcl : ¬ (cap = 1) := by omega
 have hcl0 : ¬ (cap = 0) := by omega
 have hz2 : ¬ ((0 : Int) = (l.length : Int)) := by omega
 have hz3 : ¬ ((cap : Int) < (l.length : Int) + 1) := by omega
 have hw1 : IntKind.i64.wrap 1 = 1 := rfl
 have hb1 : (1 : Int) ≤ (l.length : Int) + 1 := by omega
 have hm2 : cap ≤ 9223372036854775807 := by unfold maxLen at hm; omega
 go_enter Tryz.func120, Tryz.ntmps120
 go_wp2_with fail
 refine wp_region_wl (fun W => True) 8 (by kernel_rfl) ?_
 intro Wd hbd
 have hS := trivial
 refine WL.tp 0 (some 69) (hi := rfl) (.inr hS) ?_
 apply Exists.intro
 refine ⟨fun W => ?_, ?_⟩
 ·go_simp
  try rfl
 try simp only [Act.put, sA, sB, sC]
 refine WL.tp 1 (some 70) (hi := rfl) (.inr hS) ?_
 apply Exists.intro
 refine ⟨fun W => ?_, ?_⟩
 ·go_simp
  try rfl
 try simp only [Act.put, sA, sB, sC]
 refine WL.tp 2 (some 71) (hi := rfl) (.inr hS) ?_
 apply Exists.intro
 refine ⟨fun W => ?_, ?_⟩
 ·go_simp
  try rfl
 try simp only [Act.put, sA, sB, sC]
 refine WL.tp 3 (some 72) (hi := rfl) (.inr hS) ?_
 apply Exists.intro
 refine ⟨fun W => ?_, ?_⟩
 ·go_simp
  try rfl
 try simp only [Act.put, sA, sB, sC]
 refine WL.tp 4 (some 73) (hi := rfl) (.inr hS) ?_
 apply Exists.intro
 refine ⟨fun W => ?_, ?_⟩
 ·go_simp
  try rfl
 try simp only [Act.put, sA, sB, sC]
 refine WL.tp 5 (some 74) (hi := rfl) (.inr hS) ?_
 apply Exists.intro
 refine ⟨fun W => ?_, ?_⟩
 ·go_simp
  try rfl
 try simp only [Act.put, sA, sB, sC]
 refine WL.tp 6 (some 75) (hi := rfl) (.inr hS) ?_
 apply Exists.intro
 refine ⟨fun W => ?_, ?_⟩
 ·go_simp
  try rfl
 try simp only [Act.put, sA, sB, sC]
 refine WL.tp 7 (some 76) (hi := rfl) (.inr hS) ?_
 apply Exists.intro
 refine ⟨fun W => ?_, ?_⟩
 ·go_simp
  try rfl
 try simp only [Act.put, sA, sB, sC]
 refine WL.o 8 (hi := rfl) ?_
 intro K hK
 obtain ⟨W1, hc1, hg1, ht1⟩ := HC1.out Wd hbd
 go_simp
 refine hK.out _ _ (.inl (by kernel_rfl)) ?_
 clear hK K
 try simp only [Act.put, sA, sB, sC]
 refine WL.d ?_
 obtain ⟨W2, hc2, hg2, ht2⟩ := HC2.out Wd W1 hbd hg1 ht1
 go_wp2_with fail
 go_ret
 rw [HA.out] at hg2
 have hR : TRow W2 g cap (x :: l) := ⟨R, by simpa [tcs] using hg2, by rw [hA2l, List.length_cons]; omega, by simpa using hroom, hm⟩
 exact ⟨_, rfl, hR.owns hgb, fun k hk => .inl hk, ((Foot.of_below hbd).trans ht1.foot (fun b _ e => by rw [e]; rfl)).trans ht2.foot (fun b _ e => by rw [e]; rfl)⟩
set_option maxHeartbeats 2000000 in
theorem insert_grow (l : List TcM) (x : TcM) (g cap b1 base : Nat) (w : World) (h0 : l ≠ []) (hrow : TRow w g cap l) (hbase : base ≤ w.heap.size) (hroom : cap < l.length + 1) (hlen : l.length ≤ 1000) (hx : w.heap[b1]? = some (.cells x.cells.toArray 44 (0, 0)))
  (h1 : ∀ u ∈ tcs (x :: l), u.oneCell' = true) :
  Calls Tryz.prog 120 #[.slice (some ⟨g, 0, none⟩) l.length cap, .int .i64 0, .slice (some ⟨b1, 0, none⟩) 1 1] w (InsPost l x base (.slice (some ⟨g, 0, none⟩) l.length cap) w) := by
 obtain ⟨r, hg, hl, hc, hm⟩ := hrow
 obtain rfl : cap = l.length := by omega
 obtain rfl : r = [] := List.eq_nil_of_length_eq_zero (by omega)
 rw [List.append_nil] at hg
 obtain ⟨i0, z, hi, hz, hs, hby, hzs⟩ := infoOk_out (E := 44) (sz := 34) (by_ := 80) (by kernel_rfl)
 have hb1w : b1 < w.heap.size := (Array.getElem?_eq_some_iff.1 hx).1
 have hgw : g < w.heap.size := (Array.getElem?_eq_some_iff.1 hg).1
 have hn0 : 0 < l.length := List.length_pos_iff.2 h0
 have hx1 : ∀ u ∈ x.cells, u.oneCell' = true := fun u hu => h1 u (by simp [tcs, hu])
 have hl1 : ∀ u ∈ tcs l, u.oneCell' = true := fun u hu => h1 u (by simp only [tcs, List.flatMap_cons, List.mem_append]; exact .inr hu)
 obtain ⟨G, hG⟩ : ∃ G, G = grownCap w (l.length + 1) l.length 44 := ⟨_, rfl⟩
 have hGn : l.length + 1 ≤ G := by rw [hG]; exact grownCap_ge w _ _ _
 have hG63 : G ≤ maxLen := by rw [hG]; exact grownCap_le_maxLen w _ _ _ (by unfold maxLen; omega)
 obtain ⟨Z, hZ⟩ : ∃ Z : List Value, Z = (Builtin.zeroCells z.cells (l.length + 1)).toList ++ (Builtin.zeroCells z.cells (G - (l.length + 1))).toList := ⟨_, rfl⟩
 have z1 : ∀ n, (Builtin.zeroCells z.cells n).toList.length = n * 34 := fun n => by rw [Array.length_toList, size_zeroCells, hzs]
 have hZl : Z.length = G * 34 := by
  rw [hZ, List.length_append, z1, z1, ← Nat.add_mul]
  congr 1
  omega
 have hn1 : ((l.length : Int) + 1 - 0) = ((l.length + 1 : Nat) : Int) := by omega
 have hrz : ∀ ty, (Builtin.append_ #[32, 3] ty #[.slice (some ⟨g, 0, none⟩) 0 l.length, .int .i64 ((l.length : Int) + 1)]).run Tryz.prog w = .ok (.slice (some ⟨w.heap.size, 0, none⟩) (l.length + 1) G) (w.drew.alloc (.cells Z.toArray 44)) := fun ty => by
  have h := Lib.run_append_grow_zeros (P := Tryz.prog) w 32 3 ty 44 i0 z .i64 .i64 Tryz.underlying32 Tryz.underlying3 hi hz (some ⟨g, 0, none⟩) 0 l.length [] (by rw [hs]; exact run_firstCells_some w.drew 34 0 ⟨g, 0, none⟩ 0 l.length [] rfl (by simp)) (l.length + 1) (by omega) (by omega) (by omega) (by omega) (by rw [hby]; omega) (by rw [hby]; exact growslice_fits (by omega) (by omega))
  rw [Nat.zero_add, ← hG] at h
  have hc : (l.length : Int) + 1 = ((l.length + 1 : Nat) : Int) := by omega
  have e : ∀ (p q : Array Value), (p.toList ++ q.toList).toArray = p ++ q := fun p q => by apply Array.ext'; simp
  rw [hc, h, hZ, e]
  simp
 obtain ⟨W1, hW1⟩ : ∃ W1, W1 = w.drew.alloc (.cells Z.toArray 44) := ⟨_, rfl⟩
 have hb1 : Below w.heap.size w W1 := by rw [hW1]; exact ((Below.refl w.heap.size w).drew).alloc (Nat.le_refl _) _
 have hn : W1.heap[w.heap.size]? = some (.cells Z.toArray 44 (0, 0)) := by rw [hW1]; exact Array.getElem?_push_size
 rw [← hW1] at hrz
 obtain ⟨W2, hc2, hg2, ht2⟩ := copy_at W1 w.heap.size 0 Z x.cells 1 (l.length + 1) 1 ⟨b1, 0, none⟩ hn (by simp only [Nat.min_def]; split <;> omega) (by rw [TcM.len]) (at_add ((hb1.block b1 hb1w).trans hx) (A := []) (B := []) (by simp) rfl) (by omega) hx1
 simp only [List.take_zero, List.nil_append, Nat.zero_add, Nat.one_mul] at hg2
 have hb2 : Below w.heap.size w W2 := hb1.trans (ht2.below (Nat.le_refl _))
 have hA1l : (x.cells ++ Z.drop 34).length = G * 34 := by rw [List.length_append, TcM.len, List.length_drop, hZl]; omega
 have HA := hid (show (x.cells ++ Z.drop 34).take 34 = x.cells from List.take_left' (TcM.len x))
 generalize x.cells ++ Z.drop 34 = A1 at hg2 hA1l HA
 have HC3 := hid (fun (W : World) (hW : Below W2.heap.size W2 W) => copy_at W w.heap.size 34 A1 (tcs l) l.length l.length l.length ⟨g, 0, none⟩ ((hW.block _ (lx (hid hg2))).trans hg2) (by simp) (tcs_len l)
  (at_add ((hW.block g (by have := hb2.size; omega)).trans ((hb2.block g hgw).trans hg)) (A := []) (B := []) (by simp) rfl) (by rw [hA1l]; omega) hl1)
 have HB2 := hid hb2
 have HG := hid (And.intro hGn hG63)
 clear hb2 hg hx hl1 h1 hn hb1 hW1 hZ hG hg2
 have hcl : ¬ (l.length = 0) := by omega
 have hz2 : ¬ ((0 : Int) = (l.length : Int)) := by omega
 have hz3 : (l.length : Int) < (l.length : Int) + 1 := by omega
 have hw1 : IntKind.i64.wrap 1 = 1 := rfl
 have hb1 : (1 : Int) ≤ (l.length : Int) + 1 := by omega
 have hG1 : ¬ (G = 1) := by omega
 have hG0 : ¬ (G = 0) := by omega
 go_enter Tryz.func120, Tryz.ntmps120
 go_wp2_with (at_builtin; refine Lib.wpList_append_run _ rfl _ _ _ _ rfl _ _ rfl rfl _ _ (hrz _) ?_)
 refine wp_region_wl (fun W => True) 8 (by kernel_rfl) ?_
 intro Wd hbd
 have hS := trivial
 refine WL.tp 0 (some 46) (hi := rfl) (.inr hS) ?_
 apply Exists.intro
 refine ⟨fun W => ?_, ?_⟩
 ·go_simp
  try rfl
 try simp only [Act.put, sA, sB, sC]
 refine WL.tp 1 (some 47) (hi := rfl) (.inr hS) ?_
 apply Exists.intro
 refine ⟨fun W => ?_, ?_⟩
 ·go_simp
  try rfl
 try simp only [Act.put, sA, sB, sC]
 refine WL.tp 2 (some 48) (hi := rfl) (.inr hS) ?_
 apply Exists.intro
 refine ⟨fun W => ?_, ?_⟩
 ·go_simp
  try rfl
 try simp only [Act.put, sA, sB, sC]
 refine WL.tp 3 (some 49) (hi := rfl) (.inr hS) ?_
 apply Exists.intro
 refine ⟨fun W => ?_, ?_⟩
 ·go_simp
  try rfl
 try simp only [Act.put, sA, sB, sC]
 refine WL.tp 4 (some 50) (hi := rfl) (.inr hS) ?_
 apply Exists.intro
 refine ⟨fun W => ?_, ?_⟩
 ·go_simp
  try rfl
 try simp only [Act.put, sA, sB, sC]
 refine WL.tp 5 (some 51) (hi := rfl) (.inr hS) ?_
 apply Exists.intro
 refine ⟨fun W => ?_, ?_⟩
 ·go_simp
  try rfl
 try simp only [Act.put, sA, sB, sC]
 refine WL.tp 6 (some 52) (hi := rfl) (.inr hS) ?_
 apply Exists.intro
 refine ⟨fun W => ?_, ?_⟩
 ·go_simp
  try rfl
 try simp only [Act.put, sA, sB, sC]
 refine WL.tp 7 (some 53) (hi := rfl) (.inr hS) ?_
 apply Exists.intro
 refine ⟨fun W => ?_, ?_⟩
 ·go_simp
  try rfl
 try simp only [Act.put, sA, sB, sC]
 refine WL.o 8 (hi := rfl) ?_
 intro K hK
 obtain ⟨W3, hc3, hg3, ht3⟩ := HC3.out Wd hbd
 go_simp
 refine hK.out _ _ (.inl (by kernel_rfl)) ?_
 clear hK K
 try simp only [Act.put, sA, sB, sC]
 refine WL.d ?_
 go_wp2_with fail
 go_ret
 rw [HA.out] at hg3
 have hR : TRow W3 w.heap.size G (x :: l) := ⟨A1.drop (34 + l.length * 34), by simpa [tcs] using hg3, by rw [List.length_drop, hA1l, List.length_cons]; omega, by simpa using HG.out.1, HG.out.2⟩
 have hb3 : Below w.heap.size w W3 := (HB2.out.trans (hbd.mono HB2.out.size)).trans (ht3.below (Nat.le_refl _))
 exact ⟨_, rfl, hR.owns hbase, fun k hk => .inr (Nat.le_of_eq (Option.some.inj (show some w.heap.size = some k from hk))), Foot.of_below hb3⟩
theorem insert_any (l : List TcM) (x : TcM) (b1 base : Nat) (v0 : Value) (w : World) (hown : w.ownsRow base 44 34 v0 l.length (tcs l)) (hcap : ∀ a n c, v0 = .slice (some a) n c → 1 ≤ c) (hne : v0.ownBlock ≠ some b1) (hx : w.heap[b1]? = some (.cells x.cells.toArray 44 (0, 0)))
  (h1 : ∀ u ∈ tcs (x :: l), u.oneCell' = true) (hlen : l.length ≤ 1000) (hbase : base ≤ w.heap.size) :
  Calls Tryz.prog 120 #[v0, .int .i64 0, .slice (some ⟨b1, 0, none⟩) 1 1] w (InsPost l x base v0 w) := by
 by_cases h0 : l = []
 ·subst h0
  exact insert_none x b1 base v0 w hown hcap hne hx (fun u hu => h1 u (by simp [tcs, hu])) hbase
 ·obtain ⟨a0, c0, rfl⟩ := owns_form hown
  cases a0 with
  | none =>
    obtain ⟨_, ⟨_, h⟩ | ⟨g, cap, cur, h, _⟩⟩ := hown
    ·exact absurd (List.eq_nil_of_length_eq_zero h) h0
    ·cases h
  | some ad =>
    obtain ⟨g, off, sp⟩ := ad
    obtain rfl : sp = none := by
     obtain ⟨_, ⟨h, _⟩ | ⟨g', cap, cur, h, _⟩⟩ := hown
     ·cases h
     ·simp only [Value.slice.injEq, Option.some.injEq, Addr.mk.injEq] at h
      exact h.1.2.2
    obtain ⟨rfl, -, hgb, hrow⟩ := TRow.of_owns hown
    rcases Nat.lt_or_ge c0 (l.length + 1) with hc | hc
    ·exact insert_grow l x g c0 b1 base w h0 hrow hbase hc hlen hx h1
    ·exact insert_room l x g c0 b1 base w h0 hrow hgb hc (fun e => hne (by rw [e]; rfl)) hx h1
end Go.Proofs.YtlbipokkdiiaiaaGreatDoor
