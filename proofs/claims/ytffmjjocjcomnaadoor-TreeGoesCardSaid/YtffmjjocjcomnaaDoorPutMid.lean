/- The walk of slices.Insert of one file, ahead of one that is there, into a row of the call's own. -/
import Derived.Test.YtffmjjocjcomnaaDoorPutInsert
import Derived.Test.YtffmjjocjcomnaaDoorInsertTwo
import Derived.Deep.RegionLaw
set_option linter.unusedVariables false
set_option linter.unusedSimpArgs false
namespace Go.Proofs.YtffmjjocjcomnaaDoor
set_option maxRecDepth 100000
open Go.RowKit

theorem wpList_copy_runX {P : Program} (w : World) {ops : Array Oper} {rest : List Oper} {o : Oper} {a : Act} {Q : Exit → Act → World → Prop} (hgd : o.guard = none) (d s : Operand) (t t' : TypeId)
    (ho : o.op = .call { callee := .builtin .copy, args := #[d, s], argTypes := #[t, t'] }) (v u : Value) (hd : a.eval d = v) (hs : a.eval s = u) {v' : Value} {w' : World}
    (hr : (Builtin.copy_ #[t, t'] o.type #[v, u]).run P w = .ok v' w') (h : wpList P ops Q rest (a.put o.dst v') w') : wpList P ops Q (o :: rest) a w := by
  refine wpList_plain hgd fun _ hK => ?_
  unfold Oper.wp execOp
  simp only [ho, resolve, invoke, builtin, Sem.run_bind, Sem.run_pure, Result.andThen_ok, List.map_toArray, List.map_cons, List.map_nil, hd, hs, hr]
  exact hK _ _ h
theorem step_copy_runX {P : Program} {ops : Array Oper} {o : Oper} {a : Act} {w : World} {K : Act → World → Prop} {Q : Exit → Act → World → Prop} {E : Prop}
    (hg : o.guard = none) (d x : Operand) (dT sT : TypeId) (hop : o.op = Op.call { callee := Callee.builtin Builtin.copy, args := #[d, x], argTypes := #[dT, sT] })
    (v u : Value) (hd : a.eval d = v) (hx : a.eval x = u) {v' : Value} {w' : World} (hr : (Builtin.copy_ #[dT, sT] o.type #[v, u]).run P w = .ok v' w') (hK : K (a.put o.dst v') w') :
    if Region.wanted o (yielded ops a.tmps) = true then Oper.wp P o a w K Q else E := by
  have hw : Region.wanted o (yielded ops a.tmps) = true := by simp [Region.wanted, hg]
  rw [if_pos hw]
  unfold Oper.wp
  simp [execOp, hop, resolve, invoke, builtin, hd, hx, hr, Result.andThen]
  exact hK

set_option maxHeartbeats 2000000 in
theorem insert_room (fs : List FileL) (f : FileL) (i g cap b1 c1 base : Nat) (w : World) (hi : i < fs.length) (hown : w.ownsRow base 40 2 (.slice (some ⟨g, 0, none⟩) fs.length cap) fs.length (fileCells fs)) (hroom : fs.length + 1 ≤ cap)
    (hx : w.heap[b1]? = some (.cells #[.string (bs f.1), .string (bs f.2)] 40 (0, 0))) (hne : b1 ≠ g) (hlen : fs.length ≤ 1000) (hbase : base ≤ w.heap.size) :
    Calls Tryd.prog 38 #[.slice (some ⟨g, 0, none⟩) fs.length cap, .int .i64 i, .slice (some ⟨b1, 0, none⟩) 1 c1] w (InsertAt (fs.take i ++ f :: fs.drop i) base w) := by
  obtain ⟨i0, hi0, hz0, hz1, hz2⟩ := info_parts file_info
  have hsz : (Tryd.prog.info? 40).map (·.size) = some 2 := by rw [hi0]; simp [hz1]
  have hcm : cap ≤ maxLen := by
    obtain ⟨-, h | ⟨g', cap', cur, hv, -, -, -, h, -⟩⟩ := hown
    · cases h.1
    · simp only [Value.slice.injEq] at hv; omega
  obtain ⟨-, h | ⟨g', cap', cur, hv, hgb, hgc, -, -, hcs, hct⟩⟩ := hown
  · cases h.1
  obtain ⟨rfl, rfl⟩ : g = g' ∧ cap = cap' := by
    simp only [Value.slice.injEq, Option.some.injEq, Addr.mk.injEq] at hv; exact ⟨hv.1.1, hv.2.2⟩
  clear hv
  unfold maxLen at hcm
  have Hfit := hid hcm
  have hb1w : b1 < w.heap.size := (Array.getElem?_eq_some_iff.1 hx).1
  have hov : ∀ lb cb, (callFunc 51 #[.slice (some ⟨b1, 0, none⟩) 1 c1, .slice (some ⟨g, (i + 1) * 2, none⟩) lb cb]).run Tryd.prog w = .ok (.value (.bool false)) w := fun lb cb => by
    rw [run_callFunc_extern Tryd.func51 (by kernel_rfl) (by kernel_rfl) (by kernel_rfl) (e := Extern.SlicesOverlaps.overlaps #[22, 22] #[4]) (by kernel_rfl),
      Lib.run_overlaps_apart w 22 4 40 Tryd.underlying22 2 Tryd.sizeOf40 ⟨b1, 0, none⟩ ⟨g, (i + 1) * 2, none⟩ 1 c1 lb cb hne 40 40 2 (cap * 2)
        (by simp [World.shape?, hx]) (by simp [World.shape?, hgc, hcs]) (by omega) (by simp [World.frozen?, hx]) (by simp [World.frozen?, hx])]
    rfl
  have hD : (fileCells (fs.drop i)).length = (fs.length - i) * 2 := by rw [fileCells_len, List.length_drop]
  have hF : (fileCells [f]).length = 2 := rfl
  obtain ⟨L, hL⟩ : ∃ L, L = cur.toList := ⟨_, rfl⟩
  have hLl : L.length = cap * 2 := by rw [hL]; simpa using hcs
  rw [← hL] at hct
  obtain ⟨D, hDd⟩ : ∃ D, D = fileCells (fs.drop i) := ⟨_, rfl⟩
  rw [← hDd] at hD
  have hsplit : fileCells fs = fileCells (fs.take i) ++ D := by rw [hDd, ← fileCells_append, List.take_append_drop]
  have hX : (fileCells (fs.take i)).length = i * 2 := by rw [fileCells_len, List.length_take, Nat.min_eq_left (by omega)]
  have hgc2 : ∀ W : World, W.heap = w.heap → W.heap[g]? = some (.cells L.toArray 40 (0, 0)) := fun W hW => by rw [hL, hW]; simpa using hgc
  have hXL : L.take (i * 2) = fileCells (fs.take i) := by
    have := congrArg (List.take (i * 2)) hct
    rwa [List.take_take, Nat.min_eq_left (by omega), hsplit, List.take_left' hX] at this
  have hcellg : ∀ (W : World) (_ : W.heap = w.heap) j v, D[j]? = some v → W.cell? ((⟨g, i * 2, none⟩ : Addr).add j) = some v := fun W hW j v hj => by
    have hadd : (⟨g, i * 2, none⟩ : Addr).add j = ⟨g, i * 2 + j, none⟩ := by unfold Addr.add; split <;> simp_all
    have h2 : (L.take (fs.length * 2))[i * 2 + j]? = some v := by
      rw [hct, hsplit, List.getElem?_append_right (by omega), hX, Nat.add_sub_cancel_left]; exact hj
    rw [List.getElem?_take] at h2
    split at h2
    · rw [hadd]; simp only [World.cell?, hgc2 W hW]; simpa using h2
    · cases h2
  have hcp1 : ∀ (W : World) (_ : W.heap = w.heap) ty dc sc, (Builtin.copy_ #[22, 22] ty #[.slice (some ⟨g, (i + 1) * 2, none⟩) (fs.length - i) dc, .slice (some ⟨g, i * 2, none⟩) (fs.length + 1 - i) sc]).run Tryd.prog W = .ok (goInt (fs.length - i : Nat)) (W.setRow g (L.take ((i + 1) * 2) ++ D ++ L.drop ((i + 1) * 2 + D.length)).toArray) := fun W hW ty dc sc =>
    (run_copy_two W _ _ ty 40 g ((i + 1) * 2) _ dc _ _ sc L.toArray 40 D (fs.length - i) Tryd.underlying22 hsz (hgc2 W hW) (by simp only [Nat.min_def]; split <;> omega) hD (hcellg W hW) (by simp; omega) (fun v hv => fileCells_one (fs.drop i) v (by rwa [← hDd])))
  obtain ⟨A1, hA1⟩ : ∃ A1, A1 = L.take ((i + 1) * 2) ++ D ++ L.drop ((i + 1) * 2 + D.length) := ⟨_, rfl⟩
  have hA1l : A1.length = cap * 2 := by rw [hA1, splice_len _ _ _ (by omega), hLl]
  have hcp2 : ∀ (W : World) (_ : W.heap = w.heap) ty dc, (Builtin.copy_ #[22, 22] ty #[.slice (some ⟨g, i * 2, none⟩) (fs.length + 1 - i) dc, .slice (some ⟨b1, 0, none⟩) 1 c1]).run Tryd.prog (W.setRow g A1.toArray) = .ok (goInt 1) ((W.setRow g A1.toArray).setRow g (A1.take (i * 2) ++ fileCells [f] ++ A1.drop (i * 2 + 2)).toArray) := fun W hW ty dc =>
    (run_copy_two (W.setRow g A1.toArray) _ _ ty 40 g (i * 2) _ dc ⟨b1, 0, none⟩ 1 c1 A1.toArray 40 (fileCells [f]) 1 Tryd.underlying22 hsz (by rw [setRow_heap _ g L.toArray _ _ _ (hgc2 W hW)]) (by simp only [Nat.min_def]; split <;> omega) rfl
      (fun j v hj => by
        have hadd : (⟨b1, 0, none⟩ : Addr).add j = ⟨b1, 0 + j, none⟩ := by unfold Addr.add; split <;> simp_all
        rw [hadd]
        have e : (W.setRow g A1.toArray).heap[b1]? = some (.cells #[.string (bs f.1), .string (bs f.2)] 40 (0, 0)) := by rw [setRow_other _ g b1 _ hne]; rw [hW]; exact hx
        simp only [World.cell?, e]
        simpa [fileCells] using hj)
      (by simp [fileCells]; omega) (fun v hv => fileCells_one [f] v hv))
  rw [← hA1] at hcp1
  obtain ⟨A2, hA2⟩ : ∃ A2, A2 = A1.take (i * 2) ++ fileCells [f] ++ A1.drop (i * 2 + 2) := ⟨_, rfl⟩
  have hfin : A2 = fileCells (fs.take i) ++ fileCells [f] ++ D ++ L.drop ((i + 1) * 2 + D.length) := by
    rw [hA2, hA1, show (i + 1) * 2 = i * 2 + 2 by omega]; exact mid_shift L (fileCells (fs.take i)) D (fileCells [f]) (i * 2) 2 hXL (by omega)
  rw [← hA2] at hcp2
  have hA2l : A2.length = cap * 2 := by rw [hA2]; exact (splice_len A1 (fileCells [f]) (i * 2) (by rw [hF]; omega)).trans hA1l
  have hA2t : A2.take ((fs.length + 1) * 2) = fileCells (fs.take i ++ f :: fs.drop i) := by
    have e : fileCells (fs.take i ++ f :: fs.drop i) = fileCells (fs.take i) ++ fileCells [f] ++ D := by
      rw [fileCells_append, show f :: fs.drop i = [f] ++ fs.drop i from rfl, fileCells_append, hDd, List.append_assoc]
    rw [e, hfin]
    exact List.take_left' (by simp [hX, hF, hD]; omega)
  have Hcp1 := hid hcp1
  have Hgc := hid hgc
  have Hcp2 := hid hcp2
  have HA2l := hid hA2l
  have HA2t := hid hA2t
  have HDd := hid hDd
  clear hcp1 hcp2 hcellg hgc2 hA1 hA1l hA2 hA2l hA2t hfin hXL hX hDd hsplit hD hF hLl hct hL hcs hgc hsz hz0 hz1 hz2 hi0
  have hw1 : IntKind.i64.wrap ((i : Int) + 1) = (i : Int) + 1 := by rw [IntKind.wrap_i64]; omega
  have hb1 : (0 : Int) ≤ (i : Int) + 1 := by omega
  have htn : ((i : Int) + 1).toNat = i + 1 := by omega
  have hb2 : ¬ (cap = i + 1) := by omega
  have hb3 : (i : Int) ≤ (fs.length : Int) + 1 := by omega
  have hb4 : ¬ (cap = i) := by omega
  have hin : i ≤ fs.length := by omega
  have hz2 : ¬ ((i : Int) = (fs.length : Int)) := by omega
  go_enter Tryd.func38, Tryd.ntmps38
  go_wp2_with fail
  go_region_law (refine step_copy_runX rfl _ _ 22 22 rfl (.slice (some ⟨g, (i + 1) * 2, none⟩) (fs.length - i) (cap - (i + 1))) (.slice (some ⟨g, i * 2, none⟩) (fs.length + 1 - i) (cap - i)) (by simp [Act.eval, Act.put]) (by simp [Act.eval, Act.put]) (Hcp1.out w.drew rfl 3 (cap - (i + 1)) (cap - i)) ?_)
  go_wp2_with (refine wpList_copy_runX _ rfl _ _ 22 22 rfl (.slice (some ⟨g, i * 2, none⟩) (fs.length + 1 - i) (cap - i)) (.slice (some ⟨b1, 0, none⟩) 1 c1) rfl rfl (Hcp2.out w.drew rfl 3 (cap - i)) ?_)
  go_ret
  refine ⟨_, rfl, ?_, ?_⟩
  · have e : (fs.take i ++ f :: fs.drop i).length = fs.length + 1 := by simp; omega
    rw [e]
    refine own_of_block hgb (setRow_heap _ g A1.toArray _ _ _ (setRow_heap w.drew g cur _ _ _ Hgc.out)) hroom (by unfold maxLen; omega) HA2l.out ?_ HA2t.out
    rw [fileCells_len, e]
  · exact below_setRow (below_setRow (Below.refl base w).drew hgb _) hgb _
theorem arr3 (X : List Value) (a b : Array Value) : X.toArray ++ a ++ b = (X ++ (a.toList ++ b.toList)).toArray := by
  apply Array.ext'; simp
theorem zero_two (n : Nat) : (Builtin.zeroCells (Value.agg #[.string ⟨#[]⟩, .string ⟨#[]⟩]).cells n).toList.length = n * 2 := by
  simp [Builtin.zeroCells, Value.cells]
set_option maxHeartbeats 2000000 in
theorem insert_grow (fs : List FileL) (f : FileL) (i g cap b1 c1 base : Nat) (w : World) (hi : i < fs.length) (hown : w.ownsRow base 40 2 (.slice (some ⟨g, 0, none⟩) fs.length cap) fs.length (fileCells fs)) (hroom : cap < fs.length + 1)
    (hx : w.heap[b1]? = some (.cells #[.string (bs f.1), .string (bs f.2)] 40 (0, 0))) (hlen : fs.length ≤ 1000) (hbase : base ≤ w.heap.size) :
    Calls Tryd.prog 38 #[.slice (some ⟨g, 0, none⟩) fs.length cap, .int .i64 i, .slice (some ⟨b1, 0, none⟩) 1 c1] w (InsertAt (fs.take i ++ f :: fs.drop i) base w) := by
  obtain ⟨i0, hi0, hz0, hz1, hz2⟩ := info_parts file_info
  have hsz : (Tryd.prog.info? 40).map (·.size) = some 2 := by rw [hi0]; simp [hz1]
  obtain ⟨-, h | ⟨g', cap', cur, hv, hgb, hgc, hnc, -, hcs, hct⟩⟩ := hown
  · cases h.1
  obtain ⟨rfl, rfl⟩ : g = g' ∧ cap = cap' := by
    simp only [Value.slice.injEq, Option.some.injEq, Addr.mk.injEq] at hv; exact ⟨hv.1.1, hv.2.2⟩
  clear hv
  obtain rfl : cap = fs.length := by omega
  have hb1w : b1 < w.heap.size := (Array.getElem?_eq_some_iff.1 hx).1
  have hgw : g < w.heap.size := (Array.getElem?_eq_some_iff.1 hgc).1
  have hD : (fileCells (fs.drop i)).length = (fs.length - i) * 2 := by rw [fileCells_len, List.length_drop]
  have hF : (fileCells [f]).length = 2 := rfl
  obtain ⟨L, hL⟩ : ∃ L, L = cur.toList := ⟨_, rfl⟩
  have hLl : L.length = fs.length * 2 := by rw [hL]; simpa using hcs
  rw [← hL] at hct
  rw [List.take_of_length_le (by omega)] at hct
  subst hct
  obtain ⟨D, hDd⟩ : ∃ D, D = fileCells (fs.drop i) := ⟨_, rfl⟩
  rw [← hDd] at hD
  have hsplit : fileCells fs = fileCells (fs.take i) ++ D := by rw [hDd, ← fileCells_append, List.take_append_drop]
  have hX : (fileCells (fs.take i)).length = i * 2 := by rw [fileCells_len, List.length_take, Nat.min_eq_left (by omega)]
  have hgc' : w.heap[g]? = some (.cells (fileCells fs).toArray 40 (0, 0)) := by rw [hL]; simpa using hgc
  have hcellg : ∀ (W : World) (_ : W.heap[g]? = w.heap[g]?) k j v, (fileCells fs)[k + j]? = some v → W.cell? ((⟨g, k, none⟩ : Addr).add j) = some v := fun W hW k j v hj => by
    have hadd : (⟨g, k, none⟩ : Addr).add j = ⟨g, k + j, none⟩ := by unfold Addr.add; split <;> simp_all
    rw [hadd]; simp only [World.cell?, hW, hgc']; simpa using hj
  have hik : i + (fs.length + 1 - i) = fs.length + 1 := by omega
  have hkk : (fs.length : Int) + 1 - (i : Int) = ((fs.length + 1 - i : Nat) : Int) := by omega
  have hold : (Builtin.firstCells i0.size i (.slice (some ⟨g, 0, none⟩) i fs.length)).run Tryd.prog w.drew = .ok (fileCells (fs.take i)).toArray w.drew := by
    rw [hz1]
    exact run_firstCells_some w.drew 2 i ⟨g, 0, none⟩ i fs.length (fileCells (fs.take i)) hX (fun j v hj => hcellg w.drew rfl 0 j v (by
      have hjl : j < (fileCells (fs.take i)).length := by
        rcases Nat.lt_or_ge j (fileCells (fs.take i)).length with h | h
        · exact h
        · rw [List.getElem?_eq_none h] at hj; cases hj
      rw [hsplit, Nat.zero_add, List.getElem?_append_left hjl]; exact hj))
  obtain ⟨G, hG⟩ : ∃ G, G = grownCap w (fs.length + 1) fs.length 40 := ⟨_, rfl⟩
  obtain ⟨Z, hZ⟩ : ∃ Z : List Value, Z = (Builtin.zeroCells (Value.agg #[.string ⟨#[]⟩, .string ⟨#[]⟩]).cells (fs.length + 1 - i)).toList ++ (Builtin.zeroCells (Value.agg #[.string ⟨#[]⟩, .string ⟨#[]⟩]).cells (G - (fs.length + 1))).toList := ⟨_, rfl⟩
  have hGn : fs.length + 1 ≤ G := by rw [hG]; exact grownCap_ge w _ _ _
  have hG63 : G ≤ 9223372036854775807 := by
    have := grownCap_le_maxLen w (fs.length + 1) fs.length 40 (by unfold maxLen; omega)
    rw [← hG] at this
    unfold maxLen at this
    omega
  have hZl : Z.length = (G - i) * 2 := by rw [hZ, List.length_append, zero_two, zero_two]; omega
  have hrz : ∀ ty, (Builtin.append_ #[22, 3] ty #[.slice (some ⟨g, 0, none⟩) i fs.length, .int .i64 ((fs.length : Int) + 1 - (i : Int))]).run Tryd.prog w =
      .ok (.slice (some ⟨w.heap.size, 0, none⟩) (fs.length + 1) G) (w.drew.alloc (.cells (fileCells (fs.take i) ++ Z).toArray 40)) := fun ty => by
    have h := Lib.run_append_grow_zeros w 22 3 ty 40 i0 _ .i64 .i64 Tryd.underlying22 Tryd.underlying3 hi0 hz0 (some ⟨g, 0, none⟩) i fs.length (fileCells (fs.take i)) hold (fs.length + 1 - i) (by omega) (by omega) (by omega) (by omega) (by rw [hz2]; omega) (by rw [hz2, hik]; exact growslice_fits (by omega) (by omega))
    rw [hik, ← hG] at h
    rw [hkk, h, hZ, arr3]
  have hcA : ∀ (W : World) (_ : W.heap[w.heap.size]? = some (.cells (fileCells (fs.take i) ++ Z).toArray 40 (0, 0))) (_ : W.heap[b1]? = w.heap[b1]?) ty dc, (Builtin.copy_ #[22, 22] ty #[.slice (some ⟨w.heap.size, i * 2, none⟩) (fs.length + 1 - i) dc, .slice (some ⟨b1, 0, none⟩) 1 c1]).run Tryd.prog W = .ok (goInt 1) (W.setRow w.heap.size ((fileCells (fs.take i) ++ Z).take (i * 2) ++ fileCells [f] ++ (fileCells (fs.take i) ++ Z).drop (i * 2 + 2)).toArray) := fun W hW hW2 ty dc =>
    (run_copy_two W _ _ ty 40 w.heap.size (i * 2) _ dc ⟨b1, 0, none⟩ 1 c1 _ 40 (fileCells [f]) 1 Tryd.underlying22 hsz hW (by simp only [Nat.min_def]; split <;> omega) rfl
      (fun j v hj => by
        have hadd : (⟨b1, 0, none⟩ : Addr).add j = ⟨b1, 0 + j, none⟩ := by unfold Addr.add; split <;> simp_all
        rw [hadd]
        simp only [World.cell?, hW2, hx]
        simpa [fileCells] using hj)
      (by simp [hX, hZl, hF]; omega) (fun v hv => fileCells_one [f] v hv))
  obtain ⟨A1, hA1⟩ : ∃ A1, A1 = (fileCells (fs.take i) ++ Z).take (i * 2) ++ fileCells [f] ++ (fileCells (fs.take i) ++ Z).drop (i * 2 + 2) := ⟨_, rfl⟩
  rw [← hA1] at hcA
  have hBl : (fileCells (fs.take i) ++ Z).length = G * 2 := by rw [List.length_append, hX, hZl]; omega
  have hA1l : A1.length = G * 2 := by rw [hA1]; exact (splice_len (fileCells (fs.take i) ++ Z) (fileCells [f]) (i * 2) (by rw [hF]; omega)).trans hBl
  have hcB : ∀ (W : World) (_ : W.heap[w.heap.size]? = some (.cells A1.toArray 40 (0, 0))) (_ : W.heap[g]? = w.heap[g]?) ty dc sc, (Builtin.copy_ #[22, 22] ty #[.slice (some ⟨w.heap.size, (i + 1) * 2, none⟩) (fs.length - i) dc, .slice (some ⟨g, i * 2, none⟩) (fs.length - i) sc]).run Tryd.prog W = .ok (goInt (fs.length - i : Nat)) (W.setRow w.heap.size (A1.take ((i + 1) * 2) ++ D ++ A1.drop ((i + 1) * 2 + D.length)).toArray) := fun W hW hW2 ty dc sc =>
    (run_copy_two W _ _ ty 40 w.heap.size ((i + 1) * 2) _ dc _ _ sc A1.toArray 40 D (fs.length - i) Tryd.underlying22 hsz hW (by simp only [Nat.min_def]; split <;> omega) hD (fun j v hj => hcellg W hW2 (i * 2) j v (by rw [hsplit, List.getElem?_append_right (by omega), hX, Nat.add_sub_cancel_left]; exact hj)) (by simp; omega) (fun v hv => fileCells_one (fs.drop i) v (by rwa [← hDd])))
  obtain ⟨A2, hA2⟩ : ∃ A2, A2 = A1.take ((i + 1) * 2) ++ D ++ A1.drop ((i + 1) * 2 + D.length) := ⟨_, rfl⟩
  rw [← hA2] at hcB
  have hA2l : A2.length = G * 2 := by rw [hA2]; exact (splice_len A1 D ((i + 1) * 2) (by omega)).trans hA1l
  have hfin : A2 = fileCells (fs.take i) ++ fileCells [f] ++ D ++ Z.drop (2 + D.length) := by
    rw [hA2, hA1, show (i + 1) * 2 = i * 2 + 2 by omega]; exact mid_grow Z (fileCells (fs.take i)) D (fileCells [f]) (i * 2) 2 hX hF
  have hA2t : A2.take ((fs.length + 1) * 2) = fileCells (fs.take i ++ f :: fs.drop i) := by
    have e : fileCells (fs.take i ++ f :: fs.drop i) = fileCells (fs.take i) ++ fileCells [f] ++ D := by
      rw [fileCells_append, show f :: fs.drop i = [f] ++ fs.drop i from rfl, fileCells_append, hDd, List.append_assoc]
    rw [e, hfin]
    exact List.take_left' (by simp [hX, hF, hD]; omega)
  obtain ⟨B0, hB0⟩ : ∃ B0, B0 = (fileCells (fs.take i) ++ Z).toArray := ⟨_, rfl⟩
  rw [← hB0] at hcA hrz
  obtain ⟨W1, hW1⟩ : ∃ W1, W1 = w.drew.alloc (.cells B0 40) := ⟨_, rfl⟩
  have h1B' : Below w.heap.size w W1 := by rw [hW1]; exact ((Below.refl w.heap.size w).drew).alloc (Nat.le_refl _) _
  have h1N : W1.heap[w.heap.size]? = some (.cells B0 40 (0, 0)) := by rw [hW1]; exact Array.getElem?_push_size
  have h1b : W1.heap[b1]? = w.heap[b1]? := h1B'.block b1 hb1w
  have h1g : W1.heap[g]? = w.heap[g]? := h1B'.block g hgw
  have h1B : Below base w W1 := by rw [hW1]; exact ((Below.refl base w).drew).alloc hbase _
  rw [← hW1] at hrz
  have hcA' := fun (W : World) (h : W.heap = W1.heap) => hcA W (by rw [h, h1N]) (by rw [h, h1b])
  have h2N : ∀ W : World, W.heap = W1.heap → (W.setRow w.heap.size A1.toArray).heap[w.heap.size]? = some (.cells A1.toArray 40 (0, 0)) := fun W h => setRow_heap W w.heap.size B0 A1.toArray _ _ (by rw [h, h1N])
  have h2g : ∀ W : World, W.heap = W1.heap → (W.setRow w.heap.size A1.toArray).heap[g]? = w.heap[g]? := fun W h => by rw [setRow_other W w.heap.size g _ (by omega), h, h1g]
  have hcB' := fun (W W2 : World) (h : W.heap = W1.heap) (h2 : W2.heap = (W.setRow w.heap.size A1.toArray).heap) => hcB W2 (by rw [h2, h2N W h]) (by rw [h2, h2g W h])
  have h3N : ∀ W W2 : World, W.heap = W1.heap → W2.heap = (W.setRow w.heap.size A1.toArray).heap → (W2.setRow w.heap.size A2.toArray).heap[w.heap.size]? = some (.cells A2.toArray 40 (0, 0)) := fun W W2 h h2 => setRow_heap W2 w.heap.size A1.toArray A2.toArray _ _ (by rw [h2, h2N W h])
  have Hrz := hid hrz
  have HcA := hid hcA'
  have HcB := hid hcB'
  have H3N := hid h3N
  have HA2l := hid hA2l
  have HA2t := hid hA2t
  have HB := hid h1B
  have HW1 := hid hW1
  clear hrz hcA hcA' hcB hcB' h1N h1b h1g h1B h1B' h2N h2g h3N hW1 hB0 hA2t hfin hA2l hA2 hBl hA1l hA1 hZl hZ hG hold hkk hik hcellg hgc' hX hsplit hDd hD hL hLl hF hgc hcs hx hsz hz1 hz2 hz0 hi0
  have hw1 : IntKind.i64.wrap ((i : Int) + 1) = (i : Int) + 1 := by rw [IntKind.wrap_i64]; omega
  have hb1 : (0 : Int) ≤ (i : Int) + 1 := by omega
  have htn : ((i : Int) + 1).toNat = i + 1 := by omega
  have hGi : ¬ (G = i) := by omega
  have hGim : ¬ (G = i + 1) := by omega
  have hci : ¬ (fs.length = i) := by omega
  have hin : i ≤ fs.length := by omega
  have hb3 : (i : Int) ≤ (fs.length : Int) := by omega
  have hz2 : ¬ ((i : Int) = (fs.length : Int)) := by omega
  have hz3 : (fs.length : Int) < (fs.length : Int) + 1 := by omega
  go_enter Tryd.func38, Tryd.ntmps38
  go_wp2_with (first
    | (at_builtin; refine Lib.wpList_append_run _ rfl _ _ _ _ rfl _ _ rfl rfl _ _ (Hrz.out _) ?_)
    | (refine wpList_copy_runX _ rfl _ _ 22 22 rfl (.slice (some ⟨w.heap.size, i * 2, none⟩) (fs.length + 1 - i) (G - i)) (.slice (some ⟨b1, 0, none⟩) 1 c1) rfl rfl (HcA.out W1 rfl 3 (G - i)) ?_))
  go_region_law (refine step_copy_runX rfl _ _ 22 22 rfl (.slice (some ⟨w.heap.size, (i + 1) * 2, none⟩) (fs.length - i) (G - (i + 1))) (.slice (some ⟨g, i * 2, none⟩) (fs.length - i) (fs.length - i)) (by simp [Act.eval, Act.put]) (by simp [Act.eval, Act.put]) (HcB.out W1 (W1.setRow w.heap.size A1.toArray).drew rfl rfl 3 (G - (i + 1)) (fs.length - i)) ?_)
  go_wp2_with fail
  go_ret
  refine ⟨_, rfl, ?_, ?_⟩
  · have e : (fs.take i ++ f :: fs.drop i).length = fs.length + 1 := by simp; omega
    rw [e]
    refine own_of_block hbase (H3N.out W1 _ rfl rfl) hGn (by unfold maxLen; omega) HA2l.out ?_ HA2t.out
    rw [fileCells_len, e]
  · exact below_setRow (below_setRow HB.out hbase _).drew hbase _
theorem insert_any (fs : List FileL) (f : FileL) (i b1 base : Nat) (v0 : Value) (w : World) (hi : i ≤ fs.length) (hown : w.ownsRow base 40 2 v0 fs.length (fileCells fs)) (hne : ∀ g, v0.ownBlock = some g → b1 ≠ g)
    (hx : w.heap[b1]? = some (.cells #[.string (bs f.1), .string (bs f.2)] 40 (0, 0))) (hlen : fs.length ≤ 1000) (hbase : base ≤ w.heap.size) :
    Calls Tryd.prog 38 #[v0, .int .i64 i, .slice (some ⟨b1, 0, none⟩) 1 1] w (InsertAt (fs.take i ++ f :: fs.drop i) base w) := by
  rcases Nat.lt_or_eq_of_le hi with h | h
  · have hown' := hown
    obtain ⟨-, ⟨-, h0⟩ | ⟨g, cap, cur, rfl, -⟩⟩ := hown'
    · omega
    · rcases Nat.lt_or_ge cap (fs.length + 1) with hc | hc
      · exact insert_grow fs f i g cap b1 1 base w h hown hc hx hlen hbase
      · exact insert_room fs f i g cap b1 1 base w h hown hc hx (hne g rfl) hlen hbase
  · subst h
    rw [List.take_length, List.drop_length]
    refine insert_end fs f v0 _ base w hown ⟨rfl, _, 1, rfl, Nat.le_refl _, by unfold maxLen; omega, fun h => (by cases h), fun _ => ⟨b1, 0, rfl, (Array.getElem?_eq_some_iff.1 hx).1, fun j u hu => ?_⟩⟩ hlen hbase
    rw [Nat.zero_add]
    simp only [World.cell?, hx]
    simpa [fileCells] using hu
end Go.Proofs.YtffmjjocjcomnaaDoor
