/- The frame's opener of an api.Value. -/
import Derived.Test.YtnfjlimecoikpaaGreatDoorFrame
import Derived.Test.YtnfjlimecoikpaaGreatDoorMPlain
import Derived.Test.YtnfjlimecoikpaaGreatDoorValMem
import Derived.Deep.Fields
import Derived.ChangeSame
import Derived.Lib.SmallJoins
namespace Go.Proofs.YtnfjlimecoikpaaGreatDoor
open Go.Joins Go.ChangeShapes Go.WideShapes Go.ChangeAt Go.RowKit Go.Deep
set_option maxRecDepth 100000

section
variable {H : Type} {enc : TypeId × Value → H} {P : Program} {w : World} {base : Nat} {spare : Nat → Bool} {held : Bool}
theorem open_slice_fields {t e : TypeId} {fs : Array Field} {fuel : Nat} {cs : List Value} {x : DataW H × List MemPlace} (ht : P.underlying t = some (.slice e)) (he : P.underlying e = some (.struct fs))
    (hone : oneCellFields P fs = true) (hC : P.cellsOf e = fs.size) (h : DataW.trod enc P w base spare held fuel t cs = some x) :
    (cs = [.slice none 0 0] ∧ x = (.nil, [])) ∨
    ∃ (a : Addr) (len cap m : Nat) (D : Nat → DataW H) (Pl : Nat → List MemPlace), cs = [.slice (some a) len cap] ∧ base ≤ a.block ∧ len ≤ cap ∧ cap ≤ maxLen ∧ m = (if spare a.block then cap else len) ∧
      x = (.slice ((List.range len).map D) ((List.range (m - len)).map fun j => D (len + j)), MemPlace.row a (m * fs.size) ++ (List.range m).flatMap Pl) ∧
      ∀ i, i < m → ∃ (ys : List (DataW H × List MemPlace)) (n : Nat), D i = .agg (ys.map (·.1)) ∧ Pl i = ys.flatMap (·.2) ∧ ys.length = fs.size ∧
        ∀ (j : Nat) (f : Field), fs[j]? = some f → ∃ (v : Value) (y : DataW H × List MemPlace), w.cell? (a.add (i * fs.size + j)) = some v ∧ ys[j]? = some y ∧ DataW.trod enc P w base spare held n f.type [v] = some y := by
  rcases open_slice ht h with h0 | ⟨a, len, cap, m, n, D, Pl, hcs, hb, hl, hm, hmm, hx, hi⟩
  · exact .inl h0
  · refine .inr ⟨a, len, cap, m, D, Pl, hcs, hb, hl, hm, hmm, by rw [hC] at hx; exact hx, fun i him => ?_⟩
    obtain ⟨cs', hc, ht'⟩ := hi i him
    rw [hC] at hc
    obtain ⟨ys, n', hn', hy, hlen, hyl, hf⟩ := DataW.trod_struct he ht'
    obtain ⟨_, hcl, hat⟩ := World.cells?_some hc
    simp only [Prod.mk.injEq] at hy
    refine ⟨ys, n', hy.1, hy.2, hyl, fun j f hj => ?_⟩
    obtain ⟨ho, hk⟩ := hone_of hone j f hj
    have hjl : j < fs.size := (Array.getElem?_eq_some_iff.1 hj).1
    have hcell := hat j hjl
    have hv : cs'[j]? = some (cs'[j]'(by omega)) := List.getElem?_eq_getElem (by omega)
    have h1 := hf j f hj
    rw [ho, hk] at h1
    have hone' : (cs'.drop j).take 1 = [cs'[j]'(by omega)] := by
      rw [List.drop_eq_getElem_cons (by omega)]
      rfl
    rw [hone'] at h1
    have hys : ys[j]? = some (ys[j]'(by omega)) := List.getElem?_eq_getElem (by omega)
    refine ⟨_, _, ?_, hys, h1.trans hys⟩
    rw [← Go.Deep.add_add, hcell, hv]
theorem open_agg5 {r : Reach} {b0 : Nat} {t : TypeId} {f0 f1 f2 f3 f4 : Field} {v : Value} {d : DataW H} {p : List MemPlace} (hs : P.underlying t = some (.struct #[f0, f1, f2, f3, f4])) (hone : oneCellFields P #[f0, f1, f2, f3, f4] = true) (hC : P.cellsOf t = 5)
    (hv : Value.okWide P w r b0 t v) (h : DataW.Trod enc P w base spare held t v d p) :
    ∃ (v0 v1 v2 v3 v4 : Value) (y0 y1 y2 y3 y4 : DataW H × List MemPlace) (n : Nat), v = .agg #[v0, v1, v2, v3, v4] ∧ d = .agg [y0.1, y1.1, y2.1, y3.1, y4.1] ∧ p = y0.2 ++ (y1.2 ++ (y2.2 ++ (y3.2 ++ y4.2))) ∧
      DataW.trod enc P w base spare held n f0.type [v0] = some y0 ∧ DataW.trod enc P w base spare held n f1.type [v1] = some y1 ∧ DataW.trod enc P w base spare held n f2.type [v2] = some y2 ∧ DataW.trod enc P w base spare held n f3.type [v3] = some y3 ∧ DataW.trod enc P w base spare held n f4.type [v4] = some y4 := by
  obtain ⟨cs, rfl, hsz⟩ := okWide_struct hs hv
  obtain ⟨l⟩ := cs
  match l, hsz.trans hC with
  | [c0, c1, c2, c3, c4], _ =>
    obtain ⟨fuel, hf⟩ := h
    obtain ⟨xs, n, _, hx, _, hlen, hg⟩ := DataW.trod_struct hs hf
    obtain ⟨o0, k0⟩ := hone_of hone 0 f0 rfl
    obtain ⟨o1, k1⟩ := hone_of hone 1 f1 rfl
    obtain ⟨o2, k2⟩ := hone_of hone 2 f2 rfl
    obtain ⟨o3, k3⟩ := hone_of hone 3 f3 rfl
    obtain ⟨o4, k4⟩ := hone_of hone 4 f4 rfl
    match xs, hlen with
    | [y0, y1, y2, y3, y4], _ =>
      simp only [Prod.mk.injEq] at hx
      exact ⟨c0, c1, c2, c3, c4, y0, y1, y2, y3, y4, n, rfl, by simpa using hx.1, by simpa using hx.2, by simpa [Value.cells, o0, k0] using hg 0 f0 rfl, by simpa [Value.cells, o1, k1] using hg 1 f1 rfl, by simpa [Value.cells, o2, k2] using hg 2 f2 rfl, by simpa [Value.cells, o3, k3] using hg 3 f3 rfl, by simpa [Value.cells, o4, k4] using hg 4 f4 rfl⟩
end

theorem val_under : ∃ f0 f1 f2 f3 f4 : Field, Tryz.prog.underlying 25 = some (.struct #[f0, f1, f2, f3, f4]) ∧ oneCellFields Tryz.prog #[f0, f1, f2, f3, f4] = true ∧ f0.type = 3 ∧ f1.type = 2 ∧ f2.type = 9 ∧ f3.type = 22 ∧ f4.type = 23 :=
  ⟨_, _, _, _, _, rfl, by kernel_rfl, rfl, rfl, rfl, rfl, rfl⟩
theorem val_cells : Tryz.prog.cellsOf 25 = 5 := by kernel_rfl
/-- A '[]string' that came in, whatever it weighs. -/
theorem read_strs {H : Type} {enc : TypeId × Value → H} {W : World} {fuel : Nat} {v : Value} {x : DataW H × List MemPlace}
    (hf : DataW.trod enc Tryz.prog W 0 (fun _ => true) true fuel 23 [v] = some x) : ∃ ss : List (List UInt8), SliceAt W 1 v ss.length (strCells ss) := by
  rcases open_strings Tryz.underlying23 Tryz.underlying9 (by kernel_rfl) hf with ⟨hcs, hx⟩ | ⟨a, len, cap, ss, hcs, _, hl, hm, hz, hx, hcell, _⟩
  · obtain rfl : v = .slice none 0 0 := by simpa using hcs
    exact ⟨[], SliceAt.nil _ _⟩
  · obtain rfl : v = .slice (some a) len cap := by simpa using hcs
    simp only [if_true] at hz
    refine ⟨(ss.take len).map (·.data.toList), ?_⟩
    refine ⟨by simp [strCells], _, cap, by simp only [List.length_map, List.length_take]; rw [Nat.min_eq_left (by omega)], by simp only [List.length_map, List.length_take]; rw [Nat.min_eq_left (by omega)]; exact hl, hm, fun h => (by cases h), fun hne => ?_⟩
    have hl0 : 0 < len := by
      rcases Nat.eq_zero_or_pos len with h0 | h0
      · subst h0; simp [strCells] at hne
      · exact h0
    obtain ⟨b, off, spot⟩ := a
    have hspot : spot = none := by simpa [Addr.add] using World.cell?_spot (hcell 0 (by omega))
    subst hspot
    refine ⟨b, off, rfl, ?_, fun j u hu => ?_⟩
    · have := World.block_lt_of_cell? W _ (hcell 0 (by omega)); simpa [Addr.add] using this
    · simp only [strCells, List.map_map, List.getElem?_map, Option.map_eq_some_iff] at hu
      obtain ⟨s, hs, rfl⟩ := hu
      have hj : j < len := by
        rcases Nat.lt_or_ge j len with h | h
        · exact h
        · rw [List.getElem?_eq_none (by simp; omega)] at hs; cases hs
      rw [List.getElem?_take, if_pos hj] at hs
      rw [← add_plain, hcell j (by omega)]
      simp [List.getD, hs, bs]
theorem list_of {P : Nat → VM → Prop} : ∀ len, (∀ i, i < len → ∃ x, P i x) → ∃ l : List VM, l.length = len ∧ ∀ i (h : i < l.length), P i l[i]
  | 0, _ => ⟨[], rfl, fun i h => by simp at h⟩
  | len + 1, h => by
    obtain ⟨l, hl, hp⟩ := list_of len (fun i hi => h i (by omega))
    obtain ⟨x, hx⟩ := h len (by omega)
    refine ⟨l ++ [x], by simp [hl], fun i hi => ?_⟩
    by_cases e : i < l.length
    · rw [List.getElem_append_left e]; exact hp i e
    · have : i = len := by simp at hi; omega
      subst this
      rw [List.getElem_append_right (by omega)]
      simpa [hl] using hx
theorem heldL_of {W : World} : ∀ {l : List VM}, (∀ i (h : i < l.length), Held W l[i]) → HeldL W l
  | [], _ => by unfold HeldL; trivial
  | v :: r, h => by
    unfold HeldL
    exact ⟨h 0 (by simp), heldL_of (fun i hi => h (i + 1) (by simpa using hi))⟩
theorem fitL_of : ∀ {l : List VM}, (∀ i (h : i < l.length), fitB l[i] = true) → fitL l = true
  | [], _ => by simp [fitL]
  | v :: r, h => by
    have h0 := h 0 (by simp)
    have h1 := fitL_of (l := r) (fun i hi => h (i + 1) (by simpa using hi))
    simp only [fitL, Bool.and_eq_true]
    exact ⟨h0, h1⟩
theorem vmCells_at : ∀ (l : List VM) (i : Nat) (h : i < l.length) (r : Nat), r < 5 → (vmCells l)[i * 5 + r]? = l[i].cells[r]?
  | v :: t, 0, _, r, hr => by
    have e : vmCells (v :: t) = v.cells ++ vmCells t := rfl
    rw [e, Nat.zero_mul, Nat.zero_add, List.getElem?_append_left (by rw [v.cells_len]; exact hr)]; rfl
  | v :: t, i + 1, h, r, hr => by
    have e : vmCells (v :: t) = v.cells ++ vmCells t := rfl
    rw [e, List.getElem?_append_right (by rw [v.cells_len]; omega), v.cells_len, show (i + 1) * 5 + r - 5 = i * 5 + r by omega]
    exact vmCells_at t i (by simpa using h) r hr
  | [], i, h, _, _ => by simp at h
theorem read_five {H : Type} {enc : TypeId × Value → H} {W : World} : ∀ (N : Nat) (y0 y1 y2 y3 y4 : DataW H × List MemPlace) (v0 v1 v2 v3 v4 : Value) (n : Nat), SizeOf.sizeOf y3.1 ≤ N →
    DataW.trod enc Tryz.prog W 0 (fun _ => true) true n 3 [v0] = some y0 → DataW.trod enc Tryz.prog W 0 (fun _ => true) true n 2 [v1] = some y1 → DataW.trod enc Tryz.prog W 0 (fun _ => true) true n 9 [v2] = some y2 →
    DataW.trod enc Tryz.prog W 0 (fun _ => true) true n 22 [v3] = some y3 → DataW.trod enc Tryz.prog W 0 (fun _ => true) true n 23 [v4] = some y4 →
    ∃ x : VM, x.cells = [v0, v1, v2, v3, v4] ∧ Held W x ∧ fitB x = true := by
  intro N
  induction N with
  | zero => intro y0 y1 y2 y3; intros; rename_i h _ _ _ _ _; exfalso; cases hy : y3.1 <;> rw [hy] at h <;> simp at h
  | succ N ih =>
    intro y0 y1 y2 y3 y4 v0 v1 v2 v3 v4 n hN h0 h1 h2 h3 h4
    obtain ⟨a0, e0, -, w0⟩ := DataW.trod_int Tryz.underlying3 h0
    obtain ⟨a1, e1, -, w1⟩ := DataW.trod_int Tryz.underlying2 h1
    obtain ⟨s2, e2, -, -⟩ := DataW.trod_string Tryz.underlying9 h2
    obtain ⟨ss, hss⟩ := read_strs h4
    simp only [List.cons.injEq, and_true] at e0 e1 e2
    subst e0 e1 e2
    have hfit : -9223372036854775808 ≤ a0 ∧ a0 ≤ 9223372036854775807 ∧ -9223372036854775808 ≤ a1 ∧ a1 ≤ 9223372036854775807 := by
      simp only [Lit.wf, Bool.and_eq_true, decide_eq_true_eq] at w0 w1
      have k1 : IntKind.i64.min = -9223372036854775808 := rfl
      have k2 : IntKind.i64.max = 9223372036854775807 := rfl
      omega
    obtain ⟨f0, f1, f2, f3, f4, hu, hone, t0, t1, t2, t3, t4⟩ := val_under
    rcases open_slice_fields Tryz.underlying22 hu hone val_cells h3 with ⟨hcs, -⟩ | ⟨a, len, cap, m, D, Pl, hcs, -, hl, hm, hmm, hx, hi⟩
    · obtain rfl : v3 = .slice none 0 0 := by simpa using hcs
      refine ⟨.mk a0 a1 s2.data.toList (.slice none 0 0) v4 [] ss, rfl, mk_held (SliceAt.nil W 5) hss (by unfold HeldL; trivial), ?_⟩
      simp [fitB, fitL, hfit]
    · obtain rfl : v3 = .slice (some a) len cap := by simpa using hcs
      simp only [if_true] at hmm
      have hyi : ∀ i, i < len → ∃ x : VM, (∀ r u, x.cells[r]? = some u → W.cell? (a.add (i * 5 + r)) = some u) ∧ Held W x ∧ fitB x = true := by
        intro i hil
        obtain ⟨ys, n', hD, -, hlen, hf⟩ := hi i (by omega)
        obtain ⟨z0, y0', c0, g0, q0⟩ := hf 0 f0 rfl
        obtain ⟨z1, y1', c1, g1, q1⟩ := hf 1 f1 rfl
        obtain ⟨z2, y2', c2, g2, q2⟩ := hf 2 f2 rfl
        obtain ⟨z3, y3', c3, g3, q3⟩ := hf 3 f3 rfl
        obtain ⟨z4, y4', c4, g4, q4⟩ := hf 4 f4 rfl
        rw [t0] at q0
        rw [t1] at q1
        rw [t2] at q2
        rw [t3] at q3
        rw [t4] at q4
        have hs3 : SizeOf.sizeOf y3'.1 ≤ N := by
          have m1 : y3'.1 ∈ ys.map (·.1) := List.mem_map.2 ⟨y3', List.mem_of_getElem? g3, rfl⟩
          have k1 := List.sizeOf_lt_of_mem m1
          have k2 : SizeOf.sizeOf (D i) = 1 + SizeOf.sizeOf (ys.map (·.1)) := by rw [hD]; simp
          have m2 : D i ∈ (List.range len).map D := List.mem_map.2 ⟨i, List.mem_range.2 hil, rfl⟩
          have k3 := List.sizeOf_lt_of_mem m2
          have k4 : SizeOf.sizeOf y3.1 = 1 + SizeOf.sizeOf ((List.range len).map D) + SizeOf.sizeOf ((List.range (m - len)).map fun j => D (len + j)) := by rw [hx]; simp
          omega
        obtain ⟨x, hxc, hxh, hxf⟩ := ih y0' y1' y2' y3' y4' z0 z1 z2 z3 z4 n' hs3 q0 q1 q2 q3 q4
        refine ⟨x, fun r u hr => ?_, hxh, hxf⟩
        rw [hxc] at hr
        match r, hr with
        | 0, hr => simp at hr; subst hr; exact c0
        | 1, hr => simp at hr; subst hr; exact c1
        | 2, hr => simp at hr; subst hr; exact c2
        | 3, hr => simp at hr; subst hr; exact c3
        | 4, hr => simp at hr; subst hr; exact c4
        | r + 5, hr => simp at hr
      obtain ⟨l, hll, hp⟩ := list_of (P := fun i x => (∀ r u, x.cells[r]? = some u → W.cell? (a.add (i * 5 + r)) = some u) ∧ Held W x ∧ fitB x = true) len hyi
      have hHL : HeldL W l := heldL_of (fun i h => (hp i h).2.1)
      have hFL : fitL l = true := fitL_of (fun i h => (hp i h).2.2)
      have hSl : SliceAt W 5 (.slice (some a) len cap) l.length (vmCells l) := by
        refine ⟨by rw [vmCells_len], some a, cap, by rw [hll], by rw [hll]; exact hl, hm, fun h => (by cases h), fun hne => ?_⟩
        have hl0 : 0 < l.length := by
          rcases Nat.eq_zero_or_pos l.length with h0 | h0
          · rw [List.length_eq_zero_iff.1 h0] at hne; exact absurd rfl hne
          · exact h0
        have hcell : ∀ j u, (vmCells l)[j]? = some u → W.cell? (a.add j) = some u := by
          intro j u hu
          have hj : j < l.length * 5 := by rw [← vmCells_len]; exact (List.getElem?_eq_some_iff.1 hu).1
          have hq := Nat.div_add_mod j 5
          have hq' : j / 5 * 5 + j % 5 = j := by omega
          have := vmCells_at l (j / 5) (by omega) (j % 5) (Nat.mod_lt _ (by omega))
          rw [hq'] at this
          rw [this] at hu
          have := (hp (j / 5) (by omega)).1 _ _ hu
          rwa [hq'] at this
        have h00 : ∃ u, (vmCells l)[0]? = some u := ⟨_, List.getElem?_eq_getElem (by rw [vmCells_len]; omega)⟩
        obtain ⟨u0, hu0⟩ := h00
        obtain ⟨b, off, spot⟩ := a
        have hspot : spot = none := by simpa [Addr.add] using World.cell?_spot (hcell 0 u0 hu0)
        subst hspot
        refine ⟨b, off, rfl, ?_, fun j u hu => ?_⟩
        · have := World.block_lt_of_cell? W _ (hcell 0 u0 hu0); simpa [Addr.add] using this
        · rw [← add_plain]; exact hcell j u hu
      refine ⟨.mk a0 a1 s2.data.toList (.slice (some a) len cap) v4 l ss, rfl, mk_held hSl hss hHL, ?_⟩
      simp [fitB, hFL, hfit]
/-- A value that came in. -/
theorem arg_value {H : Type} {enc : TypeId × Value → H} {W : World} {base : Nat} {v : Value} {d : DataW H} {p : List MemPlace}
    (hv : Value.okWide Tryz.prog W .any base 25 v) (h : DataW.Trod enc Tryz.prog W 0 (fun _ => true) true 25 v d p) :
    ∃ (k n : Int) (s : List UInt8) (lv kv : Value) (l : List VM) (ks : List (List UInt8)), v = valA k n s lv kv ∧ Held W (.mk k n s lv kv l ks) ∧ fitB (.mk k n s lv kv l ks) = true := by
  obtain ⟨f0, f1, f2, f3, f4, hu, hone, t0, t1, t2, t3, t4⟩ := val_under
  obtain ⟨v0, v1, v2, v3, v4, y0, y1, y2, y3, y4, n, rfl, -, -, q0, q1, q2, q3, q4⟩ := open_agg5 hu hone val_cells hv h
  rw [t0] at q0
  rw [t1] at q1
  rw [t2] at q2
  rw [t3] at q3
  rw [t4] at q4
  obtain ⟨x, hx, hh, hf⟩ := read_five _ y0 y1 y2 y3 y4 v0 v1 v2 v3 v4 n (Nat.le_refl _) q0 q1 q2 q3 q4
  cases x with
  | mk k n s lv kv l ks =>
    simp only [VM.cells, List.cons.injEq, and_true] at hx
    obtain ⟨rfl, rfl, rfl, rfl, rfl⟩ := hx
    exact ⟨k, n, s, lv, kv, l, ks, rfl, hh, hf⟩
end Go.Proofs.YtnfjlimecoikpaaGreatDoor
