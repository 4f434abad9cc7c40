/- A slice of one-cell elements that the call owns, wherever in its block it begins, whatever mark its block bears behind its cells: append. -/
import Derived.Test.YtilkneajohpgiaaDoorBase
import Derived.Lib.AppendStr
namespace Go.Proofs.YtilkneajohpgiaaDoor
set_option maxRecDepth 100000
open Go.RowKit

def OwnAt (w : World) (base : Nat) (e : TypeId) (v : Value) (n : Nat) (xs : List Value) : Prop :=
  xs.length = n ∧ ((v = .slice none 0 0 ∧ n = 0) ∨ ∃ g off cap cur fz, v = .slice (some ⟨g, off, none⟩) n cap ∧ base ≤ g ∧ w.heap[g]? = some (.cells cur e fz) ∧
    (∀ j, j < cur.size → ¬ (fz.1 ≤ j ∧ j < fz.2)) ∧ n ≤ cap ∧ cap ≤ maxLen ∧ off + cap ≤ cur.size ∧ (cur.toList.drop off).take n = xs)
section
variable {w w' : World} {base : Nat} {e : TypeId} {v : Value} {n : Nat} {xs : List Value}
theorem OwnAt.nil (w : World) (base : Nat) (e : TypeId) : OwnAt w base e (.slice none 0 0) 0 [] := ⟨rfl, .inl ⟨rfl, rfl⟩⟩
theorem OwnAt.of_owns (h : w.ownsRow base e 1 v n xs) : OwnAt w base e v n xs := by
  refine ⟨by have := h.1; omega, ?_⟩
  rcases h.2 with hn | ⟨g, cap, cur, hv, hb, hg, h1, h2, h3, h4⟩
  · exact .inl hn
  · exact .inr ⟨g, 0, cap, cur, (0, 0), hv, hb, hg, fun j _ h => by have := h.2; omega, h1, h2, by omega, by rw [Nat.mul_one] at h4; exact h4⟩
theorem OwnAt.lt (h : OwnAt w base e v n xs) : ∀ k, v.ownBlock = some k → base ≤ k ∧ k < w.heap.size := by
  intro k hk
  rcases h.2 with ⟨rfl, _⟩ | ⟨g, off, cap, cur, fz, rfl, hb, hg, _⟩
  · simp [Value.ownBlock] at hk
  · simp [Value.ownBlock] at hk
    subst hk
    exact ⟨hb, (Array.getElem?_eq_some_iff.1 hg).1⟩
theorem OwnAt.kept {row : Option Nat} (h : OwnAt w base e v n xs) (hg : w.grownBy w' row) (hne : v.ownBlock = none ∨ v.ownBlock ≠ row) : OwnAt w' base e v n xs := by
  refine ⟨h.1, ?_⟩
  rcases h.2 with hn | ⟨g, off, cap, cur, fz, rfl, hb, hgg, rest⟩
  · exact .inl hn
  · refine .inr ⟨g, off, cap, cur, fz, rfl, hb, ?_, rest⟩
    rw [hg.block g (Array.getElem?_eq_some_iff.1 hgg).1 (by simpa [Value.ownBlock] using hne)]
    exact hgg
theorem OwnAt.same (h : OwnAt w base e v n xs) (hk : ∀ k, v.ownBlock = some k → w'.heap[k]? = w.heap[k]?) : OwnAt w' base e v n xs := by
  refine ⟨h.1, ?_⟩
  rcases h.2 with hn | ⟨g, off, cap, cur, fz, rfl, hb, hgg, rest⟩
  · exact .inl hn
  · exact .inr ⟨g, off, cap, cur, fz, rfl, hb, by rw [hk g rfl]; exact hgg, rest⟩
theorem OwnAt.below (h : OwnAt w base e v n xs) (hb : Below w.heap.size w w') : OwnAt w' base e v n xs := h.same fun k hk => hb.block k (h.lt k hk).2
theorem OwnAt.alloc (h : OwnAt w base e v n xs) (o : Obj) : OwnAt (w.alloc o) base e v n xs := h.below (below_new w o)
theorem OwnAt.form (h : OwnAt w base e v n xs) : ∃ a c, v = .slice a n c ∧ n ≤ c ∧ c ≤ maxLen := by
  rcases h.2 with ⟨rfl, rfl⟩ | ⟨g, off, cap, cur, fz, rfl, _, _, _, h1, h2, _⟩
  · exact ⟨none, 0, rfl, Nat.le_refl _, Nat.zero_le _⟩
  · exact ⟨_, cap, rfl, h1, h2⟩
theorem OwnAt.cells {g off cap : Nat} (h : OwnAt w base e (.slice (some ⟨g, off, none⟩) n cap) n xs) : ∀ j u, xs[j]? = some u → w.cell? ⟨g, off + j, none⟩ = some u := by
  intro j u hu
  rcases h.2 with ⟨h1, _⟩ | ⟨g', off', cap', cur, fz, hv, _, hgg, _, _, _, _, ht⟩
  · cases h1
  · injection hv with h1 h2 h3
    injection h1 with h1
    injection h1 with h1 h4 h5
    subst h1 h4 h3
    rw [cell_of_row w g (off + j) cur e fz hgg]
    rw [← ht, List.getElem?_take] at hu
    split at hu
    · rw [List.getElem?_drop] at hu; simpa using hu
    · cases hu
theorem OwnAt.sliceAt (h : OwnAt w base e v n xs) : SliceAt w 1 v n xs := by
  refine ⟨by rw [h.1]; omega, ?_⟩
  rcases h.2 with ⟨rfl, rfl⟩ | ⟨g, off, cap, cur, fz, rfl, hb, hgg, hf, h1, h2, h3, ht⟩
  · exact ⟨none, 0, rfl, Nat.le_refl _, Nat.zero_le _, fun _ => rfl, fun hne => absurd (List.eq_nil_of_length_eq_zero h.1) hne⟩
  · exact ⟨_, cap, rfl, h1, h2, fun h => (by cases h), fun _ => ⟨g, off, rfl, (Array.getElem?_eq_some_iff.1 hgg).1, h.cells⟩⟩
/-- 'v[k:]'. -/
theorem OwnAt.cut {a : Option Addr} {cap : Nat} (h : OwnAt w base e (.slice a n cap) n xs) {k : Nat} (hk : k ≤ n) :
    OwnAt w base e (.slice (if cap = k then a else a.map (·.add k)) (n - k) (cap - k)) (n - k) (xs.drop k) := by
  refine ⟨by rw [List.length_drop, h.1], ?_⟩
  rcases h.2 with ⟨hv, rfl⟩ | ⟨g, off, cap', cur, fz, hv, hb, hgg, hf, h1, h2, h3, ht⟩
  · injection hv with h1 h2 h3
    subst h1 h3
    obtain rfl : k = 0 := by omega
    exact .inl ⟨by simp, by omega⟩
  · injection hv with e1 e2 e3
    subst e1 e3
    refine .inr ?_
    by_cases hck : cap = k
    · rw [if_pos hck]
      refine ⟨g, off, cap - k, cur, fz, rfl, hb, hgg, hf, by omega, by omega, by omega, ?_⟩
      rw [show n - k = 0 by omega, List.take_zero]
      rw [List.drop_eq_nil_of_le (by rw [h.1]; omega)]
    · rw [if_neg hck]
      have hadd : (⟨g, off, none⟩ : Addr).add k = ⟨g, off + k, none⟩ := by unfold Addr.add; split <;> simp_all
      refine ⟨g, off + k, cap - k, cur, fz, by simp [hadd], hb, hgg, hf, by omega, by omega, by omega, ?_⟩
      rw [← ht, List.drop_take, List.drop_drop]
end

/-- Cells stored one by one into a row none of whose cells is frozen. -/
theorem run_storeCells_free (P : Program) (g o : Nat) (t : TypeId) (fz : Nat × Nat) : ∀ (vs : List Value) (i : Nat) (cur : Array Value) (w : World), w.heap[g]? = some (.cells cur t fz) → (∀ j, j < cur.size → ¬ (fz.1 ≤ j ∧ j < fz.2)) → o + i + vs.length ≤ cur.size → (∀ v ∈ vs, v.oneCell' = true) →
    (storeCells ⟨g, o, none⟩ vs i).run P w = .ok () (w.setRow g (cur.toList.take (o + i) ++ vs ++ cur.toList.drop (o + i + vs.length)).toArray)
  | [], i, cur, w, hg, _, _, _ => by
    simp only [storeCells, List.append_nil, List.length_nil, Nat.add_zero, List.take_append_drop, Array.toArray_toList]
    rw [setRow_self w g cur t fz hg]
    rfl
  | v :: rest, i, cur, w, hg, hfz, hl, h1 => by
    have hi : o + i < cur.size := by simp at hl; omega
    have hadd : (⟨g, o, none⟩ : Addr).add i = ⟨g, o + i, none⟩ := by unfold Addr.add; split <;> simp_all
    have hcell : w.cell? ⟨g, o + i, none⟩ = some cur[o + i] := by simp [World.cell?, hg, hi]
    have hfro : w.frozen? ⟨g, o + i, none⟩ = false := by
      obtain ⟨lo, hi'⟩ := fz
      have := hfz (o + i) hi
      simp only [World.frozen?, hg, Bool.and_eq_false_iff, decide_eq_false_iff_not]
      simp only at this
      omega
    have hst : (store ((⟨g, o, none⟩ : Addr).add i) v).run P w = .ok () (w.setRow g (cur.setIfInBounds (o + i) v)) := by
      rw [hadd, run_store P w _ v _ (h1 v (by simp)), hcell]
      simp [hfro, setCell_eq_setRow w g (o + i) cur t fz v hg]
    have ih := run_storeCells_free P g o t fz rest (i + 1) (cur.setIfInBounds (o + i) v) (w.setRow g (cur.setIfInBounds (o + i) v)) (setRow_heap w g cur _ t _ hg) (by simpa using hfz) (by simp at hl ⊢; omega) (fun x hx => h1 x (by simp [hx]))
    simp only [storeCells, Sem.run_bind, hst, Result.andThen_ok, ih, setRow_setRow]
    congr 3
    have e := list_seg_step cur.toList (o + i) v rest (by simp at hl ⊢; omega)
    simpa [Array.toList_setIfInBounds, Nat.add_assoc] using e

section
variable {P : Program} (w : World)
/-- What is behind a room's store. -/
theorem OwnAt.room {base : Nat} {e : TypeId} {n : Nat} {xs : List Value} {g off cap : Nat} {cur : Array Value} {fz : Nat × Nat} (hl : xs.length = n) (hb : base ≤ g) (hg : w.heap[g]? = some (.cells cur e fz)) (hf : ∀ j, j < cur.size → ¬ (fz.1 ≤ j ∧ j < fz.2))
    (hcm : cap ≤ maxLen) (hoc : off + cap ≤ cur.size) (ht : (cur.toList.drop off).take n = xs) (news : List Value) (hroom : n + news.length ≤ cap) :
    OwnAt (w.setRow g (cur.toList.take (off + n) ++ news ++ cur.toList.drop (off + n + news.length)).toArray) base e (.slice (some ⟨g, off, none⟩) (n + news.length) cap) (n + news.length) (xs ++ news) ∧
      w.grownBy (w.setRow g (cur.toList.take (off + n) ++ news ++ cur.toList.drop (off + n + news.length)).toArray) (some g) := by
  have hz : (cur.toList.take (off + n) ++ news ++ cur.toList.drop (off + n + news.length)).toArray.size = cur.size := by
    simp only [List.size_toArray, List.length_append, List.length_take, List.length_drop, Array.length_toList]; omega
  refine ⟨⟨by rw [List.length_append, hl], .inr ⟨g, off, cap, _, fz, rfl, hb, setRow_heap w g cur _ e _ hg, by rw [hz]; exact hf, hroom, hcm, by rw [hz]; exact hoc, ?_⟩⟩, ⟨rfl, rfl, rfl, by simp, fun k _ hk => setRow_other w g k _ (fun e => hk (by rw [e]))⟩⟩
  rw [List.append_assoc, List.drop_append_of_le_length (by simp; omega), List.drop_take, show off + n - off = n by omega, ht, ← List.append_assoc]
  exact List.take_left' (by rw [List.length_append, hl])
theorem OwnAt.grown {base : Nat} {e : TypeId} {n : Nat} {xs : List Value} (hl : xs.length = n) (news : List Value) (z : Value) (hz : z.cells.size = 1) (h63 : n + news.length ≤ maxLen) (hbase : base ≤ w.heap.size) (old : Nat) (row : Option Nat) :
    OwnAt (w.drew.alloc (.cells (xs.toArray ++ news.toArray ++ Builtin.zeroCells z.cells (grownCap w (n + news.length) old e - (n + news.length))) e)) base e
        (.slice (some ⟨w.heap.size, 0, none⟩) (n + news.length) (grownCap w (n + news.length) old e)) (n + news.length) (xs ++ news) ∧
      w.grownBy (w.drew.alloc (.cells (xs.toArray ++ news.toArray ++ Builtin.zeroCells z.cells (grownCap w (n + news.length) old e - (n + news.length))) e)) row := by
  have hge := grownCap_ge w (n + news.length) old e
  have hcm : grownCap w (n + news.length) old e ≤ maxLen := grownCap_le_maxLen w (n + news.length) old e h63
  refine ⟨⟨by rw [List.length_append, hl], .inr ⟨w.heap.size, 0, _, _, (0, 0), rfl, hbase, heap_alloc_new w.drew _, fun j _ h => by have := h.2; omega, hge, hcm, ?_, ?_⟩⟩, ⟨rfl, rfl, rfl, by simp, fun k hk _ => Below.heap_alloc w.drew _ k hk⟩⟩
  · simp only [Array.size_append, List.size_toArray, size_zeroCells, hz, hl]; omega
  · simp only [List.drop_zero, Array.toList_append, List.append_assoc]
    rw [← List.append_assoc]
    exact List.take_left' (by rw [List.length_append, hl])
theorem run_append_at (base : Nat) (t ty e : TypeId) (i : TypeInfo) (z : Value) (bytes : Nat) (ht : P.underlying t = some (.slice e)) (hi : P.info? e = some i) (hz : i.zero = some z)
    (hsize : i.size = 1) (hby : i.bytes = bytes) (hzs : z.cells.size = 1)
    (v : Value) (n : Nat) (xs : List Value) (hown : OwnAt w base e v n xs)
    (a : Addr) (m c : Nat) (news : List Value) (hl : news.length = m) (hnews : ∀ j u, news[j]? = some u → w.cell? (a.add j) = some u) (h1 : ∀ u ∈ news, u.oneCell' = true)
    (h63 : n + m ≤ maxLen) (hbytes : (n + m) * bytes ≤ 140737488355328) (hbase : base ≤ w.heap.size) :
    ∃ v' w', (Builtin.append_ #[t, t] ty #[v, .slice (some a) m c]).run P w = .ok v' w' ∧ OwnAt w' base e v' (n + m) (xs ++ news) ∧ w.grownBy w' v.ownBlock := by
  subst hl
  have hsmall : n + news.length ≤ 9223372036854775807 := by simp only [maxLen] at h63; omega
  rcases hown.2 with ⟨rfl, rfl⟩ | ⟨g, off, cap, cur, fz, rfl, hbg, hg, hf, hnc, hcm, hcs, htake⟩
  · have hx : xs = [] := List.eq_nil_of_length_eq_zero hown.1
    subst hx
    obtain ⟨v', w', r1, r2, r3, _⟩ := run_append_own (P := P) w base t ty e i z 1 bytes ht hi hz hsize hby hzs (by decide) (.slice none 0 0) 0 [] (World.ownsRow_nil w _ e 1) a news.length c news (by omega) hnews h1 h63 hbytes hbase
    exact ⟨v', w', r1, OwnAt.of_owns r2, r3⟩
  · by_cases hroom : n + news.length ≤ cap
    · have hfc := run_firstCells_some (P := P) w 1 news.length a news.length c news (by omega) hnews
      have hst := run_storeCells_free P g (off + n) e fz news 0 cur w hg hf (by omega) h1
      simp only [Nat.add_zero] at hst
      have hadd : (⟨g, off, none⟩ : Addr).add n = ⟨g, off + n, none⟩ := by unfold Addr.add; split <;> simp_all
      have hr : (Builtin.append_ #[t, t] ty #[.slice (some ⟨g, off, none⟩) n cap, .slice (some a) news.length c]).run P w =
          .ok (.slice (some ⟨g, off, none⟩) (n + news.length) cap) (w.setRow g (cur.toList.take (off + n) ++ news ++ cur.toList.drop (off + n + news.length)).toArray) := by
        simp [Builtin.append_, run_underlying ht, sizeOf, typeInfo, hi, hsize, Builtin.lenOf, hroom, hfc, hadd, hst]
      have := OwnAt.room w hown.1 hbg hg hf hcm hcs htake news hroom
      exact ⟨_, _, hr, this.1, this.2⟩
    · have holds : ∀ j u, xs[j]? = some u → w.cell? ((⟨g, off, none⟩ : Addr).add j) = some u := fun j u hu => by
        have hadd : (⟨g, off, none⟩ : Addr).add j = ⟨g, off + j, none⟩ := by unfold Addr.add; split <;> simp_all
        rw [hadd]; exact hown.cells j u hu
      have hr := run_append_grow (P := P) w t ty e i z ht hi hz ⟨g, off, none⟩ n cap xs (by rw [hsize, hown.1]; omega) holds a news.length c news (by rw [hsize]; omega) hnews (by omega) (by omega) (growslice_fits (by omega) (by rw [hby]; exact hbytes))
      have := OwnAt.grown (e := e) w hown.1 news z hzs h63 hbase cap (Value.ownBlock (.slice (some ⟨g, off, none⟩) n cap))
      exact ⟨_, _, hr, this.1, this.2⟩
theorem run_append_at_string (base : Nat) (t u ty e : TypeId) (i : TypeInfo) (ht : P.underlying t = some (.slice e)) (hu : P.underlying u = some .string) (hi : P.info? e = some i) (hz : i.zero = some (.int .u8 0))
    (hsize : i.size = 1) (hby : i.bytes = 1)
    (v : Value) (n : Nat) (xs : List Value) (hown : OwnAt w base e v n xs) (s : ByteArray)
    (h63 : n + s.size ≤ maxLen) (hbytes : n + s.size ≤ 140737488355328) (hbase : base ≤ w.heap.size) :
    ∃ v' w', (Builtin.append_ #[t, u] ty #[v, .string s]).run P w = .ok v' w' ∧ OwnAt w' base e v' (n + s.size) (xs ++ Lib.strCells s) ∧ w.grownBy w' v.ownBlock := by
  have hsmall : n + s.size ≤ 9223372036854775807 := by simp only [maxLen] at h63; omega
  have hsl := Lib.strCells_length s
  rcases hown.2 with ⟨rfl, rfl⟩ | ⟨g, off, cap, cur, fz, rfl, hbg, hg, hf, hnc, hcm, hcs, htake⟩
  · have hx : xs = [] := List.eq_nil_of_length_eq_zero hown.1
    subst hx
    obtain ⟨v', w', r1, r2, r3, _⟩ := Lib.run_append_own_string (P := P) w base t u ty e i ht hu hi hz hsize hby (.slice none 0 0) 0 [] (World.ownsRow_nil w _ e 1) s h63 hbytes hbase
    exact ⟨v', w', r1, OwnAt.of_owns r2, r3⟩
  · by_cases hroom : n + s.size ≤ cap
    · have hfc := Lib.run_firstCells_string (P := P) w 1 s
      have hst := run_storeCells_free P g (off + n) e fz (Lib.strCells s) 0 cur w hg hf (by omega) (Lib.strCells_oneCell s)
      simp only [Nat.add_zero] at hst
      have hadd : (⟨g, off, none⟩ : Addr).add n = ⟨g, off + n, none⟩ := by unfold Addr.add; split <;> simp_all
      have hr : (Builtin.append_ #[t, u] ty #[.slice (some ⟨g, off, none⟩) n cap, .string s]).run P w =
          .ok (.slice (some ⟨g, off, none⟩) (n + s.size) cap) (w.setRow g (cur.toList.take (off + n) ++ Lib.strCells s ++ cur.toList.drop (off + n + (Lib.strCells s).length)).toArray) := by
        simp [Builtin.append_, run_underlying ht, run_underlying hu, sizeOf, typeInfo, hi, hsize, Builtin.lenOf, hroom, hfc, hadd, hst]
      have := OwnAt.room w hown.1 hbg hg hf hcm hcs htake (Lib.strCells s) (by omega)
      rw [hsl] at this
      rw [hsl] at hr
      exact ⟨_, _, hr, this.1, this.2⟩
    · have holds : ∀ j u, xs[j]? = some u → w.cell? ((⟨g, off, none⟩ : Addr).add j) = some u := fun j u hu => by
        have hadd : (⟨g, off, none⟩ : Addr).add j = ⟨g, off + j, none⟩ := by unfold Addr.add; split <;> simp_all
        rw [hadd]; exact hown.cells j u hu
      have hr := Lib.run_append_grow_string (P := P) w t u ty e i (.int .u8 0) ht hu hi hz ⟨g, off, none⟩ n cap xs (by rw [hsize, hown.1]; omega) holds s (by omega) (by omega) (by rw [hby]; exact growslice_fits (by omega) (by omega))
      have := OwnAt.grown (e := e) w hown.1 (Lib.strCells s) (.int .u8 0) rfl (by omega) hbase cap (Value.ownBlock (.slice (some ⟨g, off, none⟩) n cap))
      rw [hsl] at this
      exact ⟨_, _, hr, this.1, this.2⟩
theorem wpList_append_at {ops : Array Oper} {rest : List Oper} {o : Oper} {a : Act} {Q : Exit → Act → World → Prop} (hgd : o.guard = none) (s x : Operand) (t : TypeId)
    (ho : o.op = .call { callee := .builtin .append, args := #[s, x], argTypes := #[t, t] })
    (base : Nat) (e : TypeId) (i : TypeInfo) (z : Value) (bytes : Nat) (ht : P.underlying t = some (.slice e)) (hi : P.info? e = some i) (hz : i.zero = some z)
    (hsize : i.size = 1) (hby : i.bytes = bytes) (hzs : z.cells.size = 1)
    (v : Value) (n : Nat) (xs : List Value) (hs : a.eval s = v) (hown : OwnAt w base e v n xs)
    (ad : Addr) (m c : Nat) (news : List Value) (hx : a.eval x = .slice (some ad) m c) (hl : news.length = m) (hnews : ∀ j u, news[j]? = some u → w.cell? (ad.add j) = some u) (h1 : ∀ u ∈ news, u.oneCell' = true)
    (h63 : n + m ≤ maxLen) (hbytes : (n + m) * bytes ≤ 140737488355328) (hbase : base ≤ w.heap.size)
    (h : ∀ v' w', OwnAt w' base e v' (n + m) (xs ++ news) → w.grownBy w' v.ownBlock → wpList P ops Q rest (a.put o.dst v') w') : wpList P ops Q (o :: rest) a w := by
  refine wpList_plain hgd fun K hK => ?_
  obtain ⟨v', w', hr, h2, h3⟩ := run_append_at (P := P) w base t o.type e i z bytes ht hi hz hsize hby hzs v n xs hown ad m c news hl hnews h1 h63 hbytes hbase
  unfold Oper.wp execOp
  simp only [ho, resolve, invoke, builtin, Sem.run_bind, Sem.run_pure, Result.andThen_ok, List.map_toArray, List.map_cons, List.map_nil, hs, hx, hr]
  exact hK _ _ (h v' w' h2 h3)
theorem wpList_append_at_string {ops : Array Oper} {rest : List Oper} {o : Oper} {a : Act} {Q : Exit → Act → World → Prop} (hgd : o.guard = none) (s x : Operand) (t u : TypeId)
    (ho : o.op = .call { callee := .builtin .append, args := #[s, x], argTypes := #[t, u] })
    (base : Nat) (e : TypeId) (i : TypeInfo) (ht : P.underlying t = some (.slice e)) (hu : P.underlying u = some .string) (hi : P.info? e = some i) (hz : i.zero = some (.int .u8 0))
    (hsize : i.size = 1) (hby : i.bytes = 1)
    (v : Value) (n : Nat) (xs : List Value) (hs : a.eval s = v) (hown : OwnAt w base e v n xs) (str : ByteArray) (hx : a.eval x = .string str)
    (h63 : n + str.size ≤ maxLen) (hbytes : n + str.size ≤ 140737488355328) (hbase : base ≤ w.heap.size)
    (h : ∀ v' w', OwnAt w' base e v' (n + str.size) (xs ++ Lib.strCells str) → w.grownBy w' v.ownBlock → wpList P ops Q rest (a.put o.dst v') w') : wpList P ops Q (o :: rest) a w := by
  refine wpList_plain hgd fun K hK => ?_
  obtain ⟨v', w', hr, h2, h3⟩ := run_append_at_string (P := P) w base t u o.type e i ht hu hi hz hsize hby v n xs hown str h63 hbytes hbase
  unfold Oper.wp execOp
  simp only [ho, resolve, invoke, builtin, Sem.run_bind, Sem.run_pure, Result.andThen_ok, List.map_toArray, List.map_cons, List.map_nil, hs, hx, hr]
  exact hK _ _ (h v' w' h2 h3)
end
end Go.Proofs.YtilkneajohpgiaaDoor
