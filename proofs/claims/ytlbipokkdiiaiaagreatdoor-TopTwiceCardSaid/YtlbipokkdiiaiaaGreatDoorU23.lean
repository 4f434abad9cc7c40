/- Lemmas for TopTwice: OwnAt, ShaWhole, ShaAdd, ShaDig. -/
import Derived.Test.YtlbipokkdiiaiaaGreatDoorU10
import Derived.Lib.AppendStr
import Derived.Test.YtlbipokkdiiaiaaGreatDoorU20
import Derived.Test.YtlbipokkdiiaiaaGreatDoorU22
import Derived.Test.YtlbipokkdiiaiaaGreatDoorU17
import Derived.Test.YtlbipokkdiiaiaaGreatDoorChecked
import Derived.Laws.Tables
import Derived.Laws.Rows
namespace Go.Proofs.YtlbipokkdiiaiaaGreatDoor
set_option maxRecDepth 100000
open Go.RowKit
def OwnAt (w : World) (base : Nat) (e : TypeId) (v : Value) (n : Nat) (xs : List Value) : Prop :=
 xs.length = n ∧ ((v = .slice none 0 0 ∧ n = 0) ∨ ∃ g off cap cur fz, v = .slice (some ⟨g, off, none⟩) n cap ∧ base ≤ g ∧ w.heap[g]? = some (.cells cur e fz) ∧
  (∀ j, j < cur.size → ¬ (fz.1 ≤ j ∧ j < fz.2)) ∧ n ≤ cap ∧ cap ≤ maxLen ∧ off + cap ≤ cur.size ∧ (cur.toList.drop off).take n = xs)
section
variable {w w' : World} {base : Nat} {e : TypeId} {v : Value} {n : Nat} {xs : List Value}
theorem OwnAt.nil (w : World) (base : Nat) (e : TypeId) : OwnAt w base e (.slice none 0 0) 0 [] := ⟨rfl, .inl ⟨rfl, rfl⟩⟩
theorem OwnAt.of_owns (h : w.ownsRow base e 1 v n xs) : OwnAt w base e v n xs := by
 refine ⟨by have := h.1; omega, ?_⟩
 rcases h.2 with hn | ⟨g, cap, cur, hv, hb, hg, h1, h2, h3, h4⟩
 ·exact .inl hn
 ·exact .inr ⟨g, 0, cap, cur, (0, 0), hv, hb, hg, fun j _ h => by have := h.2; omega, h1, h2, by omega, by rw [Nat.mul_one] at h4; exact h4⟩
theorem OwnAt.lt (h : OwnAt w base e v n xs) : ∀ k, v.ownBlock = some k → base ≤ k ∧ k < w.heap.size := by
 intro k hk
 rcases h.2 with ⟨rfl, _⟩ | ⟨g, off, cap, cur, fz, rfl, hb, hg, _⟩
 ·simp [Value.ownBlock] at hk
 ·simp [Value.ownBlock] at hk
  subst hk
  exact ⟨hb, (Array.getElem?_eq_some_iff.1 hg).1⟩
theorem OwnAt.kept {row : Option Nat} (h : OwnAt w base e v n xs) (hg : w.grownBy w' row) (hne : v.ownBlock = none ∨ v.ownBlock ≠ row) : OwnAt w' base e v n xs := by
 refine ⟨h.1, ?_⟩
 rcases h.2 with hn | ⟨g, off, cap, cur, fz, rfl, hb, hgg, rest⟩
 ·exact .inl hn
 ·refine .inr ⟨g, off, cap, cur, fz, rfl, hb, ?_, rest⟩
  rw [hg.block g (Array.getElem?_eq_some_iff.1 hgg).1 (by simpa [Value.ownBlock] using hne)]
  exact hgg
theorem OwnAt.same (h : OwnAt w base e v n xs) (hk : ∀ k, v.ownBlock = some k → w'.heap[k]? = w.heap[k]?) : OwnAt w' base e v n xs := by
 refine ⟨h.1, ?_⟩
 rcases h.2 with hn | ⟨g, off, cap, cur, fz, rfl, hb, hgg, rest⟩
 ·exact .inl hn
 ·exact .inr ⟨g, off, cap, cur, fz, rfl, hb, by rw [hk g rfl]; exact hgg, rest⟩
theorem OwnAt.below (h : OwnAt w base e v n xs) (hb : Below w.heap.size w w') : OwnAt w' base e v n xs := h.same fun k hk => hb.block k (h.lt k hk).2
theorem OwnAt.alloc (h : OwnAt w base e v n xs) (o : Obj) : OwnAt (w.alloc o) base e v n xs := h.below (below_new w o)
theorem OwnAt.form (h : OwnAt w base e v n xs) : ∃ a c, v = .slice a n c ∧ n ≤ c ∧ c ≤ maxLen := by
 rcases h.2 with ⟨rfl, rfl⟩ | ⟨g, off, cap, cur, fz, rfl, _, _, _, h1, h2, _⟩
 ·exact ⟨none, 0, rfl, Nat.le_refl _, Nat.zero_le _⟩
 ·exact ⟨_, cap, rfl, h1, h2⟩
theorem OwnAt.cells {g off cap : Nat} (h : OwnAt w base e (.slice (some ⟨g, off, none⟩) n cap) n xs) : ∀ j u, xs[j]? = some u → w.cell? ⟨g, off + j, none⟩ = some u := by
 intro j u hu
 rcases h.2 with ⟨h1, _⟩ | ⟨g', off', cap', cur, fz, hv, _, hgg, _, _, _, _, ht⟩
 ·cases h1
 ·injection hv with h1 h2 h3
  injection h1 with h1
  injection h1 with h1 h4 h5
  subst h1 h4 h3
  rw [cell_of_row w g (off + j) cur e fz hgg]
  rw [← ht, List.getElem?_take] at hu
  split at hu
  ·rw [List.getElem?_drop] at hu; simpa using hu
  ·cases hu
theorem OwnAt.sliceAt (h : OwnAt w base e v n xs) : SliceAt w 1 v n xs := by
 refine ⟨by rw [h.1]; omega, ?_⟩
 rcases h.2 with ⟨rfl, rfl⟩ | ⟨g, off, cap, cur, fz, rfl, hb, hgg, hf, h1, h2, h3, ht⟩
 ·exact ⟨none, 0, rfl, Nat.le_refl _, Nat.zero_le _, fun _ => rfl, fun hne => absurd (List.eq_nil_of_length_eq_zero h.1) hne⟩
 ·exact ⟨_, cap, rfl, h1, h2, fun h => (by cases h), fun _ => ⟨g, off, rfl, (Array.getElem?_eq_some_iff.1 hgg).1, h.cells⟩⟩
theorem OwnAt.cut {a : Option Addr} {cap : Nat} (h : OwnAt w base e (.slice a n cap) n xs) {k : Nat} (hk : k ≤ n) :
  OwnAt w base e (.slice (if cap = k then a else a.map (·.add k)) (n - k) (cap - k)) (n - k) (xs.drop k) := by
 refine ⟨by rw [List.length_drop, h.1], ?_⟩
 rcases h.2 with ⟨hv, rfl⟩ | ⟨g, off, cap', cur, fz, hv, hb, hgg, hf, h1, h2, h3, ht⟩
 ·injection hv with h1 h2 h3
  subst h1 h3
  obtain rfl : k = 0 := by omega
  exact .inl ⟨by simp, by omega⟩
 ·injection hv with e1 e2 e3
  subst e1 e3
  refine .inr ?_
  by_cases hck : cap = k
  ·rw [if_pos hck]
   refine ⟨g, off, cap - k, cur, fz, rfl, hb, hgg, hf, by omega, by omega, by omega, ?_⟩
   rw [show n - k = 0 by omega, List.take_zero]
   rw [List.drop_eq_nil_of_le (by rw [h.1]; omega)]
  ·rw [if_neg hck]
   have hadd : (⟨g, off, none⟩ : Addr).add k = ⟨g, off + k, none⟩ := by unfold Addr.add; split <;> simp_all
   refine ⟨g, off + k, cap - k, cur, fz, by simp [hadd], hb, hgg, hf, by omega, by omega, by omega, ?_⟩
   rw [← ht, List.drop_take, List.drop_drop]
end
theorem run_storeCells_free (P : Program) (g o : Nat) (t : TypeId) (fz : Nat × Nat) : ∀ (vs : List Value) (i : Nat) (cur : Array Value) (w : World), w.heap[g]? = some (.cells cur t fz) → (∀ j, j < cur.size → ¬ (fz.1 ≤ j ∧ j < fz.2)) → o + i + vs.length ≤ cur.size → (∀ v ∈ vs, v.oneCell' = true) →
  (storeCells ⟨g, o, none⟩ vs i).run P w = .ok () (w.setRow g (cur.toList.take (o + i) ++ vs ++ cur.toList.drop (o + i + vs.length)).toArray)
 | [], i, cur, w, hg, _, _, _ => by
   simp only [storeCells, List.append_nil, List.length_nil, Nat.add_zero, List.take_append_drop, Array.toArray_toList]
   rw [setRow_self w g cur t fz hg]
   rfl
 | v :: rest, i, cur, w, hg, hfz, hl, h1 => by
   have hi : o + i < cur.size := by simp at hl; omega
   have hadd : (⟨g, o, none⟩ : Addr).add i = ⟨g, o + i, none⟩ := by unfold Addr.add; split <;> simp_all
   have hcell : w.cell? ⟨g, o + i, none⟩ = some cur[o + i] := by simp [World.cell?, hg, hi]
   have hfro : w.frozen? ⟨g, o + i, none⟩ = false := by
    obtain ⟨lo, hi'⟩ := fz
    have := hfz (o + i) hi
    simp only [World.frozen?, hg, Bool.and_eq_false_iff, decide_eq_false_iff_not]
    simp only at this
    omega
   have hst : (store ((⟨g, o, none⟩ : Addr).add i) v).run P w = .ok () (w.setRow g (cur.setIfInBounds (o + i) v)) := by
    rw [hadd, run_store P w _ v _ (h1 v (by simp)), hcell]
    simp [hfro, setCell_eq_setRow w g (o + i) cur t fz v hg]
   have ih := run_storeCells_free P g o t fz rest (i + 1) (cur.setIfInBounds (o + i) v) (w.setRow g (cur.setIfInBounds (o + i) v)) (setRow_heap w g cur _ t _ hg) (by simpa using hfz) (by simp at hl ⊢; omega) (fun x hx => h1 x (by simp [hx]))
   simp only [storeCells, Sem.run_bind, hst, Result.andThen_ok, ih, setRow_setRow]
   congr 3
   have e := list_seg_step cur.toList (o + i) v rest (by simp at hl ⊢; omega)
   simpa [Array.toList_setIfInBounds, Nat.add_assoc] using e
section
variable {P : Program} (w : World)
theorem OwnAt.room {base : Nat} {e : TypeId} {n : Nat} {xs : List Value} {g off cap : Nat} {cur : Array Value} {fz : Nat × Nat} (hl : xs.length = n) (hb : base ≤ g) (hg : w.heap[g]? = some (.cells cur e fz)) (hf : ∀ j, j < cur.size → ¬ (fz.1 ≤ j ∧ j < fz.2))
  (hcm : cap ≤ maxLen) (hoc : off + cap ≤ cur.size) (ht : (cur.toList.drop off).take n = xs) (news : List Value) (hroom : n + news.length ≤ cap) :
  OwnAt (w.setRow g (cur.toList.take (off + n) ++ news ++ cur.toList.drop (off + n + news.length)).toArray) base e (.slice (some ⟨g, off, none⟩) (n + news.length) cap) (n + news.length) (xs ++ news) ∧
   w.grownBy (w.setRow g (cur.toList.take (off + n) ++ news ++ cur.toList.drop (off + n + news.length)).toArray) (some g) := by
 have hz : (cur.toList.take (off + n) ++ news ++ cur.toList.drop (off + n + news.length)).toArray.size = cur.size := by
  simp only [List.size_toArray, List.length_append, List.length_take, List.length_drop, Array.length_toList]; omega
 refine ⟨⟨by rw [List.length_append, hl], .inr ⟨g, off, cap, _, fz, rfl, hb, setRow_heap w g cur _ e _ hg, by rw [hz]; exact hf, hroom, hcm, by rw [hz]; exact hoc, ?_⟩⟩, ⟨rfl, rfl, rfl, by simp, fun k _ hk => setRow_other w g k _ (fun e => hk (by rw [e]))⟩⟩
 rw [List.append_assoc, List.drop_append_of_le_length (by simp; omega), List.drop_take, show off + n - off = n by omega, ht, ← List.append_assoc]
 exact List.take_left' (by rw [List.length_append, hl])
theorem OwnAt.grown {base : Nat} {e : TypeId} {n : Nat} {xs : List Value} (hl : xs.length = n) (news : List Value) (z : Value) (hz : z.cells.size = 1) (h63 : n + news.length ≤ maxLen) (hbase : base ≤ w.heap.size) (old : Nat) (row : Option Nat) :
  OwnAt (w.drew.alloc (.cells (xs.toArray ++ news.toArray ++ Builtin.zeroCells z.cells (grownCap w (n + news.length) old e - (n + news.length))) e)) base e
    (.slice (some ⟨w.heap.size, 0, none⟩) (n + news.length) (grownCap w (n + news.length) old e)) (n + news.length) (xs ++ news) ∧
   w.grownBy (w.drew.alloc (.cells (xs.toArray ++ news.toArray ++ Builtin.zeroCells z.cells (grownCap w (n + news.length) old e - (n + news.length))) e)) row := by
 have hge := grownCap_ge w (n + news.length) old e
 have hcm : grownCap w (n + news.length) old e ≤ maxLen := grownCap_le_maxLen w (n + news.length) old e h63
 refine ⟨⟨by rw [List.length_append, hl], .inr ⟨w.heap.size, 0, _, _, (0, 0), rfl, hbase, heap_alloc_new w.drew _, fun j _ h => by have := h.2; omega, hge, hcm, ?_, ?_⟩⟩, ⟨rfl, rfl, rfl, by simp, fun k hk _ => Below.heap_alloc w.drew _ k hk⟩⟩
 ·simp only [Array.size_append, List.size_toArray, size_zeroCells, hz, hl]; omega
 ·simp only [List.drop_zero, Array.toList_append, List.append_assoc]
  rw [← List.append_assoc]
  exact List.take_left' (by rw [List.length_append, hl])
theorem run_append_at (base : Nat) (t ty e : TypeId) (i : TypeInfo) (z : Value) (bytes : Nat) (ht : P.underlying t = some (.slice e)) (hi : P.info? e = some i) (hz : i.zero = some z)
  (hsize : i.size = 1) (hby : i.bytes = bytes) (hzs : z.cells.size = 1)
  (v : Value) (n : Nat) (xs : List Value) (hown : OwnAt w base e v n xs)
  (a : Addr) (m c : Nat) (news : List Value) (hl : news.length = m) (hnews : ∀ j u, news[j]? = some u → w.cell? (a.add j) = some u) (h1 : ∀ u ∈ news, u.oneCell' = true)
  (h63 : n + m ≤ maxLen) (hbytes : (n + m) * bytes ≤ 140737488355328) (hbase : base ≤ w.heap.size) :
  ∃ v' w', (Builtin.append_ #[t, t] ty #[v, .slice (some a) m c]).run P w = .ok v' w' ∧ OwnAt w' base e v' (n + m) (xs ++ news) ∧ w.grownBy w' v.ownBlock := by
 subst hl
 have hsmall : n + news.length ≤ 9223372036854775807 := by simp only [maxLen] at h63; omega
 rcases hown.2 with ⟨rfl, rfl⟩ | ⟨g, off, cap, cur, fz, rfl, hbg, hg, hf, hnc, hcm, hcs, htake⟩
 ·have hx : xs = [] := List.eq_nil_of_length_eq_zero hown.1
  subst hx
  obtain ⟨v', w', r1, r2, r3, _⟩ := run_append_own (P := P) w base t ty e i z 1 bytes ht hi hz hsize hby hzs (by decide) (.slice none 0 0) 0 [] (World.ownsRow_nil w _ e 1) a news.length c news (by omega) hnews h1 h63 hbytes hbase
  exact ⟨v', w', r1, OwnAt.of_owns r2, r3⟩
 ·by_cases hroom : n + news.length ≤ cap
  ·have hfc := run_firstCells_some (P := P) w 1 news.length a news.length c news (by omega) hnews
   have hst := run_storeCells_free P g (off + n) e fz news 0 cur w hg hf (by omega) h1
   simp only [Nat.add_zero] at hst
   have hadd : (⟨g, off, none⟩ : Addr).add n = ⟨g, off + n, none⟩ := by unfold Addr.add; split <;> simp_all
   have hr : (Builtin.append_ #[t, t] ty #[.slice (some ⟨g, off, none⟩) n cap, .slice (some a) news.length c]).run P w =
     .ok (.slice (some ⟨g, off, none⟩) (n + news.length) cap) (w.setRow g (cur.toList.take (off + n) ++ news ++ cur.toList.drop (off + n + news.length)).toArray) := by
    simp [Builtin.append_, run_underlying ht, sizeOf, typeInfo, hi, hsize, Builtin.lenOf, hroom, hfc, hadd, hst]
   have := OwnAt.room w hown.1 hbg hg hf hcm hcs htake news hroom
   exact ⟨_, _, hr, this.1, this.2⟩
  ·have holds : ∀ j u, xs[j]? = some u → w.cell? ((⟨g, off, none⟩ : Addr).add j) = some u := fun j u hu => by
    have hadd : (⟨g, off, none⟩ : Addr).add j = ⟨g, off + j, none⟩ := by unfold Addr.add; split <;> simp_all
    rw [hadd]; exact hown.cells j u hu
   have hr := run_append_grow (P := P) w t ty e i z ht hi hz ⟨g, off, none⟩ n cap xs (by rw [hsize, hown.1]; omega) holds a news.length c news (by rw [hsize]; omega) hnews (by omega) (by omega) (growslice_fits (by omega) (by rw [hby]; exact hbytes))
   have := OwnAt.grown (e := e) w hown.1 news z hzs h63 hbase cap (Value.ownBlock (.slice (some ⟨g, off, none⟩) n cap))
   exact ⟨_, _, hr, this.1, this.2⟩
theorem run_append_at_string (base : Nat) (t u ty e : TypeId) (i : TypeInfo) (ht : P.underlying t = some (.slice e)) (hu : P.underlying u = some .string) (hi : P.info? e = some i) (hz : i.zero = some (.int .u8 0))
  (hsize : i.size = 1) (hby : i.bytes = 1)
  (v : Value) (n : Nat) (xs : List Value) (hown : OwnAt w base e v n xs) (s : ByteArray)
  (h63 : n + s.size ≤ maxLen) (hbytes : n + s.size ≤ 140737488355328) (hbase : base ≤ w.heap.size) :
  ∃ v' w', (Builtin.append_ #[t, u] ty #[v, .string s]).run P w = .ok v' w' ∧ OwnAt w' base e v' (n + s.size) (xs ++ Lib.strCells s) ∧ w.grownBy w' v.ownBlock := by
 have hsmall : n + s.size ≤ 9223372036854775807 := by simp only [maxLen] at h63; omega
 have hsl := Lib.strCells_length s
 rcases hown.2 with ⟨rfl, rfl⟩ | ⟨g, off, cap, cur, fz, rfl, hbg, hg, hf, hnc, hcm, hcs, htake⟩
 ·have hx : xs = [] := List.eq_nil_of_length_eq_zero hown.1
  subst hx
  obtain ⟨v', w', r1, r2, r3, _⟩ := Lib.run_append_own_string (P := P) w base t u ty e i ht hu hi hz hsize hby (.slice none 0 0) 0 [] (World.ownsRow_nil w _ e 1) s h63 hbytes hbase
  exact ⟨v', w', r1, OwnAt.of_owns r2, r3⟩
 ·by_cases hroom : n + s.size ≤ cap
  ·have hfc := Lib.run_firstCells_string (P := P) w 1 s
   have hst := run_storeCells_free P g (off + n) e fz (Lib.strCells s) 0 cur w hg hf (by omega) (Lib.strCells_oneCell s)
   simp only [Nat.add_zero] at hst
   have hadd : (⟨g, off, none⟩ : Addr).add n = ⟨g, off + n, none⟩ := by unfold Addr.add; split <;> simp_all
   have hr : (Builtin.append_ #[t, u] ty #[.slice (some ⟨g, off, none⟩) n cap, .string s]).run P w =
     .ok (.slice (some ⟨g, off, none⟩) (n + s.size) cap) (w.setRow g (cur.toList.take (off + n) ++ Lib.strCells s ++ cur.toList.drop (off + n + (Lib.strCells s).length)).toArray) := by
    simp [Builtin.append_, run_underlying ht, run_underlying hu, sizeOf, typeInfo, hi, hsize, Builtin.lenOf, hroom, hfc, hadd, hst]
   have := OwnAt.room w hown.1 hbg hg hf hcm hcs htake (Lib.strCells s) (by omega)
   rw [hsl] at this
   rw [hsl] at hr
   exact ⟨_, _, hr, this.1, this.2⟩
  ·have holds : ∀ j u, xs[j]? = some u → w.cell? ((⟨g, off, none⟩ : Addr).add j) = some u := fun j u hu => by
    have hadd : (⟨g, off, none⟩ : Addr).add j = ⟨g, off + j, none⟩ := by unfold Addr.add; split <;> simp_all
    rw [hadd]; exact hown.cells j u hu
   have hr := Lib.run_append_grow_string (P := P) w t u ty e i (.int .u8 0) ht hu hi hz ⟨g, off, none⟩ n cap xs (by rw [hsize, hown.1]; omega) holds s (by omega) (by omega) (by rw [hby]; exact growslice_fits (by omega) (by omega))
   have := OwnAt.grown (e := e) w hown.1 (Lib.strCells s) (.int .u8 0) rfl (by omega) hbase cap (Value.ownBlock (.slice (some ⟨g, off, none⟩) n cap))
   rw [hsl] at this
   exact ⟨_, _, hr, this.1, this.2⟩
theorem wpList_append_at {ops : Array Oper} {rest : List Oper} {o : Oper} {a : Act} {Q : Exit → Act → World → Prop} (hgd : o.guard = none) (s x : Operand) (t : TypeId)
  (ho : o.op = .call { callee := .builtin .append, args := #[s, x], argTypes := #[t, t] })
  (base : Nat) (e : TypeId) (i : TypeInfo) (z : Value) (bytes : Nat) (ht : P.underlying t = some (.slice e)) (hi : P.info? e = some i) (hz : i.zero = some z)
  (hsize : i.size = 1) (hby : i.bytes = bytes) (hzs : z.cells.size = 1)
  (v : Value) (n : Nat) (xs : List Value) (hs : a.eval s = v) (hown : OwnAt w base e v n xs)
  (ad : Addr) (m c : Nat) (news : List Value) (hx : a.eval x = .slice (some ad) m c) (hl : news.length = m) (hnews : ∀ j u, news[j]? = some u → w.cell? (ad.add j) = some u) (h1 : ∀ u ∈ news, u.oneCell' = true)
  (h63 : n + m ≤ maxLen) (hbytes : (n + m) * bytes ≤ 140737488355328) (hbase : base ≤ w.heap.size)
  (h : ∀ v' w', OwnAt w' base e v' (n + m) (xs ++ news) → w.grownBy w' v.ownBlock → wpList P ops Q rest (a.put o.dst v') w') : wpList P ops Q (o :: rest) a w := by
 refine wpList_plain hgd fun K hK => ?_
 obtain ⟨v', w', hr, h2, h3⟩ := run_append_at (P := P) w base t o.type e i z bytes ht hi hz hsize hby hzs v n xs hown ad m c news hl hnews h1 h63 hbytes hbase
 unfold Oper.wp execOp
 simp only [ho, resolve, invoke, builtin, Sem.run_bind, Sem.run_pure, Result.andThen_ok, List.map_toArray, List.map_cons, List.map_nil, hs, hx, hr]
 exact hK _ _ (h v' w' h2 h3)
theorem wpList_append_at_string {ops : Array Oper} {rest : List Oper} {o : Oper} {a : Act} {Q : Exit → Act → World → Prop} (hgd : o.guard = none) (s x : Operand) (t u : TypeId)
  (ho : o.op = .call { callee := .builtin .append, args := #[s, x], argTypes := #[t, u] })
  (base : Nat) (e : TypeId) (i : TypeInfo) (ht : P.underlying t = some (.slice e)) (hu : P.underlying u = some .string) (hi : P.info? e = some i) (hz : i.zero = some (.int .u8 0))
  (hsize : i.size = 1) (hby : i.bytes = 1)
  (v : Value) (n : Nat) (xs : List Value) (hs : a.eval s = v) (hown : OwnAt w base e v n xs) (str : ByteArray) (hx : a.eval x = .string str)
  (h63 : n + str.size ≤ maxLen) (hbytes : n + str.size ≤ 140737488355328) (hbase : base ≤ w.heap.size)
  (h : ∀ v' w', OwnAt w' base e v' (n + str.size) (xs ++ Lib.strCells str) → w.grownBy w' v.ownBlock → wpList P ops Q rest (a.put o.dst v') w') : wpList P ops Q (o :: rest) a w := by
 refine wpList_plain hgd fun K hK => ?_
 obtain ⟨v', w', hr, h2, h3⟩ := run_append_at_string (P := P) w base t u o.type e i ht hu hi hz hsize hby v n xs hown str h63 hbytes hbase
 unfold Oper.wp execOp
 simp only [ho, resolve, invoke, builtin, Sem.run_bind, Sem.run_pure, Result.andThen_ok, List.map_toArray, List.map_cons, List.map_nil, hs, hx, hr]
 exact hK _ _ (h v' w' h2 h3)
end
end Go.Proofs.YtlbipokkdiiaiaaGreatDoor
namespace Go.Proofs.YtlbipokkdiiaiaaGreatDoor
set_option maxRecDepth 100000
open Go.RowKit
theorem wpList_conv_own {w : World} {ops : Array Oper} {rest : List Oper} {o : Oper} {a : Act} {Q : Exit → Act → World → Prop} (hg : o.guard = none) (x : Operand)
  (ho : o.op = .convert 9 49 x) (l : List UInt8) (hl : l.length ≤ 1000000000000000) (hx : a.eval x = .string (bs l))
  (h : ∀ (v : Value) (w' : World), OwnAt w' w.heap.size 5 v l.length (Lib.byteCells l) → Below w.heap.size w w' → w.heap.size < w'.heap.size → wpList Tryz.prog ops Q rest (a.put o.dst v) w') : wpList Tryz.prog ops Q (o :: rest) a w := by
 refine wpList_plain hg fun K hK => ?_
 have hrun := run_bytes_of_string (P := Tryz.prog) w 9 49 5 (bs l) Tryz.underlying9 Tryz.underlying49 Tryz.underlying5
 have hk1 := grownCap_ge w (bs l).size 0 5
 have hk2 := grownCap_le_maxLen w (bs l).size 0 5 (by rw [bs_size]; unfold maxLen; omega)
 generalize hk : grownCap w (bs l).size 0 5 = k at hrun hk1 hk2
 rw [bs_size] at hk1
 have hsz : (bytesRow (bs l) k).size = k := by
  have e : (bs l).data.size = l.length := rfl
  simp [bytesRow, e, bs_size]; omega
 have hown : OwnAt (w.drew.alloc (.cells (bytesRow (bs l) k) 5 ((bytesRow (bs l) k).size, (bytesRow (bs l) k).size + 1))) w.heap.size 5 (.slice (some ⟨w.heap.size, 0, none⟩) l.length k) l.length (Lib.byteCells l) := by
  refine ⟨byteCells_len l, .inr ⟨w.heap.size, 0, k, _, _, rfl, Nat.le_refl _, heap_alloc_new w.drew _, fun j hj h => ?_, hk1, hk2, by omega, ?_⟩⟩
  ·have := h.1; simp only at this; omega
  ·rw [List.drop_zero]
   have e : (bytesRow (bs l) k).toList = Lib.byteCells l ++ List.replicate (k - l.length) (.int .u8 0) := by
    simp [bytesRow, Lib.byteCells, bs_size]; rfl
   rw [e]
   exact List.take_left' (byteCells_len l)
 unfold Oper.wp
 simp only [execOp, ho, hx, Sem.run_bind, hrun, Result.andThen_ok]
 refine hK _ _ (h _ _ hown ((Below.refl _ w).drew.alloc (Nat.le_refl _) _) ?_)
 show w.heap.size < (w.heap.push _).size
 simp
theorem pad_more (l : List UInt8) (k : Nat) : l ++ 128 :: List.replicate (k + 1) 0 = (l ++ 128 :: List.replicate k 0) ++ [0] := by
 rw [List.replicate_succ', List.append_assoc, List.cons_append]
theorem byteCells_snoc (l : List UInt8) (c : UInt8) : Lib.byteCells (l ++ [c]) = Lib.byteCells l ++ [.int .u8 c.toNat] := by simp [Lib.byteCells]
end Go.Proofs.YtlbipokkdiiaiaaGreatDoor
namespace Go.Proofs.YtlbipokkdiiaiaaGreatDoor
set_option maxRecDepth 100000
open Go.RowKit
def hashC (H : List Int) (v n : Value) : Array Value := (wordCells H ++ [v, n]).toArray
section
variable {H : List Int} {v n : Value}
theorem hashC_8 (hl : H.length = 8) : (hashC H v n)[8]? = some v := by
 unfold hashC; rw [List.getElem?_toArray, List.getElem?_append_right (by rw [wordCells_len]; omega), wordCells_len, hl]; rfl
theorem hashC_9 (hl : H.length = 8) : (hashC H v n)[9]? = some n := by
 unfold hashC; rw [List.getElem?_toArray, List.getElem?_append_right (by rw [wordCells_len]; omega), wordCells_len, hl]; rfl
theorem hashC_set8 (hl : H.length = 8) (u : Value) : (hashC H v n).setIfInBounds 8 u = hashC H u n := by
 simp [hashC, wordCells_len, hl]
theorem hashC_set9 (hl : H.length = 8) (u : Value) : (hashC H v n).setIfInBounds 9 u = hashC H v u := by
 simp [hashC, wordCells_len, hl]
end
theorem foldB_len {h : List Int} (_hl : h.length = 8) (k : Nat) : ∀ (h : List Int) (b : List UInt8), h.length = 8 → b.length ≤ k → (foldB shaK h b).length = 8 := by
 induction k with
 | zero => intro h b _hl hb; rw [foldB_short (by omega)]; exact _hl
 | succ k ih =>
   intro h b _hl hb
   by_cases hs : b.length < 64
   ·rw [foldB_short hs]; exact _hl
   ·rw [foldB_more (by omega)]
    exact ih _ _ (compressL_len _ _ _) (by rw [List.length_drop]; omega)
theorem foldH_len (b : List UInt8) : (foldB shaK shaH b).length = 8 := foldB_len (h := shaH) rfl b.length shaH b rfl (Nat.le_refl _)
def HashIs (w : World) (base b : Nat) (T : List UInt8) : Prop :=
 base ≤ b ∧ ∃ v, w.heap[b]? = some (.cells (hashC (foldB shaK shaH T) v (.int .u64 (T.length : Int))) 255 (0, 0)) ∧ OwnAt w (b + 1) 5 v (openB T).length (Lib.byteCells (openB T))
set_option maxHeartbeats 1000000 in
theorem begin_any (w : World) : Calls Tryz.prog 123 #[] w fun e w' => e = .returned (.agg (wordCells shaH).toArray) ∧ Below w.heap.size w w' := by
 go_enter Tryz.func123, Tryz.ntmps123
 go_wp2_with (refine wpList_store_row rfl 252 _ _ rfl w.heap.size (wordCells shaH).toArray rfl rfl 252 _ (heap_alloc_new w _) (by kernel_rfl) rfl (by kernel_rfl) ?_)
 refine bodyPost_ret (results_cell_row rfl _ _ w.heap.size _ _ _ _ rfl (setRow_heap _ _ _ _ _ _ (heap_alloc_new w _)) Tryz.underlying252 rfl (by kernel_rfl)) rfl ⟨rfl, ?_⟩
 exact ⟨rfl, rfl, rfl, by simp, fun k hk => by rw [setRow_other _ _ _ _ (by omega), Below.heap_alloc _ _ _ hk]⟩
set_option maxHeartbeats 1000000 in
theorem new_hash (w : World) : Calls Tryz.prog 81 #[] w fun e w' => ∃ b, e = .returned (.pointer (some ⟨b, 0, none⟩)) ∧ HashIs w' w.heap.size b [] ∧ Below w.heap.size w w' := by
 go_enter Tryz.func81, Tryz.ntmps81
 go_wp2_with (refine (begin_any _).mono ?_; rintro e w1 ⟨rfl, hb1⟩)
 go_ret
 refine ⟨_, rfl, ⟨hb1.size, .slice none 0 0, ?_, OwnAt.nil _ _ _⟩, hb1.alloc hb1.size _⟩
 rw [foldB_short (by decide)]
 exact heap_alloc_new w1 _
theorem open_foldB (T l : List UInt8) (k : Nat) (hk : (openB T ++ l).length / 64 = k) : foldB shaK (foldB shaK shaH T) ((openB T ++ l).take (64 * k)) = foldB shaK shaH (T ++ l) ∧ (openB T ++ l).drop (64 * k) = openB (T ++ l) := by
 subst hk
 rw [Nat.mul_comm, foldB_whole, foldB_add]
 refine ⟨rfl, ?_⟩
 rw [← openB_add]; rfl
set_option maxHeartbeats 4000000 in
theorem add_any (base b : Nat) (T l : List UInt8) (hT : (T ++ l).length ≤ 140737488351232) (w : World) (hh : HashIs w base b T) :
  Calls Tryz.prog 82 #[.pointer (some ⟨b, 0, none⟩), .string (bs l)] w fun e w' => e = .returned (.tuple #[]) ∧ HashIs w' base b (T ++ l) ∧ Below base w w' := by
 obtain ⟨hbase, v, hb, hown⟩ := hh
 obtain ⟨i0, hi, hz0, hz1, hz2⟩ := info_parts u8_info
 have hTl : T.length + l.length ≤ 140737488351232 := by rw [List.length_append] at hT; exact hT
 have hF8 := hid (foldH_len T)
 have hOT := openB_lt T
 have c8 : w.cell? ⟨b, 8, none⟩ = some v := (cell_of_row w b 8 _ _ _ hb).trans (hashC_8 hF8.out)
 have c9 : w.cell? ⟨b, 9, none⟩ = some (.int .u64 (T.length : Int)) := (cell_of_row w b 9 _ _ _ hb).trans (hashC_9 hF8.out)
 have f9 : w.frozen? ⟨b, 9, none⟩ = false := frozen_of_row w b 9 _ _ hb
 have q1 : ((T.length : Int) + (l.length : Int)) % 18446744073709551616 = (T.length : Int) + (l.length : Int) := by omega
 have q2 : (l.length : Int) % 18446744073709551616 = (l.length : Int) := by omega
 have hblt := (Array.getElem?_eq_some_iff.1 hb).1
 have G1 := hid ((heap_setCell_same w b 9 _ _ (.int .u64 ((T.length : Int) + (l.length : Int))) hb).trans (by rw [hashC_set9 hF8.out]))
 have HO := hid hown
 clear hb hown hT
 go_enter Tryz.func82, Tryz.ntmps82
 go_upto_region 2 with fail
 clear c8 c9 f9 q1 q2
 obtain ⟨W1, hW1⟩ : ∃ x, x = w.setCell ⟨b, 9, none⟩ (.int .u64 ((T.length : Int) + (l.length : Int))) := ⟨_, rfl⟩
 have hz1w : W1.heap.size = w.heap.size := by rw [hW1]; simp [World.setCell]
 have HO1 := hid ((HO.out.same (w' := W1) (fun k hk => by rw [hW1]; exact heap_setCell_other w ⟨b, 9, none⟩ k _ (by have := (HO.out.lt k hk).1; show k ≠ b; omega))))
 have G2 : W1.heap[b]? = some (.cells (hashC (foldB shaK shaH T) v (.int .u64 ((T.length : Int) + (l.length : Int)))) 255 (0, 0)) := by rw [hW1]; exact G1.out
 have hB1 : Below base w W1 := by rw [hW1]; exact (Below.refl base w).setCell (p := ⟨b, 9, none⟩) hbase _
 rw [← hW1]
 have c8 : W1.cell? ⟨b, 8, none⟩ = some v := (cell_of_row W1 b 8 _ _ _ G2).trans (hashC_8 hF8.out)
 have HG2 := hid G2
 have HB1 := hid hB1
 have hbW : b + 1 ≤ W1.heap.size := by omega
 clear hW1 G1 HO G2 hB1
 go_wp2_with (at_builtin; go_must (refine wpList_append_at_string _ rfl _ _ 49 9 rfl (b + 1) 5 i0 Tryz.underlying49 Tryz.underlying9 hi hz0 hz1 hz2 _ _ _ rfl HO1.out (bs l) rfl ?c1 ?c2 hbW ?_))
 case c1 => unfold maxLen; rw [bs_size]; omega
 case c2 => rw [bs_size]; omega
 intro v2 w2 hown2 hgrow2
 have HO2 : Hid (OwnAt w2 (b + 1) 5 v2 (openB T ++ l).length (Lib.byteCells (openB T ++ l))) := hid (by rw [byteCells_app, List.length_append]; exact hown2)
 have hbk : ∀ k, v.ownBlock = some k → b + 1 ≤ k := fun k hk => (HO1.out.lt k hk).1
 have G3 : w2.heap[b]? = some (.cells (hashC (foldB shaK shaH T) v (.int .u64 ((T.length : Int) + (l.length : Int)))) 255 (0, 0)) := by
  rw [hgrow2.block b (by omega) (fun e => by have := hbk b e.symm; omega)]; exact HG2.out
 have hB2 : Below base w w2 := HB1.out.grown hgrow2 (by omega) (fun k hk => by have := hbk k hk; omega)
 have f8 : w2.frozen? ⟨b, 8, none⟩ = false := frozen_of_row w2 b 8 _ _ G3
 have d8 : w2.cell? ⟨b, 8, none⟩ = some v := (cell_of_row w2 b 8 _ _ _ G3).trans (hashC_8 hF8.out)
 have G4 := hid ((heap_setCell_same w2 b 8 _ _ v2 G3).trans (by rw [hashC_set8 hF8.out]))
 have HO3 := hid ((HO2.out.same (w' := w2.setCell ⟨b, 8, none⟩ v2) (fun k hk => heap_setCell_other w2 ⟨b, 8, none⟩ k _ (by have := (HO2.out.lt k hk).1; show k ≠ b; omega))))
 have HB3 := hid (hB2.setCell (p := ⟨b, 8, none⟩) hbase v2)
 have hz2w : b < w2.heap.size := (Array.getElem?_eq_some_iff.1 G3).1
 obtain ⟨va, vc, hv2, hvc, hvm⟩ := HO2.out.form
 subst hv2
 obtain ⟨A, hA⟩ : ∃ A, A = openB T ++ l := ⟨_, rfl⟩
 have HA := hid hA
 rw [← hA] at HO3 hvc G4 HB3 ⊢
 have hAl : A.length ≤ 140737488351332 := by rw [hA, List.length_append]; omega
 clear hA hgrow2 hown2 HO2 HO1 hB2 G3 HG2 HB1 hbk c8
 go_wp2_with fail
 obtain ⟨W3, hW3⟩ : ∃ x, x = w2.setCell ⟨b, 8, none⟩ (.slice va A.length vc) := ⟨_, rfl⟩
 rw [← hW3] at G4 HO3 HB3 ⊢
 have HF : Hid ((foldB shaK shaH T).length = 8) := hF8
 generalize hH0 : foldB shaK shaH T = H0 at *
 have HH0 := hid hH0
 clear hW3 d8 f8 hz2w hH0 hF8
 obtain ⟨NN, hNN⟩ : ∃ x, x = (T.length : Int) + (l.length : Int) := ⟨_, rfl⟩
 rw [← hNN] at G4
 have HNN := hid hNN
 clear hNN
 go_loopw [] (fun wr => ∃ (k N : Nat) (a : Option Addr) (c : Nat), 64 * k ≤ A.length ∧ N + 64 * k ≤ A.length ∧ A.length ≤ N + 64 * k ∧ wr.heap[b]? = some (.cells (hashC (foldB shaK H0 (A.take (64 * k))) (.slice a N c) (.int .u64 NN)) 255 (0, 0)) ∧ OwnAt wr (b + 1) 5 (.slice a N c) N (Lib.byteCells (A.drop (64 * k))) ∧ Below base w wr) (fun wr => match wr.cell? ⟨b, 8, none⟩ with | some (.slice _ n _) => n | _ => 0)
 case atStart => exact ⟨0, A.length, va, vc, by omega, by omega, by omega, by rw [Nat.mul_zero, List.take_zero, foldB_short (by simp)]; exact G4.out, HO3.out, HB3.out⟩
 case round =>
  obtain ⟨k, N, a, c, hk, hN1, hN2, hb, hown, hbr⟩ := hrel
  clear G4 HO3 HB3
  have hF8 := hid (foldB_len HF.out A.length H0 (A.take (64 * k)) HF.out (by rw [List.length_take]; omega))
  have c8 : wr.cell? ⟨b, 8, none⟩ = some (.slice a N c) := (cell_of_row wr b 8 _ _ _ hb).trans (hashC_8 hF8.out)
  have hblr := (Array.getElem?_eq_some_iff.1 hb).1
  by_cases h64 : 64 ≤ N
  ·obtain ⟨-, a', c', hv, hNc, hcm, -, hx⟩ := hown.sliceAt
   injection hv with e1 e2 e3
   subst e1 e3
   obtain ⟨g, o, rfl, hgl, hcl⟩ := hx (by intro e; have := byteCells_len (A.drop (64 * k)); rw [e, List.length_drop] at this; simp at this; omega)
   unfold maxLen at hcm
   have HNext := hid (foldB_next shaK H0 A k (by omega))
   generalize foldB shaK H0 (A.take (64 * k)) = F at *
   have h64i : (64 : Int) ≤ (N : Int) := by omega
   have h64c : (64 : Int) ≤ (c : Int) := by omega
   have h64n : 64 ≤ c := by omega
   have HB := hid hb
   have HOW := hid hown
   have HBR := hid hbr
   clear hb hown hbr hx hcl
   go_upto_region 4 with fail
   refine wp_region_wq_tail 8 (by kernel_rfl) (by kernel_rfl) ?_
   simp only [List.take_succ_cons, List.take_zero, List.drop_succ_cons, List.drop_zero]
   repeat (refine WQ.step (fun K hK => ?_); go_simp; first | (refine hK _ ?_; clear hK K) | (apply Exists.intro; refine ⟨fun W hW => ?_, hK _ ?_⟩; (first | (first | with_reducible rfl | (have zz0 := Below.keeps hW c8; go_simp; first | rfl | exact ⟨rfl, rfl⟩ | (rw [if_neg (by omega)]; exact ⟨rfl, rfl⟩)))); clear hK K))
   refine WQ.nil ?_
   intro wz hwz
   have hbz : wz.heap[b]? = some (.cells (wordCells F ++ [Value.slice (some ⟨g, o, none⟩) N c, Value.int .u64 NN]).toArray 255 (0, 0)) := (hwz.block _ hblr).trans HB.out
   have hbb : SliceAt wz 1 (.slice (some ⟨g, o, none⟩) 64 c) 64 (Lib.byteCells ((A.drop (64 * k)).take 64)) := by
    have hl : ((A.drop (64 * k)).take 64).length = 64 := by rw [List.length_take, List.length_drop]; omega
    refine ⟨by rw [byteCells_len, hl], _, c, rfl, h64n, by unfold maxLen; omega, fun h => (by cases h), fun _ => ⟨g, o, rfl, by have := hwz.size; omega, fun j u hu => ?_⟩⟩
    have hj : j < 64 := by have := (List.getElem?_eq_some_iff.1 hu).1; rwa [byteCells_len, hl] at this
    refine keeps_of hwz (HOW.out.cells j u ?_)
    rw [← hu]
    simp [Lib.byteCells, hj]
   have HOZ := hid (HOW.out.below hwz)
   have HBZ := hid (HBR.out.trans (hwz.mono (by have := (HOW.out.lt g rfl).1; omega)))
   have hblz : b < wz.heap.size := (Array.getElem?_eq_some_iff.1 hbz).1
   have HTK := hid (take_any b F hF8.out _ 255 _ _ wz hbz hbb)
   have HC8 := hid c8
   clear hbz hbb hwz c8
   go_upto_region 5 with (go_at_call 124; refine (HTK.out).mono ?_; rintro e w4 ⟨rfl, g4, hbut⟩)
   have g4' : w4.heap[b]? = some (.cells (hashC (compressL shaK F ((A.drop (64 * k)).take 64)) (.slice (some ⟨g, o, none⟩) N c) (.int .u64 NN)) 255 (0, 0)) := g4
   have hF9 := compressL_len shaK F ((A.drop (64 * k)).take 64)
   have e8 : w4.cell? ⟨b, 8, none⟩ = some (.slice (some ⟨g, o, none⟩) N c) := (cell_of_row w4 b 8 _ _ _ g4').trans (hashC_8 hF9)
   have x8 : w4.frozen? ⟨b, 8, none⟩ = false := frozen_of_row w4 b 8 _ _ g4'
   have HOX := hid (HOZ.out.same (w' := w4) (fun k hk => by have := HOZ.out.lt k hk; exact hbut.block k this.2 (by omega)))
   have HBX : Hid (Below base w w4) := hid ⟨hbut.os.trans HBZ.out.os, hbut.tape.trans HBZ.out.tape, hbut.output.trans HBZ.out.output, Nat.le_trans HBZ.out.size hbut.size, fun j hj => (hbut.block j (by omega) (by omega)).trans (HBZ.out.block j hj)⟩
   obtain ⟨sa, hsa⟩ : ∃ x, x = (if c = 64 then some (⟨g, o, none⟩ : Addr) else some ⟨g, o + 64, none⟩) := ⟨_, rfl⟩
   have HOC : Hid (OwnAt w4 (b + 1) 5 (.slice sa (N - 64) (c - 64)) (N - 64) (Lib.byteCells (A.drop (64 * (k + 1))))) := hid (by
    have h := HOX.out.cut h64
    have e1 : (if c = 64 then some (⟨g, o, none⟩ : Addr) else (some ⟨g, o, none⟩ : Option Addr).map (·.add 64)) = sa := by rw [hsa]; simp [Addr.add]
    have e2 : (Lib.byteCells (A.drop (64 * k))).drop 64 = Lib.byteCells (A.drop (64 * (k + 1))) := by
     simp only [Lib.byteCells, ← List.map_drop, List.drop_drop, show 64 * (k + 1) = 64 * k + 64 by omega]
    rw [e1, e2] at h
    exact h)
   have G8 := hid (fun u => (heap_setCell_same w4 b 8 _ _ u g4').trans (by rw [hashC_set8 hF9]))
   have HN9 : Hid (foldB shaK H0 (A.take (64 * (k + 1))) = compressL shaK F ((A.drop (64 * k)).take 64)) := hid (by rw [show 64 * (k + 1) = 64 * k + 64 by omega]; exact HNext.out)
   clear g4 g4' hF9 hbut HOX HOZ
   go_wp2_with fail
   rw [← hsa]
   refine ⟨⟨k + 1, N - 64, sa, c - 64, by omega, by omega, by omega, by rw [HN9.out]; exact G8.out _, HOC.out.same (fun j hj => heap_setCell_other w4 ⟨b, 8, none⟩ j _ (by have := (HOC.out.lt j hj).1; show j ≠ b; omega)), HBX.out.setCell (p := ⟨b, 8, none⟩) hbase _⟩, ?_⟩
   rw [World.cell?_setCell_same' _ _ _ (by rw [e8]; rfl), HC8.out]
   show N - 64 < N
   omega
  ·have hkA : A.length / 64 = k := by omega
   have hEnd := open_foldB T l k (by rw [← HA.out]; exact hkA)
   rw [← HA.out, HH0.out] at hEnd
   rw [hEnd.1, HNN.out] at hb
   rw [hEnd.2] at hown
   have hlT : (((T ++ l).length : Nat) : Int) = (T.length : Int) + (l.length : Int) := by rw [List.length_append]; omega
   have hNl : N = (openB (T ++ l)).length := by rw [← hEnd.2, List.length_drop]; omega
   have HFin : Hid (HashIs wr base b (T ++ l) ∧ Below base w wr) := hid ⟨⟨hbase, .slice a N c, by rw [hlT]; exact hb, by rw [← hNl]; exact hown⟩, hbr⟩
   clear hb hown hbr hEnd hlT hNl hkA
   go_wp2_with fail
   (first | go_end0 | (simp only [Exit.inBlock, Exit.then]; refine bodyPost_ret (results_none rfl _ _ _) rfl ?_) | refine bodyPost_ret (results_none rfl _ _ _) rfl ?_)
   exact ⟨rfl, HFin.out⟩
end Go.Proofs.YtlbipokkdiiaiaaGreatDoor
namespace Go.Proofs.YtlbipokkdiiaiaaGreatDoor
set_option maxRecDepth 100000
open Go.RowKit
theorem dig_info : (Tryz.prog.info? 31).map (·.size) = some 32 := by kernel_rfl
theorem digA_one (v : List Int) (k : Nat) : (digA v k).all (·.oneCell') = true := by
 rw [Array.all_eq_true_iff_forall_mem]
 intro x hx
 simp only [digA, List.mem_toArray, List.mem_map] at hx
 obtain ⟨i, _, rfl⟩ := hx
 rfl
theorem wpList_store_dig {ops : Array Oper} {rest : List Oper} {o : Oper} {a : Act} {w : World} {Q : Exit → Act → World → Prop} (hgd : o.guard = none) (x y : Operand) (ho : o.op = .store 31 x y)
  (g : Nat) (v : List Int) (k : Nat) (hx : a.eval x = .pointer (some ⟨g, 0, none⟩)) (hy : a.eval y = .agg (digA v k))
  (old : Array Value) (hg : w.heap[g]? = some (.cells old 31 (0, 0))) (hold : old.size = 32)
  (h : ∀ w', w'.heap[g]? = some (.cells (digA v k) 31 (0, 0)) → w'.heap.size = w.heap.size → (∀ j, j ≠ g → w'.heap[j]? = w.heap[j]?) → w'.os = w.os → w'.tape = w.tape → w'.output = w.output → wpList Tryz.prog ops Q rest (a.put o.dst undef) w') : wpList Tryz.prog ops Q (o :: rest) a w :=
 wpList_store_row hgd 31 x y ho g (digA v k) hx hy 31 old hg (by rw [digA_size]; exact dig_info) (by rw [hold, digA_size]) (digA_one v k)
  (h _ (setRow_heap w g old _ _ _ hg) (setRow_size w g _) (fun j hj => setRow_other w g j _ hj) rfl rfl rfl)
end Go.Proofs.YtlbipokkdiiaiaaGreatDoor
