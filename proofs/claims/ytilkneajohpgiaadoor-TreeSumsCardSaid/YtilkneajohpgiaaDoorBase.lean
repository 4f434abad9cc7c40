/- Small plain lemmas: byte strings as lists, a slice value that reads as a list of cells. -/
import Derived.WalkKit
import Derived.WalkSpells
import Derived.WalkLawsBesides
import Derived.Deep.QuietTactic
import Derived.BigQuiet
import Derived.WalkSmall
import Derived.Laws.AppendOwnNone
namespace Go.Proofs.YtilkneajohpgiaaDoor
open Go.RowKit

theorem hid {p : Prop} (h : p) : Hid p := h
theorem eqT {a b : Int} (h : a = b) : (a == b) = true := beq_iff_eq.2 h
theorem eqF {a b : Int} (h : a ≠ b) : (a == b) = false := beq_eq_false_iff_ne.2 h
theorem neT {a b : Int} (h : a ≠ b) : (a != b) = true := bne_iff_ne.2 h
theorem neF {a b : Int} (h : a = b) : (a != b) = false := by subst h; exact bne_self_eq_false _
def bs (l : List UInt8) : ByteArray := ⟨l.toArray⟩
theorem bs_list (s : ByteArray) : bs s.data.toList = s := rfl
theorem list_bs (l : List UInt8) : (bs l).data.toList = l := rfl
theorem bs_inj {s t : ByteArray} (h : s.data.toList = t.data.toList) : s = t := by
  rw [← bs_list s, ← bs_list t, h]
theorem size_list (s : ByteArray) : s.data.toList.length = s.size := rfl

theorem bs_size (l : List UInt8) : (bs l).size = l.length := rfl
theorem bs_toList (l : List UInt8) : (bs l).toList = l := by rw [ByteArray.toList_eq]; rfl
theorem bs_append (l r : List UInt8) : bs l ++ bs r = bs (l ++ r) := by
  apply bs_inj
  show (bs l ++ bs r).data.toList = l ++ r
  rw [ByteArray.data_append, Array.toList_append]; rfl
theorem bs_append_mk (l : List UInt8) (a : Array UInt8) : bs l ++ ByteArray.mk a = bs (l ++ a.toList) := bs_append l a.toList
theorem mk_append_bs (l : List UInt8) (a : Array UInt8) : ByteArray.mk a ++ bs l = bs (a.toList ++ l) := bs_append a.toList l
theorem lt_of_bs {l : List UInt8} {k : Nat} (h : k < (bs l).size) : k < l.length := h
theorem bs_get (l : List UInt8) (k : Nat) (h : k < (bs l).size) : (bs l)[k] = l[k]'(lt_of_bs h) := rfl
theorem bs_extract (l : List UInt8) (j k : Nat) : (bs l).extract j k = bs ((l.drop j).take (k - j)) := by
  apply bs_inj
  show _ = (l.drop j).take (k - j)
  rw [ByteArray.data_extract, Array.toList_extract, List.extract_eq_take_drop]; rfl
attribute [go_sem] bs_size bs_toList bs_append bs_append_mk mk_append_bs bs_get bs_extract

/-- Only draws. -/
def Drawn (w w' : World) : Prop := ∃ d, w' = w.drewN d
theorem Drawn.refl (w : World) : Drawn w w := ⟨0, rfl⟩
theorem Drawn.drewN {w w' : World} (h : Drawn w w') (n : Nat) : Drawn w (w'.drewN n) := by
  obtain ⟨d, rfl⟩ := h; exact ⟨d + n, by simp [World.drewN, Nat.add_assoc]⟩
theorem Drawn.trans {a b c : World} (h : Drawn a b) (k : Drawn b c) : Drawn a c := by
  obtain ⟨d, rfl⟩ := k; exact h.drewN d
theorem Drawn.below {B : Nat} {w w' : World} (h : Drawn w w') : Below B w w' := by
  obtain ⟨d, rfl⟩ := h; exact ⟨rfl, rfl, rfl, Nat.le_refl _, fun _ _ => rfl⟩

theorem Below.chain {w w1 w2 : World} (h : Below w.heap.size w w1) (k : Below w1.heap.size w1 w2) : Below w.heap.size w w2 := h.trans (k.mono h.size)

/-- A slice value of n elements, 'size' cells each, that reads as these cells. -/
def SliceAt (w : World) (size : Nat) (v : Value) (n : Nat) (xs : List Value) : Prop :=
  xs.length = n * size ∧ ∃ a c, v = .slice a n c ∧ n ≤ c ∧ c ≤ maxLen ∧ (a = none → c = 0) ∧
    (xs ≠ [] → ∃ b off, a = some ⟨b, off, none⟩ ∧ b < w.heap.size ∧ ∀ j u, xs[j]? = some u → w.cell? ⟨b, off + j, none⟩ = some u)

theorem SliceAt.below {w w' : World} {B size : Nat} {v : Value} {n : Nat} {xs : List Value} (h : SliceAt w size v n xs) (hb : Below B w w') (hB : w.heap.size ≤ B) : SliceAt w' size v n xs := by
  obtain ⟨hl, a, c, rfl, hc, hm, hn, hx⟩ := h
  refine ⟨hl, a, c, rfl, hc, hm, hn, fun hne => ?_⟩
  obtain ⟨b, off, rfl, hlt, hcell⟩ := hx hne
  refine ⟨b, off, rfl, Nat.lt_of_lt_of_le hlt hb.size, fun j u hu => ?_⟩
  rw [← hcell j u hu]
  exact World.cell?_of_block (w := w) (hb.block b (by omega))

theorem SliceAt.of_owns {w : World} {base e size : Nat} {v : Value} {n : Nat} {xs : List Value} (h : w.ownsRow base e size v n xs) (hn : n ≤ maxLen) : SliceAt w size v n xs := by
  obtain ⟨hl, h⟩ := h
  refine ⟨hl, ?_⟩
  rcases h with ⟨rfl, rfl⟩ | ⟨g, cap, cur, rfl, hb, hg, hc, hm, hs, ht⟩
  · refine ⟨none, 0, rfl, Nat.le_refl _, Nat.zero_le _, fun _ => rfl, fun hne => ?_⟩
    rw [Nat.zero_mul] at hl
    exact absurd (List.eq_nil_of_length_eq_zero hl) hne
  · refine ⟨_, cap, rfl, hc, hm, fun h => (by cases h), fun _ => ⟨g, 0, rfl, (Array.getElem?_eq_some_iff.1 hg).1, fun j u hu => ?_⟩⟩
    have := World.ownsRow.cells (w := w) (base := base) (e := e) (size := size) (v := .slice (some ⟨g, 0, none⟩) n cap) (n := n) (xs := xs) ⟨hl, .inr ⟨g, cap, cur, rfl, hb, hg, hc, hm, hs, ht⟩⟩ (g := g) rfl j u hu
    have hadd : (⟨g, 0, none⟩ : Addr).add j = ⟨g, 0 + j, none⟩ := by unfold Addr.add; split <;> simp_all
    rwa [hadd] at this

/-- 'string([]byte{c})'. -/
theorem run_conv_one {P : Program} (src dst e e' : TypeId) (hs : P.underlying src = some (.slice e)) (he : P.underlying e = some (.int .u8)) (hd : P.underlying dst = some .string) (w : World) (n : Int) (c : Nat) (fr : Nat × Nat) :
    (convert src dst (.slice (some ⟨w.heap.size, 0, none⟩) 1 c)).run P (w.alloc (.cells #[.int .u8 n] e' fr)) = .ok (.string (bs [UInt8.ofNat n.toNat])) (w.alloc (.cells #[.int .u8 n] e' fr)) := by
  have h := run_convert_bytes_arg (P := P) (w.alloc (.cells #[.int .u8 n] e' fr)) src e hs he w.heap.size 0 1 c [n] rfl (fun i hi => by
    obtain rfl : i = 0 := by omega
    rw [World.cell?_alloc_mark]; rfl) dst hd
  rw [h]; rfl
theorem new_cells (w : World) (xs : Array Value) (e : TypeId) (fr : Nat × Nat) : ∀ j u, xs.toList[j]? = some u → (w.alloc (.cells xs e fr)).cell? ((⟨w.heap.size, 0, none⟩ : Addr).add j) = some u := by
  intro j u h
  have hadd : (⟨w.heap.size, 0, none⟩ : Addr).add j = ⟨w.heap.size, j, none⟩ := by unfold Addr.add; split <;> simp_all
  rw [hadd, World.cell?_alloc_mark]; simpa using h
theorem ownsRow_drewN {w : World} {base : Nat} {e : TypeId} {size : Nat} {v : Value} {n : Nat} {xs : List Value} (h : w.ownsRow base e size v n xs) (d : Nat) : (w.drewN d).ownsRow base e size v n xs := h
theorem SliceAt.nil (w : World) (size : Nat) : SliceAt w size (.slice none 0 0) 0 [] := ⟨by simp, none, 0, rfl, Nat.le_refl _, Nat.zero_le _, fun _ => rfl, fun h => absurd rfl h⟩
/-- Strings, as cells. -/
def strCells (ss : List (List UInt8)) : List Value := ss.map fun l => Value.string (bs l)
theorem strCells_get (ss : List (List UInt8)) (k : Nat) (h : k < ss.length) : (strCells ss)[k]? = some (.string (bs ss[k])) := by
  simp [strCells, h]
theorem strCells_append (a b : List (List UInt8)) : strCells (a ++ b) = strCells a ++ strCells b := by simp [strCells]
theorem SliceAt.str {w : World} {v : Value} {n : Nat} {ss : List (List UInt8)} (h : SliceAt w 1 v n (strCells ss)) : n = ss.length ∧ ∃ a c, v = .slice a ss.length c ∧ ss.length ≤ c ∧ c ≤ maxLen ∧
    (∀ k, k < ss.length → ∃ b off, a = some ⟨b, off, none⟩ ∧ b < w.heap.size ∧ ∀ j (hj : j < ss.length), w.cell? ⟨b, off + j, none⟩ = some (.string (bs ss[j]))) := by
  obtain ⟨hl, a, c, rfl, hc, hm, -, hx⟩ := h
  have hn : n = ss.length := by simpa [strCells] using hl.symm
  subst hn
  refine ⟨rfl, a, c, rfl, hc, hm, fun k hk => ?_⟩
  obtain ⟨b, off, rfl, hlt, hcell⟩ := hx (by intro e; simp [strCells] at e; subst e; simp at hk)
  exact ⟨b, off, rfl, hlt, fun j hj => hcell j _ (strCells_get ss j hj)⟩
theorem drop_at {α : Type} (l : List α) (k : Nat) (h : k < l.length) : l.drop k = l[k] :: l.drop (k + 1) := List.drop_eq_getElem_cons h
theorem take_at {α : Type} (l : List α) (k : Nat) (h : k < l.length) : l.take (k + 1) = l.take k ++ [l[k]] := List.take_succ_eq_append_getElem h

/-- append to a slice of the call's own, from any slice that reads. -/
theorem wpList_append_src {P : Program} {w : World} {ops : Array Oper} {rest : List Oper} {o : Oper} {a : Act} {Q : Exit → Act → World → Prop} (hgd : o.guard = none) (s x : Operand) (t : TypeId)
    (ho : o.op = .call { callee := .builtin .append, args := #[s, x], argTypes := #[t, t] })
    (base : Nat) (e : TypeId) (i : TypeInfo) (z : Value) (size bytes : Nat) (ht : P.underlying t = some (.slice e)) (hi : P.info? e = some i) (hz : i.zero = some z)
    (hsize : i.size = size) (hby : i.bytes = bytes) (hzs : z.cells.size = size) (hsz : 0 < size)
    (v : Value) (n : Nat) (xs : List Value) (hs : a.eval s = v) (hown : w.ownsRow base e size v n xs)
    (vx : Value) (m : Nat) (news : List Value) (hx : a.eval x = vx) (hsrc : SliceAt w size vx m news) (h1 : ∀ u ∈ news, u.oneCell' = true)
    (h63 : n + m ≤ maxLen) (hbytes : (n + m) * bytes ≤ 140737488355328) (hbase : base ≤ w.heap.size)
    (h : ∀ v' w', w'.ownsRow base e size v' (n + m) (xs ++ news) → w.grownBy w' v.ownBlock → wpList P ops Q rest (a.put o.dst v') w') : wpList P ops Q (o :: rest) a w := by
  obtain ⟨hl, ad, c, rfl, hc, hm, hn, hcell⟩ := hsrc
  cases ad with
  | none =>
    have h0 : c = 0 := hn rfl
    subst h0
    obtain rfl : m = 0 := by omega
    have hnil : news = [] := List.eq_nil_of_length_eq_zero (by simpa using hl)
    subst hnil
    exact wpList_append_own_none hgd s x t ho base e i size ht hi v n xs hs hown hx (h v w (by simpa using hown) (World.grownBy.refl _ _))
  | some ad =>
    refine wpList_append_own w hgd s x t ho base e i z size bytes ht hi hz hsize hby hzs hsz v n xs hs hown ad m c news hx hl ?_ h1 h63 hbytes hbase (fun v' w' a b _ => h v' w' a b)
    intro j u hu
    by_cases hne : news = []
    · subst hne; simp at hu
    · obtain ⟨b, off, hb, _, hcl⟩ := hcell hne
      obtain rfl := Option.some.inj hb
      have hadd : (⟨b, off, none⟩ : Addr).add j = ⟨b, off + j, none⟩ := by unfold Addr.add; split <;> simp_all
      rw [hadd]; exact hcl j u hu
theorem strCells_one (ss : List (List UInt8)) : ∀ u ∈ strCells ss, u.oneCell' = true := by
  intro u hu
  simp only [strCells, List.mem_map] at hu
  obtain ⟨s, _, rfl⟩ := hu; rfl

/-- A slice of slices of strings. -/
def RowsAt (w : World) (v : Value) (a : List (List (List UInt8))) : Prop :=
  ∃ vs : List Value, vs.length = a.length ∧ SliceAt w 1 v a.length vs ∧ ∀ i (h1 : i < vs.length) (h2 : i < a.length), SliceAt w 1 vs[i] a[i].length (strCells a[i])
theorem RowsAt.below {w w' : World} {B : Nat} {v : Value} {a : List (List (List UInt8))} (h : RowsAt w v a) (hb : Below B w w') (hB : w.heap.size ≤ B) : RowsAt w' v a := by
  obtain ⟨vs, hl, h1, h2⟩ := h
  exact ⟨vs, hl, h1.below hb hB, fun i a b => (h2 i a b).below hb hB⟩
theorem SliceAt.one {w : World} {v : Value} {n : Nat} {xs : List Value} (h : SliceAt w 1 v n xs) : n = xs.length ∧ ∃ a c, v = .slice a xs.length c ∧ xs.length ≤ c ∧ c ≤ maxLen ∧
    (∀ k, k < xs.length → ∃ b off, a = some ⟨b, off, none⟩ ∧ b < w.heap.size ∧ ∀ j (hj : j < xs.length), w.cell? ⟨b, off + j, none⟩ = some xs[j]) := by
  obtain ⟨hl, a, c, rfl, hc, hm, -, hx⟩ := h
  have hn : n = xs.length := by simpa using hl.symm
  subst hn
  refine ⟨rfl, a, c, rfl, hc, hm, fun k hk => ?_⟩
  obtain ⟨b, off, rfl, hlt, hcell⟩ := hx (by intro e; subst e; simp at hk)
  exact ⟨b, off, rfl, hlt, fun j hj => hcell j _ (List.getElem?_eq_getElem hj)⟩
theorem ownsRow_below {w w' : World} {base : Nat} {e : TypeId} {size : Nat} {v : Value} {n : Nat} {xs : List Value} (h : w.ownsRow base e size v n xs) (hb : Below w.heap.size w w') : w'.ownsRow base e size v n xs := by
  obtain ⟨hl, h⟩ := h
  refine ⟨hl, ?_⟩
  rcases h with h | ⟨g, cap, cur, hv, hg, hh, r⟩
  · exact .inl h
  · exact .inr ⟨g, cap, cur, hv, hg, (hb.block g (Array.getElem?_eq_some_iff.1 hh).1).trans hh, r⟩
theorem below_new (w : World) (o : Obj) : Below w.heap.size w (w.alloc o) := (Below.refl _ _).alloc (Nat.le_refl _) _
theorem below_call {w w' : World} {o : Obj} (hb : Below (w.alloc o).heap.size (w.alloc o) w') : Below w.heap.size w w' := (below_new w o).trans (hb.mono (by simp))
theorem keeps_of {w W : World} (hW : Below w.heap.size w W) {a : Addr} {v : Value} (h : w.cell? a = some v) : W.cell? a = some v := (hW.cell (World.block_lt_of_cell? w _ h)).trans h
end Go.Proofs.YtilkneajohpgiaaDoor
