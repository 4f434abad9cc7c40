/- Lemmas for TopWire: Base, BytesOwn, QuietBelow, QuietHeld. -/
import Derived.WalkKit
import Derived.WalkSpells
import Derived.WalkLawsBesides
import Derived.Deep.QuietTactic
import Derived.BigQuiet
import Derived.WalkSmall
import Derived.Laws.AppendOwnNone
import Derived.Test.YtlbipokkdiiaiaaGreatDoorChecked
import Derived.Laws.IdiomStrings
import Derived.Laws.BytesArg
import Derived.Lib.UnsafeStr
import Derived.Deep.Quiet
import Derived.Deep.RegionHeld3
import Derived.Deep.MidRow
/- Small plain lemmas: byte strings as lists, a slice value that reads as a list of cells. -/
namespace Go.Proofs.YtlbipokkdiiaiaaGreatDoor
open Go.RowKit
theorem hid {p : Prop} (h : p) : Hid p := h
theorem eqT {a b : Int} (h : a = b) : (a == b) = true := beq_iff_eq.2 h
theorem eqF {a b : Int} (h : a ≠ b) : (a == b) = false := beq_eq_false_iff_ne.2 h
theorem neT {a b : Int} (h : a ≠ b) : (a != b) = true := bne_iff_ne.2 h
theorem neF {a b : Int} (h : a = b) : (a != b) = false := by subst h; exact bne_self_eq_false _
def bs (l : List UInt8) : ByteArray := ⟨l.toArray⟩
theorem bs_list (s : ByteArray) : bs s.data.toList = s := rfl
theorem list_bs (l : List UInt8) : (bs l).data.toList = l := rfl
theorem bs_inj {s t : ByteArray} (h : s.data.toList = t.data.toList) : s = t := by
  rw [← bs_list s, ← bs_list t, h]
theorem size_list (s : ByteArray) : s.data.toList.length = s.size := rfl
theorem bs_size (l : List UInt8) : (bs l).size = l.length := rfl
theorem bs_toList (l : List UInt8) : (bs l).toList = l := by rw [ByteArray.toList_eq]; rfl
theorem bs_append (l r : List UInt8) : bs l ++ bs r = bs (l ++ r) := by
  apply bs_inj
  show (bs l ++ bs r).data.toList = l ++ r
  rw [ByteArray.data_append, Array.toList_append]; rfl
theorem bs_append_mk (l : List UInt8) (a : Array UInt8) : bs l ++ ByteArray.mk a = bs (l ++ a.toList) := bs_append l a.toList
theorem mk_append_bs (l : List UInt8) (a : Array UInt8) : ByteArray.mk a ++ bs l = bs (a.toList ++ l) := bs_append a.toList l
theorem lt_of_bs {l : List UInt8} {k : Nat} (h : k < (bs l).size) : k < l.length := h
theorem bs_get (l : List UInt8) (k : Nat) (h : k < (bs l).size) : (bs l)[k] = l[k]'(lt_of_bs h) := rfl
theorem bs_extract (l : List UInt8) (j k : Nat) : (bs l).extract j k = bs ((l.drop j).take (k - j)) := by
  apply bs_inj
  show _ = (l.drop j).take (k - j)
  rw [ByteArray.data_extract, Array.toList_extract, List.extract_eq_take_drop]; rfl
attribute [go_sem] bs_size bs_toList bs_append bs_append_mk mk_append_bs bs_get bs_extract
/-- Only draws. -/
def Drawn (w w' : World) : Prop := ∃ d, w' = w.drewN d
theorem Drawn.refl (w : World) : Drawn w w := ⟨0, rfl⟩
theorem Drawn.drewN {w w' : World} (h : Drawn w w') (n : Nat) : Drawn w (w'.drewN n) := by
  obtain ⟨d, rfl⟩ := h; exact ⟨d + n, by simp [World.drewN, Nat.add_assoc]⟩
theorem Drawn.trans {a b c : World} (h : Drawn a b) (k : Drawn b c) : Drawn a c := by
  obtain ⟨d, rfl⟩ := k; exact h.drewN d
theorem Drawn.below {B : Nat} {w w' : World} (h : Drawn w w') : Below B w w' := by
  obtain ⟨d, rfl⟩ := h; exact ⟨rfl, rfl, rfl, Nat.le_refl _, fun _ _ => rfl⟩
theorem Below.chain {w w1 w2 : World} (h : Below w.heap.size w w1) (k : Below w1.heap.size w1 w2) : Below w.heap.size w w2 := h.trans (k.mono h.size)
/-- A slice value of n elements, 'size' cells each, that reads as these cells. -/
def SliceAt (w : World) (size : Nat) (v : Value) (n : Nat) (xs : List Value) : Prop :=
  xs.length = n * size ∧ ∃ a c, v = .slice a n c ∧ n ≤ c ∧ c ≤ maxLen ∧ (a = none → c = 0) ∧
    (xs ≠ [] → ∃ b off, a = some ⟨b, off, none⟩ ∧ b < w.heap.size ∧ ∀ j u, xs[j]? = some u → w.cell? ⟨b, off + j, none⟩ = some u)
theorem SliceAt.below {w w' : World} {B size : Nat} {v : Value} {n : Nat} {xs : List Value} (h : SliceAt w size v n xs) (hb : Below B w w') (hB : w.heap.size ≤ B) : SliceAt w' size v n xs := by
  obtain ⟨hl, a, c, rfl, hc, hm, hn, hx⟩ := h
  refine ⟨hl, a, c, rfl, hc, hm, hn, fun hne => ?_⟩
  obtain ⟨b, off, rfl, hlt, hcell⟩ := hx hne
  refine ⟨b, off, rfl, Nat.lt_of_lt_of_le hlt hb.size, fun j u hu => ?_⟩
  rw [← hcell j u hu]
  exact World.cell?_of_block (w := w) (hb.block b (by omega))
theorem SliceAt.of_owns {w : World} {base e size : Nat} {v : Value} {n : Nat} {xs : List Value} (h : w.ownsRow base e size v n xs) (hn : n ≤ maxLen) : SliceAt w size v n xs := by
  obtain ⟨hl, h⟩ := h
  refine ⟨hl, ?_⟩
  rcases h with ⟨rfl, rfl⟩ | ⟨g, cap, cur, rfl, hb, hg, hc, hm, hs, ht⟩
  · refine ⟨none, 0, rfl, Nat.le_refl _, Nat.zero_le _, fun _ => rfl, fun hne => ?_⟩
    rw [Nat.zero_mul] at hl
    exact absurd (List.eq_nil_of_length_eq_zero hl) hne
  · refine ⟨_, cap, rfl, hc, hm, fun h => (by cases h), fun _ => ⟨g, 0, rfl, (Array.getElem?_eq_some_iff.1 hg).1, fun j u hu => ?_⟩⟩
    have := World.ownsRow.cells (w := w) (base := base) (e := e) (size := size) (v := .slice (some ⟨g, 0, none⟩) n cap) (n := n) (xs := xs) ⟨hl, .inr ⟨g, cap, cur, rfl, hb, hg, hc, hm, hs, ht⟩⟩ (g := g) rfl j u hu
    have hadd : (⟨g, 0, none⟩ : Addr).add j = ⟨g, 0 + j, none⟩ := by unfold Addr.add; split <;> simp_all
    rwa [hadd] at this
/-- 'string([]byte{c})'. -/
theorem run_conv_one {P : Program} (src dst e e' : TypeId) (hs : P.underlying src = some (.slice e)) (he : P.underlying e = some (.int .u8)) (hd : P.underlying dst = some .string) (w : World) (n : Int) (c : Nat) (fr : Nat × Nat) :
    (convert src dst (.slice (some ⟨w.heap.size, 0, none⟩) 1 c)).run P (w.alloc (.cells #[.int .u8 n] e' fr)) = .ok (.string (bs [UInt8.ofNat n.toNat])) (w.alloc (.cells #[.int .u8 n] e' fr)) := by
  have h := run_convert_bytes_arg (P := P) (w.alloc (.cells #[.int .u8 n] e' fr)) src e hs he w.heap.size 0 1 c [n] rfl (fun i hi => by
    obtain rfl : i = 0 := by omega
    rw [World.cell?_alloc_mark]; rfl) dst hd
  rw [h]; rfl
theorem new_cells (w : World) (xs : Array Value) (e : TypeId) (fr : Nat × Nat) : ∀ j u, xs.toList[j]? = some u → (w.alloc (.cells xs e fr)).cell? ((⟨w.heap.size, 0, none⟩ : Addr).add j) = some u := by
  intro j u h
  have hadd : (⟨w.heap.size, 0, none⟩ : Addr).add j = ⟨w.heap.size, j, none⟩ := by unfold Addr.add; split <;> simp_all
  rw [hadd, World.cell?_alloc_mark]; simpa using h
theorem ownsRow_drewN {w : World} {base : Nat} {e : TypeId} {size : Nat} {v : Value} {n : Nat} {xs : List Value} (h : w.ownsRow base e size v n xs) (d : Nat) : (w.drewN d).ownsRow base e size v n xs := h
theorem SliceAt.nil (w : World) (size : Nat) : SliceAt w size (.slice none 0 0) 0 [] := ⟨by simp, none, 0, rfl, Nat.le_refl _, Nat.zero_le _, fun _ => rfl, fun h => absurd rfl h⟩
/-- Strings, as cells. -/
def strCells (ss : List (List UInt8)) : List Value := ss.map fun l => Value.string (bs l)
theorem strCells_get (ss : List (List UInt8)) (k : Nat) (h : k < ss.length) : (strCells ss)[k]? = some (.string (bs ss[k])) := by
  simp [strCells, h]
theorem strCells_append (a b : List (List UInt8)) : strCells (a ++ b) = strCells a ++ strCells b := by simp [strCells]
theorem SliceAt.str {w : World} {v : Value} {n : Nat} {ss : List (List UInt8)} (h : SliceAt w 1 v n (strCells ss)) : n = ss.length ∧ ∃ a c, v = .slice a ss.length c ∧ ss.length ≤ c ∧ c ≤ maxLen ∧
    (∀ k, k < ss.length → ∃ b off, a = some ⟨b, off, none⟩ ∧ b < w.heap.size ∧ ∀ j (hj : j < ss.length), w.cell? ⟨b, off + j, none⟩ = some (.string (bs ss[j]))) := by
  obtain ⟨hl, a, c, rfl, hc, hm, -, hx⟩ := h
  have hn : n = ss.length := by simpa [strCells] using hl.symm
  subst hn
  refine ⟨rfl, a, c, rfl, hc, hm, fun k hk => ?_⟩
  obtain ⟨b, off, rfl, hlt, hcell⟩ := hx (by intro e; simp [strCells] at e; subst e; simp at hk)
  exact ⟨b, off, rfl, hlt, fun j hj => hcell j _ (strCells_get ss j hj)⟩
theorem drop_at {α : Type} (l : List α) (k : Nat) (h : k < l.length) : l.drop k = l[k] :: l.drop (k + 1) := List.drop_eq_getElem_cons h
theorem take_at {α : Type} (l : List α) (k : Nat) (h : k < l.length) : l.take (k + 1) = l.take k ++ [l[k]] := List.take_succ_eq_append_getElem h
/-- append to a slice of the call's own, from any slice that reads. -/
theorem wpList_append_src {P : Program} {w : World} {ops : Array Oper} {rest : List Oper} {o : Oper} {a : Act} {Q : Exit → Act → World → Prop} (hgd : o.guard = none) (s x : Operand) (t : TypeId)
    (ho : o.op = .call { callee := .builtin .append, args := #[s, x], argTypes := #[t, t] })
    (base : Nat) (e : TypeId) (i : TypeInfo) (z : Value) (size bytes : Nat) (ht : P.underlying t = some (.slice e)) (hi : P.info? e = some i) (hz : i.zero = some z)
    (hsize : i.size = size) (hby : i.bytes = bytes) (hzs : z.cells.size = size) (hsz : 0 < size)
    (v : Value) (n : Nat) (xs : List Value) (hs : a.eval s = v) (hown : w.ownsRow base e size v n xs)
    (vx : Value) (m : Nat) (news : List Value) (hx : a.eval x = vx) (hsrc : SliceAt w size vx m news) (h1 : ∀ u ∈ news, u.oneCell' = true)
    (h63 : n + m ≤ maxLen) (hbytes : (n + m) * bytes ≤ 140737488355328) (hbase : base ≤ w.heap.size)
    (h : ∀ v' w', w'.ownsRow base e size v' (n + m) (xs ++ news) → w.grownBy w' v.ownBlock → wpList P ops Q rest (a.put o.dst v') w') : wpList P ops Q (o :: rest) a w := by
  obtain ⟨hl, ad, c, rfl, hc, hm, hn, hcell⟩ := hsrc
  cases ad with
  | none =>
    have h0 : c = 0 := hn rfl
    subst h0
    obtain rfl : m = 0 := by omega
    have hnil : news = [] := List.eq_nil_of_length_eq_zero (by simpa using hl)
    subst hnil
    exact wpList_append_own_none hgd s x t ho base e i size ht hi v n xs hs hown hx (h v w (by simpa using hown) (World.grownBy.refl _ _))
  | some ad =>
    refine wpList_append_own w hgd s x t ho base e i z size bytes ht hi hz hsize hby hzs hsz v n xs hs hown ad m c news hx hl ?_ h1 h63 hbytes hbase (fun v' w' a b _ => h v' w' a b)
    intro j u hu
    by_cases hne : news = []
    · subst hne; simp at hu
    · obtain ⟨b, off, hb, _, hcl⟩ := hcell hne
      obtain rfl := Option.some.inj hb
      have hadd : (⟨b, off, none⟩ : Addr).add j = ⟨b, off + j, none⟩ := by unfold Addr.add; split <;> simp_all
      rw [hadd]; exact hcl j u hu
theorem strCells_one (ss : List (List UInt8)) : ∀ u ∈ strCells ss, u.oneCell' = true := by
  intro u hu
  simp only [strCells, List.mem_map] at hu
  obtain ⟨s, _, rfl⟩ := hu; rfl
/-- A slice of slices of strings. -/
def RowsAt (w : World) (v : Value) (a : List (List (List UInt8))) : Prop :=
  ∃ vs : List Value, vs.length = a.length ∧ SliceAt w 1 v a.length vs ∧ ∀ i (h1 : i < vs.length) (h2 : i < a.length), SliceAt w 1 vs[i] a[i].length (strCells a[i])
theorem RowsAt.below {w w' : World} {B : Nat} {v : Value} {a : List (List (List UInt8))} (h : RowsAt w v a) (hb : Below B w w') (hB : w.heap.size ≤ B) : RowsAt w' v a := by
  obtain ⟨vs, hl, h1, h2⟩ := h
  exact ⟨vs, hl, h1.below hb hB, fun i a b => (h2 i a b).below hb hB⟩
theorem SliceAt.one {w : World} {v : Value} {n : Nat} {xs : List Value} (h : SliceAt w 1 v n xs) : n = xs.length ∧ ∃ a c, v = .slice a xs.length c ∧ xs.length ≤ c ∧ c ≤ maxLen ∧
    (∀ k, k < xs.length → ∃ b off, a = some ⟨b, off, none⟩ ∧ b < w.heap.size ∧ ∀ j (hj : j < xs.length), w.cell? ⟨b, off + j, none⟩ = some xs[j]) := by
  obtain ⟨hl, a, c, rfl, hc, hm, -, hx⟩ := h
  have hn : n = xs.length := by simpa using hl.symm
  subst hn
  refine ⟨rfl, a, c, rfl, hc, hm, fun k hk => ?_⟩
  obtain ⟨b, off, rfl, hlt, hcell⟩ := hx (by intro e; subst e; simp at hk)
  exact ⟨b, off, rfl, hlt, fun j hj => hcell j _ (List.getElem?_eq_getElem hj)⟩
theorem ownsRow_below {w w' : World} {base : Nat} {e : TypeId} {size : Nat} {v : Value} {n : Nat} {xs : List Value} (h : w.ownsRow base e size v n xs) (hb : Below w.heap.size w w') : w'.ownsRow base e size v n xs := by
  obtain ⟨hl, h⟩ := h
  refine ⟨hl, ?_⟩
  rcases h with h | ⟨g, cap, cur, hv, hg, hh, r⟩
  · exact .inl h
  · exact .inr ⟨g, cap, cur, hv, hg, (hb.block g (Array.getElem?_eq_some_iff.1 hh).1).trans hh, r⟩
theorem below_new (w : World) (o : Obj) : Below w.heap.size w (w.alloc o) := (Below.refl _ _).alloc (Nat.le_refl _) _
theorem below_call {w w' : World} {o : Obj} (hb : Below (w.alloc o).heap.size (w.alloc o) w') : Below w.heap.size w w' := (below_new w o).trans (hb.mono (by simp))
theorem keeps_of {w W : World} (hW : Below w.heap.size w W) {a : Addr} {v : Value} (h : w.cell? a = some v) : W.cell? a = some v := (hW.cell (World.block_lt_of_cell? w _ h)).trans h
end Go.Proofs.YtlbipokkdiiaiaaGreatDoor
/- Bytes in memory of the call's own: as a text; one byte more. -/
namespace Go.Proofs.YtlbipokkdiiaiaaGreatDoor
set_option maxRecDepth 100000
open Go.RowKit
theorem u8_info : (Tryz.prog.info? 5).map (fun i => (i.zero, i.size, i.bytes)) = some (some (.int .u8 0), 1, 1) := by kernel_rfl
theorem byteCells_len (l : List UInt8) : (Lib.byteCells l).length = l.length := by simp [Lib.byteCells]
theorem byteCells_one (l : List UInt8) : ∀ u ∈ Lib.byteCells l, u.oneCell' = true := by
  intro u hu
  simp only [Lib.byteCells, List.mem_map] at hu
  obtain ⟨s, _, rfl⟩ := hu; rfl
theorem byteCells_app (a b : List UInt8) : Lib.byteCells (a ++ b) = Lib.byteCells a ++ Lib.byteCells b := by simp [Lib.byteCells]
theorem byteCells_get (l : List UInt8) (k : Nat) (h : k < l.length) : (Lib.byteCells l)[k]? = some (.int .u8 l[k].toNat) := by simp [Lib.byteCells, h]
/-- 'string(b)'. -/
theorem run_conv_at {w : World} {v : Value} {n : Nat} {l : List UInt8} (h : SliceAt w 1 v n (Lib.byteCells l)) :
    (convert 49 9 v).run Tryz.prog w = .ok (.string (bs l)) w := by
  obtain ⟨hl, a, c, rfl, hc, hm, hn, hx⟩ := h
  have hnl : n = l.length := by rw [byteCells_len] at hl; omega
  subst hnl
  cases a with
  | none =>
    have h0 := hn rfl
    have hl0 : l = [] := List.eq_nil_of_length_eq_zero (by omega)
    subst hl0
    exact run_convert_bytes_nil (P := Tryz.prog) (w := w) 49 5 Tryz.underlying49 Tryz.underlying5 _ _ 9 Tryz.underlying9
  | some a =>
    refine run_convert_bytes_back w 49 9 5 a c l Tryz.underlying49 Tryz.underlying5 Tryz.underlying9 fun j hj => ?_
    obtain ⟨b, off, hb, -, hcl⟩ := hx (by intro e; have := byteCells_len l; rw [e] at this; simp at this; omega)
    obtain rfl := Option.some.inj hb
    have hadd : (⟨b, off, none⟩ : Addr).add j = ⟨b, off + j, none⟩ := by unfold Addr.add; split <;> simp_all
    rw [hadd]; exact hcl j _ (byteCells_get l j hj)
/-- The one byte that a call lays. -/
theorem one_byte (W : World) (c : UInt8) : SliceAt (W.alloc (.cells #[.int .u8 c.toNat] 5)) 1 (.slice (some ⟨W.heap.size, 0, none⟩) 1 1) 1 (Lib.byteCells [c]) :=
  ⟨rfl, _, 1, rfl, Nat.le_refl _, by unfold maxLen; omega, fun h => (by cases h), fun _ => ⟨W.heap.size, 0, rfl, by simp, fun j u hu => by rw [Nat.zero_add, World.cell?_alloc_mark]; simpa [Lib.byteCells] using hu⟩⟩
end Go.Proofs.YtlbipokkdiiaiaaGreatDoor
/- A region that draws its order, whose own operations only read what stood before it, and whose callees make new memory alone: one walk in the order of the text serves every order (the class of worlds: nothing that stood has turned). -/
namespace Go.Proofs.YtlbipokkdiiaiaaGreatDoor
open Go.RowKit
theorem wp_region_below {P : Program} {id : Nat} {Q : Exit → Act → World → Prop} {a : Act} {w : World} {l : List Oper} (hm : P.follows .mixedOrders = true) (hB : Region.lexB .any l.toArray = true)
    (h : wpQuiet P l.toArray (fun w' => Below w.heap.size w w') (fun a' => ∀ w', Below w.heap.size w w' → Q .normal a' w') l a) : (Code.region id l.toArray true).wp P Q a w :=
  wp_region_quiet (C := fun w' => Below w.heap.size w w') hm hB ⟨rfl, rfl, rfl, Nat.le_refl _, fun _ _ => rfl⟩ (by simpa using h)
theorem Calls.quiet_below {P : Program} {f : FuncId} {args : Array Value} {w W : World} {v : Value} (hW : Below w.heap.size w W)
    (h : Calls P f args W fun e w' => e = .returned v ∧ Below W.heap.size W w') : Calls P f args W fun e w'' => e = .returned v ∧ Below w.heap.size w w'' :=
  h.mono fun _ _ ⟨he, hb⟩ => ⟨he, Below.chain hW hb⟩
theorem Below.keeps {w W : World} (hW : Below w.heap.size w W) {a : Addr} {v : Value} (h : w.cell? a = some v) : W.cell? a = some v := (hW.cell (World.block_lt_of_cell? w _ h)).trans h
/-! Short forms. -/
theorem nb : ∀ (x : Bool) (w : World), (Op.unary .not (.bool x)).run Tryz.prog w = .ok (.bool (!x)) w := fun _ _ => rfl
theorem mf : ∀ (fn : Fn) (first cap : Array Value) (w : World), (Instr.makeFunc fn first cap).run Tryz.prog w = .ok (.func fn first cap) w := fun _ _ _ _ => rfl
theorem lx {w : World} {b : Nat} {o : Obj} (h : Hid (w.heap[b]? = some o)) : b < w.heap.size := (Array.getElem?_eq_some_iff.1 h.out).1
theorem an0 (w : World) (o : Obj) : ∃ W, Hid (W = w.alloc o) ∧ Below w.heap.size w W ∧ W.heap[w.heap.size]? = some o := ⟨_, hid rfl, below_new w _, heap_alloc_new w _⟩
theorem an1 (w : World) (o : Obj) : ∃ W, Hid (W = w.alloc o) ∧ Below w.heap.size w W ∧ W.heap[w.heap.size]? = some o ∧ w.heap.size < W.heap.size := ⟨_, hid rfl, below_new w _, heap_alloc_new w _, by rw [World.size_alloc]; omega⟩
theorem an2 (w : World) (o o' : Obj) : ∃ W, Hid (W = (w.alloc o).alloc o') ∧ Below w.heap.size w W ∧ W.heap[w.heap.size]? = some o ∧ W.heap[w.heap.size + 1]? = some o' :=
  ⟨_, hid rfl, (below_new w o).alloc (by simp) _, (Below.heap_alloc (w.alloc o) o' w.heap.size (by rw [World.size_alloc]; omega)).trans (heap_alloc_new w o), by have h := heap_alloc_new (w.alloc o) o'; rw [World.size_alloc] at h; exact h⟩
theorem dr1 (w : World) : ∃ W, Hid (W = w.drew) ∧ Below w.heap.size w W :=
  ⟨_, hid rfl, Drawn.below ⟨1, rfl⟩⟩
theorem kp5 {w W : World} (hW : Below w.heap.size w W) {a b c d e : Addr} {s t u v x : Value} (h : w.cell? a = some s) (i : w.cell? b = some t) (j : w.cell? c = some u) (k : w.cell? d = some v) (l : w.cell? e = some x) : W.cell? a = some s ∧ W.cell? b = some t ∧ W.cell? c = some u ∧ W.cell? d = some v ∧ W.cell? e = some x := ⟨Below.keeps hW h, Below.keeps hW i, Below.keeps hW j, Below.keeps hW k, Below.keeps hW l⟩
theorem rk0 {w w1 : World} {o : Obj} (h : Below (w.alloc o).heap.size (w.alloc o) w1) : Hid (w1.heap[w.heap.size]? = some o) := hid ((h.block _ (by rw [World.size_alloc]; omega)).trans (heap_alloc_new w o))
theorem rk {w w1 : World} {b : Nat} {o : Obj} (k : Hid (w.heap[b]? = some o)) (h : Below w.heap.size w w1) : Hid (w1.heap[b]? = some o) := hid ((h.block _ (Array.getElem?_eq_some_iff.1 k.out).1).trans k.out)
theorem br {ty : TypeId} {d : TypeDesc} (hu : Tryz.prog.underlying ty = some d) {fn : Func} {p : Tmp} {R : Ending → World → Prop} {a : Act} {w : World} (g : Nat) {t : TypeId} {cs : Array Value} {fr : Nat × Nat} (hg : w.heap[g]? = some (.cells cs t fr)) (hR : R (.returned (.agg cs)) w) (h : fn.results = #[.cell p ty] := by rfl) (hp : a.tmps.getD p undef = .pointer (some ⟨g, 0, none⟩) := by rfl)
    (hd : (match d with | .struct _ | .array _ _ => true | _ => false) = true := by rfl) (hi : (Tryz.prog.info? ty).map (·.size) = some cs.size := by kernel_rfl) (hf : a.defers = [] := by rfl) : bodyPost Tryz.prog fn R .ret a w := by cases d <;> exact bodyPost_ret (results_cell_row h _ _ g _ _ _ _ hp hg hu hd hi) hf hR
theorem bc {w w1 w2 : World} (h : Hid (Below w.heap.size w w1)) (k : Below w1.heap.size w1 w2) : Hid (Below w.heap.size w w2) := hid (Below.chain h.out k)
/-- The lexical walk, kept shut. -/
structure WQ (P : Program) (ops : Array Oper) (C : World → Prop) (Q : Act → Prop) (l : List Oper) (a : Act) : Prop where
  out : wpQuiet P ops C Q l a
theorem WQ.step {P : Program} {ops : Array Oper} {C : World → Prop} {Q : Act → Prop} {a : Act} {o : Oper} {rest : List Oper}
    (h : ∀ K : Act → Prop, (∀ a, WQ P ops C Q rest a → K a) → if Region.wanted o (yielded ops a.tmps) then o.quiet P a C K else K (a.put o.dst undef)) : WQ P ops C Q (o :: rest) a :=
  ⟨wpQuiet_step (fun K hK => h K (fun a ha => hK a ha.out))⟩
theorem WQ.nil {P : Program} {ops : Array Oper} {C : World → Prop} {Q : Act → Prop} {a : Act} (h : Q a) : WQ P ops C Q [] a := ⟨wpQuiet_nil h⟩
theorem wp_region_wq {P : Program} {id : Nat} {Q : Exit → Act → World → Prop} {a : Act} {w : World} {l : List Oper} (hm : P.follows .mixedOrders = true) (hB : Region.lexB .any l.toArray = true)
    (h : WQ P l.toArray (fun w' => Below w.heap.size w w') (fun a' => ∀ w', Below w.heap.size w w' → Q .normal a' w') l a) : (Code.region id l.toArray true).wp P Q a w := wp_region_below hm hB h.out
end Go.Proofs.YtlbipokkdiiaiaaGreatDoor
/- A region that draws its order and makes memory: its orders walked by hand, what only reads or is not wanted first (the walk kept shut in a structure). -/
namespace Go.Proofs.YtlbipokkdiiaiaaGreatDoor
open Go.RowKit
/-- The walk over every order, kept shut. -/
structure WH (P : Program) (ops : Array Oper) (Q : Exit → Act → World → Prop) (S : World → Prop) (fuel : Nat) (listed : Array Bool) (a : Act) (w : World) : Prop where
  out : wpAnyH P .any ops Q S fuel listed a w
variable {P : Program} {ops : Array Oper} {Q : Exit → Act → World → Prop} {S : World → Prop} {fuel : Nat} {listed : Array Bool} {a : Act} {w : World}
theorem wp_region_wh {id : Nat} {l : List Oper} (hm : P.follows .mixedOrders = true) (h : WH P l.toArray Q S l.length (Array.replicate l.length false) a w.drew) : (Code.region id l.toArray true).wp P Q a w :=
  wp_region_held (S := S) hm (by simpa using h.out)
theorem WH.take (i : Nat) (dst : Option Tmp) {oi : Oper} (hi : ops[i]? = some oi) (hd : oi.dst = dst) (hs : Region.noSelect ops = true) (hf : Region.free .any ops listed i = true) (hr : (Region.ready .any ops listed).contains i = true)
    (hQ' : ∀ v c a w, Q (.panic c) (a.put oi.dst v) w → Q (.panic c) a w) (hS : S w)
    (h : ∃ v, (Region.wanted oi (yielded ops a.tmps) = true ∧ ∀ W, S W → (execOp a.eval oi).run P W = .ok (.value v) W) ∧ WH P ops Q S fuel (listed.setIfInBounds i true) (a.put dst v) w) : WH P ops Q S (fuel + 1) listed a w := by
  subst hd
  obtain ⟨v, hy, h⟩ := h
  exact ⟨wpAnyH_take hi hs hf hr (hQ' v) (.inl hy) hS h.out⟩
theorem WH.skip (i : Nat) (dst : Option Tmp) {oi : Oper} (hi : ops[i]? = some oi) (hd : oi.dst = dst) (hs : Region.noSelect ops = true) (hf : Region.free .any ops listed i = true) (hr : (Region.ready .any ops listed).contains i = true)
    (hQ : ∀ c a w, Q (.panic c) (a.put oi.dst undef) w → Q (.panic c) a w) (hS : S w) (hw : Region.wanted oi (yielded ops a.tmps) = false)
    (h : WH P ops Q S fuel (listed.setIfInBounds i true) (a.put dst undef) w) : WH P ops Q S (fuel + 1) listed a w := by
  subst hd
  exact ⟨wpAnyH_take hi hs hf hr hQ (.inr ⟨hw, rfl⟩) hS h.out⟩
theorem WH.one (i : Nat) {oi : Oper} (hr : Region.ready .any ops listed = [i]) (hi : ops[i]? = some oi) (hw : Region.wanted oi (yielded ops a.tmps) = true)
    (h : ∀ K' : Act → World → Prop, Shut (∀ a w, S w → WH P ops Q S fuel (listed.setIfInBounds i true) a w → K' a w) → Oper.wp P oi a w K' Q) : WH P ops Q S (fuel + 1) listed a w :=
  ⟨wpAnyH_all hr (by simp) (fun j hj => by
    obtain rfl : j = i := by simpa using hj
    exact wpOp_step hi (fun K' hK => by rw [if_pos hw]; exact h K' (fun a w hS hW => hK a w ⟨hS, hW.out⟩)))⟩
theorem WH.two (i j : Nat) {oi oj : Oper} (hr : Region.ready .any ops listed = [i, j]) (hi : ops[i]? = some oi) (hw : Region.wanted oi (yielded ops a.tmps) = true) (hj : ops[j]? = some oj) (hv : Region.wanted oj (yielded ops a.tmps) = true)
    (h : ∀ K' : Act → World → Prop, Shut (∀ a w, S w → WH P ops Q S fuel (listed.setIfInBounds i true) a w → K' a w) → Oper.wp P oi a w K' Q)
    (h' : ∀ K' : Act → World → Prop, Shut (∀ a w, S w → WH P ops Q S fuel (listed.setIfInBounds j true) a w → K' a w) → Oper.wp P oj a w K' Q) : WH P ops Q S (fuel + 1) listed a w :=
  ⟨wpAnyH_all hr (by simp) (fun k hk => by
    rcases List.mem_cons.1 hk with rfl | hk
    · exact wpOp_step hi (fun K' hK => by rw [if_pos hw]; exact h K' (fun a w hS hW => hK a w ⟨hS, hW.out⟩))
    · obtain rfl : k = j := by simpa using hk
      exact wpOp_step hj (fun K' hK => by rw [if_pos hv]; exact h' K' (fun a w hS hW => hK a w ⟨hS, hW.out⟩)))⟩
theorem WH.three (i j k : Nat) {oi oj ok : Oper} (hr : Region.ready .any ops listed = [i, j, k]) (hi : ops[i]? = some oi) (hj : ops[j]? = some oj) (hk : ops[k]? = some ok)
    (hwi : Region.wanted oi (yielded ops a.tmps) = true) (hwj : Region.wanted oj (yielded ops a.tmps) = true) (hwk : Region.wanted ok (yielded ops a.tmps) = true)
    (h : ∀ K' : Act → World → Prop, Shut (∀ a w, S w → WH P ops Q S fuel (listed.setIfInBounds i true) a w → K' a w) → Oper.wp P oi a w K' Q)
    (h' : ∀ K' : Act → World → Prop, Shut (∀ a w, S w → WH P ops Q S fuel (listed.setIfInBounds j true) a w → K' a w) → Oper.wp P oj a w K' Q)
    (h'' : ∀ K' : Act → World → Prop, Shut (∀ a w, S w → WH P ops Q S fuel (listed.setIfInBounds k true) a w → K' a w) → Oper.wp P ok a w K' Q) : WH P ops Q S (fuel + 1) listed a w :=
  ⟨wpAnyH_all hr (by simp) (fun m hm => by
    simp only [List.mem_cons, List.not_mem_nil, or_false] at hm
    rcases hm with rfl | rfl | rfl
    · exact wpOp_step hi (fun K' hK => by rw [if_pos hwi]; exact h K' (fun a w hS hW => hK a w ⟨hS, hW.out⟩))
    · exact wpOp_step hj (fun K' hK => by rw [if_pos hwj]; exact h' K' (fun a w hS hW => hK a w ⟨hS, hW.out⟩))
    · exact wpOp_step hk (fun K' hK => by rw [if_pos hwk]; exact h'' K' (fun a w hS hW => hK a w ⟨hS, hW.out⟩)))⟩
/-- A load that may come up now is taken first. -/
theorem WH.take_load (i : Nat) (dst : Option Tmp) {oi : Oper} (hi : ops[i]? = some oi) (hd : oi.dst = dst) (hs : Region.noSelect ops = true) (hf : Region.free .any ops listed i = true) (hr : (Region.ready .any ops listed).contains i = true)
    (hQ' : ∀ v c a w, Q (.panic c) (a.put oi.dst v) w → Q (.panic c) a w) (hS : S w) (hw : Region.wanted oi (yielded ops a.tmps) = true)
    (ty : TypeId) (x : Operand) (ho : oi.op = .load ty x) (b o : Nat) (hx : a.eval x = .pointer (some ⟨b, o, none⟩)) (cs : List Value) (d : TypeDesc) (hc : ∀ w, S w → w.rangeAt b o cs)
    (hu : P.underlying ty = some d) (hrow : d.isRow = true) (hsz : (P.info? ty).map (·.size) = some cs.length)
    (h : WH P ops Q S fuel (listed.setIfInBounds i true) (a.put dst (.agg cs.toArray)) w) : WH P ops Q S (fuel + 1) listed a w := by
  subst hd
  exact ⟨wpAnyH_take hi hs hf hr (hQ' _) (yieldsIf_load_mid hw ty x ho b o hx cs d hc hu hrow hsz) hS h.out⟩
/-! The same three, what is always shown alike left out. -/
theorem WH.tk (i : Nat) (dst : Option Tmp) (v : Value) (hS : S w) {oi : Oper} (h : WH P ops Q S fuel (listed.setIfInBounds i true) (a.put dst v) w)
    (hi : ops[i]? = some oi := by rfl) (hd : oi.dst = dst := by rfl) (hs : Region.noSelect ops = true := by kernel_rfl) (hf : Region.free .any ops listed i = true := by kernel_rfl) (hr : (Region.ready .any ops listed).contains i = true := by kernel_rfl)
    (hQ' : ∀ v c a w, Q (.panic c) (a.put oi.dst v) w → Q (.panic c) a w := by exact fun _ _ _ _ h => h) (hw : Region.wanted oi (yielded ops a.tmps) = true := by kernel_rfl) (hv : ∀ W, S W → (execOp a.eval oi).run P W = .ok (.value v) W := by exact fun _ _ => rfl) : WH P ops Q S (fuel + 1) listed a w :=
  WH.take i dst hi hd hs hf hr hQ' hS ⟨v, ⟨hw, hv⟩, h⟩
theorem WH.sk (i : Nat) (dst : Option Tmp) (hS : S w) {oi : Oper} (h : WH P ops Q S fuel (listed.setIfInBounds i true) (a.put dst undef) w)
    (hi : ops[i]? = some oi := by rfl) (hd : oi.dst = dst := by rfl) (hs : Region.noSelect ops = true := by kernel_rfl) (hf : Region.free .any ops listed i = true := by kernel_rfl) (hr : (Region.ready .any ops listed).contains i = true := by kernel_rfl)
    (hQ : ∀ c a w, Q (.panic c) (a.put oi.dst undef) w → Q (.panic c) a w := by exact fun _ _ _ h => h) (hw : Region.wanted oi (yielded ops a.tmps) = false := by kernel_rfl) : WH P ops Q S (fuel + 1) listed a w :=
  WH.skip i dst hi hd hs hf hr hQ hS hw h
theorem WH.tl (i : Nat) (dst : Option Tmp) (hS : S w) (ty : TypeId) (b o : Nat) (cs : List Value) (hc : ∀ w, S w → w.rangeAt b o cs) {d : TypeDesc} (hu : P.underlying ty = some d) {oi : Oper} {x : Operand} (h : WH P ops Q S fuel (listed.setIfInBounds i true) (a.put dst (.agg cs.toArray)) w)
    (hi : ops[i]? = some oi := by rfl) (hd : oi.dst = dst := by rfl) (hs : Region.noSelect ops = true := by kernel_rfl) (hf : Region.free .any ops listed i = true := by kernel_rfl) (hr : (Region.ready .any ops listed).contains i = true := by kernel_rfl)
    (hQ' : ∀ v c a w, Q (.panic c) (a.put oi.dst v) w → Q (.panic c) a w := by exact fun _ _ _ _ h => h) (hw : Region.wanted oi (yielded ops a.tmps) = true := by kernel_rfl)
    (ho : oi.op = .load ty x := by rfl) (hx : a.eval x = .pointer (some ⟨b, o, none⟩) := by rfl) (hrow : d.isRow = true := by rfl) (hsz : (P.info? ty).map (·.size) = some cs.length := by kernel_rfl) : WH P ops Q S (fuel + 1) listed a w :=
  WH.take_load i dst hi hd hs hf hr hQ' hS hw ty x ho b o hx cs d hc hu hrow hsz h
theorem WH.done (hr : Region.ready .any ops listed = []) (h : Q .normal a w) : WH P ops Q S fuel listed a w := ⟨wpAnyH_done hr h fuel⟩
theorem WH.o (i : Nat) {oi : Oper}
    (h : ∀ K' : Act → World → Prop, Shut (∀ a w, S w → WH P ops Q S fuel (listed.setIfInBounds i true) a w → K' a w) → Oper.wp P oi a w K' Q) (hi : ops[i]? = some oi := by rfl) (hr : Region.ready .any ops listed = [i] := by kernel_rfl) (hw : Region.wanted oi (yielded ops a.tmps) = true := by kernel_rfl) : WH P ops Q S (fuel + 1) listed a w :=
  WH.one i hr hi hw h
theorem WH.tw (i j : Nat) {oi oj : Oper}
    (h : ∀ K' : Act → World → Prop, Shut (∀ a w, S w → WH P ops Q S fuel (listed.setIfInBounds i true) a w → K' a w) → Oper.wp P oi a w K' Q)
    (h' : ∀ K' : Act → World → Prop, Shut (∀ a w, S w → WH P ops Q S fuel (listed.setIfInBounds j true) a w → K' a w) → Oper.wp P oj a w K' Q)
    (hi : ops[i]? = some oi := by rfl) (hj : ops[j]? = some oj := by rfl) (hr : Region.ready .any ops listed = [i, j] := by kernel_rfl) (hw : Region.wanted oi (yielded ops a.tmps) = true := by kernel_rfl) (hv : Region.wanted oj (yielded ops a.tmps) = true := by kernel_rfl) : WH P ops Q S (fuel + 1) listed a w :=
  WH.two i j hr hi hw hj hv h h'
theorem WH.d (h : Q .normal a w) (hr : Region.ready .any ops listed = [] := by kernel_rfl) : WH P ops Q S fuel listed a w := WH.done hr h
theorem WH.tv (i : Nat) (dst : Option Tmp) (v : Value) (hS : S w) {oi : Oper} (h : WH P ops Q S fuel (listed.setIfInBounds i true) (a.put dst v) w)
    (hi : ops[i]? = some oi := by rfl) (hd : oi.dst = dst := by rfl) (hs : Region.noSelect ops = true := by kernel_rfl) (hf : Region.free .any ops listed i = true := by kernel_rfl) (hr : (Region.ready .any ops listed).contains i = true := by kernel_rfl)
    (hQ' : ∀ v c a w, Q (.panic c) (a.put oi.dst v) w → Q (.panic c) a w := by exact fun _ _ _ _ h => h) (hw : Region.wanted oi (yielded ops a.tmps) = true := by kernel_rfl) (hv : ∀ W, S W → (execOp a.eval oi).run P W = .ok (.value v) W) : WH P ops Q S (fuel + 1) listed a w :=
  WH.take i dst hi hd hs hf hr hQ' hS ⟨v, ⟨hw, hv⟩, h⟩
end Go.Proofs.YtlbipokkdiiaiaaGreatDoor
