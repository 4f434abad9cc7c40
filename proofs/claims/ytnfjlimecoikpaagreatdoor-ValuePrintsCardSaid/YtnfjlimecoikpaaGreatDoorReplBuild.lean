/- strings.Replacer's build at the six texts: a byteStringReplacer. -/
import Derived.Test.YtnfjlimecoikpaaGreatDoorNewRepl
import Derived.LoopN
import Derived.Great.Walk
import Derived.Great.BuildSlice
import Derived.OwnWalk
namespace Go.Proofs.YtnfjlimecoikpaaGreatDoor
set_option maxRecDepth 100000
open Go.RowKit

def nils (v : Value) : Array Value := (List.replicate 256 (Value.slice none 0 0) ++ [v]).toArray
theorem built_nils (a : Option Addr) (l c : Nat) : Tryz.prog.built 146 [(1, .slice a l c)] = some (nils (.slice a l c)) := by kernel_rfl
theorem alloc_nils (w : World) : (Instr.alloc 146 true (.tuple #[])).run Tryz.prog w = .ok (.pointer (some ⟨w.heap.size, 0, none⟩)) (w.alloc (.cells (nils (.slice none 0 0)) 146)) := by kernel_rfl
theorem nils_size (v : Value) : (nils v).size = 257 := rfl
theorem nils_one (a : Option Addr) (l c : Nat) : (nils (.slice a l c)).all (·.oneCell') = true := by kernel_rfl


/-- '[]byte(s)'. -/
theorem wpList_conv_bytes {w : World} {ops : Array Oper} {rest : List Oper} {o : Oper} {a : Act} {Q : Exit → Act → World → Prop} (hg : o.guard = none) (x : Operand)
    (ho : o.op = .convert 9 68 x) (l : List UInt8) (n : Nat) (hn : l.length = n) (hl : n ≤ 1000000000000) (hx : a.eval x = .string (bs l))
    (h : ∀ (k : Nat) (w' : World), n ≤ k → k ≤ maxLen → (∀ j u, (Lib.byteCells l)[j]? = some u → w'.cell? ⟨w.heap.size, j, none⟩ = some u) → w.heap.size < w'.heap.size → Below w.heap.size w w' →
      wpList Tryz.prog ops Q rest (a.put o.dst (.slice (some ⟨w.heap.size, 0, none⟩) n k)) w') : wpList Tryz.prog ops Q (o :: rest) a w := by
  subst hn
  refine wpList_plain hg fun K hK => ?_
  have hrun := run_bytes_of_string (P := Tryz.prog) w 9 68 5 (bs l) Tryz.underlying9 Tryz.underlying68 Tryz.underlying5
  have hk1 := grownCap_ge w (bs l).size 0 5
  have hk2 := grownCap_le_maxLen w (bs l).size 0 5 (by rw [bs_size]; unfold maxLen; omega)
  generalize hk : grownCap w (bs l).size 0 5 = k at hrun hk1 hk2
  have hnew : ∀ j u, (Lib.byteCells l)[j]? = some u → (w.drew.alloc (.cells (bytesRow (bs l) k) 5 ((bytesRow (bs l) k).size, (bytesRow (bs l) k).size + 1))).cell? ⟨w.heap.size, j, none⟩ = some u := by
    intro j u hj
    have e : (w.drew.alloc (.cells (bytesRow (bs l) k) 5 ((bytesRow (bs l) k).size, (bytesRow (bs l) k).size + 1))).heap[w.heap.size]? = some (.cells (bytesRow (bs l) k) 5 ((bytesRow (bs l) k).size, (bytesRow (bs l) k).size + 1)) := by
      show (w.heap.push _)[w.heap.size]? = _
      simp
    have hjl : j < l.length := by
      have := (List.getElem?_eq_some_iff.1 hj).1
      rwa [byteCells_len] at this
    simp only [World.cell?, e]
    rw [← hj]
    simp [bytesRow, Lib.byteCells, Array.getElem?_append, hjl]
    simp [bs, hjl]
    intro hle
    have hle' : l.length ≤ j := hle
    omega
  unfold Oper.wp
  simp only [execOp, ho, hx, Sem.run_bind, hrun, Result.andThen_ok]
  refine hK _ _ (h k _ hk1 hk2 hnew ?_ ?_)
  · show w.heap.size < (w.heap.push _).size
    simp
  · exact ((Below.refl _ w).drew).alloc (Nat.le_refl _) _

/-- The table: for the bytes of D their texts, no slice for all others. -/
structure TabAt (w : World) (r : Nat) (D : List UInt8) : Prop where
  has : ∀ c ∈ D, ∃ g k : Nat, w.cell? ⟨r, c.toNat, none⟩ = some (.slice (some ⟨g, 0, none⟩) 2 k) ∧ 2 ≤ k ∧ k ≤ maxLen ∧ g < w.heap.size ∧ r < g ∧ ∀ j u, (Lib.byteCells (escB c))[j]? = some u → w.cell? ⟨g, j, none⟩ = some u
  non : ∀ c : UInt8, c ∉ D → w.cell? ⟨r, c.toNat, none⟩ = some (.slice none 0 0)
  free : Free w r
  lt : r < w.heap.size
theorem TabAt.past {B : Nat} {w w' : World} {r : Nat} {D : List UInt8} (h : TabAt w r D) (hb : Below B w w') (hlt : w.heap.size ≤ B) : TabAt w' r D := by
  have hr : r < B := Nat.lt_of_lt_of_le h.lt hlt
  refine ⟨fun c hc => ?_, fun c hc => (hb.cell (p := ⟨r, c.toNat, none⟩) hr).trans (h.non c hc), h.free.past hb hr, Nat.lt_of_lt_of_le h.lt hb.size⟩
  obtain ⟨g, k, h1, h2, h3, h4, h5, h6⟩ := h.has c hc
  exact ⟨g, k, (hb.cell (p := ⟨r, c.toNat, none⟩) hr).trans h1, h2, h3, Nat.lt_of_lt_of_le h4 hb.size, h5, fun j u hj => (hb.cell (p := ⟨g, j, none⟩) (Nat.lt_of_lt_of_le h4 hlt)).trans (h6 j u hj)⟩
/-- A store outside the table's 256 cells, in no text. -/
theorem TabAt.store {w : World} {r : Nat} {D : List UInt8} (h : TabAt w r D) (v : Value) : TabAt (w.setCell ⟨r, 256, none⟩ v) r D := by
  have hn : ∀ c : UInt8, (⟨r, 256, none⟩ : Addr) ≠ ⟨r, c.toNat, none⟩ := fun c e => by
    have h1 := congrArg Addr.off e
    have h2 := c.toNat_lt
    simp only at h1
    omega
  refine ⟨fun c hc => ?_, fun c hc => (World.cell?_setCell_other _ _ _ _ (hn c)).trans (h.non c hc), fun j => by rw [World.frozen?_setCell]; exact h.free j, by simpa using h.lt⟩
  obtain ⟨g, k, h1, h2, h3, h4, h5, h6⟩ := h.has c hc
  exact ⟨g, k, (World.cell?_setCell_other _ _ _ _ (hn c)).trans h1, h2, h3, by simpa using h4, h5, fun j u hj => (World.cell?_setCell_other _ _ _ _ (fun e => Nat.ne_of_lt h5 (congrArg Addr.block e))).trans (h6 j u hj)⟩
/-- One text more. -/
theorem TabAt.more {w : World} {r : Nat} {D : List UInt8} (h : TabAt w r D) {x : UInt8} (hx : x ∉ D) (g k : Nat) (h2 : 2 ≤ k) (h3 : k ≤ maxLen) (h4 : g < w.heap.size) (h5 : r < g)
    (h6 : ∀ j u, (Lib.byteCells (escB x))[j]? = some u → w.cell? ⟨g, j, none⟩ = some u) : TabAt (w.setCell ⟨r, x.toNat, none⟩ (.slice (some ⟨g, 0, none⟩) 2 k)) r (D ++ [x]) := by
  have hn : ∀ c : UInt8, c ≠ x → (⟨r, x.toNat, none⟩ : Addr) ≠ ⟨r, c.toNat, none⟩ := fun c hc e => by
    have h1 := congrArg Addr.off e
    simp only at h1
    exact hc (UInt8.toNat_inj.1 h1.symm)
  have hg : ∀ (g' j : Nat), r < g' → (⟨r, x.toNat, none⟩ : Addr) ≠ ⟨g', j, none⟩ := fun g' j h e => Nat.ne_of_lt h (congrArg Addr.block e)
  refine ⟨fun c hc => ?_, fun c hc => ?_, fun j => by rw [World.frozen?_setCell]; exact h.free j, by simpa using h.lt⟩
  · rw [List.mem_append, List.mem_singleton] at hc
    by_cases hcx : c = x
    · subst hcx
      exact ⟨g, k, World.cell?_setCell_same' _ _ _ (by rw [h.non c hx]; rfl), h2, h3, by simpa using h4, h5, fun j u hj => (World.cell?_setCell_other _ _ _ _ (hg _ _ h5)).trans (h6 j u hj)⟩
    · obtain ⟨g', k', q1, q2, q3, q4, q5, q6⟩ := h.has c (hc.resolve_right hcx)
      exact ⟨g', k', (World.cell?_setCell_other _ _ _ _ (hn c hcx)).trans q1, q2, q3, by simpa using q4, q5, fun j u hj => (World.cell?_setCell_other _ _ _ _ (hg _ _ q5)).trans (q6 j u hj)⟩
  · rw [List.mem_append, List.mem_singleton, not_or] at hc
    exact (World.cell?_setCell_other _ _ _ _ (hn c hc.2)).trans (h.non c hc.1)
theorem nils_get (v : Value) (c : UInt8) : (nils v)[c.toNat]? = some (.slice none 0 0) := by
  have h := c.toNat_lt
  unfold nils
  rw [List.getElem?_toArray, List.getElem?_append_left (by simpa using h), List.getElem?_replicate, if_pos (by simpa using h)]
theorem nils_last (v : Value) : (nils v)[256]? = some v := rfl
theorem tab_new (w : World) (r : Nat) (hr : w.heap[r]? = some (.cells (nils (.slice none 0 0)) 146 (0, 0))) (v : Value) :
    TabAt (w.setRow r (nils v)) r [] ∧ (w.setRow r (nils v)).cell? ⟨r, 256, none⟩ = some v := by
  have hc : ∀ j, (w.setRow r (nils v)).cell? ⟨r, j, none⟩ = (nils v)[j]? := fun j => cell_setRow_same w r j _ _ _ _ hr
  have hh := setRow_heap w r _ (nils v) _ _ hr
  refine ⟨⟨fun c hc => (by cases hc), fun c _ => (hc _).trans (nils_get v c), fun j => ?_, ?_⟩, (hc 256).trans (nils_last v)⟩
  · simp [World.frozen?, hh]
  · exact (Array.getElem?_eq_some_iff.1 hh).1
theorem TabAt.grown {w w' : World} {r n : Nat} {D : List UInt8} (h : TabAt w r D) (hg : w.grownBy w' (some n)) (hn : n < r) : TabAt w' r D := by
  have hb : ∀ k, k < w.heap.size → r ≤ k → w'.heap[k]? = w.heap[k]? := fun k hk hr => hg.block k hk (by simp; omega)
  have hc : ∀ k j, k < w.heap.size → r ≤ k → w'.cell? ⟨k, j, none⟩ = w.cell? ⟨k, j, none⟩ := fun k j hk hr => by simp only [World.cell?, hb k hk hr]
  refine ⟨fun c hc' => ?_, fun c hc' => (hc _ _ h.lt (Nat.le_refl _)).trans (h.non c hc'), fun j => ?_, Nat.lt_of_lt_of_le h.lt hg.size⟩
  · obtain ⟨g, k, h1, h2, h3, h4, h5, h6⟩ := h.has c hc'
    exact ⟨g, k, (hc _ _ h.lt (Nat.le_refl _)).trans h1, h2, h3, Nat.lt_of_lt_of_le h4 hg.size, h5, fun j u hj => (hc _ _ h4 (Nat.le_of_lt h5)).trans (h6 j u hj)⟩
  · have := h.free j
    simp only [World.frozen?, hb r h.lt (Nat.le_refl _)] at this ⊢
    exact this
theorem Six.past {B : Nat} {w w' : World} {b o : Nat} (h : Six w b o) (hb : Below B w w') (hB : w.heap.size ≤ B) : Six w' b o := by
  have hlt : b < B := Nat.lt_of_lt_of_le h.lt hB
  exact ⟨Nat.lt_of_lt_of_le h.lt hb.size, (hb.cell (p := ⟨b, o, none⟩) hlt).trans h.s0, (hb.cell (p := ⟨b, o + 1, none⟩) hlt).trans h.s1, (hb.cell (p := ⟨b, o + 2, none⟩) hlt).trans h.s2, (hb.cell (p := ⟨b, o + 3, none⟩) hlt).trans h.s3, (hb.cell (p := ⟨b, o + 4, none⟩) hlt).trans h.s4, (hb.cell (p := ⟨b, o + 5, none⟩) hlt).trans h.s5⟩
/-- Which byte the m-th round takes. -/
def takes (m : Nat) : UInt8 := if m = 0 then 10 else if m = 1 then 92 else 34
def takenB (m : Nat) : List UInt8 := [10, 92, 34].take m
theorem Six.round {w : World} {b o : Nat} (h : Six w b o) (m : Nat) (hm : m < 3) :
    w.cell? ⟨b, o + (4 - 2 * m), none⟩ = some (.string (bs [takes m])) ∧ w.cell? ⟨b, o + (4 - 2 * m + 1), none⟩ = some (.string (bs (escB (takes m)))) ∧ takenB (m + 1) = takenB m ++ [takes m] ∧ takes m ∉ takenB m ∧ (escB (takes m)).length = 2 := by
  obtain rfl | rfl | rfl : m = 0 ∨ m = 1 ∨ m = 2 := by omega
  · exact ⟨h.s4, h.s5, rfl, by decide, rfl⟩
  · exact ⟨h.s2, h.s3, rfl, by decide, rfl⟩
  · exact ⟨h.s0, h.s1, rfl, by decide, rfl⟩
def ones (D : List UInt8) : List (List UInt8) := D.map fun c => [c]

end Go.Proofs.YtnfjlimecoikpaaGreatDoor
