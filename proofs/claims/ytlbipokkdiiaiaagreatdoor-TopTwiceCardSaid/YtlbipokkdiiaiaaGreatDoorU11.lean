/- Lemmas for TopTwice: W1, W2, W3. -/
import Derived.Test.YtlbipokkdiiaiaaGreatDoorU10
import Derived.Test.YtlbipokkdiiaiaaGreatDoorU05
import Derived.Deep.MidRow
import Derived.Deep.Cut
namespace Go.Proofs.YtlbipokkdiiaiaaGreatDoor
open Go.RowKit Go.Proofs.YtlbipokkdiiaiaaGreatDoor.Exec
set_option maxRecDepth 100000
abbrev Dg := { l : List UInt8 // l.length = 32 }
def dgc (d : Dg) : List Value := Lib.byteCells d.1
def dgv (d : Dg) : Value := .agg (dgc d).toArray
def dg0 : Dg := ⟨List.replicate 32 0, rfl⟩
theorem dgc_len (d : Dg) : (dgc d).length = 32 := by unfold dgc; rw [byteCells_len]; exact d.2
theorem dgc_one (d : Dg) : ∀ u ∈ dgc d, u.oneCell' = true := byteCells_one d.1
theorem bytes_inj : ∀ {a b : List UInt8}, Lib.byteCells a = Lib.byteCells b → a = b
 | [], [], _ => rfl
 | [], _ :: _, h => by simp [Lib.byteCells] at h
 | _ :: _, [], h => by simp [Lib.byteCells] at h
 | x :: a, y :: b, h => by
   simp only [Lib.byteCells, List.map_cons, List.cons.injEq, Value.int.injEq, true_and] at h
   rw [bytes_inj (show Lib.byteCells a = Lib.byteCells b from h.2)]
   congr 1
   have := h.1
   exact UInt8.toNat_inj.1 (by omega)
theorem dgc_inj {d e : Dg} (h : dgc d = dgc e) : d = e := Subtype.ext (bytes_inj h)
theorem sameInts_bytes : ∀ (a b : List UInt8), a.length = b.length → sameInts (Lib.byteCells a) (Lib.byteCells b) = some (decide (a = b))
 | [], [], _ => by simp [Lib.byteCells, sameInts]
 | [], _ :: _, h => by simp at h
 | _ :: _, [], h => by simp at h
 | x :: a, y :: b, h => by
   have ih := sameInts_bytes a b (by simpa using h)
   simp only [Lib.byteCells, List.map_cons, sameInts, if_true] at ih ⊢
   rw [ih]
   simp only [Option.map_some, Option.some.injEq, List.cons.injEq]
   by_cases e : x = y
   ·subst e; simp
   ·have : ((x.toNat : Int) == (y.toNat : Int)) = false := beq_eq_false_iff_ne.2 fun h => e (UInt8.toNat_inj.1 (by omega))
    rw [this]; simp [e]
theorem eq_dg (d e : Dg) (n : Nat) : aEqual Tryz.prog (n + 1) 31 (dgv d) (dgv e) = some (decide (d = e)) := by
 have hu : Tryz.prog.underlying 31 = some (.array 32 5) := by kernel_rfl
 have hi : Tryz.prog.underlying 5 = some (.int .u8) := by kernel_rfl
 obtain ⟨i, hi2, hz⟩ : ∃ i, Tryz.prog.info? 5 = some i ∧ i.size = 1 := ⟨_, rfl, by kernel_rfl⟩
 unfold aEqual dgv
 simp only [hu, hi, hi2, hz, List.size_toArray, dgc_len]
 have := sameInts_bytes d.1 e.1 (by rw [d.2, e.2])
 simp only [beq_self_eq_true, Bool.and_self, if_true]
 show sameInts (dgc d) (dgc e) = _
 unfold dgc
 rw [this]
 simp only [Option.some.injEq, decide_eq_decide]
 exact ⟨fun h => Subtype.ext h, fun h => by rw [h]⟩
theorem agg_eql (t : TypeId) (x y : Array Value) : binOp .eql t (.agg x) (.agg y) = (do pure (.bool (← Op.equal t (.agg x) (.agg y)))) := rfl
theorem agg_neq (t : TypeId) (x y : Array Value) : binOp .neq t (.agg x) (.agg y) = (do pure (.bool (!(← Op.equal t (.agg x) (.agg y))))) := rfl
structure RdL where
 path : List UInt8
 is : Bool
 sum : Dg
 deriving DecidableEq
structure MdL where
 path : List UInt8
 sum : Dg
 deriving DecidableEq
structure TcL where
 key : Dg
 reads : List RdL
 outs : List MdL
 deriving DecidableEq
def RdL.cells (r : RdL) : List Value := .string (bs r.path) :: .bool r.is :: dgc r.sum
def MdL.cells (m : MdL) : List Value := .string (bs m.path) :: dgc m.sum
theorem RdL.len (r : RdL) : r.cells.length = 34 := by simp [RdL.cells, dgc_len]
theorem MdL.len (m : MdL) : m.cells.length = 33 := by simp [MdL.cells, dgc_len]
theorem RdL.one (r : RdL) : ∀ u ∈ r.cells, u.oneCell' = true := by
 intro u hu
 simp only [RdL.cells, List.mem_cons] at hu
 rcases hu with rfl | rfl | hu
 ·rfl
 ·rfl
 ·exact dgc_one _ u hu
theorem MdL.one (r : MdL) : ∀ u ∈ r.cells, u.oneCell' = true := by
 intro u hu
 simp only [MdL.cells, List.mem_cons] at hu
 rcases hu with rfl | hu
 ·rfl
 ·exact dgc_one _ u hu
theorem eq_str (a b : List UInt8) (n : Nat) : aEqual Tryz.prog (n + 1) 9 (.string (bs a)) (.string (bs b)) = some (decide (a = b)) := by
 have hu : Tryz.prog.underlying 9 = some .string := by kernel_rfl
 unfold aEqual
 simp only [hu, Option.some.injEq]
 show (a.toArray == b.toArray) = _
 by_cases h : a = b
 ·subst h; simp
 ·rw [decide_eq_false h]
  exact beq_eq_false_iff_ne.2 fun e => h (by simpa using e)
theorem eq_bool (a b : Bool) (n : Nat) : aEqual Tryz.prog (n + 1) 4 (.bool a) (.bool b) = some (decide (a = b)) := by
 have hu : Tryz.prog.underlying 4 = some .bool := by kernel_rfl
 unfold aEqual
 simp only [hu, Option.some.injEq]
 cases a <;> cases b <;> rfl
theorem part_dg (c : Array Value) (o : Nat) (d : Dg) (h : c.extract o (o + 32) = (dgc d).toArray) : aPart Tryz.prog 31 c o = some (dgv d) := by
 have hu : Tryz.prog.underlying 31 = some (.array 32 5) := by kernel_rfl
 obtain ⟨i, hi2, hz⟩ : ∃ i, Tryz.prog.info? 31 = some i ∧ i.size = 32 := ⟨_, rfl, by kernel_rfl⟩
 unfold aPart
 simp only [hu, hi2, hz, h]; rfl
theorem part_str (c : Array Value) (o : Nat) : aPart Tryz.prog 9 c o = c[o]? := by
 have hu : Tryz.prog.underlying 9 = some .string := by kernel_rfl
 obtain ⟨i, hi⟩ : ∃ i, Tryz.prog.info? 9 = some i := ⟨_, rfl⟩
 unfold aPart
 simp only [hu, hi]
theorem part_bool (c : Array Value) (o : Nat) : aPart Tryz.prog 4 c o = c[o]? := by
 have hu : Tryz.prog.underlying 4 = some .bool := by kernel_rfl
 obtain ⟨i, hi⟩ : ∃ i, Tryz.prog.info? 4 = some i := ⟨_, rfl⟩
 unfold aPart
 simp only [hu, hi]
theorem drop_cells (l r : List Value) (n : Nat) (h : r.length = n) (o : Nat) (ho : l.length = o) : (l ++ r).toArray.extract o (o + n) = r.toArray := by
 subst ho h
 apply Array.ext'
 simp [List.extract_eq_take_drop]
theorem eq_rd (r s : RdL) (n : Nat) : aEqual Tryz.prog (n + 2) 100 (.agg r.cells.toArray) (.agg s.cells.toArray) = some (decide (r = s)) := by
 obtain ⟨f0, f1, f2, hu, k0, k1, k2⟩ : ∃ f0 f1 f2 : Field, Tryz.prog.underlying 100 = some (.struct #[f0, f1, f2]) ∧ (f0.name ≠ "_" ∧ f0.type = 9 ∧ f0.offset = 0) ∧ (f1.name ≠ "_" ∧ f1.type = 4 ∧ f1.offset = 1) ∧ (f2.name ≠ "_" ∧ f2.type = 31 ∧ f2.offset = 2) :=
  ⟨_, _, _, rfl, ⟨by decide, by kernel_rfl, by kernel_rfl⟩, ⟨by decide, by kernel_rfl, by kernel_rfl⟩, ⟨by decide, by kernel_rfl, by kernel_rfl⟩⟩
 have hs : Tryz.prog.stoodInHeld 100 = false := by kernel_rfl
 have p2 : ∀ q : RdL, aPart Tryz.prog 31 q.cells.toArray 2 = some (dgv q.sum) := fun q => part_dg _ 2 q.sum (drop_cells [.string (bs q.path), .bool q.is] (dgc q.sum) 32 (dgc_len _) 2 rfl)
 unfold aEqual
 simp only [hu, hs, Bool.false_eq_true, if_false, aEqFields, k0.1, k0.2.1, k0.2.2, k1.1, k1.2.1, k1.2.2, k2.1, k2.2.1, k2.2.2, p2, part_str, part_bool]
 simp only [RdL.cells, List.getElem?_toArray, List.getElem?_cons_zero, List.getElem?_cons_succ, eq_str, eq_bool, eq_dg]
 obtain ⟨p, i, d⟩ := r
 obtain ⟨q, j, e⟩ := s
 by_cases h1 : p = q
 ·by_cases h2 : i = j
  ·by_cases h3 : d = e
   ·simp [h1, h2, h3]
   ·simp [h1, h2, h3]
  ·simp [h1, h2]
 ·simp [h1]
theorem eq_md (r s : MdL) (n : Nat) : aEqual Tryz.prog (n + 2) 54 (.agg r.cells.toArray) (.agg s.cells.toArray) = some (decide (r = s)) := by
 obtain ⟨f0, f2, hu, k0, k2⟩ : ∃ f0 f2 : Field, Tryz.prog.underlying 54 = some (.struct #[f0, f2]) ∧ (f0.name ≠ "_" ∧ f0.type = 9 ∧ f0.offset = 0) ∧ (f2.name ≠ "_" ∧ f2.type = 31 ∧ f2.offset = 1) :=
  ⟨_, _, rfl, ⟨by decide, by kernel_rfl, by kernel_rfl⟩, ⟨by decide, by kernel_rfl, by kernel_rfl⟩⟩
 have hs : Tryz.prog.stoodInHeld 54 = false := by kernel_rfl
 have p2 : ∀ q : MdL, aPart Tryz.prog 31 q.cells.toArray 1 = some (dgv q.sum) := fun q => part_dg _ 1 q.sum (drop_cells [.string (bs q.path)] (dgc q.sum) 32 (dgc_len _) 1 rfl)
 unfold aEqual
 simp only [hu, hs, Bool.false_eq_true, if_false, aEqFields, k0.1, k0.2.1, k0.2.2, k2.1, k2.2.1, k2.2.2, p2, part_str]
 simp only [MdL.cells, List.getElem?_toArray, List.getElem?_cons_zero, eq_str, eq_dg]
 obtain ⟨p, d⟩ := r
 obtain ⟨q, e⟩ := s
 by_cases h1 : p = q
 ·by_cases h3 : d = e
  ·simp [h1, h3]
  ·simp [h1, h3]
 ·simp [h1]
end Go.Proofs.YtlbipokkdiiaiaaGreatDoor
namespace Go.Proofs.YtlbipokkdiiaiaaGreatDoor
open Go.RowKit Go.Proofs.YtlbipokkdiiaiaaGreatDoor.Exec
set_option maxRecDepth 100000
theorem flat_at {α : Type} (f : α → List Value) (sz : Nat) (hs : ∀ x, (f x).length = sz) : ∀ (l : List α) (k : Nat) (hk : k < l.length) (j : Nat), j < sz → (l.flatMap f)[k * sz + j]? = (f l[k])[j]?
 | x :: l, 0, _, j, hj => by rw [List.flatMap_cons, Nat.zero_mul, Nat.zero_add, List.getElem?_append_left (by rw [hs]; exact hj)]; rfl
 | x :: l, k + 1, hk, j, hj => by
   rw [List.flatMap_cons, List.getElem?_append_right (by rw [hs, Nat.succ_mul]; omega), hs, show (k + 1) * sz + j - sz = k * sz + j by rw [Nat.succ_mul]; omega]
   exact flat_at f sz hs l k (by simpa using hk) j hj
 | [], _, hk, _, _ => by simp at hk
theorem flat_len {α : Type} (f : α → List Value) (sz : Nat) (hs : ∀ x, (f x).length = sz) : ∀ l : List α, (l.flatMap f).length = l.length * sz
 | [] => by simp
 | x :: l => by rw [List.flatMap_cons, List.length_append, hs, flat_len f sz hs l, List.length_cons, Nat.succ_mul]; omega
def RowsOf {α : Type} (w : World) (sz : Nat) (f : α → List Value) (v : Value) (l : List α) : Prop := SliceAt w sz v l.length (l.flatMap f)
theorem RowsOf.out {α : Type} {w : World} {sz : Nat} {f : α → List Value} {v : Value} {l : List α} (hs : ∀ x, (f x).length = sz) (h0 : 0 < sz) (h : RowsOf w sz f v l) : ∃ a c, v = .slice a l.length c ∧ l.length ≤ c ∧ c ≤ maxLen ∧ (a = none → c = 0) ∧
  (∀ k, k < l.length → ∃ b off, a = some ⟨b, off, none⟩ ∧ b < w.heap.size ∧ ∀ j (hj : j < l.length), w.rangeAt b (off + j * sz) (f l[j])) := by
 obtain ⟨hl, a, c, rfl, hc, hm, hn, hx⟩ := h
 refine ⟨a, c, rfl, hc, hm, hn, fun k hk => ?_⟩
 obtain ⟨b, off, rfl, hlt, hcell⟩ := hx (by intro e; have := flat_len f sz hs l; rw [e] at this; have h1 : 1 ≤ l.length * sz := Nat.le_trans (by omega) (Nat.mul_le_mul (show 1 ≤ l.length by omega) h0); simp at this; omega)
 refine ⟨b, off, rfl, hlt, fun j hj i u hu => ?_⟩
 have hi : i < sz := by rw [← hs l[j]]; exact (List.getElem?_eq_some_iff.1 hu).1
 rw [Nat.add_assoc]
 exact hcell _ _ (by rw [flat_at f sz hs l j hj i hi]; exact hu)
theorem RowsOf.below {α : Type} {w w' : World} {sz B : Nat} {f : α → List Value} {v : Value} {l : List α} (h : RowsOf w sz f v l) (hb : Below B w w') (hB : w.heap.size ≤ B) : RowsOf w' sz f v l := SliceAt.below h hb hB
theorem range_keeps {w W : World} (hW : Below w.heap.size w W) {b o : Nat} {cs : List Value} (h : w.rangeAt b o cs) : W.rangeAt b o cs := fun j v hv => Below.keeps hW (h j v hv)
structure RowTy (ty n : Nat) : Prop where
 out : ∃ d : TypeDesc, Tryz.prog.underlying ty = some d ∧ d.isRow = true ∧ (Tryz.prog.info? ty).map (·.size) = some n
theorem rt31 : RowTy 31 32 := ⟨_, Tryz.underlying31, rfl, by kernel_rfl⟩
theorem rt34 : RowTy 34 37 := ⟨_, Tryz.underlying34, rfl, by kernel_rfl⟩
theorem rt44 : RowTy 44 34 := ⟨_, Tryz.underlying44, rfl, by kernel_rfl⟩
theorem rt54 : RowTy 54 33 := ⟨_, Tryz.underlying54, rfl, by kernel_rfl⟩
theorem rt100 : RowTy 100 34 := ⟨_, Tryz.underlying100, rfl, by kernel_rfl⟩
theorem RowTy.ld {ty n : Nat} (h : RowTy ty n) {w : World} {b o : Nat} {cs : List Value} (hr : w.rangeAt b o cs) (hl : cs.length = n) :
  (Instr.loadAt ty (.pointer (some ⟨b, o, none⟩))).run Tryz.prog w = .ok (.agg cs.toArray) w := by
 obtain ⟨d, h1, h2, h3⟩ := h.out
 exact run_loadAt_mid w b o ty cs d hr h1 h2 (by rw [hl]; exact h3)
section
variable {ops : Array Oper} {rest : List Oper} {o : Oper} {a : Act} {w w' : World} {Q : Exit → Act → World → Prop} {C : World → Prop} {QA : Act → Prop} {v : Value}
theorem wl_run (hr : (execOp a.eval o).run Tryz.prog w = .ok (.value v) w') (h : wpList Tryz.prog ops Q rest (a.put o.dst v) w') (hw : Region.wanted o (yielded ops a.tmps) = true := by rfl) : wpList Tryz.prog ops Q (o :: rest) a w := by
 refine wpList_step fun K hK => ?_
 rw [if_pos hw]
 unfold Oper.wp
 rw [hr]
 exact hK _ _ h
theorem WQ.run (hr : ∀ W, C W → (execOp a.eval o).run Tryz.prog W = .ok (.value v) W) (h : WQ Tryz.prog ops C QA rest (a.put o.dst v)) (hw : Region.wanted o (yielded ops a.tmps) = true := by rfl) : WQ Tryz.prog ops C QA (o :: rest) a := by
 refine WQ.step fun K hK => ?_
 rw [if_pos hw]
 exact ⟨v, fun W hW => by unfold Oper.quietAt; rw [hr W hW]; exact ⟨rfl, rfl⟩, hK _ h⟩
theorem r_ld {ty n : Nat} (h : RowTy ty n) {b off : Nat} {cs : List Value} {x : Operand} (hr : w.rangeAt b off cs) (hl : cs.length = n) (ho : o.op = .load ty x) (hx : a.eval x = .pointer (some ⟨b, off, none⟩)) :
  (execOp a.eval o).run Tryz.prog w = .ok (.value (.agg cs.toArray)) w := by
 unfold execOp
 simp only [ho, hx, Sem.run_bind, h.ld hr hl, Result.andThen_ok, Sem.run_pure]
theorem wl_ld {ty n : Nat} (h : RowTy ty n) {b off : Nat} {cs : List Value} {x : Operand} (hr : w.rangeAt b off cs) (hl : cs.length = n) (hk : wpList Tryz.prog ops Q rest (a.put o.dst (.agg cs.toArray)) w) (ho : o.op = .load ty x := by rfl) (hx : a.eval x = .pointer (some ⟨b, off, none⟩) := by rfl) (hw : Region.wanted o (yielded ops a.tmps) = true := by rfl) :
  wpList Tryz.prog ops Q (o :: rest) a w := wl_run (r_ld h hr hl ho hx) hk hw
theorem WQ.ld {ty n : Nat} (h : RowTy ty n) {b off : Nat} {cs : List Value} {x : Operand} (hr : ∀ W, C W → W.rangeAt b off cs) (hl : cs.length = n) (hk : WQ Tryz.prog ops C QA rest (a.put o.dst (.agg cs.toArray))) (ho : o.op = .load ty x := by rfl) (hx : a.eval x = .pointer (some ⟨b, off, none⟩) := by rfl) (hw : Region.wanted o (yielded ops a.tmps) = true := by rfl) :
  WQ Tryz.prog ops C QA (o :: rest) a := WQ.run (fun W hW => r_ld h (hr W hW) hl ho hx) hk hw
structure EqTy (t : TypeId) (x y : Array Value) (r : Bool) : Prop where
 out : aEqual Tryz.prog 4 t (.agg x) (.agg y) = some r
 gd : Tryz.prog.eqGuardType Tryz.prog.depth t = false
theorem r_eql {t : TypeId} {x' y' : Array Value} {r : Bool} (h : EqTy t x' y' r) {x y : Operand} {t2 : TypeId} (ho : o.op = .binOp .eql t x y t2) (hx : a.eval x = .agg x') (hy : a.eval y = .agg y') :
  (execOp a.eval o).run Tryz.prog w = .ok (.value (.bool r)) w := by
 unfold execOp
 have heg : (eqGuard .eql t x y (.agg x') (.agg y')).run Tryz.prog w = .ok () w := by simp [eqGuard, h.gd]
 simp only [ho, hx, hy, Sem.run_bind, heg, agg_eql, run_equal' h.out, Result.andThen_ok, Sem.run_pure]
theorem r_neq {t : TypeId} {x' y' : Array Value} {r : Bool} (h : EqTy t x' y' r) {x y : Operand} {t2 : TypeId} (ho : o.op = .binOp .neq t x y t2) (hx : a.eval x = .agg x') (hy : a.eval y = .agg y') :
  (execOp a.eval o).run Tryz.prog w = .ok (.value (.bool (!r))) w := by
 unfold execOp
 have heg : (eqGuard .neq t x y (.agg x') (.agg y')).run Tryz.prog w = .ok () w := by simp [eqGuard, h.gd]
 simp only [ho, hx, hy, Sem.run_bind, heg, agg_neq, run_equal' h.out, Result.andThen_ok, Sem.run_pure]
theorem wl_eql {t : TypeId} {x' y' : Array Value} {r : Bool} (h : EqTy t x' y' r) {x y : Operand} {t2 : TypeId} (hk : wpList Tryz.prog ops Q rest (a.put o.dst (.bool r)) w) (ho : o.op = .binOp .eql t x y t2 := by rfl) (hx : a.eval x = .agg x' := by rfl) (hy : a.eval y = .agg y' := by rfl) (hw : Region.wanted o (yielded ops a.tmps) = true := by rfl) :
  wpList Tryz.prog ops Q (o :: rest) a w := wl_run (r_eql h ho hx hy) hk hw
theorem wl_neq {t : TypeId} {x' y' : Array Value} {r : Bool} (h : EqTy t x' y' r) {x y : Operand} {t2 : TypeId} (hk : wpList Tryz.prog ops Q rest (a.put o.dst (.bool (!r))) w) (ho : o.op = .binOp .neq t x y t2 := by rfl) (hx : a.eval x = .agg x' := by rfl) (hy : a.eval y = .agg y' := by rfl) (hw : Region.wanted o (yielded ops a.tmps) = true := by rfl) :
  wpList Tryz.prog ops Q (o :: rest) a w := wl_run (r_neq h ho hx hy) hk hw
theorem WQ.eql {t : TypeId} {x' y' : Array Value} {r : Bool} (h : EqTy t x' y' r) {x y : Operand} {t2 : TypeId} (hk : WQ Tryz.prog ops C QA rest (a.put o.dst (.bool r))) (ho : o.op = .binOp .eql t x y t2 := by rfl) (hx : a.eval x = .agg x' := by rfl) (hy : a.eval y = .agg y' := by rfl) (hw : Region.wanted o (yielded ops a.tmps) = true := by rfl) :
  WQ Tryz.prog ops C QA (o :: rest) a := WQ.run (fun _ _ => r_eql h ho hx hy) hk hw
theorem WQ.neq {t : TypeId} {x' y' : Array Value} {r : Bool} (h : EqTy t x' y' r) {x y : Operand} {t2 : TypeId} (hk : WQ Tryz.prog ops C QA rest (a.put o.dst (.bool (!r)))) (ho : o.op = .binOp .neq t x y t2 := by rfl) (hx : a.eval x = .agg x' := by rfl) (hy : a.eval y = .agg y' := by rfl) (hw : Region.wanted o (yielded ops a.tmps) = true := by rfl) :
  WQ Tryz.prog ops C QA (o :: rest) a := WQ.run (fun _ _ => r_neq h ho hx hy) hk hw
end
theorem eqt31 (d e : Dg) : EqTy 31 (dgc d).toArray (dgc e).toArray (decide (d = e)) := ⟨eq_dg d e 3, by kernel_rfl⟩
theorem eqt100 (d e : RdL) : EqTy 100 d.cells.toArray e.cells.toArray (decide (d = e)) := ⟨eq_rd d e 2, by kernel_rfl⟩
theorem eqt54 (d e : MdL) : EqTy 54 d.cells.toArray e.cells.toArray (decide (d = e)) := ⟨eq_md d e 2, by kernel_rfl⟩
theorem same_stepD {α : Type} {l r : List α} {k : Nat} (h0 : k < l.length) (h1 : k < r.length) (he : l.take k = r.take k) (hk : l[k] = r[k]) : l.take (k + 1) = r.take (k + 1) := by
 rw [take_at _ _ h0, take_at _ _ h1, he, hk]
set_option maxHeartbeats 1000000 in
theorem eqReads_any (v0 v1 : Value) (l r : List RdL) (w : World) (h0 : RowsOf w 34 RdL.cells v0 l) (h1 : RowsOf w 34 RdL.cells v1 r) :
  Calls Tryz.prog 40 #[v0, v1] w fun e w' => e = .returned (.bool (decide (l = r))) ∧ Below w.heap.size w w' := by
 obtain ⟨a0, c0, rfl, hc0, hm0, -, hx0⟩ := h0.out RdL.len (by omega)
 obtain ⟨a1, c1, rfl, hc1, hm1, -, hx1⟩ := h1.out RdL.len (by omega)
 clear h0 h1
 unfold maxLen at hm0 hm1
 by_cases hlen : l.length = r.length
 ·have hb : ((l.length : Int) != (r.length : Int)) = false := by simp [hlen]
  have hl1 : l.length ≤ r.length := by omega
  have hl2 : r.length ≤ l.length := by omega
  clear hlen
  go_enter Tryz.func40, Tryz.ntmps40
  go_wp2
  go_loopw [13] (fun i wr => ∃ k : Nat, k ≤ l.length ∧ i = .int .i64 k ∧ l.take k = r.take k ∧ Below w.heap.size w wr) (fun i _ => l.length - (intOf i).toNat)
  case atStart => exact ⟨0, by omega, rfl, by simp, Below.refl _ _⟩
  case round =>
   obtain ⟨k, hk, rfl, he, hbe⟩ := hrel
   have He := hid he; clear he
   by_cases hlt : k < l.length
   ·have hlt' : k < r.length := by omega
    obtain ⟨b0, o0, rfl, hb0, hcl0⟩ := hx0 k hlt
    obtain ⟨b1, o1, rfl, hb1, hcl1⟩ := hx1 k hlt'
    have L0 := range_keeps hbe (hcl0 k hlt)
    have L1 := range_keeps hbe (hcl1 k hlt')
    have HS := hid (fun h => same_stepD hlt hlt' He.out h)
    have HN := hid (fun h : ¬ l[k] = r[k] => fun e : l = r => h (by subst e; rfl))
    have HB := hid hbe
    clear hcl0 hcl1 hx0 hx1 hbe
    go_wp2
    refine wp_region_wq (by kernel_rfl) (by kernel_rfl) ?_
    repeat (first | refine WQ.ld rt100 (fun W hW => range_keeps hW L0) (RdL.len _) ?_ | refine WQ.ld rt100 (fun W hW => range_keeps hW L1) (RdL.len _) ?_ | refine WQ.neq (eqt100 _ _) ?_ | (refine WQ.step (fun K hK => ?_); go_simp; first | (refine hK _ ?_; clear hK K) | (apply Exists.intro; refine ⟨fun W hW => ?_, hK _ ?_⟩; (first | with_reducible rfl | (go_simp; first | rfl | exact ⟨rfl, rfl⟩)); clear hK K)))
    refine WQ.nil ?_
    intro wq hwq
    by_cases hq : l[k] = r[k]
    ·rw [decide_eq_true hq]
     go_wp2
     exact ⟨⟨k + 1, by omega, by go_num, HS.out hq, Below.chain HB.out hwq⟩, by simp [intOf]; omega⟩
    ·rw [decide_eq_false hq]
     go_wp2
     go_ret
     exact ⟨by rw [decide_eq_false (HN.out hq)]; rfl, Below.chain HB.out hwq⟩
   ·go_wp2
    go_ret
    exact ⟨by rw [decide_eq_true (by rw [← List.take_of_length_le (l := l) (i := k) (by omega), He.out, List.take_of_length_le (by omega)])]; rfl, hbe⟩
 ·have hb : ((l.length : Int) != (r.length : Int)) = true := by simp; omega
  go_enter Tryz.func40, Tryz.ntmps40
  go_wp2
  go_ret
  exact ⟨by rw [decide_eq_false (by rintro rfl; exact hlen rfl)]; rfl, Below.refl _ _⟩
set_option maxHeartbeats 1000000 in
theorem eqMades_any (v0 v1 : Value) (l r : List MdL) (w : World) (h0 : RowsOf w 33 MdL.cells v0 l) (h1 : RowsOf w 33 MdL.cells v1 r) :
  Calls Tryz.prog 41 #[v0, v1] w fun e w' => e = .returned (.bool (decide (l = r))) ∧ Below w.heap.size w w' := by
 obtain ⟨a0, c0, rfl, hc0, hm0, -, hx0⟩ := h0.out MdL.len (by omega)
 obtain ⟨a1, c1, rfl, hc1, hm1, -, hx1⟩ := h1.out MdL.len (by omega)
 clear h0 h1
 unfold maxLen at hm0 hm1
 by_cases hlen : l.length = r.length
 ·have hb : ((l.length : Int) != (r.length : Int)) = false := by simp [hlen]
  have hl1 : l.length ≤ r.length := by omega
  have hl2 : r.length ≤ l.length := by omega
  clear hlen
  go_enter Tryz.func41, Tryz.ntmps41
  go_wp2
  go_loopw [13] (fun i wr => ∃ k : Nat, k ≤ l.length ∧ i = .int .i64 k ∧ l.take k = r.take k ∧ Below w.heap.size w wr) (fun i _ => l.length - (intOf i).toNat)
  case atStart => exact ⟨0, by omega, rfl, by simp, Below.refl _ _⟩
  case round =>
   obtain ⟨k, hk, rfl, he, hbe⟩ := hrel
   have He := hid he; clear he
   by_cases hlt : k < l.length
   ·have hlt' : k < r.length := by omega
    obtain ⟨b0, o0, rfl, hb0, hcl0⟩ := hx0 k hlt
    obtain ⟨b1, o1, rfl, hb1, hcl1⟩ := hx1 k hlt'
    have L0 := range_keeps hbe (hcl0 k hlt)
    have L1 := range_keeps hbe (hcl1 k hlt')
    have HS := hid (fun h => same_stepD hlt hlt' He.out h)
    have HN := hid (fun h : ¬ l[k] = r[k] => fun e : l = r => h (by subst e; rfl))
    have HB := hid hbe
    clear hcl0 hcl1 hx0 hx1 hbe
    go_wp2
    refine wp_region_wq (by kernel_rfl) (by kernel_rfl) ?_
    repeat (first | refine WQ.ld rt54 (fun W hW => range_keeps hW L0) (MdL.len _) ?_ | refine WQ.ld rt54 (fun W hW => range_keeps hW L1) (MdL.len _) ?_ | refine WQ.neq (eqt54 _ _) ?_ | (refine WQ.step (fun K hK => ?_); go_simp; first | (refine hK _ ?_; clear hK K) | (apply Exists.intro; refine ⟨fun W hW => ?_, hK _ ?_⟩; (first | with_reducible rfl | (go_simp; first | rfl | exact ⟨rfl, rfl⟩)); clear hK K)))
    refine WQ.nil ?_
    intro wq hwq
    by_cases hq : l[k] = r[k]
    ·rw [decide_eq_true hq]
     go_wp2
     exact ⟨⟨k + 1, by omega, by go_num, HS.out hq, Below.chain HB.out hwq⟩, by simp [intOf]; omega⟩
    ·rw [decide_eq_false hq]
     go_wp2
     go_ret
     exact ⟨by rw [decide_eq_false (HN.out hq)]; rfl, Below.chain HB.out hwq⟩
   ·go_wp2
    go_ret
    exact ⟨by rw [decide_eq_true (by rw [← List.take_of_length_le (l := l) (i := k) (by omega), He.out, List.take_of_length_le (by omega)])]; rfl, hbe⟩
 ·have hb : ((l.length : Int) != (r.length : Int)) = true := by simp; omega
  go_enter Tryz.func41, Tryz.ntmps41
  go_wp2
  go_ret
  exact ⟨by rw [decide_eq_false (by rintro rfl; exact hlen rfl)]; rfl, Below.refl _ _⟩
end Go.Proofs.YtlbipokkdiiaiaaGreatDoor
namespace Go.Proofs.YtlbipokkdiiaiaaGreatDoor
open Go.RowKit Go.Proofs.YtlbipokkdiiaiaaGreatDoor.Exec
set_option maxRecDepth 100000
theorem range_of_heap {w : World} {b : Nat} {cs : List Value} {t : TypeId} {fr : Nat × Nat} (h : w.heap[b]? = some (.cells cs.toArray t fr)) : w.rangeAt b 0 cs := fun j v hv => by
 rw [cell_of_row w b (0 + j) cs.toArray t fr h, Nat.zero_add]; simpa using hv
theorem range_app {w : World} {b o : Nat} {l r : List Value} (h : w.rangeAt b o (l ++ r)) : w.rangeAt b o l ∧ w.rangeAt b (o + l.length) r :=
 ⟨fun j v hv => h j v (by rw [List.getElem?_append_left (List.getElem?_eq_some_iff.1 hv).1]; exact hv), fun j v hv => by
  rw [Nat.add_assoc]; exact h _ v (by rw [List.getElem?_append_right (by omega), Nat.add_sub_cancel_left]; exact hv)⟩
theorem range_cons {w : World} {b o : Nat} {v : Value} {r : List Value} (h : w.rangeAt b o (v :: r)) : w.cell? ⟨b, o, none⟩ = some v ∧ w.rangeAt b (o + 1) r :=
 ⟨h 0 v rfl, fun j u hu => by rw [show o + 1 + j = o + (j + 1) by omega]; exact h (j + 1) u (by simpa using hu)⟩
structure TcM where
 t : TcL
 rv : Value
 ov : Value
def TcM.cells (x : TcM) : List Value := dgc x.t.key ++ [x.rv, x.ov]
def TcM.val (x : TcM) : Value := .agg x.cells.toArray
def HeldT (w : World) (x : TcM) : Prop := RowsOf w 34 RdL.cells x.rv x.t.reads ∧ RowsOf w 33 MdL.cells x.ov x.t.outs
theorem TcM.len (x : TcM) : x.cells.length = 34 := by simp [TcM.cells, dgc_len]
theorem HeldT.below {w w' : World} {B : Nat} {x : TcM} (h : HeldT w x) (hb : Below B w w') (hB : w.heap.size ≤ B) : HeldT w' x := ⟨h.1.below hb hB, h.2.below hb hB⟩
theorem HeldT.keep {w w' : World} {x : TcM} (h : HeldT w x) (hb : Below w.heap.size w w') : HeldT w' x := h.below hb (Nat.le_refl _)
theorem TcM.parts {w : World} {b o : Nat} {x : TcM} (h : w.rangeAt b o x.cells) : w.rangeAt b o (dgc x.t.key) ∧ w.cell? ⟨b, o + 32, none⟩ = some x.rv ∧ w.cell? ⟨b, o + 33, none⟩ = some x.ov := by
 obtain ⟨h1, h2⟩ := range_app h
 rw [dgc_len] at h2
 obtain ⟨h3, h4⟩ := range_cons h2
 exact ⟨h1, h3, (range_cons h4).1⟩
theorem TcM.parts0 {w : World} {b : Nat} {x : TcM} {t : TypeId} {fr : Nat × Nat} (h : w.heap[b]? = some (.cells x.cells.toArray t fr)) : w.rangeAt b 0 (dgc x.t.key) ∧ w.cell? ⟨b, 32, none⟩ = some x.rv ∧ w.cell? ⟨b, 33, none⟩ = some x.ov := by
 simpa using TcM.parts (range_of_heap h)
theorem rows_one {α : Type} {w : World} {sz : Nat} {f : α → List Value} {v : Value} {l : List α} (h : RowsOf w sz f v l) : v.oneCell' = true := by
 obtain ⟨_, a, c, rfl, _⟩ := h; rfl
theorem HeldT.one {w : World} {x : TcM} (h : HeldT w x) : ∀ u ∈ x.cells, u.oneCell' = true := by
 intro u hu
 simp only [TcM.cells, List.mem_append, List.mem_cons, List.not_mem_nil, or_false] at hu
 rcases hu with hu | rfl | rfl
 ·exact dgc_one _ u hu
 ·exact rows_one h.1
 ·exact rows_one h.2
theorem eqt_is {t : TypeId} {x y : Array Value} {p : Prop} [Decidable p] (h : EqTy t x y (decide p)) (b : Bool) (hb : decide p = b) : EqTy t x y b := hb ▸ h
theorem eqReads_is (b : Bool) (v0 v1 : Value) (l r : List RdL) (w : World) (h0 : RowsOf w 34 RdL.cells v0 l) (h1 : RowsOf w 34 RdL.cells v1 r) (hb : decide (l = r) = b) :
  Calls Tryz.prog 40 #[v0, v1] w fun e w' => e = .returned (.bool b) ∧ Below w.heap.size w w' := hb ▸ eqReads_any v0 v1 l r w h0 h1
theorem eqMades_is (b : Bool) (v0 v1 : Value) (l r : List MdL) (w : World) (h0 : RowsOf w 33 MdL.cells v0 l) (h1 : RowsOf w 33 MdL.cells v1 r) (hb : decide (l = r) = b) :
  Calls Tryz.prog 41 #[v0, v1] w fun e w' => e = .returned (.bool b) ∧ Below w.heap.size w w' := hb ▸ eqMades_any v0 v1 l r w h0 h1
set_option maxHeartbeats 1000000 in
theorem sameT_any (x y : TcM) (w : World) (hx : HeldT w x) (hy : HeldT w y) :
  Calls Tryz.prog 12 #[x.val, y.val] w fun e w' => e = .returned (.bool (decide (x.t = y.t))) ∧ Below w.heap.size w w' := by
 unfold TcM.val
 have HX := hid hx
 have HY := hid hy
 clear hx hy
 go_enter Tryz.func12, Tryz.ntmps12
 go_upto_region 1 with fail
 obtain ⟨W0, hW0, hb0, hn0, hn1⟩ := an2 w (.cells x.cells.toArray 44) (.cells y.cells.toArray 44)
 rw [← hW0.out]
 clear hW0
 obtain ⟨x0, x1, x2⟩ := TcM.parts0 hn0
 obtain ⟨y0, y1, y2⟩ := TcM.parts0 hn1
 have HB := hid hb0
 have HX0 := hid (HX.out.keep hb0)
 have HY0 := hid (HY.out.keep hb0)
 clear hn0 hn1 HX HY hb0
 by_cases hk : x.t.key = y.t.key
 ·have E := eqt_is (eqt31 x.t.key y.t.key) true (decide_eq_true hk)
  by_cases hr : x.t.reads = y.t.reads
  ·have HR := hid (eqReads_is true x.rv y.rv _ _ W0 HX0.out.1 HY0.out.1 (decide_eq_true hr))
   by_cases ho : x.t.outs = y.t.outs
   ·have HO := hid (fun (W1 : World) (hb : Below W0.heap.size W0 W1) => eqMades_is true x.ov y.ov _ _ W1 (HX0.out.keep hb).2 (HY0.out.keep hb).2 (decide_eq_true ho))
    have HD := hid (show x.t = y.t by cases hx : x.t; cases hy : y.t; simp_all)
    clear hk hr ho
    go_wp2_with first | (refine wl_ld rt31 x0 (dgc_len _) ?_) | (refine wl_ld rt31 y0 (dgc_len _) ?_) | (refine wl_eql E ?_) | (go_at_call 40; refine (HR.out).mono ?_; rintro e w1 ⟨rfl, hb1⟩; have x2' := Below.keeps hb1 x2; have y2' := Below.keeps hb1 y2) | (go_at_call 41; refine (HO.out _ hb1).mono ?_; rintro e w2 ⟨rfl, hb2⟩)
    go_ret
    exact ⟨by rw [decide_eq_true HD.out]; rfl, Below.chain HB.out (Below.chain hb1 hb2)⟩
   ·have HO := hid (fun (W1 : World) (hb : Below W0.heap.size W0 W1) => eqMades_is false x.ov y.ov _ _ W1 (HX0.out.keep hb).2 (HY0.out.keep hb).2 (decide_eq_false ho))
    have HD := hid (show ¬ x.t = y.t from fun e => ho (by rw [e]))
    clear hk hr ho
    go_wp2_with first | (refine wl_ld rt31 x0 (dgc_len _) ?_) | (refine wl_ld rt31 y0 (dgc_len _) ?_) | (refine wl_eql E ?_) | (go_at_call 40; refine (HR.out).mono ?_; rintro e w1 ⟨rfl, hb1⟩; have x2' := Below.keeps hb1 x2; have y2' := Below.keeps hb1 y2) | (go_at_call 41; refine (HO.out _ hb1).mono ?_; rintro e w2 ⟨rfl, hb2⟩)
    go_ret
    exact ⟨by rw [decide_eq_false HD.out]; rfl, Below.chain HB.out (Below.chain hb1 hb2)⟩
  ·have HR := hid (eqReads_is false x.rv y.rv _ _ W0 HX0.out.1 HY0.out.1 (decide_eq_false hr))
   have HD := hid (show ¬ x.t = y.t from fun e => hr (by rw [e]))
   clear hk hr
   go_wp2_with first | (refine wl_ld rt31 x0 (dgc_len _) ?_) | (refine wl_ld rt31 y0 (dgc_len _) ?_) | (refine wl_eql E ?_) | (go_at_call 40; refine (HR.out).mono ?_; rintro e w1 ⟨rfl, hb1⟩; have x2' := Below.keeps hb1 x2; have y2' := Below.keeps hb1 y2)
   go_ret
   exact ⟨by rw [decide_eq_false HD.out]; rfl, Below.chain HB.out hb1⟩
 ·have E := eqt_is (eqt31 x.t.key y.t.key) false (decide_eq_false hk)
  have HD := hid (show ¬ x.t = y.t from fun e => hk (by rw [e]))
  clear hk
  go_wp2_with first | (refine wl_ld rt31 x0 (dgc_len _) ?_) | (refine wl_ld rt31 y0 (dgc_len _) ?_) | (refine wl_eql E ?_)
  go_ret
  exact ⟨by rw [decide_eq_false HD.out]; rfl, HB.out⟩
end Go.Proofs.YtlbipokkdiiaiaaGreatDoor
