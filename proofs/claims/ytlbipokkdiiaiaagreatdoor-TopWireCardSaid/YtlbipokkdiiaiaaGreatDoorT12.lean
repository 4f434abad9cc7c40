/- Lemmas for TopWire: QuietTail, W1, W2. -/
import Derived.Test.YtlbipokkdiiaiaaGreatDoorT11
import Derived.StillTail
import Derived.Test.YtlbipokkdiiaiaaGreatDoorT05
import Derived.Deep.MidRow
import Derived.Deep.Cut
/- A region that draws its order: all operations but the last ones, which come in one forced order, read or call what makes new memory alone: one walk in the order of the text, then the last ones as a plain list. -/
namespace Go.Proofs.YtlbipokkdiiaiaaGreatDoor
open Go.RowKit
section
variable {P : Program} {ops : Array Oper} {md : Region.Mode} {C : World → Prop}
/-- Each operation from s to n has a later one, up to n, that waits for it. -/
def sinkFrom (md : Region.Mode) (ops : Array Oper) (s n : Nat) : Bool :=
  (List.range n).all fun i => decide (i < s) || (List.range (n + 1)).any fun j => decide (i < j) && Region.waitsFor md ops j i
theorem tail_waitsFrom {s n : Nat} {listed : Array Bool} (hs : sinkFrom md ops s n = true) (hc : Region.chainB md ops n = true) (hn : n < ops.size) (inv : HeadInv md ops n listed) :
    ∀ (d i : Nat), n - i = d → s ≤ i → i < n → listed.getD i true = false → ∀ t, n ≤ t → t ∉ Region.ready md ops listed := by
  intro d
  induction d using Nat.strongRecOn with
  | _ d ih =>
    intro i hd hsi hi hun t ht hr
    obtain ⟨_, ot, hot, hall⟩ := mem_ready.1 hr
    have htlt : t < ops.size := (Array.getElem?_eq_some_iff.1 hot).1
    by_cases htn : t = n
    · subst htn
      have h1 := List.all_eq_true.1 hs i (List.mem_range.2 hi)
      simp only [Bool.or_eq_true, decide_eq_true_eq] at h1
      rcases h1 with h1 | h1
      · omega
      obtain ⟨j, hj, hj2⟩ := List.any_eq_true.1 h1
      simp only [Bool.and_eq_true, decide_eq_true_eq] at hj2
      obtain ⟨oj, hoj, e, he, hb, hon⟩ := Region.waitsFor_spec hj2.2
      have hjle : j ≤ t := by have := List.mem_range.1 hj; omega
      by_cases hjt : j = t
      · subst hjt
        have : oj = ot := Option.some.inj (hoj.symm.trans hot)
        subst this
        have h2 := hall e he hb
        rw [hon, getD_both hun] at h2
        cases h2
      · cases hl : listed.getD j false with
        | true =>
          have h2 := inv.closed j oj hoj hl e he hb
          rw [hon, getD_both hun] at h2
          cases h2
        | false =>
          have hjs : j < listed.size := by rw [inv.size]; omega
          exact ih (t - j) (by omega) j rfl (by omega) (by omega) (getD_in hjs hl) t (Nat.le_refl _) hr
    · have h1 := List.all_eq_true.1 hc t (List.mem_range.2 htlt)
      simp only [Bool.or_eq_true, decide_eq_true_eq] at h1
      rcases h1 with h1 | h1
      · omega
      · obtain ⟨o', ho', e, he, hb, hon⟩ := Region.waitsFor_spec h1
        have : o' = ot := Option.some.inj (ho'.symm.trans hot)
        subst this
        have h2 := hall e he hb
        rw [hon, getD_both (inv.tail (t - 1) (by omega) (by omega))] at h2
        cases h2
/-- Whatever order is picked among the first n, till f of them are listed. -/
def wpHeadQ (P : Program) (md : Region.Mode) (ops : Array Oper) (C : World → Prop) (n : Nat) (L : Array Bool → Act → Prop) : Nat → Array Bool → Act → Prop
  | 0, listed, a => L listed a
  | f + 1, listed, a => Region.ready md ops listed ≠ [] ∧ ∀ i ∈ Region.ready md ops listed, i < n ∧ qOp P ops C i (wpHeadQ P md ops C n L f (listed.setIfInBounds i true)) a
theorem wpAny_of_headQ {n g : Nat} {L : Array Bool → Act → Prop} {Q' : Exit → Act → World → Prop} (hL : ∀ listed a w, C w → L listed a → wpAnyH P md ops Q' (fun _ => True) g listed a w) :
    ∀ (f : Nat) (listed : Array Bool) (a : Act) (w : World), C w → wpHeadQ P md ops C n L f listed a → wpAnyH P md ops Q' (fun _ => True) (f + g) listed a w
  | 0, _, _, w, hw, h => by rw [Nat.zero_add]; exact hL _ _ w hw h
  | f + 1, _, _, w, hw, h => by
    rw [show f + 1 + g = (f + g) + 1 by omega]
    exact ⟨fun h0 => absurd h0 h.1, fun i hi => wpOp_of_qOp hw (fun a' w' hw' h' => ⟨trivial, wpAny_of_headQ hL f _ a' w' hw' h'⟩) (h.2 i hi).2⟩
theorem wpHeadQ_first {s n i : Nat} {oi : Oper} {v : Value} {L : Array Bool → Act → Prop} (hi : ops[i]? = some oi) (hsel : ∀ (j : Nat) (o : Oper) cs b, ops[j]? = some o → o.op ≠ .select cs b)
    (hs : sinkFrom md ops s n = true) (hc : Region.chainB md ops n = true) (hn : n < ops.size) (hsi : s ≤ i) (hin : i < n)
    (hdone : ∀ listed a, L listed a → ∀ j ∈ Region.ready md ops listed, n ≤ j) :
    ∀ (f : Nat) (listed : Array Bool) (a : Act), HeadInv md ops n listed →
      (∀ j oj, ops[j]? = some oj → j ≠ i → listed.getD j true = false → (∀ e ∈ oj.after, Region.binds md e = true → e.on ≠ i) → oi.apart ops oj = true) →
      i ∈ Region.ready md ops listed → YieldsIn P ops C oi v a →
      wpHeadQ P md ops C n L f (listed.setIfInBounds i true) (a.put oi.dst v) → wpHeadQ P md ops C n L (f + 1) listed a := by
  have early : ∀ {listed : Array Bool}, HeadInv md ops n listed → i ∈ Region.ready md ops listed → ∀ j ∈ Region.ready md ops listed, j < n := fun {listed} inv hr j hj => by
    rcases Nat.lt_or_ge j n with h | h
    · exact h
    · exact absurd hj (tail_waitsFrom hs hc hn inv _ i rfl hsi hin (mem_ready.1 hr).1 j h)
  intro f
  induction f with
  | zero =>
    intro listed a inv _ hr hy H
    refine ⟨fun h => (by rw [h] at hr; cases hr), fun j hj => ?_⟩
    have hjn := early inv hr j hj
    refine ⟨hjn, ?_⟩
    by_cases hji : j = i
    · subst hji; exact hy.qOp hi H
    · have := hdone _ _ H j (ready_mono hj hji)
      omega
  | succ f ih =>
    intro listed a inv hfree hr hy H
    have hun := (mem_ready.1 hr).1
    refine ⟨fun h => (by rw [h] at hr; cases hr), fun j hj => ?_⟩
    have hjn := early inv hr j hj
    refine ⟨hjn, ?_⟩
    by_cases hji : j = i
    · subst hji; exact hy.qOp hi H
    · have h1 := (H.2 j (ready_mono hj hji)).2
      obtain ⟨hjun, oj, hoj, hall⟩ := mem_ready.1 hj
      have hnot : ∀ e ∈ oj.after, Region.binds md e = true → e.on ≠ i := fun e he hb heq => by
        have h1 := hall e he hb
        rw [heq, getD_both hun] at h1
        cases h1
      have h2 := qOp_put hoj (hfree j oj hoj hji hjun hnot) (fun cs b => hsel i oi cs b hi) (fun cs b => hsel j oj cs b hoj) hy h1
      have hfree' : ∀ k ok, ops[k]? = some ok → k ≠ i → (listed.setIfInBounds j true).getD k true = false →
          (∀ e ∈ ok.after, Region.binds md e = true → e.on ≠ i) → oi.apart ops ok = true := fun k ok hk hki hun hno => by
        refine hfree k ok hk hki ?_ hno
        by_cases hjk : j = k
        · subst hjk; exact hjun
        · rw [getD_set_ne true hjk] at hun; exact hun
      refine qOp_mono (fun a' h3 => ih (listed.setIfInBounds j true) a' (inv.set hj hjn) hfree' (ready_mono hr (Ne.symm hji)) h3.1 ?_) h2
      rw [Array.setIfInBounds_comm _ _ hji]
      exact h3.2
theorem wpHeadQ_lex {s n g : Nat} {Lq : Act → Prop} (hsel : Region.noSelect ops = true) (hs : sinkFrom md ops s n = true) (hc : Region.chainB md ops n = true) (hn : n < ops.size) :
    ∀ (l : List Oper) (k : Nat) (listed : Array Bool) (a : Act), s ≤ k → (∀ j, j < l.length → l[j]? = ops[k + j]?) → k + l.length = n → HeadInv md ops n listed →
    Region.lexHead md ops g l.length k listed = true → wpQuiet P ops C Lq l a →
    wpHeadQ P md ops C n (fun listed' a' => Region.seqB md ops g n listed' = true ∧ Lq a') l.length listed a
  | [], k, listed, a, _, _, hk, _, hB, h => by
    have : k = n := by simpa using hk
    subst this
    exact ⟨by simpa [Region.lexHead] using hB, h⟩
  | o :: l, k, listed, a, hsk, hl, hk, inv, hB, h => by
    have h0 : ops[k]? = some o := by simpa using (hl 0 (by simp)).symm
    simp only [List.length_cons, Region.lexHead, Bool.and_eq_true] at hB
    obtain ⟨⟨hr, hf⟩, hB'⟩ := hB
    have hkn : k < n := by simp only [List.length_cons] at hk; omega
    have hr' : k ∈ Region.ready md ops listed := by simpa using hr
    have hst : qOp P ops C k (wpQuiet P ops C Lq l) a := by unfold qOp; simp only [h0]; exact h
    obtain ⟨v, hy, hK⟩ := yieldsIn_of_qOp h0 hst
    exact wpHeadQ_first h0 (Region.noSelect_spec hsel) hs hc hn hsk hkn (fun listed' a' hL => seqB_ready hL.1) l.length listed a inv (Region.free_spec h0 hf) hr' hy
      (wpHeadQ_lex hsel hs hc hn l (k + 1) _ _ (by omega) (fun j hj => by have := hl (j + 1) (by simp; omega); simpa [Nat.add_assoc, Nat.add_comm 1 j] using this) (by simp only [List.length_cons] at hk; omega) (inv.set hr' hkn) hB' hK)
theorem wpAnyH_of_seq {Q' : Exit → Act → World → Prop} : ∀ (l : List Oper) (k : Nat) (listed : Array Bool) (a : Act) (w : World), (∀ j, l[j]? = ops[k + j]?) →
    Region.seqB md ops l.length k listed = true → wpList P ops Q' l a w → wpAnyH P md ops Q' (fun _ => True) l.length listed a w
  | [], _, _, _, _, _, hB, h => ⟨by simpa [Region.seqB] using hB, h⟩
  | o :: l, k, listed, a, w, hl, hB, h => by
    have h0 : ops[k]? = some o := by simpa using (hl 0).symm
    simp only [List.length_cons, Region.seqB, Bool.and_eq_true, decide_eq_true_eq] at hB
    refine ⟨fun h1 => (by rw [hB.1] at h1; cases h1), fun i hi => ?_⟩
    rw [hB.1] at hi
    have hik : i = k := by simpa using hi
    subst hik
    have hw : wpOp P ops Q' i (wpList P ops Q' l) a w := by unfold wpOp; simp only [h0]; exact h
    exact wpOp_mono (fun a' w' h' => ⟨trivial, wpAnyH_of_seq l (i + 1) _ a' w' (fun j => by have := hl (j + 1); simpa [Nat.add_assoc, Nat.add_comm 1 j] using this) hB.2 h'⟩) hw
/-- The first s operations are listed, and no other. -/
def startB (md : Region.Mode) (ops : Array Oper) (s : Nat) (listed : Array Bool) : Bool :=
  decide (listed.size = ops.size) && (List.range ops.size).all fun j => listed.getD j true == decide (j < s) &&
    (decide (s ≤ j) || match ops[j]? with | some o => o.after.all fun e => !Region.binds md e || decide (e.on < s) | none => true)
def tailB (md : Region.Mode) (ops : Array Oper) (s n : Nat) (listed : Array Bool) : Bool :=
  Region.noSelect ops && decide (s ≤ n) && decide (n < ops.size) && sinkFrom md ops s n && Region.chainB md ops n && startB md ops s listed && Region.lexHead md ops (ops.size - n) (n - s) s listed
theorem startB_inv {s n : Nat} {listed : Array Bool} (hs : s ≤ n) (hn : n < ops.size) (h : startB md ops s listed = true) : HeadInv md ops n listed := by
  simp only [startB, Bool.and_eq_true, decide_eq_true_eq, List.all_eq_true, Bool.or_eq_true, beq_iff_eq, List.mem_range] at h
  obtain ⟨hz, h⟩ := h
  have hget : ∀ j, j < ops.size → listed.getD j true = decide (j < s) := fun j hj => (h j hj).1
  have hget' : ∀ j, j < ops.size → listed.getD j false = decide (j < s) := fun j hj => by
    have := hget j hj
    simp [hz, hj] at this ⊢; exact this
  refine ⟨hz, fun j oj hoj hl e he hb => ?_, fun t ht htl => ?_⟩
  · have hj : j < ops.size := (Array.getElem?_eq_some_iff.1 hoj).1
    rw [hget' j hj] at hl
    have hjs : j < s := by simpa using hl
    have h2 := (h j hj).2
    rcases h2 with h2 | h2
    · omega
    · rw [hoj] at h2
      have h3 := (Array.all_eq_true_iff_forall_mem.1 h2) e he
      simp only [hb, Bool.not_true, Bool.false_or, decide_eq_true_eq] at h3
      rw [hget' e.on (by omega)]
      simpa using h3
  · rw [hget t htl]; simp; omega
end
variable {P : Program}
theorem WH.tail {Q : Exit → Act → World → Prop} {a : Act} {w w0 : World} {l : List Oper} {listed : Array Bool} {fuel : Nat} (s n : Nat) (hf : fuel = (n - s) + (l.length - n)) (hB : tailB .any l.toArray s n listed = true) (hw : Below w0.heap.size w0 w)
    (h : WQ P l.toArray (fun w' => Below w0.heap.size w0 w') (fun a' => ∀ w', Below w0.heap.size w0 w' → wpList P l.toArray Q (l.drop n) a' w') ((l.take n).drop s) a) : WH P l.toArray Q (fun _ => True) fuel listed a w := by
  subst hf
  simp only [tailB, Bool.and_eq_true, decide_eq_true_eq] at hB
  obtain ⟨⟨⟨⟨⟨⟨hsel, hsn⟩, hn⟩, hs⟩, hc⟩, hst⟩, hlex⟩ := hB
  have hn' : n < l.length := by simpa using hn
  have htl : ((l.take n).drop s).length = n - s := by simp; omega
  have hdl : (l.drop n).length = l.toArray.size - n := by simp
  have H := wpHeadQ_lex (md := .any) (g := l.toArray.size - n) hsel hs hc hn ((l.take n).drop s) s _ a (Nat.le_refl _) (fun j hj => by
    have hj' : j < n - s := by rw [htl] at hj; exact hj
    simp [List.getElem?_drop, show s + j < n by omega]) (by rw [htl]; omega) (startB_inv hsn hn hst) (by rw [htl]; exact hlex) h.out
  have := wpAny_of_headQ (Q' := Q) (g := l.toArray.size - n) (fun listed a' w' hw' hL => by
    have := wpAnyH_of_seq (md := .any) (Q' := Q) (l.drop n) n listed a' w' (fun j => by simp [List.getElem?_drop]) (by rw [hdl]; exact hL.1) (hL.2 w' hw')
    rwa [hdl] at this) _ _ _ w hw H
  rw [htl] at this
  exact ⟨by simpa using this⟩
/-- No operation is taken ahead. -/
theorem wp_region_wq_tail {id : Nat} {Q : Exit → Act → World → Prop} {a : Act} {w : World} {l : List Oper} (n : Nat) (hm : P.follows .mixedOrders = true) (hB : tailB .any l.toArray 0 n (Array.replicate l.length false) = true)
    (h : WQ P l.toArray (fun w' => Below w.heap.size w w') (fun a' => ∀ w', Below w.heap.size w w' → wpList P l.toArray Q (l.drop n) a' w') (l.take n) a) : (Code.region id l.toArray true).wp P Q a w := by
  have hn : n < l.length := by
    have hB' := hB
    simp only [tailB, Bool.and_eq_true, decide_eq_true_eq] at hB'
    simpa using hB'.1.1.1.1.2
  exact wp_region_wh (S := fun _ => True) hm (WH.tail 0 n (by omega) hB (Drawn.below ⟨1, rfl⟩) (by simpa using h))
/-- The first operation (a move) is taken ahead. -/
theorem wp_region_wq_tail1 {id : Nat} {Q : Exit → Act → World → Prop} {a : Act} {w : World} {l : List Oper} {o : Oper} {v : Value} (n : Nat) (hm : P.follows .mixedOrders = true)
    (hs : Region.noSelect (o :: l).toArray = true) (hf : Region.free .any (o :: l).toArray (Array.replicate (o :: l).length false) 0 = true) (hr : (Region.ready .any (o :: l).toArray (Array.replicate (o :: l).length false)).contains 0 = true)
    (hQ' : ∀ v c a w, Q (.panic c) (a.put o.dst v) w → Q (.panic c) a w)
    (hw : Region.wanted o (yielded (o :: l).toArray a.tmps) = true) (hv : ∀ W, (execOp a.eval o).run P W = .ok (.value v) W)
    (hB : tailB .any (o :: l).toArray 1 (n + 1) ((Array.replicate (o :: l).length false).setIfInBounds 0 true) = true)
    (h : WQ P (o :: l).toArray (fun w' => Below w.heap.size w w') (fun a' => ∀ w', Below w.heap.size w w' → wpList P (o :: l).toArray Q (l.drop n) a' w') (l.take n) (a.put o.dst v)) : (Code.region id (o :: l).toArray true).wp P Q a w := by
  have hn : n + 1 < (o :: l).length := by
    have hB' := hB
    simp only [tailB, Bool.and_eq_true, decide_eq_true_eq] at hB'
    simpa using hB'.1.1.1.1.2
  rw [List.length_cons] at hn
  refine wp_region_wh (S := fun _ => True) hm ?_
  rw [List.length_cons]
  exact WH.take 0 o.dst (by simp) rfl hs hf hr hQ' trivial ⟨v, ⟨hw, fun W _ => hv W⟩, WH.tail 1 (n + 1) (by simp; omega) hB (Drawn.below ⟨1, rfl⟩) (by simpa using h)⟩
end Go.Proofs.YtlbipokkdiiaiaaGreatDoor
/- Digests, reads, made files, traces, messages: plain, and in memory. -/
namespace Go.Proofs.YtlbipokkdiiaiaaGreatDoor
open Go.RowKit Go.Proofs.YtlbipokkdiiaiaaGreatDoor.Exec
set_option maxRecDepth 100000
/-- A digest. -/
abbrev Dg := { l : List UInt8 // l.length = 32 }
def dgc (d : Dg) : List Value := Lib.byteCells d.1
def dgv (d : Dg) : Value := .agg (dgc d).toArray
def dg0 : Dg := ⟨List.replicate 32 0, rfl⟩
theorem dgc_len (d : Dg) : (dgc d).length = 32 := by unfold dgc; rw [byteCells_len]; exact d.2
theorem dgc_one (d : Dg) : ∀ u ∈ dgc d, u.oneCell' = true := byteCells_one d.1
theorem bytes_inj : ∀ {a b : List UInt8}, Lib.byteCells a = Lib.byteCells b → a = b
  | [], [], _ => rfl
  | [], _ :: _, h => by simp [Lib.byteCells] at h
  | _ :: _, [], h => by simp [Lib.byteCells] at h
  | x :: a, y :: b, h => by
    simp only [Lib.byteCells, List.map_cons, List.cons.injEq, Value.int.injEq, true_and] at h
    rw [bytes_inj (show Lib.byteCells a = Lib.byteCells b from h.2)]
    congr 1
    have := h.1
    exact UInt8.toNat_inj.1 (by omega)
theorem dgc_inj {d e : Dg} (h : dgc d = dgc e) : d = e := Subtype.ext (bytes_inj h)
theorem sameInts_bytes : ∀ (a b : List UInt8), a.length = b.length → sameInts (Lib.byteCells a) (Lib.byteCells b) = some (decide (a = b))
  | [], [], _ => by simp [Lib.byteCells, sameInts]
  | [], _ :: _, h => by simp at h
  | _ :: _, [], h => by simp at h
  | x :: a, y :: b, h => by
    have ih := sameInts_bytes a b (by simpa using h)
    simp only [Lib.byteCells, List.map_cons, sameInts, if_true] at ih ⊢
    rw [ih]
    simp only [Option.map_some, Option.some.injEq, List.cons.injEq]
    by_cases e : x = y
    · subst e; simp
    · have : ((x.toNat : Int) == (y.toNat : Int)) = false := beq_eq_false_iff_ne.2 fun h => e (UInt8.toNat_inj.1 (by omega))
      rw [this]; simp [e]
theorem eq_dg (d e : Dg) (n : Nat) : aEqual Tryz.prog (n + 1) 31 (dgv d) (dgv e) = some (decide (d = e)) := by
  have hu : Tryz.prog.underlying 31 = some (.array 32 5) := by kernel_rfl
  have hi : Tryz.prog.underlying 5 = some (.int .u8) := by kernel_rfl
  obtain ⟨i, hi2, hz⟩ : ∃ i, Tryz.prog.info? 5 = some i ∧ i.size = 1 := ⟨_, rfl, by kernel_rfl⟩
  unfold aEqual dgv
  simp only [hu, hi, hi2, hz, List.size_toArray, dgc_len]
  have := sameInts_bytes d.1 e.1 (by rw [d.2, e.2])
  simp only [beq_self_eq_true, Bool.and_self, if_true]
  show sameInts (dgc d) (dgc e) = _
  unfold dgc
  rw [this]
  simp only [Option.some.injEq, decide_eq_decide]
  exact ⟨fun h => Subtype.ext h, fun h => by rw [h]⟩
theorem agg_eql (t : TypeId) (x y : Array Value) : binOp .eql t (.agg x) (.agg y) = (do pure (.bool (← Op.equal t (.agg x) (.agg y)))) := rfl
theorem agg_neq (t : TypeId) (x y : Array Value) : binOp .neq t (.agg x) (.agg y) = (do pure (.bool (!(← Op.equal t (.agg x) (.agg y))))) := rfl
theorem run_eql_dg (w : World) (d e : Dg) : (binOp .eql 31 (dgv d) (dgv e)).run Tryz.prog w = .ok (.bool (decide (d = e))) w := by
  unfold dgv
  rw [agg_eql]
  have := run_equal' (W := w) (eq_dg d e 3)
  unfold dgv at this
  simp only [Sem.run_bind, this, Result.andThen_ok, Sem.run_pure]
theorem run_neq_dg (w : World) (d e : Dg) : (binOp .neq 31 (dgv d) (dgv e)).run Tryz.prog w = .ok (.bool (!decide (d = e))) w := by
  unfold dgv
  rw [agg_neq]
  have := run_equal' (W := w) (eq_dg d e 3)
  unfold dgv at this
  simp only [Sem.run_bind, this, Result.andThen_ok, Sem.run_pure]
/-- What was read; what was made; a trace. -/
structure RdL where
  path : List UInt8
  is : Bool
  sum : Dg
  deriving DecidableEq
structure MdL where
  path : List UInt8
  sum : Dg
  deriving DecidableEq
structure TcL where
  key : Dg
  reads : List RdL
  outs : List MdL
  deriving DecidableEq
def RdL.cells (r : RdL) : List Value := .string (bs r.path) :: .bool r.is :: dgc r.sum
def MdL.cells (m : MdL) : List Value := .string (bs m.path) :: dgc m.sum
theorem RdL.len (r : RdL) : r.cells.length = 34 := by simp [RdL.cells, dgc_len]
theorem MdL.len (m : MdL) : m.cells.length = 33 := by simp [MdL.cells, dgc_len]
theorem RdL.one (r : RdL) : ∀ u ∈ r.cells, u.oneCell' = true := by
  intro u hu
  simp only [RdL.cells, List.mem_cons] at hu
  rcases hu with rfl | rfl | hu
  · rfl
  · rfl
  · exact dgc_one _ u hu
theorem MdL.one (r : MdL) : ∀ u ∈ r.cells, u.oneCell' = true := by
  intro u hu
  simp only [MdL.cells, List.mem_cons] at hu
  rcases hu with rfl | hu
  · rfl
  · exact dgc_one _ u hu
theorem eq_str (a b : List UInt8) (n : Nat) : aEqual Tryz.prog (n + 1) 9 (.string (bs a)) (.string (bs b)) = some (decide (a = b)) := by
  have hu : Tryz.prog.underlying 9 = some .string := by kernel_rfl
  unfold aEqual
  simp only [hu, Option.some.injEq]
  show (a.toArray == b.toArray) = _
  by_cases h : a = b
  · subst h; simp
  · rw [decide_eq_false h]
    exact beq_eq_false_iff_ne.2 fun e => h (by simpa using e)
theorem eq_bool (a b : Bool) (n : Nat) : aEqual Tryz.prog (n + 1) 4 (.bool a) (.bool b) = some (decide (a = b)) := by
  have hu : Tryz.prog.underlying 4 = some .bool := by kernel_rfl
  unfold aEqual
  simp only [hu, Option.some.injEq]
  cases a <;> cases b <;> rfl
theorem part_dg (c : Array Value) (o : Nat) (d : Dg) (h : c.extract o (o + 32) = (dgc d).toArray) : aPart Tryz.prog 31 c o = some (dgv d) := by
  have hu : Tryz.prog.underlying 31 = some (.array 32 5) := by kernel_rfl
  obtain ⟨i, hi2, hz⟩ : ∃ i, Tryz.prog.info? 31 = some i ∧ i.size = 32 := ⟨_, rfl, by kernel_rfl⟩
  unfold aPart
  simp only [hu, hi2, hz, h]; rfl
theorem part_str (c : Array Value) (o : Nat) : aPart Tryz.prog 9 c o = c[o]? := by
  have hu : Tryz.prog.underlying 9 = some .string := by kernel_rfl
  obtain ⟨i, hi⟩ : ∃ i, Tryz.prog.info? 9 = some i := ⟨_, rfl⟩
  unfold aPart
  simp only [hu, hi]
theorem part_bool (c : Array Value) (o : Nat) : aPart Tryz.prog 4 c o = c[o]? := by
  have hu : Tryz.prog.underlying 4 = some .bool := by kernel_rfl
  obtain ⟨i, hi⟩ : ∃ i, Tryz.prog.info? 4 = some i := ⟨_, rfl⟩
  unfold aPart
  simp only [hu, hi]
theorem drop_cells (l r : List Value) (n : Nat) (h : r.length = n) (o : Nat) (ho : l.length = o) : (l ++ r).toArray.extract o (o + n) = r.toArray := by
  subst ho h
  apply Array.ext'
  simp [List.extract_eq_take_drop]
theorem eq_rd (r s : RdL) (n : Nat) : aEqual Tryz.prog (n + 2) 100 (.agg r.cells.toArray) (.agg s.cells.toArray) = some (decide (r = s)) := by
  obtain ⟨f0, f1, f2, hu, k0, k1, k2⟩ : ∃ f0 f1 f2 : Field, Tryz.prog.underlying 100 = some (.struct #[f0, f1, f2]) ∧ (f0.name ≠ "_" ∧ f0.type = 9 ∧ f0.offset = 0) ∧ (f1.name ≠ "_" ∧ f1.type = 4 ∧ f1.offset = 1) ∧ (f2.name ≠ "_" ∧ f2.type = 31 ∧ f2.offset = 2) :=
    ⟨_, _, _, rfl, ⟨by decide, by kernel_rfl, by kernel_rfl⟩, ⟨by decide, by kernel_rfl, by kernel_rfl⟩, ⟨by decide, by kernel_rfl, by kernel_rfl⟩⟩
  have hs : Tryz.prog.stoodInHeld 100 = false := by kernel_rfl
  have p2 : ∀ q : RdL, aPart Tryz.prog 31 q.cells.toArray 2 = some (dgv q.sum) := fun q => part_dg _ 2 q.sum (drop_cells [.string (bs q.path), .bool q.is] (dgc q.sum) 32 (dgc_len _) 2 rfl)
  unfold aEqual
  simp only [hu, hs, Bool.false_eq_true, if_false, aEqFields, k0.1, k0.2.1, k0.2.2, k1.1, k1.2.1, k1.2.2, k2.1, k2.2.1, k2.2.2, p2, part_str, part_bool]
  simp only [RdL.cells, List.getElem?_toArray, List.getElem?_cons_zero, List.getElem?_cons_succ, eq_str, eq_bool, eq_dg]
  obtain ⟨p, i, d⟩ := r
  obtain ⟨q, j, e⟩ := s
  by_cases h1 : p = q
  · by_cases h2 : i = j
    · by_cases h3 : d = e
      · simp [h1, h2, h3]
      · simp [h1, h2, h3]
    · simp [h1, h2]
  · simp [h1]
theorem eq_md (r s : MdL) (n : Nat) : aEqual Tryz.prog (n + 2) 54 (.agg r.cells.toArray) (.agg s.cells.toArray) = some (decide (r = s)) := by
  obtain ⟨f0, f2, hu, k0, k2⟩ : ∃ f0 f2 : Field, Tryz.prog.underlying 54 = some (.struct #[f0, f2]) ∧ (f0.name ≠ "_" ∧ f0.type = 9 ∧ f0.offset = 0) ∧ (f2.name ≠ "_" ∧ f2.type = 31 ∧ f2.offset = 1) :=
    ⟨_, _, rfl, ⟨by decide, by kernel_rfl, by kernel_rfl⟩, ⟨by decide, by kernel_rfl, by kernel_rfl⟩⟩
  have hs : Tryz.prog.stoodInHeld 54 = false := by kernel_rfl
  have p2 : ∀ q : MdL, aPart Tryz.prog 31 q.cells.toArray 1 = some (dgv q.sum) := fun q => part_dg _ 1 q.sum (drop_cells [.string (bs q.path)] (dgc q.sum) 32 (dgc_len _) 1 rfl)
  unfold aEqual
  simp only [hu, hs, Bool.false_eq_true, if_false, aEqFields, k0.1, k0.2.1, k0.2.2, k2.1, k2.2.1, k2.2.2, p2, part_str]
  simp only [MdL.cells, List.getElem?_toArray, List.getElem?_cons_zero, eq_str, eq_dg]
  obtain ⟨p, d⟩ := r
  obtain ⟨q, e⟩ := s
  by_cases h1 : p = q
  · by_cases h3 : d = e
    · simp [h1, h3]
    · simp [h1, h3]
  · simp [h1]
end Go.Proofs.YtlbipokkdiiaiaaGreatDoor
/- Rows of cells in memory; slices.Equal of reads and of made files; trace.Same. -/
namespace Go.Proofs.YtlbipokkdiiaiaaGreatDoor
open Go.RowKit Go.Proofs.YtlbipokkdiiaiaaGreatDoor.Exec
set_option maxRecDepth 100000
theorem flat_at {α : Type} (f : α → List Value) (sz : Nat) (hs : ∀ x, (f x).length = sz) : ∀ (l : List α) (k : Nat) (hk : k < l.length) (j : Nat), j < sz → (l.flatMap f)[k * sz + j]? = (f l[k])[j]?
  | x :: l, 0, _, j, hj => by rw [List.flatMap_cons, Nat.zero_mul, Nat.zero_add, List.getElem?_append_left (by rw [hs]; exact hj)]; rfl
  | x :: l, k + 1, hk, j, hj => by
    rw [List.flatMap_cons, List.getElem?_append_right (by rw [hs, Nat.succ_mul]; omega), hs, show (k + 1) * sz + j - sz = k * sz + j by rw [Nat.succ_mul]; omega]
    exact flat_at f sz hs l k (by simpa using hk) j hj
  | [], _, hk, _, _ => by simp at hk
theorem flat_len {α : Type} (f : α → List Value) (sz : Nat) (hs : ∀ x, (f x).length = sz) : ∀ l : List α, (l.flatMap f).length = l.length * sz
  | [] => by simp
  | x :: l => by rw [List.flatMap_cons, List.length_append, hs, flat_len f sz hs l, List.length_cons, Nat.succ_mul]; omega
/-- A slice of structs. -/
def RowsOf {α : Type} (w : World) (sz : Nat) (f : α → List Value) (v : Value) (l : List α) : Prop := SliceAt w sz v l.length (l.flatMap f)
theorem RowsOf.out {α : Type} {w : World} {sz : Nat} {f : α → List Value} {v : Value} {l : List α} (hs : ∀ x, (f x).length = sz) (h0 : 0 < sz) (h : RowsOf w sz f v l) : ∃ a c, v = .slice a l.length c ∧ l.length ≤ c ∧ c ≤ maxLen ∧ (a = none → c = 0) ∧
    (∀ k, k < l.length → ∃ b off, a = some ⟨b, off, none⟩ ∧ b < w.heap.size ∧ ∀ j (hj : j < l.length), w.rangeAt b (off + j * sz) (f l[j])) := by
  obtain ⟨hl, a, c, rfl, hc, hm, hn, hx⟩ := h
  refine ⟨a, c, rfl, hc, hm, hn, fun k hk => ?_⟩
  obtain ⟨b, off, rfl, hlt, hcell⟩ := hx (by intro e; have := flat_len f sz hs l; rw [e] at this; have h1 : 1 ≤ l.length * sz := Nat.le_trans (by omega) (Nat.mul_le_mul (show 1 ≤ l.length by omega) h0); simp at this; omega)
  refine ⟨b, off, rfl, hlt, fun j hj i u hu => ?_⟩
  have hi : i < sz := by rw [← hs l[j]]; exact (List.getElem?_eq_some_iff.1 hu).1
  rw [Nat.add_assoc]
  exact hcell _ _ (by rw [flat_at f sz hs l j hj i hi]; exact hu)
theorem RowsOf.below {α : Type} {w w' : World} {sz B : Nat} {f : α → List Value} {v : Value} {l : List α} (h : RowsOf w sz f v l) (hb : Below B w w') (hB : w.heap.size ≤ B) : RowsOf w' sz f v l := SliceAt.below h hb hB
theorem range_keeps {w W : World} (hW : Below w.heap.size w W) {b o : Nat} {cs : List Value} (h : w.rangeAt b o cs) : W.rangeAt b o cs := fun j v hv => Below.keeps hW (h j v hv)
/-- A type of many cells. -/
structure RowTy (ty n : Nat) : Prop where
  out : ∃ d : TypeDesc, Tryz.prog.underlying ty = some d ∧ d.isRow = true ∧ (Tryz.prog.info? ty).map (·.size) = some n
theorem rt31 : RowTy 31 32 := ⟨_, Tryz.underlying31, rfl, by kernel_rfl⟩
theorem rt34 : RowTy 34 37 := ⟨_, Tryz.underlying34, rfl, by kernel_rfl⟩
theorem rt44 : RowTy 44 34 := ⟨_, Tryz.underlying44, rfl, by kernel_rfl⟩
theorem rt54 : RowTy 54 33 := ⟨_, Tryz.underlying54, rfl, by kernel_rfl⟩
theorem rt100 : RowTy 100 34 := ⟨_, Tryz.underlying100, rfl, by kernel_rfl⟩
theorem RowTy.ld {ty n : Nat} (h : RowTy ty n) {w : World} {b o : Nat} {cs : List Value} (hr : w.rangeAt b o cs) (hl : cs.length = n) :
    (Instr.loadAt ty (.pointer (some ⟨b, o, none⟩))).run Tryz.prog w = .ok (.agg cs.toArray) w := by
  obtain ⟨d, h1, h2, h3⟩ := h.out
  exact run_loadAt_mid w b o ty cs d hr h1 h2 (by rw [hl]; exact h3)
section
variable {ops : Array Oper} {rest : List Oper} {o : Oper} {a : Act} {w w' : World} {Q : Exit → Act → World → Prop} {C : World → Prop} {QA : Act → Prop} {v : Value}
theorem wl_run (hr : (execOp a.eval o).run Tryz.prog w = .ok (.value v) w') (h : wpList Tryz.prog ops Q rest (a.put o.dst v) w') (hw : Region.wanted o (yielded ops a.tmps) = true := by rfl) : wpList Tryz.prog ops Q (o :: rest) a w := by
  refine wpList_step fun K hK => ?_
  rw [if_pos hw]
  unfold Oper.wp
  rw [hr]
  exact hK _ _ h
theorem WQ.run (hr : ∀ W, C W → (execOp a.eval o).run Tryz.prog W = .ok (.value v) W) (h : WQ Tryz.prog ops C QA rest (a.put o.dst v)) (hw : Region.wanted o (yielded ops a.tmps) = true := by rfl) : WQ Tryz.prog ops C QA (o :: rest) a := by
  refine WQ.step fun K hK => ?_
  rw [if_pos hw]
  exact ⟨v, fun W hW => by unfold Oper.quietAt; rw [hr W hW]; exact ⟨rfl, rfl⟩, hK _ h⟩
theorem r_ld {ty n : Nat} (h : RowTy ty n) {b off : Nat} {cs : List Value} {x : Operand} (hr : w.rangeAt b off cs) (hl : cs.length = n) (ho : o.op = .load ty x) (hx : a.eval x = .pointer (some ⟨b, off, none⟩)) :
    (execOp a.eval o).run Tryz.prog w = .ok (.value (.agg cs.toArray)) w := by
  unfold execOp
  simp only [ho, hx, Sem.run_bind, h.ld hr hl, Result.andThen_ok, Sem.run_pure]
theorem wl_ld {ty n : Nat} (h : RowTy ty n) {b off : Nat} {cs : List Value} {x : Operand} (hr : w.rangeAt b off cs) (hl : cs.length = n) (hk : wpList Tryz.prog ops Q rest (a.put o.dst (.agg cs.toArray)) w) (ho : o.op = .load ty x := by rfl) (hx : a.eval x = .pointer (some ⟨b, off, none⟩) := by rfl) (hw : Region.wanted o (yielded ops a.tmps) = true := by rfl) :
    wpList Tryz.prog ops Q (o :: rest) a w := wl_run (r_ld h hr hl ho hx) hk hw
theorem WQ.ld {ty n : Nat} (h : RowTy ty n) {b off : Nat} {cs : List Value} {x : Operand} (hr : ∀ W, C W → W.rangeAt b off cs) (hl : cs.length = n) (hk : WQ Tryz.prog ops C QA rest (a.put o.dst (.agg cs.toArray))) (ho : o.op = .load ty x := by rfl) (hx : a.eval x = .pointer (some ⟨b, off, none⟩) := by rfl) (hw : Region.wanted o (yielded ops a.tmps) = true := by rfl) :
    WQ Tryz.prog ops C QA (o :: rest) a := WQ.run (fun W hW => r_ld h (hr W hW) hl ho hx) hk hw
/-- Rows held against each other. -/
structure EqTy (t : TypeId) (x y : Array Value) (r : Bool) : Prop where
  out : aEqual Tryz.prog 4 t (.agg x) (.agg y) = some r
  gd : Tryz.prog.eqGuardType Tryz.prog.depth t = false
theorem r_eql {t : TypeId} {x' y' : Array Value} {r : Bool} (h : EqTy t x' y' r) {x y : Operand} {t2 : TypeId} (ho : o.op = .binOp .eql t x y t2) (hx : a.eval x = .agg x') (hy : a.eval y = .agg y') :
    (execOp a.eval o).run Tryz.prog w = .ok (.value (.bool r)) w := by
  unfold execOp
  have heg : (eqGuard .eql t x y (.agg x') (.agg y')).run Tryz.prog w = .ok () w := by simp [eqGuard, h.gd]
  simp only [ho, hx, hy, Sem.run_bind, heg, agg_eql, run_equal' h.out, Result.andThen_ok, Sem.run_pure]
theorem r_neq {t : TypeId} {x' y' : Array Value} {r : Bool} (h : EqTy t x' y' r) {x y : Operand} {t2 : TypeId} (ho : o.op = .binOp .neq t x y t2) (hx : a.eval x = .agg x') (hy : a.eval y = .agg y') :
    (execOp a.eval o).run Tryz.prog w = .ok (.value (.bool (!r))) w := by
  unfold execOp
  have heg : (eqGuard .neq t x y (.agg x') (.agg y')).run Tryz.prog w = .ok () w := by simp [eqGuard, h.gd]
  simp only [ho, hx, hy, Sem.run_bind, heg, agg_neq, run_equal' h.out, Result.andThen_ok, Sem.run_pure]
theorem wl_eql {t : TypeId} {x' y' : Array Value} {r : Bool} (h : EqTy t x' y' r) {x y : Operand} {t2 : TypeId} (hk : wpList Tryz.prog ops Q rest (a.put o.dst (.bool r)) w) (ho : o.op = .binOp .eql t x y t2 := by rfl) (hx : a.eval x = .agg x' := by rfl) (hy : a.eval y = .agg y' := by rfl) (hw : Region.wanted o (yielded ops a.tmps) = true := by rfl) :
    wpList Tryz.prog ops Q (o :: rest) a w := wl_run (r_eql h ho hx hy) hk hw
theorem wl_neq {t : TypeId} {x' y' : Array Value} {r : Bool} (h : EqTy t x' y' r) {x y : Operand} {t2 : TypeId} (hk : wpList Tryz.prog ops Q rest (a.put o.dst (.bool (!r))) w) (ho : o.op = .binOp .neq t x y t2 := by rfl) (hx : a.eval x = .agg x' := by rfl) (hy : a.eval y = .agg y' := by rfl) (hw : Region.wanted o (yielded ops a.tmps) = true := by rfl) :
    wpList Tryz.prog ops Q (o :: rest) a w := wl_run (r_neq h ho hx hy) hk hw
theorem WQ.eql {t : TypeId} {x' y' : Array Value} {r : Bool} (h : EqTy t x' y' r) {x y : Operand} {t2 : TypeId} (hk : WQ Tryz.prog ops C QA rest (a.put o.dst (.bool r))) (ho : o.op = .binOp .eql t x y t2 := by rfl) (hx : a.eval x = .agg x' := by rfl) (hy : a.eval y = .agg y' := by rfl) (hw : Region.wanted o (yielded ops a.tmps) = true := by rfl) :
    WQ Tryz.prog ops C QA (o :: rest) a := WQ.run (fun _ _ => r_eql h ho hx hy) hk hw
theorem WQ.neq {t : TypeId} {x' y' : Array Value} {r : Bool} (h : EqTy t x' y' r) {x y : Operand} {t2 : TypeId} (hk : WQ Tryz.prog ops C QA rest (a.put o.dst (.bool (!r)))) (ho : o.op = .binOp .neq t x y t2 := by rfl) (hx : a.eval x = .agg x' := by rfl) (hy : a.eval y = .agg y' := by rfl) (hw : Region.wanted o (yielded ops a.tmps) = true := by rfl) :
    WQ Tryz.prog ops C QA (o :: rest) a := WQ.run (fun _ _ => r_neq h ho hx hy) hk hw
end
theorem eqt31 (d e : Dg) : EqTy 31 (dgc d).toArray (dgc e).toArray (decide (d = e)) := ⟨eq_dg d e 3, by kernel_rfl⟩
theorem eqt100 (d e : RdL) : EqTy 100 d.cells.toArray e.cells.toArray (decide (d = e)) := ⟨eq_rd d e 2, by kernel_rfl⟩
theorem eqt54 (d e : MdL) : EqTy 54 d.cells.toArray e.cells.toArray (decide (d = e)) := ⟨eq_md d e 2, by kernel_rfl⟩
theorem same_stepD {α : Type} {l r : List α} {k : Nat} (h0 : k < l.length) (h1 : k < r.length) (he : l.take k = r.take k) (hk : l[k] = r[k]) : l.take (k + 1) = r.take (k + 1) := by
  rw [take_at _ _ h0, take_at _ _ h1, he, hk]
set_option maxHeartbeats 1000000 in
theorem eqReads_any (v0 v1 : Value) (l r : List RdL) (w : World) (h0 : RowsOf w 34 RdL.cells v0 l) (h1 : RowsOf w 34 RdL.cells v1 r) :
    Calls Tryz.prog 40 #[v0, v1] w fun e w' => e = .returned (.bool (decide (l = r))) ∧ Below w.heap.size w w' := by
  obtain ⟨a0, c0, rfl, hc0, hm0, -, hx0⟩ := h0.out RdL.len (by omega)
  obtain ⟨a1, c1, rfl, hc1, hm1, -, hx1⟩ := h1.out RdL.len (by omega)
  clear h0 h1
  unfold maxLen at hm0 hm1
  by_cases hlen : l.length = r.length
  · have hb : ((l.length : Int) != (r.length : Int)) = false := by simp [hlen]
    have hl1 : l.length ≤ r.length := by omega
    have hl2 : r.length ≤ l.length := by omega
    clear hlen
    go_enter Tryz.func40, Tryz.ntmps40
    go_wp2
    go_loopw [13] (fun i wr => ∃ k : Nat, k ≤ l.length ∧ i = .int .i64 k ∧ l.take k = r.take k ∧ Below w.heap.size w wr) (fun i _ => l.length - (intOf i).toNat)
    case atStart => exact ⟨0, by omega, rfl, by simp, Below.refl _ _⟩
    case round =>
      obtain ⟨k, hk, rfl, he, hbe⟩ := hrel
      have He := hid he; clear he
      by_cases hlt : k < l.length
      · have hlt' : k < r.length := by omega
        obtain ⟨b0, o0, rfl, hb0, hcl0⟩ := hx0 k hlt
        obtain ⟨b1, o1, rfl, hb1, hcl1⟩ := hx1 k hlt'
        have L0 := range_keeps hbe (hcl0 k hlt)
        have L1 := range_keeps hbe (hcl1 k hlt')
        have HS := hid (fun h => same_stepD hlt hlt' He.out h)
        have HN := hid (fun h : ¬ l[k] = r[k] => fun e : l = r => h (by subst e; rfl))
        have HB := hid hbe
        clear hcl0 hcl1 hx0 hx1 hbe
        go_wp2
        refine wp_region_wq (by kernel_rfl) (by kernel_rfl) ?_
        repeat (first | refine WQ.ld rt100 (fun W hW => range_keeps hW L0) (RdL.len _) ?_ | refine WQ.ld rt100 (fun W hW => range_keeps hW L1) (RdL.len _) ?_ | refine WQ.neq (eqt100 _ _) ?_ | (refine WQ.step (fun K hK => ?_); go_simp; first | (refine hK _ ?_; clear hK K) | (apply Exists.intro; refine ⟨fun W hW => ?_, hK _ ?_⟩; (first | with_reducible rfl | (go_simp; first | rfl | exact ⟨rfl, rfl⟩)); clear hK K)))
        refine WQ.nil ?_
        intro wq hwq
        by_cases hq : l[k] = r[k]
        · rw [decide_eq_true hq]
          go_wp2
          exact ⟨⟨k + 1, by omega, by go_num, HS.out hq, Below.chain HB.out hwq⟩, by simp [intOf]; omega⟩
        · rw [decide_eq_false hq]
          go_wp2
          go_ret
          exact ⟨by rw [decide_eq_false (HN.out hq)]; rfl, Below.chain HB.out hwq⟩
      · go_wp2
        go_ret
        exact ⟨by rw [decide_eq_true (by rw [← List.take_of_length_le (l := l) (i := k) (by omega), He.out, List.take_of_length_le (by omega)])]; rfl, hbe⟩
  · have hb : ((l.length : Int) != (r.length : Int)) = true := by simp; omega
    go_enter Tryz.func40, Tryz.ntmps40
    go_wp2
    go_ret
    exact ⟨by rw [decide_eq_false (by rintro rfl; exact hlen rfl)]; rfl, Below.refl _ _⟩
set_option maxHeartbeats 1000000 in
theorem eqMades_any (v0 v1 : Value) (l r : List MdL) (w : World) (h0 : RowsOf w 33 MdL.cells v0 l) (h1 : RowsOf w 33 MdL.cells v1 r) :
    Calls Tryz.prog 41 #[v0, v1] w fun e w' => e = .returned (.bool (decide (l = r))) ∧ Below w.heap.size w w' := by
  obtain ⟨a0, c0, rfl, hc0, hm0, -, hx0⟩ := h0.out MdL.len (by omega)
  obtain ⟨a1, c1, rfl, hc1, hm1, -, hx1⟩ := h1.out MdL.len (by omega)
  clear h0 h1
  unfold maxLen at hm0 hm1
  by_cases hlen : l.length = r.length
  · have hb : ((l.length : Int) != (r.length : Int)) = false := by simp [hlen]
    have hl1 : l.length ≤ r.length := by omega
    have hl2 : r.length ≤ l.length := by omega
    clear hlen
    go_enter Tryz.func41, Tryz.ntmps41
    go_wp2
    go_loopw [13] (fun i wr => ∃ k : Nat, k ≤ l.length ∧ i = .int .i64 k ∧ l.take k = r.take k ∧ Below w.heap.size w wr) (fun i _ => l.length - (intOf i).toNat)
    case atStart => exact ⟨0, by omega, rfl, by simp, Below.refl _ _⟩
    case round =>
      obtain ⟨k, hk, rfl, he, hbe⟩ := hrel
      have He := hid he; clear he
      by_cases hlt : k < l.length
      · have hlt' : k < r.length := by omega
        obtain ⟨b0, o0, rfl, hb0, hcl0⟩ := hx0 k hlt
        obtain ⟨b1, o1, rfl, hb1, hcl1⟩ := hx1 k hlt'
        have L0 := range_keeps hbe (hcl0 k hlt)
        have L1 := range_keeps hbe (hcl1 k hlt')
        have HS := hid (fun h => same_stepD hlt hlt' He.out h)
        have HN := hid (fun h : ¬ l[k] = r[k] => fun e : l = r => h (by subst e; rfl))
        have HB := hid hbe
        clear hcl0 hcl1 hx0 hx1 hbe
        go_wp2
        refine wp_region_wq (by kernel_rfl) (by kernel_rfl) ?_
        repeat (first | refine WQ.ld rt54 (fun W hW => range_keeps hW L0) (MdL.len _) ?_ | refine WQ.ld rt54 (fun W hW => range_keeps hW L1) (MdL.len _) ?_ | refine WQ.neq (eqt54 _ _) ?_ | (refine WQ.step (fun K hK => ?_); go_simp; first | (refine hK _ ?_; clear hK K) | (apply Exists.intro; refine ⟨fun W hW => ?_, hK _ ?_⟩; (first | with_reducible rfl | (go_simp; first | rfl | exact ⟨rfl, rfl⟩)); clear hK K)))
        refine WQ.nil ?_
        intro wq hwq
        by_cases hq : l[k] = r[k]
        · rw [decide_eq_true hq]
          go_wp2
          exact ⟨⟨k + 1, by omega, by go_num, HS.out hq, Below.chain HB.out hwq⟩, by simp [intOf]; omega⟩
        · rw [decide_eq_false hq]
          go_wp2
          go_ret
          exact ⟨by rw [decide_eq_false (HN.out hq)]; rfl, Below.chain HB.out hwq⟩
      · go_wp2
        go_ret
        exact ⟨by rw [decide_eq_true (by rw [← List.take_of_length_le (l := l) (i := k) (by omega), He.out, List.take_of_length_le (by omega)])]; rfl, hbe⟩
  · have hb : ((l.length : Int) != (r.length : Int)) = true := by simp; omega
    go_enter Tryz.func41, Tryz.ntmps41
    go_wp2
    go_ret
    exact ⟨by rw [decide_eq_false (by rintro rfl; exact hlen rfl)]; rfl, Below.refl _ _⟩
end Go.Proofs.YtlbipokkdiiaiaaGreatDoor
