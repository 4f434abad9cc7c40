/- A region that draws its order: all operations but the last ones, which come in one forced order, read or call what makes new memory alone: one walk in the order of the text, then the last ones as a plain list. -/
import Derived.Test.YtilkneajohpgiaaDoorQuietHeld
import Derived.StillTail
namespace Go.Proofs.YtilkneajohpgiaaDoor
open Go.RowKit

section
variable {P : Program} {ops : Array Oper} {md : Region.Mode} {C : World → Prop}
/-- Each operation from s to n has a later one, up to n, that waits for it. -/
def sinkFrom (md : Region.Mode) (ops : Array Oper) (s n : Nat) : Bool :=
  (List.range n).all fun i => decide (i < s) || (List.range (n + 1)).any fun j => decide (i < j) && Region.waitsFor md ops j i
theorem tail_waitsFrom {s n : Nat} {listed : Array Bool} (hs : sinkFrom md ops s n = true) (hc : Region.chainB md ops n = true) (hn : n < ops.size) (inv : HeadInv md ops n listed) :
    ∀ (d i : Nat), n - i = d → s ≤ i → i < n → listed.getD i true = false → ∀ t, n ≤ t → t ∉ Region.ready md ops listed := by
  intro d
  induction d using Nat.strongRecOn with
  | _ d ih =>
    intro i hd hsi hi hun t ht hr
    obtain ⟨_, ot, hot, hall⟩ := mem_ready.1 hr
    have htlt : t < ops.size := (Array.getElem?_eq_some_iff.1 hot).1
    by_cases htn : t = n
    · subst htn
      have h1 := List.all_eq_true.1 hs i (List.mem_range.2 hi)
      simp only [Bool.or_eq_true, decide_eq_true_eq] at h1
      rcases h1 with h1 | h1
      · omega
      obtain ⟨j, hj, hj2⟩ := List.any_eq_true.1 h1
      simp only [Bool.and_eq_true, decide_eq_true_eq] at hj2
      obtain ⟨oj, hoj, e, he, hb, hon⟩ := Region.waitsFor_spec hj2.2
      have hjle : j ≤ t := by have := List.mem_range.1 hj; omega
      by_cases hjt : j = t
      · subst hjt
        have : oj = ot := Option.some.inj (hoj.symm.trans hot)
        subst this
        have h2 := hall e he hb
        rw [hon, getD_both hun] at h2
        cases h2
      · cases hl : listed.getD j false with
        | true =>
          have h2 := inv.closed j oj hoj hl e he hb
          rw [hon, getD_both hun] at h2
          cases h2
        | false =>
          have hjs : j < listed.size := by rw [inv.size]; omega
          exact ih (t - j) (by omega) j rfl (by omega) (by omega) (getD_in hjs hl) t (Nat.le_refl _) hr
    · have h1 := List.all_eq_true.1 hc t (List.mem_range.2 htlt)
      simp only [Bool.or_eq_true, decide_eq_true_eq] at h1
      rcases h1 with h1 | h1
      · omega
      · obtain ⟨o', ho', e, he, hb, hon⟩ := Region.waitsFor_spec h1
        have : o' = ot := Option.some.inj (ho'.symm.trans hot)
        subst this
        have h2 := hall e he hb
        rw [hon, getD_both (inv.tail (t - 1) (by omega) (by omega))] at h2
        cases h2
/-- Whatever order is picked among the first n, till f of them are listed. -/
def wpHeadQ (P : Program) (md : Region.Mode) (ops : Array Oper) (C : World → Prop) (n : Nat) (L : Array Bool → Act → Prop) : Nat → Array Bool → Act → Prop
  | 0, listed, a => L listed a
  | f + 1, listed, a => Region.ready md ops listed ≠ [] ∧ ∀ i ∈ Region.ready md ops listed, i < n ∧ qOp P ops C i (wpHeadQ P md ops C n L f (listed.setIfInBounds i true)) a
theorem wpAny_of_headQ {n g : Nat} {L : Array Bool → Act → Prop} {Q' : Exit → Act → World → Prop} (hL : ∀ listed a w, C w → L listed a → wpAnyH P md ops Q' (fun _ => True) g listed a w) :
    ∀ (f : Nat) (listed : Array Bool) (a : Act) (w : World), C w → wpHeadQ P md ops C n L f listed a → wpAnyH P md ops Q' (fun _ => True) (f + g) listed a w
  | 0, _, _, w, hw, h => by rw [Nat.zero_add]; exact hL _ _ w hw h
  | f + 1, _, _, w, hw, h => by
    rw [show f + 1 + g = (f + g) + 1 by omega]
    exact ⟨fun h0 => absurd h0 h.1, fun i hi => wpOp_of_qOp hw (fun a' w' hw' h' => ⟨trivial, wpAny_of_headQ hL f _ a' w' hw' h'⟩) (h.2 i hi).2⟩
theorem wpHeadQ_first {s n i : Nat} {oi : Oper} {v : Value} {L : Array Bool → Act → Prop} (hi : ops[i]? = some oi) (hsel : ∀ (j : Nat) (o : Oper) cs b, ops[j]? = some o → o.op ≠ .select cs b)
    (hs : sinkFrom md ops s n = true) (hc : Region.chainB md ops n = true) (hn : n < ops.size) (hsi : s ≤ i) (hin : i < n)
    (hdone : ∀ listed a, L listed a → ∀ j ∈ Region.ready md ops listed, n ≤ j) :
    ∀ (f : Nat) (listed : Array Bool) (a : Act), HeadInv md ops n listed →
      (∀ j oj, ops[j]? = some oj → j ≠ i → listed.getD j true = false → (∀ e ∈ oj.after, Region.binds md e = true → e.on ≠ i) → oi.apart ops oj = true) →
      i ∈ Region.ready md ops listed → YieldsIn P ops C oi v a →
      wpHeadQ P md ops C n L f (listed.setIfInBounds i true) (a.put oi.dst v) → wpHeadQ P md ops C n L (f + 1) listed a := by
  have early : ∀ {listed : Array Bool}, HeadInv md ops n listed → i ∈ Region.ready md ops listed → ∀ j ∈ Region.ready md ops listed, j < n := fun {listed} inv hr j hj => by
    rcases Nat.lt_or_ge j n with h | h
    · exact h
    · exact absurd hj (tail_waitsFrom hs hc hn inv _ i rfl hsi hin (mem_ready.1 hr).1 j h)
  intro f
  induction f with
  | zero =>
    intro listed a inv _ hr hy H
    refine ⟨fun h => (by rw [h] at hr; cases hr), fun j hj => ?_⟩
    have hjn := early inv hr j hj
    refine ⟨hjn, ?_⟩
    by_cases hji : j = i
    · subst hji; exact hy.qOp hi H
    · have := hdone _ _ H j (ready_mono hj hji)
      omega
  | succ f ih =>
    intro listed a inv hfree hr hy H
    have hun := (mem_ready.1 hr).1
    refine ⟨fun h => (by rw [h] at hr; cases hr), fun j hj => ?_⟩
    have hjn := early inv hr j hj
    refine ⟨hjn, ?_⟩
    by_cases hji : j = i
    · subst hji; exact hy.qOp hi H
    · have h1 := (H.2 j (ready_mono hj hji)).2
      obtain ⟨hjun, oj, hoj, hall⟩ := mem_ready.1 hj
      have hnot : ∀ e ∈ oj.after, Region.binds md e = true → e.on ≠ i := fun e he hb heq => by
        have h1 := hall e he hb
        rw [heq, getD_both hun] at h1
        cases h1
      have h2 := qOp_put hoj (hfree j oj hoj hji hjun hnot) (fun cs b => hsel i oi cs b hi) (fun cs b => hsel j oj cs b hoj) hy h1
      have hfree' : ∀ k ok, ops[k]? = some ok → k ≠ i → (listed.setIfInBounds j true).getD k true = false →
          (∀ e ∈ ok.after, Region.binds md e = true → e.on ≠ i) → oi.apart ops ok = true := fun k ok hk hki hun hno => by
        refine hfree k ok hk hki ?_ hno
        by_cases hjk : j = k
        · subst hjk; exact hjun
        · rw [getD_set_ne true hjk] at hun; exact hun
      refine qOp_mono (fun a' h3 => ih (listed.setIfInBounds j true) a' (inv.set hj hjn) hfree' (ready_mono hr (Ne.symm hji)) h3.1 ?_) h2
      rw [Array.setIfInBounds_comm _ _ hji]
      exact h3.2
theorem wpHeadQ_lex {s n g : Nat} {Lq : Act → Prop} (hsel : Region.noSelect ops = true) (hs : sinkFrom md ops s n = true) (hc : Region.chainB md ops n = true) (hn : n < ops.size) :
    ∀ (l : List Oper) (k : Nat) (listed : Array Bool) (a : Act), s ≤ k → (∀ j, j < l.length → l[j]? = ops[k + j]?) → k + l.length = n → HeadInv md ops n listed →
    Region.lexHead md ops g l.length k listed = true → wpQuiet P ops C Lq l a →
    wpHeadQ P md ops C n (fun listed' a' => Region.seqB md ops g n listed' = true ∧ Lq a') l.length listed a
  | [], k, listed, a, _, _, hk, _, hB, h => by
    have : k = n := by simpa using hk
    subst this
    exact ⟨by simpa [Region.lexHead] using hB, h⟩
  | o :: l, k, listed, a, hsk, hl, hk, inv, hB, h => by
    have h0 : ops[k]? = some o := by simpa using (hl 0 (by simp)).symm
    simp only [List.length_cons, Region.lexHead, Bool.and_eq_true] at hB
    obtain ⟨⟨hr, hf⟩, hB'⟩ := hB
    have hkn : k < n := by simp only [List.length_cons] at hk; omega
    have hr' : k ∈ Region.ready md ops listed := by simpa using hr
    have hst : qOp P ops C k (wpQuiet P ops C Lq l) a := by unfold qOp; simp only [h0]; exact h
    obtain ⟨v, hy, hK⟩ := yieldsIn_of_qOp h0 hst
    exact wpHeadQ_first h0 (Region.noSelect_spec hsel) hs hc hn hsk hkn (fun listed' a' hL => seqB_ready hL.1) l.length listed a inv (Region.free_spec h0 hf) hr' hy
      (wpHeadQ_lex hsel hs hc hn l (k + 1) _ _ (by omega) (fun j hj => by have := hl (j + 1) (by simp; omega); simpa [Nat.add_assoc, Nat.add_comm 1 j] using this) (by simp only [List.length_cons] at hk; omega) (inv.set hr' hkn) hB' hK)
theorem wpAnyH_of_seq {Q' : Exit → Act → World → Prop} : ∀ (l : List Oper) (k : Nat) (listed : Array Bool) (a : Act) (w : World), (∀ j, l[j]? = ops[k + j]?) →
    Region.seqB md ops l.length k listed = true → wpList P ops Q' l a w → wpAnyH P md ops Q' (fun _ => True) l.length listed a w
  | [], _, _, _, _, _, hB, h => ⟨by simpa [Region.seqB] using hB, h⟩
  | o :: l, k, listed, a, w, hl, hB, h => by
    have h0 : ops[k]? = some o := by simpa using (hl 0).symm
    simp only [List.length_cons, Region.seqB, Bool.and_eq_true, decide_eq_true_eq] at hB
    refine ⟨fun h1 => (by rw [hB.1] at h1; cases h1), fun i hi => ?_⟩
    rw [hB.1] at hi
    have hik : i = k := by simpa using hi
    subst hik
    have hw : wpOp P ops Q' i (wpList P ops Q' l) a w := by unfold wpOp; simp only [h0]; exact h
    exact wpOp_mono (fun a' w' h' => ⟨trivial, wpAnyH_of_seq l (i + 1) _ a' w' (fun j => by have := hl (j + 1); simpa [Nat.add_assoc, Nat.add_comm 1 j] using this) hB.2 h'⟩) hw
/-- The first s operations are listed, and no other. -/
def startB (md : Region.Mode) (ops : Array Oper) (s : Nat) (listed : Array Bool) : Bool :=
  decide (listed.size = ops.size) && (List.range ops.size).all fun j => listed.getD j true == decide (j < s) &&
    (decide (s ≤ j) || match ops[j]? with | some o => o.after.all fun e => !Region.binds md e || decide (e.on < s) | none => true)
def tailB (md : Region.Mode) (ops : Array Oper) (s n : Nat) (listed : Array Bool) : Bool :=
  Region.noSelect ops && decide (s ≤ n) && decide (n < ops.size) && sinkFrom md ops s n && Region.chainB md ops n && startB md ops s listed && Region.lexHead md ops (ops.size - n) (n - s) s listed
theorem startB_inv {s n : Nat} {listed : Array Bool} (hs : s ≤ n) (hn : n < ops.size) (h : startB md ops s listed = true) : HeadInv md ops n listed := by
  simp only [startB, Bool.and_eq_true, decide_eq_true_eq, List.all_eq_true, Bool.or_eq_true, beq_iff_eq, List.mem_range] at h
  obtain ⟨hz, h⟩ := h
  have hget : ∀ j, j < ops.size → listed.getD j true = decide (j < s) := fun j hj => (h j hj).1
  have hget' : ∀ j, j < ops.size → listed.getD j false = decide (j < s) := fun j hj => by
    have := hget j hj
    simp [hz, hj] at this ⊢; exact this
  refine ⟨hz, fun j oj hoj hl e he hb => ?_, fun t ht htl => ?_⟩
  · have hj : j < ops.size := (Array.getElem?_eq_some_iff.1 hoj).1
    rw [hget' j hj] at hl
    have hjs : j < s := by simpa using hl
    have h2 := (h j hj).2
    rcases h2 with h2 | h2
    · omega
    · rw [hoj] at h2
      have h3 := (Array.all_eq_true_iff_forall_mem.1 h2) e he
      simp only [hb, Bool.not_true, Bool.false_or, decide_eq_true_eq] at h3
      rw [hget' e.on (by omega)]
      simpa using h3
  · rw [hget t htl]; simp; omega
end

variable {P : Program}
theorem WH.tail {Q : Exit → Act → World → Prop} {a : Act} {w w0 : World} {l : List Oper} {listed : Array Bool} {fuel : Nat} (s n : Nat) (hf : fuel = (n - s) + (l.length - n)) (hB : tailB .any l.toArray s n listed = true) (hw : Below w0.heap.size w0 w)
    (h : WQ P l.toArray (fun w' => Below w0.heap.size w0 w') (fun a' => ∀ w', Below w0.heap.size w0 w' → wpList P l.toArray Q (l.drop n) a' w') ((l.take n).drop s) a) : WH P l.toArray Q (fun _ => True) fuel listed a w := by
  subst hf
  simp only [tailB, Bool.and_eq_true, decide_eq_true_eq] at hB
  obtain ⟨⟨⟨⟨⟨⟨hsel, hsn⟩, hn⟩, hs⟩, hc⟩, hst⟩, hlex⟩ := hB
  have hn' : n < l.length := by simpa using hn
  have htl : ((l.take n).drop s).length = n - s := by simp; omega
  have hdl : (l.drop n).length = l.toArray.size - n := by simp
  have H := wpHeadQ_lex (md := .any) (g := l.toArray.size - n) hsel hs hc hn ((l.take n).drop s) s _ a (Nat.le_refl _) (fun j hj => by
    have hj' : j < n - s := by rw [htl] at hj; exact hj
    simp [List.getElem?_drop, show s + j < n by omega]) (by rw [htl]; omega) (startB_inv hsn hn hst) (by rw [htl]; exact hlex) h.out
  have := wpAny_of_headQ (Q' := Q) (g := l.toArray.size - n) (fun listed a' w' hw' hL => by
    have := wpAnyH_of_seq (md := .any) (Q' := Q) (l.drop n) n listed a' w' (fun j => by simp [List.getElem?_drop]) (by rw [hdl]; exact hL.1) (hL.2 w' hw')
    rwa [hdl] at this) _ _ _ w hw H
  rw [htl] at this
  exact ⟨by simpa using this⟩
/-- No operation is taken ahead. -/
theorem wp_region_wq_tail {id : Nat} {Q : Exit → Act → World → Prop} {a : Act} {w : World} {l : List Oper} (n : Nat) (hm : P.follows .mixedOrders = true) (hB : tailB .any l.toArray 0 n (Array.replicate l.length false) = true)
    (h : WQ P l.toArray (fun w' => Below w.heap.size w w') (fun a' => ∀ w', Below w.heap.size w w' → wpList P l.toArray Q (l.drop n) a' w') (l.take n) a) : (Code.region id l.toArray true).wp P Q a w := by
  have hn : n < l.length := by
    have hB' := hB
    simp only [tailB, Bool.and_eq_true, decide_eq_true_eq] at hB'
    simpa using hB'.1.1.1.1.2
  exact wp_region_wh (S := fun _ => True) hm (WH.tail 0 n (by omega) hB (Drawn.below ⟨1, rfl⟩) (by simpa using h))
/-- The first operation (a move) is taken ahead. -/
theorem wp_region_wq_tail1 {id : Nat} {Q : Exit → Act → World → Prop} {a : Act} {w : World} {l : List Oper} {o : Oper} {v : Value} (n : Nat) (hm : P.follows .mixedOrders = true)
    (hs : Region.noSelect (o :: l).toArray = true) (hf : Region.free .any (o :: l).toArray (Array.replicate (o :: l).length false) 0 = true) (hr : (Region.ready .any (o :: l).toArray (Array.replicate (o :: l).length false)).contains 0 = true)
    (hQ' : ∀ v c a w, Q (.panic c) (a.put o.dst v) w → Q (.panic c) a w)
    (hw : Region.wanted o (yielded (o :: l).toArray a.tmps) = true) (hv : ∀ W, (execOp a.eval o).run P W = .ok (.value v) W)
    (hB : tailB .any (o :: l).toArray 1 (n + 1) ((Array.replicate (o :: l).length false).setIfInBounds 0 true) = true)
    (h : WQ P (o :: l).toArray (fun w' => Below w.heap.size w w') (fun a' => ∀ w', Below w.heap.size w w' → wpList P (o :: l).toArray Q (l.drop n) a' w') (l.take n) (a.put o.dst v)) : (Code.region id (o :: l).toArray true).wp P Q a w := by
  have hn : n + 1 < (o :: l).length := by
    have hB' := hB
    simp only [tailB, Bool.and_eq_true, decide_eq_true_eq] at hB'
    simpa using hB'.1.1.1.1.2
  rw [List.length_cons] at hn
  refine wp_region_wh (S := fun _ => True) hm ?_
  rw [List.length_cons]
  exact WH.take 0 o.dst (by simp) rfl hs hf hr hQ' trivial ⟨v, ⟨hw, fun W _ => hv W⟩, WH.tail 1 (n + 1) (by simp; omega) hB (Drawn.below ⟨1, rfl⟩) (by simpa using h)⟩
end Go.Proofs.YtilkneajohpgiaaDoor
