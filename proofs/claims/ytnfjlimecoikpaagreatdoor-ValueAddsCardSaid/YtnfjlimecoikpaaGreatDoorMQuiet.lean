/- Several texts of one claim, laid as one. -/
import Derived.Test.YtnfjlimecoikpaaGreatDoorBase
import Derived.Deep.Quiet
import Derived.Deep.QuietTactic
import Derived.Deep.RegionHeld3
/- A region that draws its order, whose own operations only read what stood before it, and whose callees make new memory alone: one walk in the order of the text serves every order (the class of worlds: nothing that stood has turned). -/
namespace Go.Proofs.YtnfjlimecoikpaaGreatDoor
open Go.RowKit

theorem wp_region_below {P : Program} {id : Nat} {Q : Exit → Act → World → Prop} {a : Act} {w : World} {l : List Oper} (hm : P.follows .mixedOrders = true) (hB : Region.lexB .any l.toArray = true)
    (h : wpQuiet P l.toArray (fun w' => Below w.heap.size w w') (fun a' => ∀ w', Below w.heap.size w w' → Q .normal a' w') l a) : (Code.region id l.toArray true).wp P Q a w :=
  wp_region_quiet (C := fun w' => Below w.heap.size w w') hm hB ⟨rfl, rfl, rfl, Nat.le_refl _, fun _ _ => rfl⟩ (by simpa using h)
theorem Calls.quiet_below {P : Program} {f : FuncId} {args : Array Value} {w W : World} {v : Value} (hW : Below w.heap.size w W)
    (h : Calls P f args W fun e w' => e = .returned v ∧ Below W.heap.size W w') : Calls P f args W fun e w'' => e = .returned v ∧ Below w.heap.size w w'' :=
  h.mono fun _ _ ⟨he, hb⟩ => ⟨he, Below.chain hW hb⟩
theorem Below.keeps {w W : World} (hW : Below w.heap.size w W) {a : Addr} {v : Value} (h : w.cell? a = some v) : W.cell? a = some v := (hW.cell (World.block_lt_of_cell? w _ h)).trans h
/-- The lexical walk, kept shut. -/
structure WQ (P : Program) (ops : Array Oper) (C : World → Prop) (Q : Act → Prop) (l : List Oper) (a : Act) : Prop where
  out : wpQuiet P ops C Q l a
theorem WQ.step {P : Program} {ops : Array Oper} {C : World → Prop} {Q : Act → Prop} {a : Act} {o : Oper} {rest : List Oper}
    (h : ∀ K : Act → Prop, (∀ a, WQ P ops C Q rest a → K a) → if Region.wanted o (yielded ops a.tmps) then o.quiet P a C K else K (a.put o.dst undef)) : WQ P ops C Q (o :: rest) a :=
  ⟨wpQuiet_step (fun K hK => h K (fun a ha => hK a ha.out))⟩
theorem WQ.nil {P : Program} {ops : Array Oper} {C : World → Prop} {Q : Act → Prop} {a : Act} (h : Q a) : WQ P ops C Q [] a := ⟨wpQuiet_nil h⟩
theorem wp_region_wq {P : Program} {id : Nat} {Q : Exit → Act → World → Prop} {a : Act} {w : World} {l : List Oper} (hm : P.follows .mixedOrders = true) (hB : Region.lexB .any l.toArray = true)
    (h : WQ P l.toArray (fun w' => Below w.heap.size w w') (fun a' => ∀ w', Below w.heap.size w w' → Q .normal a' w') l a) : (Code.region id l.toArray true).wp P Q a w := wp_region_below hm hB h.out
end Go.Proofs.YtnfjlimecoikpaaGreatDoor
/- A region that draws its order and makes memory: its orders walked by hand, what only reads or is not wanted first (the walk kept shut in a structure). -/
namespace Go.Proofs.YtnfjlimecoikpaaGreatDoor
open Go.RowKit

/-- The walk over every order, kept shut. -/
structure WH (P : Program) (ops : Array Oper) (Q : Exit → Act → World → Prop) (S : World → Prop) (fuel : Nat) (listed : Array Bool) (a : Act) (w : World) : Prop where
  out : wpAnyH P .any ops Q S fuel listed a w
variable {P : Program} {ops : Array Oper} {Q : Exit → Act → World → Prop} {S : World → Prop} {fuel : Nat} {listed : Array Bool} {a : Act} {w : World}
theorem wp_region_wh {id : Nat} {l : List Oper} (hm : P.follows .mixedOrders = true) (h : WH P l.toArray Q S l.length (Array.replicate l.length false) a w.drew) : (Code.region id l.toArray true).wp P Q a w :=
  wp_region_held (S := S) hm (by simpa using h.out)
theorem WH.take (i : Nat) (dst : Option Tmp) {oi : Oper} (hi : ops[i]? = some oi) (hd : oi.dst = dst) (hs : Region.noSelect ops = true) (hf : Region.free .any ops listed i = true) (hr : (Region.ready .any ops listed).contains i = true)
    (hQ' : ∀ v c a w, Q (.panic c) (a.put oi.dst v) w → Q (.panic c) a w) (hS : S w)
    (h : ∃ v, (Region.wanted oi (yielded ops a.tmps) = true ∧ ∀ W, S W → (execOp a.eval oi).run P W = .ok (.value v) W) ∧ WH P ops Q S fuel (listed.setIfInBounds i true) (a.put dst v) w) : WH P ops Q S (fuel + 1) listed a w := by
  subst hd
  obtain ⟨v, hy, h⟩ := h
  exact ⟨wpAnyH_take hi hs hf hr (hQ' v) (.inl hy) hS h.out⟩
theorem WH.skip (i : Nat) (dst : Option Tmp) {oi : Oper} (hi : ops[i]? = some oi) (hd : oi.dst = dst) (hs : Region.noSelect ops = true) (hf : Region.free .any ops listed i = true) (hr : (Region.ready .any ops listed).contains i = true)
    (hQ : ∀ c a w, Q (.panic c) (a.put oi.dst undef) w → Q (.panic c) a w) (hS : S w) (hw : Region.wanted oi (yielded ops a.tmps) = false)
    (h : WH P ops Q S fuel (listed.setIfInBounds i true) (a.put dst undef) w) : WH P ops Q S (fuel + 1) listed a w := by
  subst hd
  exact ⟨wpAnyH_take hi hs hf hr hQ (.inr ⟨hw, rfl⟩) hS h.out⟩
theorem WH.one (i : Nat) {oi : Oper} (hr : Region.ready .any ops listed = [i]) (hi : ops[i]? = some oi) (hw : Region.wanted oi (yielded ops a.tmps) = true)
    (h : ∀ K' : Act → World → Prop, Shut (∀ a w, S w → WH P ops Q S fuel (listed.setIfInBounds i true) a w → K' a w) → Oper.wp P oi a w K' Q) : WH P ops Q S (fuel + 1) listed a w :=
  ⟨wpAnyH_all hr (by simp) (fun j hj => by
    obtain rfl : j = i := by simpa using hj
    exact wpOp_step hi (fun K' hK => by rw [if_pos hw]; exact h K' (fun a w hS hW => hK a w ⟨hS, hW.out⟩)))⟩
theorem WH.two (i j : Nat) {oi oj : Oper} (hr : Region.ready .any ops listed = [i, j]) (hi : ops[i]? = some oi) (hw : Region.wanted oi (yielded ops a.tmps) = true) (hj : ops[j]? = some oj) (hv : Region.wanted oj (yielded ops a.tmps) = true)
    (h : ∀ K' : Act → World → Prop, Shut (∀ a w, S w → WH P ops Q S fuel (listed.setIfInBounds i true) a w → K' a w) → Oper.wp P oi a w K' Q)
    (h' : ∀ K' : Act → World → Prop, Shut (∀ a w, S w → WH P ops Q S fuel (listed.setIfInBounds j true) a w → K' a w) → Oper.wp P oj a w K' Q) : WH P ops Q S (fuel + 1) listed a w :=
  ⟨wpAnyH_all hr (by simp) (fun k hk => by
    rcases List.mem_cons.1 hk with rfl | hk
    · exact wpOp_step hi (fun K' hK => by rw [if_pos hw]; exact h K' (fun a w hS hW => hK a w ⟨hS, hW.out⟩))
    · obtain rfl : k = j := by simpa using hk
      exact wpOp_step hj (fun K' hK => by rw [if_pos hv]; exact h' K' (fun a w hS hW => hK a w ⟨hS, hW.out⟩)))⟩
theorem WH.done (hr : Region.ready .any ops listed = []) (h : Q .normal a w) : WH P ops Q S fuel listed a w := ⟨wpAnyH_done hr h fuel⟩
end Go.Proofs.YtnfjlimecoikpaaGreatDoor
