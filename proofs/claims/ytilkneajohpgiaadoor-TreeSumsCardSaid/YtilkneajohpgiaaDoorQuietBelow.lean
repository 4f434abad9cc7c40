/- A region that draws its order, whose own operations only read what stood before it, and whose callees make new memory alone: one walk in the order of the text serves every order (the class of worlds: nothing that stood has turned). -/
import Derived.Test.YtilkneajohpgiaaDoorBase
import Derived.Deep.Quiet
import Derived.Deep.QuietTactic
namespace Go.Proofs.YtilkneajohpgiaaDoor
open Go.RowKit

theorem wp_region_below {P : Program} {id : Nat} {Q : Exit → Act → World → Prop} {a : Act} {w : World} {l : List Oper} (hm : P.follows .mixedOrders = true) (hB : Region.lexB .any l.toArray = true)
    (h : wpQuiet P l.toArray (fun w' => Below w.heap.size w w') (fun a' => ∀ w', Below w.heap.size w w' → Q .normal a' w') l a) : (Code.region id l.toArray true).wp P Q a w :=
  wp_region_quiet (C := fun w' => Below w.heap.size w w') hm hB ⟨rfl, rfl, rfl, Nat.le_refl _, fun _ _ => rfl⟩ (by simpa using h)
theorem Calls.quiet_below {P : Program} {f : FuncId} {args : Array Value} {w W : World} {v : Value} (hW : Below w.heap.size w W)
    (h : Calls P f args W fun e w' => e = .returned v ∧ Below W.heap.size W w') : Calls P f args W fun e w'' => e = .returned v ∧ Below w.heap.size w w'' :=
  h.mono fun _ _ ⟨he, hb⟩ => ⟨he, Below.chain hW hb⟩
theorem Below.keeps {w W : World} (hW : Below w.heap.size w W) {a : Addr} {v : Value} (h : w.cell? a = some v) : W.cell? a = some v := (hW.cell (World.block_lt_of_cell? w _ h)).trans h
/-- The lexical walk, kept shut. -/
structure WQ (P : Program) (ops : Array Oper) (C : World → Prop) (Q : Act → Prop) (l : List Oper) (a : Act) : Prop where
  out : wpQuiet P ops C Q l a
theorem WQ.step {P : Program} {ops : Array Oper} {C : World → Prop} {Q : Act → Prop} {a : Act} {o : Oper} {rest : List Oper}
    (h : ∀ K : Act → Prop, (∀ a, WQ P ops C Q rest a → K a) → if Region.wanted o (yielded ops a.tmps) then o.quiet P a C K else K (a.put o.dst undef)) : WQ P ops C Q (o :: rest) a :=
  ⟨wpQuiet_step (fun K hK => h K (fun a ha => hK a ha.out))⟩
theorem WQ.nil {P : Program} {ops : Array Oper} {C : World → Prop} {Q : Act → Prop} {a : Act} (h : Q a) : WQ P ops C Q [] a := ⟨wpQuiet_nil h⟩
theorem wp_region_wq {P : Program} {id : Nat} {Q : Exit → Act → World → Prop} {a : Act} {w : World} {l : List Oper} (hm : P.follows .mixedOrders = true) (hB : Region.lexB .any l.toArray = true)
    (h : WQ P l.toArray (fun w' => Below w.heap.size w w') (fun a' => ∀ w', Below w.heap.size w w' → Q .normal a' w') l a) : (Code.region id l.toArray true).wp P Q a w := wp_region_below hm hB h.out
end Go.Proofs.YtilkneajohpgiaaDoor
