/- A region that draws its order and makes memory: its orders walked by hand, what only reads or is not wanted first (the walk kept shut in a structure). -/
import Derived.Test.YtilkneajohpgiaaDoorQuietBelow
import Derived.Deep.RegionHeld3
import Derived.Deep.MidRow
namespace Go.Proofs.YtilkneajohpgiaaDoor
open Go.RowKit

/-- The walk over every order, kept shut. -/
structure WH (P : Program) (ops : Array Oper) (Q : Exit → Act → World → Prop) (S : World → Prop) (fuel : Nat) (listed : Array Bool) (a : Act) (w : World) : Prop where
  out : wpAnyH P .any ops Q S fuel listed a w
variable {P : Program} {ops : Array Oper} {Q : Exit → Act → World → Prop} {S : World → Prop} {fuel : Nat} {listed : Array Bool} {a : Act} {w : World}
theorem wp_region_wh {id : Nat} {l : List Oper} (hm : P.follows .mixedOrders = true) (h : WH P l.toArray Q S l.length (Array.replicate l.length false) a w.drew) : (Code.region id l.toArray true).wp P Q a w :=
  wp_region_held (S := S) hm (by simpa using h.out)
theorem WH.take (i : Nat) (dst : Option Tmp) {oi : Oper} (hi : ops[i]? = some oi) (hd : oi.dst = dst) (hs : Region.noSelect ops = true) (hf : Region.free .any ops listed i = true) (hr : (Region.ready .any ops listed).contains i = true)
    (hQ' : ∀ v c a w, Q (.panic c) (a.put oi.dst v) w → Q (.panic c) a w) (hS : S w)
    (h : ∃ v, (Region.wanted oi (yielded ops a.tmps) = true ∧ ∀ W, S W → (execOp a.eval oi).run P W = .ok (.value v) W) ∧ WH P ops Q S fuel (listed.setIfInBounds i true) (a.put dst v) w) : WH P ops Q S (fuel + 1) listed a w := by
  subst hd
  obtain ⟨v, hy, h⟩ := h
  exact ⟨wpAnyH_take hi hs hf hr (hQ' v) (.inl hy) hS h.out⟩
theorem WH.skip (i : Nat) (dst : Option Tmp) {oi : Oper} (hi : ops[i]? = some oi) (hd : oi.dst = dst) (hs : Region.noSelect ops = true) (hf : Region.free .any ops listed i = true) (hr : (Region.ready .any ops listed).contains i = true)
    (hQ : ∀ c a w, Q (.panic c) (a.put oi.dst undef) w → Q (.panic c) a w) (hS : S w) (hw : Region.wanted oi (yielded ops a.tmps) = false)
    (h : WH P ops Q S fuel (listed.setIfInBounds i true) (a.put dst undef) w) : WH P ops Q S (fuel + 1) listed a w := by
  subst hd
  exact ⟨wpAnyH_take hi hs hf hr hQ (.inr ⟨hw, rfl⟩) hS h.out⟩
theorem WH.one (i : Nat) {oi : Oper} (hr : Region.ready .any ops listed = [i]) (hi : ops[i]? = some oi) (hw : Region.wanted oi (yielded ops a.tmps) = true)
    (h : ∀ K' : Act → World → Prop, Shut (∀ a w, S w → WH P ops Q S fuel (listed.setIfInBounds i true) a w → K' a w) → Oper.wp P oi a w K' Q) : WH P ops Q S (fuel + 1) listed a w :=
  ⟨wpAnyH_all hr (by simp) (fun j hj => by
    obtain rfl : j = i := by simpa using hj
    exact wpOp_step hi (fun K' hK => by rw [if_pos hw]; exact h K' (fun a w hS hW => hK a w ⟨hS, hW.out⟩)))⟩
theorem WH.two (i j : Nat) {oi oj : Oper} (hr : Region.ready .any ops listed = [i, j]) (hi : ops[i]? = some oi) (hw : Region.wanted oi (yielded ops a.tmps) = true) (hj : ops[j]? = some oj) (hv : Region.wanted oj (yielded ops a.tmps) = true)
    (h : ∀ K' : Act → World → Prop, Shut (∀ a w, S w → WH P ops Q S fuel (listed.setIfInBounds i true) a w → K' a w) → Oper.wp P oi a w K' Q)
    (h' : ∀ K' : Act → World → Prop, Shut (∀ a w, S w → WH P ops Q S fuel (listed.setIfInBounds j true) a w → K' a w) → Oper.wp P oj a w K' Q) : WH P ops Q S (fuel + 1) listed a w :=
  ⟨wpAnyH_all hr (by simp) (fun k hk => by
    rcases List.mem_cons.1 hk with rfl | hk
    · exact wpOp_step hi (fun K' hK => by rw [if_pos hw]; exact h K' (fun a w hS hW => hK a w ⟨hS, hW.out⟩))
    · obtain rfl : k = j := by simpa using hk
      exact wpOp_step hj (fun K' hK => by rw [if_pos hv]; exact h' K' (fun a w hS hW => hK a w ⟨hS, hW.out⟩)))⟩
theorem WH.three (i j k : Nat) {oi oj ok : Oper} (hr : Region.ready .any ops listed = [i, j, k]) (hi : ops[i]? = some oi) (hj : ops[j]? = some oj) (hk : ops[k]? = some ok)
    (hwi : Region.wanted oi (yielded ops a.tmps) = true) (hwj : Region.wanted oj (yielded ops a.tmps) = true) (hwk : Region.wanted ok (yielded ops a.tmps) = true)
    (h : ∀ K' : Act → World → Prop, Shut (∀ a w, S w → WH P ops Q S fuel (listed.setIfInBounds i true) a w → K' a w) → Oper.wp P oi a w K' Q)
    (h' : ∀ K' : Act → World → Prop, Shut (∀ a w, S w → WH P ops Q S fuel (listed.setIfInBounds j true) a w → K' a w) → Oper.wp P oj a w K' Q)
    (h'' : ∀ K' : Act → World → Prop, Shut (∀ a w, S w → WH P ops Q S fuel (listed.setIfInBounds k true) a w → K' a w) → Oper.wp P ok a w K' Q) : WH P ops Q S (fuel + 1) listed a w :=
  ⟨wpAnyH_all hr (by simp) (fun m hm => by
    simp only [List.mem_cons, List.not_mem_nil, or_false] at hm
    rcases hm with rfl | rfl | rfl
    · exact wpOp_step hi (fun K' hK => by rw [if_pos hwi]; exact h K' (fun a w hS hW => hK a w ⟨hS, hW.out⟩))
    · exact wpOp_step hj (fun K' hK => by rw [if_pos hwj]; exact h' K' (fun a w hS hW => hK a w ⟨hS, hW.out⟩))
    · exact wpOp_step hk (fun K' hK => by rw [if_pos hwk]; exact h'' K' (fun a w hS hW => hK a w ⟨hS, hW.out⟩)))⟩
/-- A load that may come up now is taken first. -/
theorem WH.take_load (i : Nat) (dst : Option Tmp) {oi : Oper} (hi : ops[i]? = some oi) (hd : oi.dst = dst) (hs : Region.noSelect ops = true) (hf : Region.free .any ops listed i = true) (hr : (Region.ready .any ops listed).contains i = true)
    (hQ' : ∀ v c a w, Q (.panic c) (a.put oi.dst v) w → Q (.panic c) a w) (hS : S w) (hw : Region.wanted oi (yielded ops a.tmps) = true)
    (ty : TypeId) (x : Operand) (ho : oi.op = .load ty x) (b o : Nat) (hx : a.eval x = .pointer (some ⟨b, o, none⟩)) (cs : List Value) (d : TypeDesc) (hc : ∀ w, S w → w.rangeAt b o cs)
    (hu : P.underlying ty = some d) (hrow : d.isRow = true) (hsz : (P.info? ty).map (·.size) = some cs.length)
    (h : WH P ops Q S fuel (listed.setIfInBounds i true) (a.put dst (.agg cs.toArray)) w) : WH P ops Q S (fuel + 1) listed a w := by
  subst hd
  exact ⟨wpAnyH_take hi hs hf hr (hQ' _) (yieldsIf_load_mid hw ty x ho b o hx cs d hc hu hrow hsz) hS h.out⟩
theorem WH.done (hr : Region.ready .any ops listed = []) (h : Q .normal a w) : WH P ops Q S fuel listed a w := ⟨wpAnyH_done hr h fuel⟩
end Go.Proofs.YtilkneajohpgiaaDoor
