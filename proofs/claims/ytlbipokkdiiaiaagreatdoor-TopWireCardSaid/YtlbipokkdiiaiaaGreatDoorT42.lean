/- Lemmas for TopWire: Frame. -/
import Derived.Test.YtlbipokkdiiaiaaGreatDoorT11
import Derived.Test.YtlbipokkdiiaiaaGreatDoorRows
import Derived.Test.YtlbipokkdiiaiaaGreatDoorCards
import Derived.Test.YtlbipokkdiiaiaaGreatDoorTie
import Derived.ProofKit
import Derived.SizedLaws
import Derived.Deep.DeepHandedRow
import Derived.Lib.LaidTab
import Derived.Deep.Slices
/- The frame of a law's proof: from a walk that answers true and turns nothing that was there, to the row's 'post'; arguments opened. -/
namespace Go.Proofs.YtlbipokkdiiaiaaGreatDoor
open Go.ChangeShapes Go.WideShapes Go.ChangeAt Go.RowKit
set_option maxRecDepth 100000
theorem own : ownKnob Tryz.prog.godebug = none := by kernel_rfl
theorem laidOut : laidOutB Tryz.prog = true := by kernel_rfl
theorem trodAll_below {H : Type} {enc : TypeId × Value → H} {P : Program} (hl : laidOutB P = true) {W W' : World} (hb : Below W.heap.size W W') :
    ∀ (ts : List TypeId) (vs : List Value) (ds : List (DataW H)) (p : List MemPlace), (ts.all fun t => P.readableRec t && decide (t < P.types.size)) = true →
      DataW.TrodAll enc P W 0 (fun _ => true) true ts vs ds p → (∀ x ∈ p, x.block < W.heap.size) → DataW.TrodAll enc P W' 0 (fun b => decide (b < W.heap.size)) true ts vs ds p
  | [], [], [], _, _, h, _ => h
  | t :: ts, v :: vs, d :: ds, _, hr, h, hlt => by
    obtain ⟨p, q, h1, h2, rfl⟩ := h
    simp only [List.all_cons, Bool.and_eq_true, decide_eq_true_eq] at hr
    exact ⟨p, q, Below.trod hl hr.1.1 hr.1.2 h1 hb (fun x hx => hlt x (by simp [hx])), trodAll_below hl hb ts vs ds q hr.2 h2 (fun x hx => hlt x (by simp [hx])), rfl⟩
  | [], [], _ :: _, _, _, h, _ => h.elim
  | [], _ :: _, _, _, _, h, _ => h.elim
  | _ :: _, [], _, _, _, h, _ => h.elim
  | _ :: _, _ :: _, [], _, _, h, _ => h.elim
/-- THE END OF A LAW: it answered true, and nothing that was there has turned. -/
theorem law_post {H : Type} {enc : TypeId × Value → H} {s : ChangeSpec} {f : Func} {W W' : World} {args : Array Value} {ds gs : List (DataW H)} {before : List MemPlace} (hvars : s.vars = [])
    (hres : f.resultTypes = #[4]) (hr : (f.params.toList.all fun t => Tryz.prog.readableRec t && decide (t < Tryz.prog.types.size)) = true)
    (hW : DataW.Whole enc Tryz.prog f.params.toList s.vars false W args.toList ds gs before)
    (hfn : (s.fn H (ds ++ gs)).results = [.lit (.bool true)] ∧ (s.fn H (ds ++ gs)).args = ds ∧ (s.fn H (ds ++ gs)).vars = []) (hb : Below W.heap.size W W') :
    s.post enc Tryz.prog f false true false false W args (.bool true) W' := by
  have hW' := hW
  obtain ⟨p, q, hA, hV, rfl, -, -⟩ := hW
  have hlt : ∀ x ∈ p, x.block < W.heap.size := fun x hx => hW'.lt x (by simp [hx])
  refine ⟨ds, gs, p ++ q, [] ++ [], p, [], hW', ?_, ?_, ?_, hb.frame _, fun h => by cases h⟩
  · rw [hfn.1, hres]; exact trodAll_mk1 (shut_bool Tryz.underlying4 true)
  · rw [hfn.2.1]; exact trodAll_below laidOut hb _ _ _ _ hr hA hlt
  · rw [hfn.2.2, hvars]; rfl
/-- What a reading of the arguments weighs, one by one. -/
theorem weights_le {H : Type} {P : Program} {ts : List TypeId} {ds : List (DataW H)} (h : (DataW.weightsEach P ts ds).all (· ≤ reachBytes) = true) {j : Nat} {t : TypeId} {d : DataW H} (ht : ts[j]? = some t) (hd : ds[j]? = some d) :
    ∀ n ∈ d.weights P t, n ≤ reachBytes := fun n hn => by simpa using List.all_eq_true.1 h n (DataW.weights_mem_each ht hd n hn)
theorem weightsAll_mem {H : Type} {P : Program} {e : TypeId} {d : DataW H} : ∀ {ds : List (DataW H)}, d ∈ ds → ∀ n ∈ d.weights P e, n ∈ DataW.weightsAll P e ds
  | d0 :: ds, hd, n, hn => by
    simp only [DataW.weightsAll, List.mem_append]
    rcases List.mem_cons.1 hd with rfl | hd
    · exact .inl hn
    · exact .inr (weightsAll_mem hd n hn)
/-- A '[]string' that came in. -/
theorem read_strings {H : Type} {enc : TypeId × Value → H} {W : World} {fuel : Nat} {v : Value} {d : DataW H} {p : List MemPlace}
    (hf : DataW.trod enc Tryz.prog W 0 (fun _ => true) true fuel 46 [v] = some (d, p)) (hw : ∀ n ∈ d.weights Tryz.prog 46, n ≤ reachBytes) :
    ∃ ss : List (List UInt8), SliceAt W 1 v ss.length (strCells ss) ∧ (∀ s ∈ ss, s.length ≤ reachBytes) ∧ ss.length * 16 ≤ reachBytes := by
  rcases open_strings Tryz.underlying46 Tryz.underlying9 (by kernel_rfl) hf with ⟨hcs, hx⟩ | ⟨a, len, cap, ss, hcs, _, hl, hm, hz, hx, hcell, _⟩
  · obtain rfl : v = .slice none 0 0 := by simpa using hcs
    exact ⟨[], SliceAt.nil _ _, by simp, by simp⟩
  · obtain rfl : v = .slice (some a) len cap := by simpa using hcs
    simp only [Prod.mk.injEq] at hx
    obtain ⟨rfl, rfl⟩ := hx
    simp only [if_true] at hz
    have hbytes : Tryz.prog.bytesOf 9 = 16 := by kernel_rfl
    refine ⟨(ss.take len).map (·.data.toList), ?_, ?_, ?_⟩
    · refine ⟨by simp [strCells], _, cap, by simp only [List.length_map, List.length_take]; rw [Nat.min_eq_left (by omega)], by simp only [List.length_map, List.length_take]; rw [Nat.min_eq_left (by omega)]; exact hl, hm, fun h => (by cases h), fun hne => ?_⟩
      have hl0 : 0 < len := by
        rcases Nat.eq_zero_or_pos len with h0 | h0
        · subst h0; simp [strCells] at hne
        · exact h0
      obtain ⟨b, off, spot⟩ := a
      have hspot : spot = none := by simpa [Addr.add] using World.cell?_spot (hcell 0 (by omega))
      subst hspot
      refine ⟨b, off, rfl, ?_, fun j u hu => ?_⟩
      · have := World.block_lt_of_cell? W _ (hcell 0 (by omega)); simpa [Addr.add] using this
      · simp only [strCells, List.map_map, List.getElem?_map, Option.map_eq_some_iff] at hu
        obtain ⟨s, hs, rfl⟩ := hu
        have hj : j < len := by
          rcases Nat.lt_or_ge j len with h | h
          · exact h
          · rw [List.getElem?_eq_none (by simp; omega)] at hs; cases hs
        rw [List.getElem?_take, if_pos hj] at hs
        rw [← add_plain, hcell j (by omega)]
        simp [List.getD, hs, bs]
    · intro s hs
      simp only [List.mem_map] at hs
      obtain ⟨t, ht, rfl⟩ := hs
      refine hw _ ?_
      simp only [DataW.weights, Tryz.underlying46, List.mem_cons, List.mem_append]
      refine .inr (.inl (weightsAll_mem (d := .lit (.string t.data.toList)) ?_ _ (by simp [DataW.weights])))
      simp only [strs, List.mem_map]; exact ⟨t, ht, rfl⟩
    · have := hw ((len + (ss.length - len)) * 16) (by simp [DataW.weights, Tryz.underlying46, strs, hbytes]; left; omega)
      simp; omega
theorem arg_strings {H : Type} {enc : TypeId × Value → H} {W : World} {base : Nat} {v : Value} {d : DataW H} {p : List MemPlace}
    (hv : Value.okWide Tryz.prog W .any base 46 v) (h : DataW.Trod enc Tryz.prog W 0 (fun _ => true) true 46 v d p) (hw : ∀ n ∈ d.weights Tryz.prog 46, n ≤ reachBytes) :
    ∃ ss : List (List UInt8), SliceAt W 1 v ss.length (strCells ss) ∧ (∀ s ∈ ss, s.length ≤ reachBytes) ∧ ss.length * 16 ≤ reachBytes := by
  obtain ⟨a0, len, cap, rfl⟩ := okWide_slice Tryz.underlying46 hv
  obtain ⟨fuel, hf⟩ := h
  exact read_strings (v := .slice a0 len cap) hf hw
/-- A string that came in. -/
theorem arg_string {H : Type} {enc : TypeId × Value → H} {W : World} {base : Nat} {v : Value} {d : DataW H} {p : List MemPlace}
    (hv : Value.okWide Tryz.prog W .any base 9 v) (h : DataW.Trod enc Tryz.prog W 0 (fun _ => true) true 9 v d p) (hw : ∀ n ∈ d.weights Tryz.prog 9, n ≤ reachBytes) :
    ∃ l : List UInt8, v = .string (bs l) ∧ l.length ≤ reachBytes := by
  obtain ⟨s, rfl, rfl, rfl, hs⟩ := ChangeMaps.open_string Tryz.underlying9 hv h
  exact ⟨s.data.toList, rfl, hw _ (by simp [DataW.weights])⟩
theorem laidMet_tail {P : Program} {x : String × DataW Unit} {l : List (String × DataW Unit)} {w : World} (h : laidMet P (x :: l) w) : laidMet P l w := by
  obtain ⟨ps, ⟨g, t, cs, fuel, p, q, _, _, _, _, h2, rfl⟩, hnd, hc⟩ := h
  refine ⟨q, h2, (List.nodup_append.1 hnd).2.1, fun b off hm => hc b off ?_⟩
  exact List.mem_append_right _ hm
/-- 'Seven' : what every card of this seat asks of its function. -/
theorem plain_of {name : String} {n : FuncId} {f0 : Func} (hn : Tryz.prog.funcNamed name = some n) (h0 : Tryz.prog.funcs[n]? = some f0) {b : Bool} (hl : b = Tryz.prog.looks []) (hs : (f0.params.toList.all fun t => !Tryz.prog.wantsStandIn t) = true)
    (f : FuncId) (fn : Func) (hf : Tryz.pinned.checked.prog.funcNamed name = some f) (hfn : Tryz.pinned.checked.prog.funcs[f]? = some fn) :
    b = Tryz.pinned.checked.prog.looks [] ∧ ∀ (j : Nat) t, fn.params[j]? = some t → Tryz.pinned.checked.prog.wantsStandIn t = false := by
  obtain rfl : f = n := (Option.some.inj (hn.symm.trans hf)).symm
  obtain rfl : fn = f0 := (Option.some.inj (h0.symm.trans hfn)).symm
  refine ⟨hl, fun j t ht => ?_⟩
  have hm : t ∈ fn.params.toList := by simpa using Array.mem_of_getElem? ht
  have := List.all_eq_true.1 hs t hm
  have h2 : Tryz.prog.wantsStandIn t = false := by simpa using this
  exact h2
end Go.Proofs.YtlbipokkdiiaiaaGreatDoor
