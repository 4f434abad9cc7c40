/- Lemmas for TopTwice: Frame, W43, W44, W76. -/
import Derived.Test.YtlbipokkdiiaiaaGreatDoorU10
import Derived.Test.YtlbipokkdiiaiaaGreatDoorRows
import Derived.Test.YtlbipokkdiiaiaaGreatDoorCards
import Derived.Test.YtlbipokkdiiaiaaGreatDoorTie
import Derived.ProofKit
import Derived.SizedLaws
import Derived.Deep.DeepHandedRow
import Derived.Lib.LaidTab
import Derived.Deep.Slices
import Derived.Test.YtlbipokkdiiaiaaGreatDoorU28
import Derived.Deep.Fields
import Derived.ChangeSame
import Derived.OpenShut
import Derived.Lib.SmallJoins
namespace Go.Proofs.YtlbipokkdiiaiaaGreatDoor
open Go.ChangeShapes Go.WideShapes Go.ChangeAt Go.RowKit
set_option maxRecDepth 100000
theorem own : ownKnob Tryz.prog.godebug = none := by kernel_rfl
theorem laidOut : laidOutB Tryz.prog = true := by kernel_rfl
theorem trodAll_below {H : Type} {enc : TypeId × Value → H} {P : Program} (hl : laidOutB P = true) {W W' : World} (hb : Below W.heap.size W W') :
  ∀ (ts : List TypeId) (vs : List Value) (ds : List (DataW H)) (p : List MemPlace), (ts.all fun t => P.readableRec t && decide (t < P.types.size)) = true →
    DataW.TrodAll enc P W 0 (fun _ => true) true ts vs ds p → (∀ x ∈ p, x.block < W.heap.size) → DataW.TrodAll enc P W' 0 (fun b => decide (b < W.heap.size)) true ts vs ds p
 | [], [], [], _, _, h, _ => h
 | t :: ts, v :: vs, d :: ds, _, hr, h, hlt => by
   obtain ⟨p, q, h1, h2, rfl⟩ := h
   simp only [List.all_cons, Bool.and_eq_true, decide_eq_true_eq] at hr
   exact ⟨p, q, Below.trod hl hr.1.1 hr.1.2 h1 hb (fun x hx => hlt x (by simp [hx])), trodAll_below hl hb ts vs ds q hr.2 h2 (fun x hx => hlt x (by simp [hx])), rfl⟩
 | [], [], _ :: _, _, _, h, _ => h.elim
 | [], _ :: _, _, _, _, h, _ => h.elim
 | _ :: _, [], _, _, _, h, _ => h.elim
 | _ :: _, _ :: _, [], _, _, h, _ => h.elim
theorem law_post {H : Type} {enc : TypeId × Value → H} {s : ChangeSpec} {f : Func} {W W' : World} {args : Array Value} {ds gs : List (DataW H)} {before : List MemPlace} (hvars : s.vars = [])
  (hres : f.resultTypes = #[4]) (hr : (f.params.toList.all fun t => Tryz.prog.readableRec t && decide (t < Tryz.prog.types.size)) = true)
  (hW : DataW.Whole enc Tryz.prog f.params.toList s.vars false W args.toList ds gs before)
  (hfn : (s.fn H (ds ++ gs)).results = [.lit (.bool true)] ∧ (s.fn H (ds ++ gs)).args = ds ∧ (s.fn H (ds ++ gs)).vars = []) (hb : Below W.heap.size W W') :
  s.post enc Tryz.prog f false true false false W args (.bool true) W' := by
 have hW' := hW
 obtain ⟨p, q, hA, hV, rfl, -, -⟩ := hW
 have hlt : ∀ x ∈ p, x.block < W.heap.size := fun x hx => hW'.lt x (by simp [hx])
 refine ⟨ds, gs, p ++ q, [] ++ [], p, [], hW', ?_, ?_, ?_, hb.frame _, fun h => by cases h⟩
 ·rw [hfn.1, hres]; exact trodAll_mk1 (shut_bool Tryz.underlying4 true)
 ·rw [hfn.2.1]; exact trodAll_below laidOut hb _ _ _ _ hr hA hlt
 ·rw [hfn.2.2, hvars]; rfl
theorem weights_le {H : Type} {P : Program} {ts : List TypeId} {ds : List (DataW H)} (h : (DataW.weightsEach P ts ds).all (· ≤ reachBytes) = true) {j : Nat} {t : TypeId} {d : DataW H} (ht : ts[j]? = some t) (hd : ds[j]? = some d) :
  ∀ n ∈ d.weights P t, n ≤ reachBytes := fun n hn => by simpa using List.all_eq_true.1 h n (DataW.weights_mem_each ht hd n hn)
theorem weightsAll_mem {H : Type} {P : Program} {e : TypeId} {d : DataW H} : ∀ {ds : List (DataW H)}, d ∈ ds → ∀ n ∈ d.weights P e, n ∈ DataW.weightsAll P e ds
 | d0 :: ds, hd, n, hn => by
   simp only [DataW.weightsAll, List.mem_append]
   rcases List.mem_cons.1 hd with rfl | hd
   ·exact .inl hn
   ·exact .inr (weightsAll_mem hd n hn)
theorem read_strings {H : Type} {enc : TypeId × Value → H} {W : World} {fuel : Nat} {v : Value} {d : DataW H} {p : List MemPlace}
  (hf : DataW.trod enc Tryz.prog W 0 (fun _ => true) true fuel 46 [v] = some (d, p)) (hw : ∀ n ∈ d.weights Tryz.prog 46, n ≤ reachBytes) :
  ∃ ss : List (List UInt8), SliceAt W 1 v ss.length (strCells ss) ∧ (∀ s ∈ ss, s.length ≤ reachBytes) ∧ ss.length * 16 ≤ reachBytes := by
 rcases open_strings Tryz.underlying46 Tryz.underlying9 (by kernel_rfl) hf with ⟨hcs, hx⟩ | ⟨a, len, cap, ss, hcs, _, hl, hm, hz, hx, hcell, _⟩
 ·obtain rfl : v = .slice none 0 0 := by simpa using hcs
  exact ⟨[], SliceAt.nil _ _, by simp, by simp⟩
 ·obtain rfl : v = .slice (some a) len cap := by simpa using hcs
  simp only [Prod.mk.injEq] at hx
  obtain ⟨rfl, rfl⟩ := hx
  simp only [if_true] at hz
  have hbytes : Tryz.prog.bytesOf 9 = 16 := by kernel_rfl
  refine ⟨(ss.take len).map (·.data.toList), ?_, ?_, ?_⟩
  ·refine ⟨by simp [strCells], _, cap, by simp only [List.length_map, List.length_take]; rw [Nat.min_eq_left (by omega)], by simp only [List.length_map, List.length_take]; rw [Nat.min_eq_left (by omega)]; exact hl, hm, fun h => (by cases h), fun hne => ?_⟩
   have hl0 : 0 < len := by
    rcases Nat.eq_zero_or_pos len with h0 | h0
    ·subst h0; simp [strCells] at hne
    ·exact h0
   obtain ⟨b, off, spot⟩ := a
   have hspot : spot = none := by simpa [Addr.add] using World.cell?_spot (hcell 0 (by omega))
   subst hspot
   refine ⟨b, off, rfl, ?_, fun j u hu => ?_⟩
   ·have := World.block_lt_of_cell? W _ (hcell 0 (by omega)); simpa [Addr.add] using this
   ·simp only [strCells, List.map_map, List.getElem?_map, Option.map_eq_some_iff] at hu
    obtain ⟨s, hs, rfl⟩ := hu
    have hj : j < len := by
     rcases Nat.lt_or_ge j len with h | h
     ·exact h
     ·rw [List.getElem?_eq_none (by simp; omega)] at hs; cases hs
    rw [List.getElem?_take, if_pos hj] at hs
    rw [← add_plain, hcell j (by omega)]
    simp [List.getD, hs, bs]
  ·intro s hs
   simp only [List.mem_map] at hs
   obtain ⟨t, ht, rfl⟩ := hs
   refine hw _ ?_
   simp only [DataW.weights, Tryz.underlying46, List.mem_cons, List.mem_append]
   refine .inr (.inl (weightsAll_mem (d := .lit (.string t.data.toList)) ?_ _ (by simp [DataW.weights])))
   simp only [strs, List.mem_map]; exact ⟨t, ht, rfl⟩
  ·have := hw ((len + (ss.length - len)) * 16) (by simp [DataW.weights, Tryz.underlying46, strs, hbytes]; left; omega)
   simp; omega
theorem arg_strings {H : Type} {enc : TypeId × Value → H} {W : World} {base : Nat} {v : Value} {d : DataW H} {p : List MemPlace}
  (hv : Value.okWide Tryz.prog W .any base 46 v) (h : DataW.Trod enc Tryz.prog W 0 (fun _ => true) true 46 v d p) (hw : ∀ n ∈ d.weights Tryz.prog 46, n ≤ reachBytes) :
  ∃ ss : List (List UInt8), SliceAt W 1 v ss.length (strCells ss) ∧ (∀ s ∈ ss, s.length ≤ reachBytes) ∧ ss.length * 16 ≤ reachBytes := by
 obtain ⟨a0, len, cap, rfl⟩ := okWide_slice Tryz.underlying46 hv
 obtain ⟨fuel, hf⟩ := h
 exact read_strings (v := .slice a0 len cap) hf hw
theorem laidMet_tail {P : Program} {x : String × DataW Unit} {l : List (String × DataW Unit)} {w : World} (h : laidMet P (x :: l) w) : laidMet P l w := by
 obtain ⟨ps, ⟨g, t, cs, fuel, p, q, _, _, _, _, h2, rfl⟩, hnd, hc⟩ := h
 refine ⟨q, h2, (List.nodup_append.1 hnd).2.1, fun b off hm => hc b off ?_⟩
 exact List.mem_append_right _ hm
theorem plain_of {name : String} {n : FuncId} {f0 : Func} (hn : Tryz.prog.funcNamed name = some n) (h0 : Tryz.prog.funcs[n]? = some f0) {b : Bool} (hl : b = Tryz.prog.looks []) (hs : (f0.params.toList.all fun t => !Tryz.prog.wantsStandIn t) = true)
  (f : FuncId) (fn : Func) (hf : Tryz.pinned.checked.prog.funcNamed name = some f) (hfn : Tryz.pinned.checked.prog.funcs[f]? = some fn) :
  b = Tryz.pinned.checked.prog.looks [] ∧ ∀ (j : Nat) t, fn.params[j]? = some t → Tryz.pinned.checked.prog.wantsStandIn t = false := by
 obtain rfl : f = n := (Option.some.inj (hn.symm.trans hf)).symm
 obtain rfl : fn = f0 := (Option.some.inj (h0.symm.trans hfn)).symm
 refine ⟨hl, fun j t ht => ?_⟩
 have hm : t ∈ fn.params.toList := by simpa using Array.mem_of_getElem? ht
 have := List.all_eq_true.1 hs t hm
 have h2 : Tryz.prog.wantsStandIn t = false := by simpa using this
 exact h2
end Go.Proofs.YtlbipokkdiiaiaaGreatDoor
namespace Go.Proofs.YtlbipokkdiiaiaaGreatDoor
open Go.Joins Go.ChangeShapes Go.WideShapes Go.ChangeAt Go.RowKit Go.Deep Go.Proofs.YtlbipokkdiiaiaaGreatDoor.Exec
set_option maxRecDepth 100000
theorem any_list {α : Type} {P : Nat → α → Prop} : ∀ len, (∀ i, i < len → ∃ x, P i x) → ∃ l : List α, l.length = len ∧ ∀ i (h : i < l.length), P i l[i]
 | 0, _ => ⟨[], rfl, fun i h => by simp at h⟩
 | len + 1, h => by
   obtain ⟨l, hl, hp⟩ := any_list len (fun i hi => h i (by omega))
   obtain ⟨x, hx⟩ := h len (by omega)
   refine ⟨l ++ [x], by simp [hl], fun i hi => ?_⟩
   by_cases e : i < l.length
   ·rw [List.getElem_append_left e]; exact hp i e
   ·have : i = len := by simp at hi; omega
    subst this
    rw [List.getElem_append_right (by omega)]
    simpa [hl] using hx
section
variable {H : Type} {enc : TypeId × Value → H} {W : World}
theorem wt_field {t : TypeId} {fs : Array Field} {ys : List (DataW H)} (hu : Tryz.prog.underlying t = some (.struct fs)) {j : Nat} {f : Field} {y : DataW H} (hj : fs[j]? = some f) (hy : ys[j]? = some y) : ∀ z ∈ y.weights Tryz.prog f.type, z ∈ (DataW.agg ys).weights Tryz.prog t := fun z hz => by
 simp only [DataW.weights, hu]
 exact DataW.weights_mem_each (j := j) (by simp [hj]) hy z hz
theorem read_rows {α : Type} {f : α → List Value} {P : α → Prop} {t e : TypeId} {sz : Nat} (ht : Tryz.prog.underlying t = some (.slice e)) (hc : Tryz.prog.cellsOf e = sz) (h0 : 0 < sz) (hf : ∀ x, (f x).length = sz)
  (hel : ∀ (n : Nat) (cs : List Value) (x : DataW H × List MemPlace), DataW.trod enc Tryz.prog W 0 (fun _ => true) true n e cs = some x → (∀ z ∈ x.1.weights Tryz.prog e, z ≤ reachBytes) → ∃ y : α, f y = cs ∧ P y)
  {n : Nat} {v : Value} {x : DataW H × List MemPlace} (h : DataW.trod enc Tryz.prog W 0 (fun _ => true) true n t [v] = some x) (hw : ∀ z ∈ x.1.weights Tryz.prog t, z ≤ reachBytes) :
  ∃ l : List α, RowsOf W sz f v l ∧ ∀ y ∈ l, P y := by
 rcases open_slice ht h with ⟨hcs, -⟩ | ⟨a, len, cap, m, n3, D, Pl, hcs, -, hl, hm, hmm, hxx, hi⟩
 ·obtain rfl : v = .slice none 0 0 := by simpa using hcs
  exact ⟨[], SliceAt.nil _ _, by simp⟩
 ·obtain rfl : v = .slice (some a) len cap := by simpa using hcs
  simp only [if_true] at hmm
  rw [hc] at hi
  have hyi : ∀ i, i < len → ∃ y : α, (∀ r u, (f y)[r]? = some u → W.cell? (a.add (i * sz + r)) = some u) ∧ P y := by
   intro i hil
   obtain ⟨cs', hc', hf'⟩ := hi i (by omega)
   obtain ⟨_, hcl', hat⟩ := World.cells?_some hc'
   obtain ⟨y, hy, hP⟩ := hel n3 cs' (D i, Pl i) hf' (fun z hz => hw z (by
    rw [hxx]
    simp only [DataW.weights, ht, List.mem_cons, List.mem_append]
    exact .inr (.inl (weightsAll_mem (List.mem_map.2 ⟨i, List.mem_range.2 hil, rfl⟩) z hz))))
   refine ⟨y, fun r u hr => ?_, hP⟩
   have hr5 : r < sz := by have := (List.getElem?_eq_some_iff.1 hr).1; rw [hf] at this; exact this
   have := hat r hr5
   rw [← Go.Deep.add_add, this, ← hy, hr]
  obtain ⟨l, hll, hp⟩ := any_list (P := fun i y => (∀ r u, (f y)[r]? = some u → W.cell? (a.add (i * sz + r)) = some u) ∧ P y) len hyi
  refine ⟨l, ?_, fun y hy => by obtain ⟨i, hi, rfl⟩ := List.getElem_of_mem hy; exact (hp i hi).2⟩
  have hcell : ∀ j u, (l.flatMap f)[j]? = some u → W.cell? (a.add j) = some u := by
   intro j u hu
   have hj : j < l.length * sz := by rw [← flat_len f sz hf]; exact (List.getElem?_eq_some_iff.1 hu).1
   have hq' : j / sz * sz + j % sz = j := Nat.div_add_mod' j sz
   have hd : j / sz < l.length := Nat.div_lt_of_lt_mul (by rw [Nat.mul_comm]; exact hj)
   have := flat_at f sz hf l (j / sz) hd (j % sz) (Nat.mod_lt _ h0)
   rw [hq'] at this
   rw [this] at hu
   have := (hp (j / sz) hd).1 _ _ hu
   rwa [hq'] at this
  refine ⟨flat_len f sz hf l, some a, cap, by rw [hll], by rw [hll]; exact hl, hm, fun h => (by cases h), fun hne => ?_⟩
  have hl0 : 0 < l.length := by
   rcases Nat.eq_zero_or_pos l.length with h0 | h0
   ·rw [List.length_eq_zero_iff.1 h0] at hne; exact absurd rfl hne
   ·exact h0
  obtain ⟨u0, hu0⟩ : ∃ u, (l.flatMap f)[0]? = some u := ⟨_, List.getElem?_eq_getElem (by rw [flat_len f sz hf]; exact Nat.mul_pos hl0 h0)⟩
  obtain ⟨b, off, spot⟩ := a
  have hspot : spot = none := by simpa [Addr.add] using World.cell?_spot (hcell 0 u0 hu0)
  subst hspot
  refine ⟨b, off, rfl, ?_, fun j u hu => ?_⟩
  ·have := World.block_lt_of_cell? W _ (hcell 0 u0 hu0); simpa [Addr.add] using this
  ·rw [← add_plain]; exact hcell j u hu
theorem read_dg {n : Nat} {cs : List Value} {x : DataW H × List MemPlace} (h : DataW.trod enc Tryz.prog W 0 (fun _ => true) true n 31 cs = some x) : ∃ d : Dg, dgc d = cs := by
 have hu : Tryz.prog.underlying 31 = some (.array 32 5) := by kernel_rfl
 have hi5 : Tryz.prog.underlying 5 = some (.int .u8) := by kernel_rfl
 have hc : Tryz.prog.cellsOf 31 = 32 := by kernel_rfl
 have hc5 : Tryz.prog.cellsOf 5 = 1 := by kernel_rfl
 obtain ⟨xs, m, -, -, hcl, hxl, hat⟩ := DataW.trod_array hu h
 rw [hc] at hcl
 have hone : ∀ i, i < 32 → ∃ b : UInt8, cs[i]? = some (.int .u8 (b.toNat : Int)) := by
  intro i hi
  have h1 := hat i hi
  rw [hc5, Nat.mul_one, List.drop_eq_getElem_cons (by omega)] at h1
  simp only [List.take_succ_cons, List.take_zero] at h1
  rw [List.getElem?_eq_getElem (by omega)] at h1
  obtain ⟨a, ha, -, hw⟩ := DataW.trod_int hi5 h1
  simp only [List.cons.injEq, and_true] at ha
  have k1 : IntKind.u8.min = 0 := rfl
  have k2 : IntKind.u8.max = 255 := rfl
  simp only [Lit.wf, Bool.and_eq_true, decide_eq_true_eq, k1, k2] at hw
  refine ⟨UInt8.ofNat a.toNat, ?_⟩
  rw [List.getElem?_eq_getElem (by omega), ha]
  congr 2
  have : (UInt8.ofNat a.toNat).toNat = a.toNat := by simp; omega
  rw [this]
  omega
 obtain ⟨l, hl, hp⟩ := any_list (P := fun i (b : UInt8) => cs[i]? = some (.int .u8 (b.toNat : Int))) 32 hone
 refine ⟨⟨l, hl⟩, List.ext_getElem? fun i => ?_⟩
 unfold dgc Lib.byteCells
 by_cases hi : i < l.length
 ·rw [hp i hi]; simp [hi]
 ·rw [List.getElem?_eq_none (by simp; omega), List.getElem?_eq_none (by omega)]
end
end Go.Proofs.YtlbipokkdiiaiaaGreatDoor
namespace Go.Proofs.YtlbipokkdiiaiaaGreatDoor
open Go.Joins Go.ChangeShapes Go.WideShapes Go.ChangeAt Go.RowKit Go.Deep Go.Proofs.YtlbipokkdiiaiaaGreatDoor.Exec
set_option maxRecDepth 100000
theorem und100 : ∃ f0 f1 f2 : Field, Tryz.prog.underlying 100 = some (.struct #[f0, f1, f2]) ∧ (f0.type = 9 ∧ f0.offset = 0) ∧ (f1.type = 4 ∧ f1.offset = 1) ∧ (f2.type = 31 ∧ f2.offset = 2) := ⟨_, _, _, rfl, ⟨rfl, rfl⟩, ⟨rfl, rfl⟩, ⟨rfl, rfl⟩⟩
theorem und54 : ∃ f0 f1 : Field, Tryz.prog.underlying 54 = some (.struct #[f0, f1]) ∧ (f0.type = 9 ∧ f0.offset = 0) ∧ (f1.type = 31 ∧ f1.offset = 1) := ⟨_, _, rfl, ⟨rfl, rfl⟩, ⟨rfl, rfl⟩⟩
theorem und44 : ∃ f0 f1 f2 : Field, Tryz.prog.underlying 44 = some (.struct #[f0, f1, f2]) ∧ (f0.type = 31 ∧ f0.offset = 0) ∧ (f1.type = 41 ∧ f1.offset = 32) ∧ (f2.type = 42 ∧ f2.offset = 33) := ⟨_, _, _, rfl, ⟨rfl, rfl⟩, ⟨rfl, rfl⟩, ⟨rfl, rfl⟩⟩
theorem cel9 : Tryz.prog.cellsOf 9 = 1 := by kernel_rfl
theorem cel4 : Tryz.prog.cellsOf 4 = 1 := by kernel_rfl
theorem cel31 : Tryz.prog.cellsOf 31 = 32 := by kernel_rfl
theorem cel100 : Tryz.prog.cellsOf 100 = 34 := by kernel_rfl
theorem cel54 : Tryz.prog.cellsOf 54 = 33 := by kernel_rfl
theorem cel44 : Tryz.prog.cellsOf 44 = 34 := by kernel_rfl
theorem cel41 : Tryz.prog.cellsOf 41 = 1 := by kernel_rfl
theorem cel42 : Tryz.prog.cellsOf 42 = 1 := by kernel_rfl
theorem cut2 {l : List Value} {n : Nat} (h : l.length = n + 2) : ∃ k a b, l = k ++ [a, b] ∧ k.length = n := by
 refine ⟨l.take n, l[n], l[n + 1], ?_, by rw [List.length_take]; omega⟩
 have h1 : l.drop n = [l[n], l[n + 1]] := by
  rw [List.drop_eq_getElem_cons (by omega), List.drop_eq_getElem_cons (by omega), List.drop_eq_nil_of_le (by omega)]
 rw [← h1, List.take_append_drop]
theorem mid1 {k r : List Value} {a : Value} {n o : Nat} (hk : k.length = n) (ho : o = n) : ((k ++ a :: r).drop o).take 1 = [a] := by
 subst ho hk
 rw [List.drop_left]
 rfl
section
variable {H : Type} {enc : TypeId × Value → H} {W : World}
theorem read_rd (n : Nat) (cs : List Value) (x : DataW H × List MemPlace) (h : DataW.trod enc Tryz.prog W 0 (fun _ => true) true n 100 cs = some x) (hw : ∀ z ∈ x.1.weights Tryz.prog 100, z ≤ reachBytes) : ∃ y : RdL, y.cells = cs ∧ y.path.length ≤ 1000000000000000 := by
 obtain ⟨f0, f1, f2, hu, ⟨t0, o0⟩, ⟨t1, o1⟩, ⟨t2, o2⟩⟩ := und100
 obtain ⟨xs, n1, -, hx, hcl, hlen, hg⟩ := DataW.trod_struct hu h
 rw [cel100] at hcl
 match cs, hcl with
 | c0 :: c1 :: r, hcl =>
 match xs, hlen with
 | [y0, y1, y2], _ =>
 have h0 := hg 0 f0 rfl
 have h1 := hg 1 f1 rfl
 have h2 := hg 2 f2 rfl
 rw [t0, o0, cel9] at h0
 rw [t1, o1, cel4] at h1
 rw [t2, o2, cel31] at h2
 replace h0 : DataW.trod enc Tryz.prog W 0 (fun _ => true) true n1 9 [c0] = some y0 := h0
 replace h1 : DataW.trod enc Tryz.prog W 0 (fun _ => true) true n1 4 [c1] = some y1 := h1
 rw [show ((c0 :: c1 :: r).drop 2).take 32 = r from List.take_of_length_le (by simpa using Nat.le_of_eq (Nat.succ.inj (Nat.succ.inj hcl)))] at h2
 obtain ⟨s, e0, g0, -⟩ := DataW.trod_string Tryz.underlying9 h0
 obtain ⟨b, e1, -⟩ := DataW.trod_bool Tryz.underlying4 h1
 obtain ⟨d, rfl⟩ := read_dg h2
 simp only [List.cons.injEq, and_true] at e0 e1
 subst e0 e1
 have hs : s.data.toList.length ≤ reachBytes := hw _ (by rw [hx]; exact wt_field hu (j := 0) (f := f0) (ys := [y0.1, y1.1, y2.1]) rfl rfl _ (by rw [t0, g0]; simp [DataW.weights]))
 exact ⟨⟨s.data.toList, b, d⟩, rfl, by simp only [reachBytes] at hs; simp only; omega⟩
theorem read_md (n : Nat) (cs : List Value) (x : DataW H × List MemPlace) (h : DataW.trod enc Tryz.prog W 0 (fun _ => true) true n 54 cs = some x) (hw : ∀ z ∈ x.1.weights Tryz.prog 54, z ≤ reachBytes) : ∃ y : MdL, y.cells = cs ∧ y.path.length ≤ 1000000000000000 := by
 obtain ⟨f0, f1, hu, ⟨t0, o0⟩, ⟨t1, o1⟩⟩ := und54
 obtain ⟨xs, n1, -, hx, hcl, hlen, hg⟩ := DataW.trod_struct hu h
 rw [cel54] at hcl
 match cs, hcl with
 | c0 :: r, hcl =>
 match xs, hlen with
 | [y0, y1], _ =>
 have h0 := hg 0 f0 rfl
 have h1 := hg 1 f1 rfl
 rw [t0, o0, cel9] at h0
 rw [t1, o1, cel31] at h1
 replace h0 : DataW.trod enc Tryz.prog W 0 (fun _ => true) true n1 9 [c0] = some y0 := h0
 rw [show ((c0 :: r).drop 1).take 32 = r from List.take_of_length_le (by simpa using Nat.le_of_eq (Nat.succ.inj hcl))] at h1
 obtain ⟨s, e0, g0, -⟩ := DataW.trod_string Tryz.underlying9 h0
 obtain ⟨d, rfl⟩ := read_dg h1
 simp only [List.cons.injEq, and_true] at e0
 subst e0
 have hs : s.data.toList.length ≤ reachBytes := hw _ (by rw [hx]; exact wt_field hu (j := 0) (f := f0) (ys := [y0.1, y1.1]) rfl rfl _ (by rw [t0, g0]; simp [DataW.weights]))
 exact ⟨⟨s.data.toList, d⟩, rfl, by simp only [reachBytes] at hs; simp only; omega⟩
theorem read_tc (n : Nat) (cs : List Value) (x : DataW H × List MemPlace) (h : DataW.trod enc Tryz.prog W 0 (fun _ => true) true n 44 cs = some x) (hw : ∀ z ∈ x.1.weights Tryz.prog 44, z ≤ reachBytes) : ∃ y : TcM, y.cells = cs ∧ HeldT W y ∧ SmallT y.t := by
 obtain ⟨f0, f1, f2, hu, ⟨t0, o0⟩, ⟨t1, o1⟩, ⟨t2, o2⟩⟩ := und44
 obtain ⟨xs, n1, -, hx, hcl, hlen, hg⟩ := DataW.trod_struct hu h
 rw [cel44] at hcl
 obtain ⟨k, a, b, rfl, hk⟩ := cut2 hcl
 match xs, hlen with
 | [y0, y1, y2], _ =>
 have h0 := hg 0 f0 rfl
 have h1 := hg 1 f1 rfl
 have h2 := hg 2 f2 rfl
 rw [t0, o0, cel31] at h0
 rw [t1, o1, cel41, mid1 hk rfl] at h1
 rw [t2, o2, cel42, show k ++ [a, b] = (k ++ [a]) ++ [b] by simp, mid1 (n := 33) (by rw [List.length_append, hk]; rfl) rfl] at h2
 rw [show ((k ++ [a, b]).drop 0).take 32 = k by rw [List.drop_zero, List.take_append_of_le_length (by omega), List.take_of_length_le (by omega)]] at h0
 obtain ⟨d, rfl⟩ := read_dg h0
 obtain ⟨rl, hr1, hr2⟩ := read_rows (f := RdL.cells) (P := fun y => y.path.length ≤ 1000000000000000) Tryz.underlying41 cel100 (by omega) RdL.len read_rd h1 (fun z hz => hw z (by rw [hx]; exact wt_field hu (j := 1) (f := f1) (ys := [y0.1, y1.1, y2.1]) rfl rfl _ (by rw [t1]; exact hz)))
 obtain ⟨ml, hm1, hm2⟩ := read_rows (f := MdL.cells) (P := fun y => y.path.length ≤ 1000000000000000) Tryz.underlying42 cel54 (by omega) MdL.len read_md h2 (fun z hz => hw z (by rw [hx]; exact wt_field hu (j := 2) (f := f2) (ys := [y0.1, y1.1, y2.1]) rfl rfl _ (by rw [t2]; exact hz)))
 exact ⟨⟨⟨d, rl, ml⟩, a, b⟩, rfl, ⟨hr1, hm1⟩, ⟨hr2, hm2⟩⟩
end
end Go.Proofs.YtlbipokkdiiaiaaGreatDoor
namespace Go.Proofs.YtlbipokkdiiaiaaGreatDoor
open Go.Joins Go.ChangeShapes Go.WideShapes Go.ChangeAt Go.RowKit Go.Deep Go.Proofs.YtlbipokkdiiaiaaGreatDoor.Exec
set_option maxRecDepth 100000
theorem arg_trace {H : Type} {enc : TypeId × Value → H} {W : World} {base : Nat} {v : Value} {d : DataW H} {p : List MemPlace}
  (hv : Value.okWide Tryz.prog W .any base 44 v) (h : DataW.Trod enc Tryz.prog W 0 (fun _ => true) true 44 v d p) (hw : ∀ n ∈ d.weights Tryz.prog 44, n ≤ reachBytes) :
  ∃ y : TcM, v = y.val ∧ HeldT W y ∧ SmallT y.t := by
 obtain ⟨f0, f1, f2, hu, -⟩ := und44
 obtain ⟨cs, rfl, -⟩ := okWide_struct hu hv
 obtain ⟨fuel, hf⟩ := h
 obtain ⟨y, hy, h1, h2⟩ := read_tc fuel cs.toList _ hf hw
 exact ⟨y, by unfold TcM.val; rw [hy], h1, h2⟩
end Go.Proofs.YtlbipokkdiiaiaaGreatDoor
