/- Lemmas for TopWire: W48, W43, W44, W42. -/
import Derived.Test.YtlbipokkdiiaiaaGreatDoorT43
import Derived.Test.YtlbipokkdiiaiaaGreatDoorT27
import Derived.Test.YtlbipokkdiiaiaaGreatDoorT42
import Derived.Test.YtlbipokkdiiaiaaGreatDoorT32
import Derived.Deep.Fields
import Derived.ChangeSame
import Derived.OpenShut
import Derived.Lib.SmallJoins
import Derived.Test.YtlbipokkdiiaiaaGreatDoorT33
/- wire.Get. -/
namespace Go.Proofs.YtlbipokkdiiaiaaGreatDoor
open Go.RowKit Go.Proofs.YtlbipokkdiiaiaaGreatDoor.Exec
set_option maxRecDepth 100000
theorem frame_parts (b : List UInt8) : (frameB b).take 4 = numB b.length 4 ∧ ((frameB b).drop 4).take 4 = (shaD b).1.take 4 ∧ (frameB b).drop 8 = b ∧ (frameB b).length = 8 + b.length := by
  have h1 : (numB b.length 4).length = 4 := numB_len _ _
  have h2 : ((shaD b).1.take 4).length = 4 := by rw [List.length_take, (shaD b).2]; rfl
  unfold frameB
  refine ⟨?_, ?_, ?_, ?_⟩
  · rw [List.append_assoc, List.take_append_of_le_length (by omega), List.take_of_length_le (by omega)]
  · rw [List.append_assoc, List.drop_append_of_le_length (by omega), List.drop_eq_nil_of_le (by omega), List.nil_append, List.take_append_of_le_length (by omega), List.take_of_length_le (by omega)]
  · rw [List.drop_append, List.drop_eq_nil_of_le (by rw [List.length_append]; omega), List.length_append, h1, h2]
    simp
  · rw [List.length_append, List.length_append]; omega
/-- A struct's cell and two more as results. -/
theorem br3 {ty : TypeId} {d : TypeDesc} (hu : Tryz.prog.underlying ty = some d) {fn : Func} {p u u2 : Tmp} {R : Ending → World → Prop} {a : Act} {w : World} (g : Nat) {t : TypeId} {cs : Array Value} {fr : Nat × Nat} (hg : w.heap[g]? = some (.cells cs t fr)) (hR : R (.returned (.tuple #[.agg cs, a.tmps.getD u undef, a.tmps.getD u2 undef])) w) (h : fn.results = #[.cell p ty, .tmp u, .tmp u2] := by rfl) (hp : a.tmps.getD p undef = .pointer (some ⟨g, 0, none⟩) := by rfl)
    (hd : (match d with | .struct _ | .array _ _ => true | _ => false) = true := by rfl) (hi : (Tryz.prog.info? ty).map (·.size) = some cs.size := by kernel_rfl) (hf : a.defers = [] := by rfl) : bodyPost Tryz.prog fn R .ret a w := by
  refine bodyPost_ret (v := .tuple #[.agg cs, a.tmps.getD u undef, a.tmps.getD u2 undef]) ?_ hf hR
  have hp' : a.tmps[p]?.getD undef = .pointer (some ⟨g, 0, none⟩) := by simpa using hp
  cases d <;> simp at hd <;> simp [results, h, hp', asAddr, run_loadVar_row w g t ty cs fr _ hg hu rfl hi]
set_option maxHeartbeats 4000000 in
theorem wget_any (m : MsgL) (w : World) (hp : PowTab w) (he : ErrsAt w) (hc : checkM m = 0) (hi : m.id < 18446744073709551616) :
    Calls Tryz.prog 11 #[.string (bs (putB m))] w fun e w' => ∃ y : MsgM, e = .returned (.tuple #[.agg y.cells.toArray, .int .i64 ((putB m).length : Int), .int .i64 0]) ∧ y.l = m ∧ HeldM w' y ∧ Below w.heap.size w w' := by
  have HP := hid (And.intro hp he)
  have hlb := bodyB_len (goodM hc)
  have HOF := hid (fun (W : World) (hb : Below w.heap.size w W) => of_any m W (hp.below hb) (he.below hb) hc hi)
  unfold putB
  generalize bodyB m = b at *
  obtain ⟨f1, f2, f3, f4⟩ := frame_parts b
  have HBIG := hid (fun (W : World) => show Calls Tryz.prog 38 #[.string (bs (numB b.length 4))] W fun e w' => e = .returned (.int .u64 (b.length : Int)) ∧ w' = W from by
    have h1 := big_any (numB b.length 4) (by rw [numB_len]; omega) W
    rw [big_num, Nat.mod_eq_of_lt (by omega)] at h1
    exact h1)
  generalize frameB b = F at *
  have f5 : (F.drop 8).take b.length = b := by rw [f3, List.take_of_length_le (Nat.le_refl _)]
  have e1 : decide ((F.length : Int) < 4) = false := decide_eq_false (by omega)
  have e2 : decide (16777216 < (b.length : Int)) = false := decide_eq_false (by omega)
  have e3 : decide ((F.length : Int) < 8 + (b.length : Int)) = false := decide_eq_false (by omega)
  have HLB := hid hlb
  have HFL := hid f4
  clear hp he hc hi hlb f3
  go_enter Tryz.func11, Tryz.ntmps11
  go_upto_region 1 with (refine wl_al rt34 ?_; intro zs W0 hzs hb0 hn0 hs0)
  have HB0 := hid hb0
  have HN0 := hid hn0
  have HZ0 := hid hs0
  have hz00 : w.heap.size < W0.heap.size := by omega
  clear hb0 hn0 hs0
  have hl4 : 8 + b.length ≤ F.length := by omega
  have hl5 : F.length ≤ 8 + b.length := by omega
  have hl6 : b.length ≤ 13100000 := HLB.out
  clear f4
  go_upto_region 4 with (go_at_call 38; refine (HBIG.out _).mono ?_; rintro e W1 ⟨rfl, hW1⟩; obtain rfl := hW1.symm)
  go_upto_region 8 with fail
  have hal := below_new W0 (.cells #[.string (bs b)] 9)
  go_upto_region 9 with first | (go_at_call 36; go_loud (refine (sha_any b _ 1 _ (one_text (heap_alloc_new W0 _)) (by omega)).mono ?_; rintro e W3 ⟨rfl, hb3⟩)) | (refine wl_new (xs := (dgc (shaD b)).toArray) rt31 (by rw [List.size_toArray]; exact dgc_len _) (dgc_one _) ?_; intro W4 hb4 hn4 hs4)
  have hb04 := Below.chain hal (Below.chain hb3 hb4)
  have hsl : W3.heap.size < W4.heap.size := by omega
  have hz03 : W0.heap.size ≤ W3.heap.size := by have := hal.size; have := hb3.size; omega
  have HB4 := hid (Below.chain HB0.out hb04)
  have hz04 := hb04.size
  have HN04 := hid ((hb04.block _ (lx HN0)).trans HN0.out)
  obtain ⟨d, hd⟩ : ∃ d, shaD b = d := ⟨_, rfl⟩
  rw [hd] at hn4 f2 ⊢
  have HN3 := hid hn4
  clear hal hb3 hb4 hn4 hs4 hb04 hd
  have h8 : (8 : Int) ≤ (F.length : Int) := by omega
  refine wp_region_wl (fun W => W.heap[W3.heap.size]? = some (.cells (dgc d).toArray 31 (0, 0))) 4 (by kernel_rfl) ?_
  intro Wd hbd
  have hS := (hbd.block _ (lx HN3)).trans HN3.out
  refine WL.tp 0 (some 34) (hi := rfl) (.inr hS) ?_
  apply Exists.intro
  refine ⟨fun W => ?_, ?_⟩
  · go_simp
    try rfl
  try simp only [Act.put, List.setIfInBounds_toArray, List.set_cons_zero, List.set_cons_succ]
  refine WL.te 1 (some 35) (hi := rfl) hS ?_
  apply Exists.intro
  refine ⟨fun W hW => ?_, ?_⟩
  · have e1 := sum4 hW 32
    go_simp
    try rfl
  try simp only [Act.put, List.setIfInBounds_toArray, List.set_cons_zero, List.set_cons_succ]
  refine WL.tp 2 (some 36) (hi := rfl) (.inr hS) ?_
  apply Exists.intro
  refine ⟨fun W => ?_, ?_⟩
  · go_simp
    try rfl
  try simp only [Act.put, List.setIfInBounds_toArray, List.set_cons_zero, List.set_cons_succ]
  refine WL.tp 3 (some 37) (hi := rfl) (.inr hS) ?_
  apply Exists.intro
  refine ⟨fun W => ?_, ?_⟩
  · go_simp
    try rfl
  try simp only [Act.put, List.setIfInBounds_toArray, List.set_cons_zero, List.set_cons_succ]
  refine WL.o 4 (hi := rfl) ?_
  intro K hK
  go_simp
  refine hK.out _ _ (.inl (by kernel_rfl)) ?_
  clear hK K
  try simp only [Act.put, List.setIfInBounds_toArray, List.set_cons_zero, List.set_cons_succ]
  refine WL.d ?_
  go_upto_region 12 with first | (go_at_call 39; refine (HOF.out _ (Below.chain HB4.out hbd)).mono ?_; rintro e W5 ⟨y, rfl, hyl, hyh, hyo, hb5⟩) | (refine wl_new (xs := y.cells.toArray) rt34 (by rw [List.size_toArray]; exact MsgM.len _) hyh.one ?_; intro W6 hb6 hn6 hs6)
  have hb46 := Below.chain hbd (Below.chain hb5 hb6)
  have hn06 := (hb46.block _ (lx HN04)).trans HN04.out
  go_wp2_with first | (refine wl_ld rt34 (range_of_heap hn6) (MsgM.len _) ?_) | (refine wl_st (xs := y.cells.toArray) rt34 hn06 hzs (by rw [List.size_toArray]; exact MsgM.len _) hyh.one ?_; intro W7 ht7 hn7 hs7)
  refine br3 _ hn7 ⟨y, ?_, hyl, ?_, (Below.chain HB4.out hb46).trans (ht7.below (Nat.le_refl _))⟩ (hu := Tryz.underlying34) (hi := by rw [List.size_toArray, MsgM.len]; kernel_rfl)
  · rw [show ((F.length : Nat) : Int) = 8 + (b.length : Int) by omega]; rfl
  · exact (hyh.keep hb6).stay ht7.foot.size hyo (fun k hk hl => ht7.foot.block k hl (by have := HB4.out.size; have := hbd.size; have := lx HN04; have := HZ0.out; omega))
end Go.Proofs.YtlbipokkdiiaiaaGreatDoor
/- Arguments opened: slices of structs, digests, reads, made files, traces, messages. -/
namespace Go.Proofs.YtlbipokkdiiaiaaGreatDoor
open Go.Joins Go.ChangeShapes Go.WideShapes Go.ChangeAt Go.RowKit Go.Deep Go.Proofs.YtlbipokkdiiaiaaGreatDoor.Exec
set_option maxRecDepth 100000
theorem any_list {α : Type} {P : Nat → α → Prop} : ∀ len, (∀ i, i < len → ∃ x, P i x) → ∃ l : List α, l.length = len ∧ ∀ i (h : i < l.length), P i l[i]
  | 0, _ => ⟨[], rfl, fun i h => by simp at h⟩
  | len + 1, h => by
    obtain ⟨l, hl, hp⟩ := any_list len (fun i hi => h i (by omega))
    obtain ⟨x, hx⟩ := h len (by omega)
    refine ⟨l ++ [x], by simp [hl], fun i hi => ?_⟩
    by_cases e : i < l.length
    · rw [List.getElem_append_left e]; exact hp i e
    · have : i = len := by simp at hi; omega
      subst this
      rw [List.getElem_append_right (by omega)]
      simpa [hl] using hx
section
variable {H : Type} {enc : TypeId × Value → H} {W : World}
theorem wt_field {t : TypeId} {fs : Array Field} {ys : List (DataW H)} (hu : Tryz.prog.underlying t = some (.struct fs)) {j : Nat} {f : Field} {y : DataW H} (hj : fs[j]? = some f) (hy : ys[j]? = some y) : ∀ z ∈ y.weights Tryz.prog f.type, z ∈ (DataW.agg ys).weights Tryz.prog t := fun z hz => by
  simp only [DataW.weights, hu]
  exact DataW.weights_mem_each (j := j) (by simp [hj]) hy z hz
theorem read_rows {α : Type} {f : α → List Value} {P : α → Prop} {t e : TypeId} {sz : Nat} (ht : Tryz.prog.underlying t = some (.slice e)) (hc : Tryz.prog.cellsOf e = sz) (h0 : 0 < sz) (hf : ∀ x, (f x).length = sz)
    (hel : ∀ (n : Nat) (cs : List Value) (x : DataW H × List MemPlace), DataW.trod enc Tryz.prog W 0 (fun _ => true) true n e cs = some x → (∀ z ∈ x.1.weights Tryz.prog e, z ≤ reachBytes) → ∃ y : α, f y = cs ∧ P y)
    {n : Nat} {v : Value} {x : DataW H × List MemPlace} (h : DataW.trod enc Tryz.prog W 0 (fun _ => true) true n t [v] = some x) (hw : ∀ z ∈ x.1.weights Tryz.prog t, z ≤ reachBytes) :
    ∃ l : List α, RowsOf W sz f v l ∧ ∀ y ∈ l, P y := by
  rcases open_slice ht h with ⟨hcs, -⟩ | ⟨a, len, cap, m, n3, D, Pl, hcs, -, hl, hm, hmm, hxx, hi⟩
  · obtain rfl : v = .slice none 0 0 := by simpa using hcs
    exact ⟨[], SliceAt.nil _ _, by simp⟩
  · obtain rfl : v = .slice (some a) len cap := by simpa using hcs
    simp only [if_true] at hmm
    rw [hc] at hi
    have hyi : ∀ i, i < len → ∃ y : α, (∀ r u, (f y)[r]? = some u → W.cell? (a.add (i * sz + r)) = some u) ∧ P y := by
      intro i hil
      obtain ⟨cs', hc', hf'⟩ := hi i (by omega)
      obtain ⟨_, hcl', hat⟩ := World.cells?_some hc'
      obtain ⟨y, hy, hP⟩ := hel n3 cs' (D i, Pl i) hf' (fun z hz => hw z (by
        rw [hxx]
        simp only [DataW.weights, ht, List.mem_cons, List.mem_append]
        exact .inr (.inl (weightsAll_mem (List.mem_map.2 ⟨i, List.mem_range.2 hil, rfl⟩) z hz))))
      refine ⟨y, fun r u hr => ?_, hP⟩
      have hr5 : r < sz := by have := (List.getElem?_eq_some_iff.1 hr).1; rw [hf] at this; exact this
      have := hat r hr5
      rw [← Go.Deep.add_add, this, ← hy, hr]
    obtain ⟨l, hll, hp⟩ := any_list (P := fun i y => (∀ r u, (f y)[r]? = some u → W.cell? (a.add (i * sz + r)) = some u) ∧ P y) len hyi
    refine ⟨l, ?_, fun y hy => by obtain ⟨i, hi, rfl⟩ := List.getElem_of_mem hy; exact (hp i hi).2⟩
    have hcell : ∀ j u, (l.flatMap f)[j]? = some u → W.cell? (a.add j) = some u := by
      intro j u hu
      have hj : j < l.length * sz := by rw [← flat_len f sz hf]; exact (List.getElem?_eq_some_iff.1 hu).1
      have hq' : j / sz * sz + j % sz = j := Nat.div_add_mod' j sz
      have hd : j / sz < l.length := Nat.div_lt_of_lt_mul (by rw [Nat.mul_comm]; exact hj)
      have := flat_at f sz hf l (j / sz) hd (j % sz) (Nat.mod_lt _ h0)
      rw [hq'] at this
      rw [this] at hu
      have := (hp (j / sz) hd).1 _ _ hu
      rwa [hq'] at this
    refine ⟨flat_len f sz hf l, some a, cap, by rw [hll], by rw [hll]; exact hl, hm, fun h => (by cases h), fun hne => ?_⟩
    have hl0 : 0 < l.length := by
      rcases Nat.eq_zero_or_pos l.length with h0 | h0
      · rw [List.length_eq_zero_iff.1 h0] at hne; exact absurd rfl hne
      · exact h0
    obtain ⟨u0, hu0⟩ : ∃ u, (l.flatMap f)[0]? = some u := ⟨_, List.getElem?_eq_getElem (by rw [flat_len f sz hf]; exact Nat.mul_pos hl0 h0)⟩
    obtain ⟨b, off, spot⟩ := a
    have hspot : spot = none := by simpa [Addr.add] using World.cell?_spot (hcell 0 u0 hu0)
    subst hspot
    refine ⟨b, off, rfl, ?_, fun j u hu => ?_⟩
    · have := World.block_lt_of_cell? W _ (hcell 0 u0 hu0); simpa [Addr.add] using this
    · rw [← add_plain]; exact hcell j u hu
theorem read_dg {n : Nat} {cs : List Value} {x : DataW H × List MemPlace} (h : DataW.trod enc Tryz.prog W 0 (fun _ => true) true n 31 cs = some x) : ∃ d : Dg, dgc d = cs := by
  have hu : Tryz.prog.underlying 31 = some (.array 32 5) := by kernel_rfl
  have hi5 : Tryz.prog.underlying 5 = some (.int .u8) := by kernel_rfl
  have hc : Tryz.prog.cellsOf 31 = 32 := by kernel_rfl
  have hc5 : Tryz.prog.cellsOf 5 = 1 := by kernel_rfl
  obtain ⟨xs, m, -, -, hcl, hxl, hat⟩ := DataW.trod_array hu h
  rw [hc] at hcl
  have hone : ∀ i, i < 32 → ∃ b : UInt8, cs[i]? = some (.int .u8 (b.toNat : Int)) := by
    intro i hi
    have h1 := hat i hi
    rw [hc5, Nat.mul_one, List.drop_eq_getElem_cons (by omega)] at h1
    simp only [List.take_succ_cons, List.take_zero] at h1
    rw [List.getElem?_eq_getElem (by omega)] at h1
    obtain ⟨a, ha, -, hw⟩ := DataW.trod_int hi5 h1
    simp only [List.cons.injEq, and_true] at ha
    have k1 : IntKind.u8.min = 0 := rfl
    have k2 : IntKind.u8.max = 255 := rfl
    simp only [Lit.wf, Bool.and_eq_true, decide_eq_true_eq, k1, k2] at hw
    refine ⟨UInt8.ofNat a.toNat, ?_⟩
    rw [List.getElem?_eq_getElem (by omega), ha]
    congr 2
    have : (UInt8.ofNat a.toNat).toNat = a.toNat := by simp; omega
    rw [this]
    omega
  obtain ⟨l, hl, hp⟩ := any_list (P := fun i (b : UInt8) => cs[i]? = some (.int .u8 (b.toNat : Int))) 32 hone
  refine ⟨⟨l, hl⟩, List.ext_getElem? fun i => ?_⟩
  unfold dgc Lib.byteCells
  by_cases hi : i < l.length
  · rw [hp i hi]; simp [hi]
  · rw [List.getElem?_eq_none (by simp; omega), List.getElem?_eq_none (by omega)]
end
end Go.Proofs.YtlbipokkdiiaiaaGreatDoor
/- Arguments opened: reads, made files, traces, messages. -/
namespace Go.Proofs.YtlbipokkdiiaiaaGreatDoor
open Go.Joins Go.ChangeShapes Go.WideShapes Go.ChangeAt Go.RowKit Go.Deep Go.Proofs.YtlbipokkdiiaiaaGreatDoor.Exec
set_option maxRecDepth 100000
theorem und100 : ∃ f0 f1 f2 : Field, Tryz.prog.underlying 100 = some (.struct #[f0, f1, f2]) ∧ (f0.type = 9 ∧ f0.offset = 0) ∧ (f1.type = 4 ∧ f1.offset = 1) ∧ (f2.type = 31 ∧ f2.offset = 2) := ⟨_, _, _, rfl, ⟨rfl, rfl⟩, ⟨rfl, rfl⟩, ⟨rfl, rfl⟩⟩
theorem und54 : ∃ f0 f1 : Field, Tryz.prog.underlying 54 = some (.struct #[f0, f1]) ∧ (f0.type = 9 ∧ f0.offset = 0) ∧ (f1.type = 31 ∧ f1.offset = 1) := ⟨_, _, rfl, ⟨rfl, rfl⟩, ⟨rfl, rfl⟩⟩
theorem und44 : ∃ f0 f1 f2 : Field, Tryz.prog.underlying 44 = some (.struct #[f0, f1, f2]) ∧ (f0.type = 31 ∧ f0.offset = 0) ∧ (f1.type = 41 ∧ f1.offset = 32) ∧ (f2.type = 42 ∧ f2.offset = 33) := ⟨_, _, _, rfl, ⟨rfl, rfl⟩, ⟨rfl, rfl⟩, ⟨rfl, rfl⟩⟩
theorem und34 : ∃ f0 f1 f2 f3 f4 f5 : Field, Tryz.prog.underlying 34 = some (.struct #[f0, f1, f2, f3, f4, f5]) ∧ (f0.type = 3 ∧ f0.offset = 0) ∧ (f1.type = 29 ∧ f1.offset = 1) ∧ (f2.type = 31 ∧ f2.offset = 2) ∧ (f3.type = 9 ∧ f3.offset = 34) ∧ (f4.type = 32 ∧ f4.offset = 35) ∧ (f5.type = 26 ∧ f5.offset = 36) :=
  ⟨_, _, _, _, _, _, rfl, ⟨rfl, rfl⟩, ⟨rfl, rfl⟩, ⟨rfl, rfl⟩, ⟨rfl, rfl⟩, ⟨rfl, rfl⟩, ⟨rfl, rfl⟩⟩
theorem cel9 : Tryz.prog.cellsOf 9 = 1 := by kernel_rfl
theorem cel4 : Tryz.prog.cellsOf 4 = 1 := by kernel_rfl
theorem cel31 : Tryz.prog.cellsOf 31 = 32 := by kernel_rfl
theorem cel100 : Tryz.prog.cellsOf 100 = 34 := by kernel_rfl
theorem cel54 : Tryz.prog.cellsOf 54 = 33 := by kernel_rfl
theorem cel44 : Tryz.prog.cellsOf 44 = 34 := by kernel_rfl
theorem cel34 : Tryz.prog.cellsOf 34 = 37 := by kernel_rfl
theorem cel41 : Tryz.prog.cellsOf 41 = 1 := by kernel_rfl
theorem cel42 : Tryz.prog.cellsOf 42 = 1 := by kernel_rfl
theorem cel32 : Tryz.prog.cellsOf 32 = 1 := by kernel_rfl
theorem celI : Tryz.prog.cellsOf 3 = 1 := by kernel_rfl
theorem cel29 : Tryz.prog.cellsOf 29 = 1 := by kernel_rfl
theorem cel26 : Tryz.prog.cellsOf 26 = 1 := by kernel_rfl
theorem cut2 {l : List Value} {n : Nat} (h : l.length = n + 2) : ∃ k a b, l = k ++ [a, b] ∧ k.length = n := by
  refine ⟨l.take n, l[n], l[n + 1], ?_, by rw [List.length_take]; omega⟩
  have h1 : l.drop n = [l[n], l[n + 1]] := by
    rw [List.drop_eq_getElem_cons (by omega), List.drop_eq_getElem_cons (by omega), List.drop_eq_nil_of_le (by omega)]
  rw [← h1, List.take_append_drop]
theorem cut3 {l : List Value} {n : Nat} (h : l.length = n + 3) : ∃ k a b c, l = k ++ [a, b, c] ∧ k.length = n := by
  refine ⟨l.take n, l[n], l[n + 1], l[n + 2], ?_, by rw [List.length_take]; omega⟩
  have h1 : l.drop n = [l[n], l[n + 1], l[n + 2]] := by
    rw [List.drop_eq_getElem_cons (by omega), List.drop_eq_getElem_cons (by omega), List.drop_eq_getElem_cons (by omega), List.drop_eq_nil_of_le (by omega)]
  rw [← h1, List.take_append_drop]
theorem mid1 {k r : List Value} {a : Value} {n o : Nat} (hk : k.length = n) (ho : o = n) : ((k ++ a :: r).drop o).take 1 = [a] := by
  subst ho hk
  rw [List.drop_left]
  rfl
section
variable {H : Type} {enc : TypeId × Value → H} {W : World}
theorem read_rd (n : Nat) (cs : List Value) (x : DataW H × List MemPlace) (h : DataW.trod enc Tryz.prog W 0 (fun _ => true) true n 100 cs = some x) (hw : ∀ z ∈ x.1.weights Tryz.prog 100, z ≤ reachBytes) : ∃ y : RdL, y.cells = cs ∧ y.path.length ≤ 1000000000000000 := by
  obtain ⟨f0, f1, f2, hu, ⟨t0, o0⟩, ⟨t1, o1⟩, ⟨t2, o2⟩⟩ := und100
  obtain ⟨xs, n1, -, hx, hcl, hlen, hg⟩ := DataW.trod_struct hu h
  rw [cel100] at hcl
  match cs, hcl with
  | c0 :: c1 :: r, hcl =>
  match xs, hlen with
  | [y0, y1, y2], _ =>
  have h0 := hg 0 f0 rfl
  have h1 := hg 1 f1 rfl
  have h2 := hg 2 f2 rfl
  rw [t0, o0, cel9] at h0
  rw [t1, o1, cel4] at h1
  rw [t2, o2, cel31] at h2
  replace h0 : DataW.trod enc Tryz.prog W 0 (fun _ => true) true n1 9 [c0] = some y0 := h0
  replace h1 : DataW.trod enc Tryz.prog W 0 (fun _ => true) true n1 4 [c1] = some y1 := h1
  rw [show ((c0 :: c1 :: r).drop 2).take 32 = r from List.take_of_length_le (by simpa using Nat.le_of_eq (Nat.succ.inj (Nat.succ.inj hcl)))] at h2
  obtain ⟨s, e0, g0, -⟩ := DataW.trod_string Tryz.underlying9 h0
  obtain ⟨b, e1, -⟩ := DataW.trod_bool Tryz.underlying4 h1
  obtain ⟨d, rfl⟩ := read_dg h2
  simp only [List.cons.injEq, and_true] at e0 e1
  subst e0 e1
  have hs : s.data.toList.length ≤ reachBytes := hw _ (by rw [hx]; exact wt_field hu (j := 0) (f := f0) (ys := [y0.1, y1.1, y2.1]) rfl rfl _ (by rw [t0, g0]; simp [DataW.weights]))
  exact ⟨⟨s.data.toList, b, d⟩, rfl, by simp only [reachBytes] at hs; simp only; omega⟩
theorem read_md (n : Nat) (cs : List Value) (x : DataW H × List MemPlace) (h : DataW.trod enc Tryz.prog W 0 (fun _ => true) true n 54 cs = some x) (hw : ∀ z ∈ x.1.weights Tryz.prog 54, z ≤ reachBytes) : ∃ y : MdL, y.cells = cs ∧ y.path.length ≤ 1000000000000000 := by
  obtain ⟨f0, f1, hu, ⟨t0, o0⟩, ⟨t1, o1⟩⟩ := und54
  obtain ⟨xs, n1, -, hx, hcl, hlen, hg⟩ := DataW.trod_struct hu h
  rw [cel54] at hcl
  match cs, hcl with
  | c0 :: r, hcl =>
  match xs, hlen with
  | [y0, y1], _ =>
  have h0 := hg 0 f0 rfl
  have h1 := hg 1 f1 rfl
  rw [t0, o0, cel9] at h0
  rw [t1, o1, cel31] at h1
  replace h0 : DataW.trod enc Tryz.prog W 0 (fun _ => true) true n1 9 [c0] = some y0 := h0
  rw [show ((c0 :: r).drop 1).take 32 = r from List.take_of_length_le (by simpa using Nat.le_of_eq (Nat.succ.inj hcl))] at h1
  obtain ⟨s, e0, g0, -⟩ := DataW.trod_string Tryz.underlying9 h0
  obtain ⟨d, rfl⟩ := read_dg h1
  simp only [List.cons.injEq, and_true] at e0
  subst e0
  have hs : s.data.toList.length ≤ reachBytes := hw _ (by rw [hx]; exact wt_field hu (j := 0) (f := f0) (ys := [y0.1, y1.1]) rfl rfl _ (by rw [t0, g0]; simp [DataW.weights]))
  exact ⟨⟨s.data.toList, d⟩, rfl, by simp only [reachBytes] at hs; simp only; omega⟩
theorem read_tc (n : Nat) (cs : List Value) (x : DataW H × List MemPlace) (h : DataW.trod enc Tryz.prog W 0 (fun _ => true) true n 44 cs = some x) (hw : ∀ z ∈ x.1.weights Tryz.prog 44, z ≤ reachBytes) : ∃ y : TcM, y.cells = cs ∧ HeldT W y ∧ SmallT y.t := by
  obtain ⟨f0, f1, f2, hu, ⟨t0, o0⟩, ⟨t1, o1⟩, ⟨t2, o2⟩⟩ := und44
  obtain ⟨xs, n1, -, hx, hcl, hlen, hg⟩ := DataW.trod_struct hu h
  rw [cel44] at hcl
  obtain ⟨k, a, b, rfl, hk⟩ := cut2 hcl
  match xs, hlen with
  | [y0, y1, y2], _ =>
  have h0 := hg 0 f0 rfl
  have h1 := hg 1 f1 rfl
  have h2 := hg 2 f2 rfl
  rw [t0, o0, cel31] at h0
  rw [t1, o1, cel41, mid1 hk rfl] at h1
  rw [t2, o2, cel42, show k ++ [a, b] = (k ++ [a]) ++ [b] by simp, mid1 (n := 33) (by rw [List.length_append, hk]; rfl) rfl] at h2
  rw [show ((k ++ [a, b]).drop 0).take 32 = k by rw [List.drop_zero, List.take_append_of_le_length (by omega), List.take_of_length_le (by omega)]] at h0
  obtain ⟨d, rfl⟩ := read_dg h0
  obtain ⟨rl, hr1, hr2⟩ := read_rows (f := RdL.cells) (P := fun y => y.path.length ≤ 1000000000000000) Tryz.underlying41 cel100 (by omega) RdL.len read_rd h1 (fun z hz => hw z (by rw [hx]; exact wt_field hu (j := 1) (f := f1) (ys := [y0.1, y1.1, y2.1]) rfl rfl _ (by rw [t1]; exact hz)))
  obtain ⟨ml, hm1, hm2⟩ := read_rows (f := MdL.cells) (P := fun y => y.path.length ≤ 1000000000000000) Tryz.underlying42 cel54 (by omega) MdL.len read_md h2 (fun z hz => hw z (by rw [hx]; exact wt_field hu (j := 2) (f := f2) (ys := [y0.1, y1.1, y2.1]) rfl rfl _ (by rw [t2]; exact hz)))
  exact ⟨⟨⟨d, rl, ml⟩, a, b⟩, rfl, ⟨hr1, hm1⟩, ⟨hr2, hm2⟩⟩
/-- A message of the argument. -/
structure InM (W : World) (x : MsgM) : Prop where
  held : HeldM W x
  k0 : -9223372036854775808 ≤ x.kind
  k1 : x.kind ≤ 9223372036854775807
  id : x.id < 18446744073709551616
  sm : ∀ t ∈ x.ts, SmallT t.t
theorem read_msg (n : Nat) (cs : List Value) (x : DataW H × List MemPlace) (h : DataW.trod enc Tryz.prog W 0 (fun _ => true) true n 34 cs = some x) (hw : ∀ z ∈ x.1.weights Tryz.prog 34, z ≤ reachBytes) : ∃ y : MsgM, y.cells = cs ∧ InM W y := by
  obtain ⟨f0, f1, f2, f3, f4, f5, hu, ⟨t0, o0⟩, ⟨t1, o1⟩, ⟨t2, o2⟩, ⟨t3, o3⟩, ⟨t4, o4⟩, ⟨t5, o5⟩⟩ := und34
  obtain ⟨xs, n1, -, hx, hcl, hlen, hg⟩ := DataW.trod_struct hu h
  rw [cel34] at hcl
  match cs, hcl with
  | c0 :: c1 :: r, hcl =>
  obtain ⟨k, a, b, c, rfl, hk⟩ := cut3 (n := 32) (Nat.succ.inj (Nat.succ.inj hcl))
  match xs, hlen with
  | [y0, y1, y2, y3, y4, y5], _ =>
  have h0 := hg 0 f0 rfl
  have h1 := hg 1 f1 rfl
  have h2 := hg 2 f2 rfl
  have h3 := hg 3 f3 rfl
  have h4 := hg 4 f4 rfl
  have h5 := hg 5 f5 rfl
  rw [t0, o0, celI] at h0
  rw [t1, o1, cel29] at h1
  rw [t2, o2, cel31] at h2
  rw [t3, o3, cel9, show c0 :: c1 :: (k ++ [a, b, c]) = (c0 :: c1 :: k) ++ a :: [b, c] from rfl, mid1 (n := 34) (by simp [hk]) rfl] at h3
  rw [t4, o4, cel32, show c0 :: c1 :: (k ++ [a, b, c]) = (c0 :: c1 :: (k ++ [a])) ++ b :: [c] by simp, mid1 (n := 35) (by simp [hk]) rfl] at h4
  rw [t5, o5, cel26, show c0 :: c1 :: (k ++ [a, b, c]) = (c0 :: c1 :: (k ++ [a, b])) ++ c :: [] by simp, mid1 (n := 36) (by simp [hk]) rfl] at h5
  replace h0 : DataW.trod enc Tryz.prog W 0 (fun _ => true) true n1 3 [c0] = some y0 := h0
  replace h1 : DataW.trod enc Tryz.prog W 0 (fun _ => true) true n1 29 [c1] = some y1 := h1
  rw [show ((c0 :: c1 :: (k ++ [a, b, c])).drop 2).take 32 = k by
    show (k ++ [a, b, c]).take 32 = k
    rw [List.take_append_of_le_length (by omega), List.take_of_length_le (by omega)]] at h2
  obtain ⟨d, rfl⟩ := read_dg h2
  obtain ⟨i0, e0, -, w0⟩ := DataW.trod_int Tryz.underlying3 h0
  obtain ⟨i1, e1, -, w1⟩ := DataW.trod_int Tryz.underlying29 h1
  obtain ⟨s, e3, -, -⟩ := DataW.trod_string Tryz.underlying9 h3
  obtain ⟨i5, e5, -, -⟩ := DataW.trod_int Tryz.underlying26 h5
  obtain ⟨tl, ht1, ht2⟩ := read_rows (f := TcM.cells) (P := fun y => HeldT W y ∧ SmallT y.t) Tryz.underlying32 cel44 (by omega) TcM.len read_tc h4 (fun z hz => hw z (by rw [hx]; exact wt_field hu (j := 4) (f := f4) (ys := [y0.1, y1.1, y2.1, y3.1, y4.1, y5.1]) rfl rfl _ (by rw [t4]; exact hz)))
  simp only [List.cons.injEq, and_true] at e0 e1 e3 e5
  subst e0 e1 e3 e5
  have k1 : IntKind.i64.min = -9223372036854775808 := rfl
  have k2 : IntKind.i64.max = 9223372036854775807 := rfl
  have k3 : IntKind.u64.min = 0 := rfl
  have k4 : IntKind.u64.max = 18446744073709551615 := rfl
  simp only [Lit.wf, Bool.and_eq_true, decide_eq_true_eq, k1, k2, k3, k4] at w0 w1
  obtain ⟨j, rfl⟩ : ∃ j : Nat, i1 = j := ⟨i1.toNat, by omega⟩
  exact ⟨⟨i0, j, d, s.data.toList, b, tl, i5⟩, by simp [MsgM.cells, msgC]; rfl, ⟨⟨ht1, fun t ht => (ht2 t ht).1⟩, w0.1, w0.2, by simp only; omega, fun t ht => (ht2 t ht).2⟩⟩
/-- The messages that came in. -/
theorem arg_msgs {base : Nat} {v : Value} {d : DataW H} {p : List MemPlace}
    (hv : Value.okWide Tryz.prog W .any base 22 v) (h : DataW.Trod enc Tryz.prog W 0 (fun _ => true) true 22 v d p) (hw : ∀ n ∈ d.weights Tryz.prog 22, n ≤ reachBytes) :
    ∃ l : List MsgM, RowsOf W 37 MsgM.cells v l ∧ ∀ y ∈ l, InM W y := by
  obtain ⟨a0, len, cap, rfl⟩ := okWide_slice Tryz.underlying22 hv
  obtain ⟨fuel, hf⟩ := h
  exact read_rows (f := MsgM.cells) (P := InM W) (v := .slice a0 len cap) Tryz.underlying22 cel34 (by omega) MsgM.len read_msg hf hw
end
end Go.Proofs.YtlbipokkdiiaiaaGreatDoor
/- What a cache answers may be: plain. -/
namespace Go.Proofs.YtlbipokkdiiaiaaGreatDoor
open Go.RowKit Go.Proofs.YtlbipokkdiiaiaaGreatDoor.Exec
set_option maxRecDepth 100000
theorem readsE_rng : ∀ (l : List RdL) (met : List (List UInt8)), 0 ≤ readsE met l ∧ readsE met l ≤ 19
  | [], _ => by unfold readsE; omega
  | r :: l, met => by
    have ih := readsE_rng l (met ++ [r.path])
    unfold readsE
    repeat' split
    all_goals first | omega | exact ih
theorem outsE_rng : ∀ (l : List MdL) (a : Option (List UInt8)), 0 ≤ outsE a l ∧ outsE a l ≤ 19
  | [], _ => by unfold outsE; omega
  | m :: l, a => by
    have ih := outsE_rng l (some m.path)
    unfold outsE
    repeat' split
    all_goals first | omega | exact ih
theorem checkT_rng (t : TcL) : 0 ≤ checkT t ∧ checkT t ≤ 19 := by
  have h1 := readsE_rng t.reads []
  have h2 := outsE_rng t.outs none
  unfold checkT
  repeat' split
  all_goals first | omega | exact h1 | exact h2
theorem tracesE_rng : ∀ l : List TcL, 0 ≤ tracesE l ∧ tracesE l ≤ 19
  | [] => by unfold tracesE; omega
  | t :: l => by
    have ih := tracesE_rng l
    have h1 := checkT_rng t
    unfold tracesE
    split
    · exact ih
    · exact h1
theorem checkM_rng (m : MsgL) : 0 ≤ checkM m ∧ checkM m ≤ 19 := by
  have h1 := tracesE_rng m.traces
  unfold checkM
  repeat' split
  all_goals first | omega | exact h1
theorem tracesE_zero : ∀ l : List TcL, (∀ t ∈ l, checkT t = 0) → tracesE l = 0
  | [], _ => rfl
  | t :: l, h => by
    unfold tracesE
    rw [if_pos (h t (by simp))]
    exact tracesE_zero l fun x hx => h x (by simp [hx])
/-- What a cache keeps may be. -/
structure GoodC (c : CaL) : Prop where
  rows : ∀ r ∈ c.rows, r.2.length ≤ 1000
  few : ∀ d, (c.db d).length ≤ 8
  ok : ∀ d, ∀ t ∈ c.db d, checkT t = 0
theorem goodC0 (n : Nat) : GoodC ⟨n, [], fun _ => []⟩ := ⟨fun r h => (by cases h), fun d => (by simp), fun d t h => (by cases h)⟩
theorem fitR_mem (most n : Nat) : ∀ (l : List (Dg × List UInt8)) (r : Dg × List UInt8), r ∈ fitR most n l → r ∈ l
  | [], r, h => by unfold fitR at h; exact h
  | x :: l, r, h => by
    unfold fitR at h
    split at h
    · exact List.mem_cons_of_mem _ (fitR_mem most n l r h)
    · exact h
theorem check5 (l : List TcL) (h : l.length ≤ 8) (hc : ∀ t ∈ l, checkT t = 0) : checkM (okM 5 dg0 [] l) = 0 := by
  have e : hasL 5 = ⟨false, false, false, 0, 8⟩ := rfl
  have ha : argB (okM 5 dg0 [] l) = false := by simp [argB, okM, e]
  unfold checkM
  rw [if_neg (by simp [okM]), ha, if_neg (by simp), if_neg (by simp [okM]; omega)]
  exact tracesE_zero _ hc
theorem check6 (s : Dg) (d : List UInt8) (h : d.length ≤ 1000) : checkM (okM 6 s d []) = 0 := by
  have e : hasL 6 = ⟨true, true, false, 0, 0⟩ := rfl
  have ha : argB (okM 6 s d []) = false := by simp [argB, okM, e]
  unfold checkM
  rw [if_neg (by simp [okM]), ha, if_neg (by simp), if_neg (by simp [okM]; omega)]
  rfl
theorem check7 : checkM (okM 7 dg0 [] []) = 0 := by
  have e : hasL 7 = ⟨false, false, false, 0, 0⟩ := rfl
  have ha : argB (okM 7 dg0 [] []) = false := by simp [argB, okM, e]
  unfold checkM
  rw [if_neg (by simp [okM]), ha, if_neg (by simp), if_neg (by simp [okM])]
  rfl
theorem check8 (i : Nat) (y : Int) (h1 : 1 ≤ y) (h2 : y ≤ 19) : checkM ⟨8, i, dg0, [], [], y⟩ = 0 := by
  have e : hasL 8 = ⟨false, false, true, 0, 0⟩ := rfl
  have ha : argB ⟨8, i, dg0, [], [], y⟩ = false := by simp [argB, e]; omega
  unfold checkM
  rw [if_neg (by simp), ha, if_neg (by simp), if_neg (by simp)]
  rfl
theorem check_id (m : MsgL) (i : Nat) : checkM { m with id := i } = checkM m := by cases m; rfl
theorem ans_good {c c' : CaL} {m y : MsgL} {er : Int} (hc : GoodC c) (hd : m.data.length ≤ 1000) (h : Ans c m c' y er) : GoodC c' ∧ 0 ≤ er ∧ er ≤ 19 ∧ (er = 0 → checkM y = 0) := by
  cases h with
  | bad h => exact ⟨hc, (checkM_rng m).1, (checkM_rng m).2, fun e => absurd e h⟩
  | traces h k => exact ⟨hc, by omega, by omega, fun _ => check5 _ (hc.few _) (hc.ok _)⟩
  | noblob h k hn => exact ⟨hc, by omega, by omega, fun e => by omega⟩
  | blob h k data hm =>
    have h1 := hc.rows _ hm
    refine ⟨⟨fun r hr => ?_, hc.few, hc.ok⟩, by omega, by omega, fun _ => check6 _ _ h1⟩
    rcases List.mem_append.1 hr with hr | hr
    · exact hc.rows r (List.mem_filter.1 hr).1
    · obtain rfl := List.mem_singleton.1 hr
      exact h1
  | trace h k t ht =>
    have h1 : checkT t = 0 := (goodM h).tr t (by rw [ht]; simp)
    refine ⟨⟨hc.rows, fun d => ?_, fun d x hx => ?_⟩, by omega, by omega, fun _ => check7⟩
    · show (if d = t.key then addTL (c.db d) t else c.db d).length ≤ 8
      split
      · unfold addTL; rw [List.length_take]; omega
      · exact hc.few d
    · replace hx : x ∈ (if d = t.key then addTL (c.db d) t else c.db d) := hx
      split at hx
      · unfold addTL at hx
        rcases List.mem_cons.1 (List.mem_of_mem_take hx) with rfl | hx
        · exact h1
        · exact hc.ok d x (List.mem_filter.1 hx).1
      · exact hc.ok d x hx
  | nosum h k hs => exact ⟨hc, by omega, by omega, fun e => by omega⟩
  | noroom h k hs hl => exact ⟨hc, by omega, by omega, fun e => by omega⟩
  | put h k hs hl =>
    refine ⟨⟨fun r hr => ?_, hc.few, hc.ok⟩, by omega, by omega, fun _ => check7⟩
    rcases List.mem_append.1 hr with hr | hr
    · exact hc.rows r (List.mem_filter.1 (fitR_mem _ _ _ _ hr)).1
    · obtain rfl := List.mem_singleton.1 hr
      exact hd
  | other h k => exact ⟨hc, by omega, by omega, fun e => by omega⟩
theorem do_good {c c' : CaL} {m r : MsgL} (hc : GoodC c) (hd : m.data.length ≤ 1000) (h : DoA c m c' r) : GoodC c' ∧ checkM r = 0 ∧ r.id = m.id := by
  obtain ⟨y, er, ha, rfl⟩ := h
  obtain ⟨h1, h2, h3, h4⟩ := ans_good hc hd ha
  refine ⟨h1, ?_, ?_⟩
  · split
    · rename_i e; rw [check_id]; exact h4 e
    · exact check8 _ _ (by omega) h3
  · split <;> rfl
end Go.Proofs.YtlbipokkdiiaiaaGreatDoor
