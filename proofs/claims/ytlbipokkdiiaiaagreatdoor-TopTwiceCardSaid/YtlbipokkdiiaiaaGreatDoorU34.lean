/- Lemmas for TopTwice: W68, W69, W70, W71, W72, W73. -/
import Derived.Test.YtlbipokkdiiaiaaGreatDoorU33
namespace Go.Proofs.YtlbipokkdiiaiaaGreatDoor
open Go.RowKit Go.Proofs.YtlbipokkdiiaiaaGreatDoor.Exec
set_option maxRecDepth 100000
set_option maxHeartbeats 1000000 in
theorem topsum_any (s : List UInt8) (w : World) (hs : s.length ≤ 140737488351232) :
  Calls Tryz.prog 14 #[.string (bs s)] w fun e w' => e = .returned (.agg (dgc (shaD s)).toArray) ∧ Below w.heap.size w w' := by
 go_enter Tryz.func14, Tryz.ntmps14
 go_upto_region 1 with (refine wl_al rt31 ?_; intro zs W0 hzs hb0 hn0 hs0)
 have hal := below_new W0 (.cells #[.string (bs s)] 9)
 have HN0 := hid hn0
 clear hs0 hn0
 go_wp2_with first | (go_at_call 36; refine (sha_any s _ 1 _ (one_text (heap_alloc_new W0 _)) (by omega)).mono ?_; rintro e W3 ⟨rfl, hb3⟩; have hb03 := Below.chain hal hb3; have hn3 := (hb03.block _ (lx HN0)).trans HN0.out) | (refine wl_st (xs := (dgc (shaD s)).toArray) rt31 hn3 hzs (by rw [List.size_toArray]; exact dgc_len _) (dgc_one _) ?_; intro W4 ht4 hn4 hs4)
 exact br1 w.heap.size hn4 ⟨rfl, (Below.chain hb0 hb03).trans (ht4.below (Nat.le_refl _))⟩ (hu := Tryz.underlying31) (hi := by rw [List.size_toArray, dgc_len]; kernel_rfl)
def apartL : (Dg → Option (List UInt8)) → List (List UInt8) → Bool
 | _, [] => true
 | m, s :: l => match m (shaD s) with
   | some t => if t = s then apartL (fun d => if d = shaD s then some s else m d) l else false
   | none => apartL (fun d => if d = shaD s then some s else m d) l
theorem apartL_ok : ∀ (l : List (List UInt8)) (m : Dg → Option (List UInt8)), apartL m l = true → (∀ s ∈ l, ∀ t, m (shaD s) = some t → t = s) ∧ ∀ s ∈ l, ∀ t ∈ l, shaD s = shaD t → s = t
 | [], _, _ => ⟨fun s h => by (cases h), fun s h => by (cases h)⟩
 | s :: l, m, h => by
   unfold apartL at h
   have hs : ∀ t, m (shaD s) = some t → t = s := by
    intro t ht
    rw [ht] at h
    simp only at h
    split at h
    ·assumption
    ·cases h
   have h2 : apartL (fun d => if d = shaD s then some s else m d) l = true := by
    cases hm : m (shaD s) with
    | none => rw [hm] at h; exact h
    | some t => rw [hm] at h; simp only at h; split at h; exact h; cases h
   obtain ⟨i1, i2⟩ := apartL_ok l _ h2
   have h3 : ∀ t ∈ l, shaD t = shaD s → s = t := fun t ht e => i1 t ht s (by simp [e])
   refine ⟨fun x hx t ht => ?_, fun x hx t ht e => ?_⟩
   ·rcases List.mem_cons.1 hx with rfl | hx
    ·exact hs t ht
    ·by_cases e : shaD x = shaD s
     ·have h4 := h3 x hx e
      subst h4
      exact hs t ht
     ·exact i1 x hx t (by simp [e, ht])
   ·rcases List.mem_cons.1 hx with h4 | h4
    ·rcases List.mem_cons.1 ht with h5 | h5
     ·rw [h4, h5]
     ·subst h4; exact h3 t h5 e.symm
    ·rcases List.mem_cons.1 ht with h5 | h5
     ·subst h5; exact (h3 x h4 e).symm
     ·exact i2 x h4 t h5 e
end Go.Proofs.YtlbipokkdiiaiaaGreatDoor
namespace Go.Proofs.YtlbipokkdiiaiaaGreatDoor
open Go.RowKit Go.Proofs.YtlbipokkdiiaiaaGreatDoor.Exec
set_option maxRecDepth 100000
set_option maxHeartbeats 4000000 in
theorem apart_any (v : Value) (n : Nat) (l : List (List UInt8)) (w : World) (h0 : SliceAt w 1 v n (strCells l)) (hlen : ∀ s ∈ l, s.length ≤ 140737488351232) :
  Calls Tryz.prog 13 #[v] w fun e w' => e = .returned (.bool (apartL (fun _ => none) l)) ∧ Below w.heap.size w w' := by
 obtain ⟨rfl, va, vc, rfl, hvc, hvm, hx⟩ := h0.str
 unfold maxLen at hvm
 have HX := hid hx
 have HL := hid hlen
 have hmm := @run_makeMap Tryz.prog
 have ht : Tryz.prog.underlying 127 = some (.map 31 9) := by kernel_rfl
 have hz : ∀ W, (zeroValue 9).run Tryz.prog W = .ok (.string ⟨#[]⟩) W := fun W => rfl
 have HTZ := hid (And.intro ht hz)
 clear h0 hx hlen ht hz
 go_enter Tryz.func13, Tryz.ntmps13
 go_upto_region 2 with fail
 have hmb : (w.alloc (.map #[] 0)).heap[w.heap.size]? = some (.map #[] 0) := heap_alloc_new w _
 have hb0 := below_new w (.map #[] 0)
 generalize w.alloc (.map #[] 0) = W0 at *
 have HM0 := hid (And.intro hmb hb0)
 clear hmb hb0 hmm
 go_wp2_with fail
 go_loopw [12] (fun i wr => ∃ (k : Nat) (m : Dg → Option (List UInt8)) (o : Obj), k ≤ l.length ∧ i = .int .i64 k ∧ wr.heap[w.heap.size]? = some o ∧ MapIs dgv (fun d => (m d).map fun s => Value.string (bs s)) o ∧ apartL (fun _ => none) l = apartL m (l.drop k) ∧ Below w.heap.size w wr) (fun i _ => l.length - (intOf i).toNat)
 case atStart => exact ⟨0, fun _ => none, _, by omega, rfl, HM0.out.1, MapIs.nil _, rfl, HM0.out.2⟩
 case round =>
  obtain ⟨k, m, o, hk, rfl, hmo, hM, hap, hbr⟩ := hrel
  by_cases hlt : k < l.length
  ·obtain ⟨b, off, rfl, hbl, hcl⟩ := HX.out k hlt
   have L0 := Below.keeps hbr (hcl k hlt)
   have HD := hid (List.drop_eq_getElem_cons hlt)
   have hsl := HL.out l[k] (List.getElem_mem hlt)
   have HM := hid (And.intro hmo (And.intro hM (And.intro hap hbr)))
   clear hmo hM hap hbr hcl
   generalize l[k] = s at *
   have hal := below_new wr (.cells #[.string (bs s)] 9)
   go_upto_region 6 with first | (go_at_call 36; refine (sha_any s _ 1 _ (one_text (heap_alloc_new wr _)) hsl).mono ?_; rintro e W3 ⟨rfl, hb3⟩) | (refine wl_new (xs := (dgc (shaD s)).toArray) rt31 (by rw [List.size_toArray]; exact dgc_len _) (dgc_one _) ?_; intro W4 hb4 hn4 hs4)
   have hb14 := Below.chain hal (Below.chain hb3 hb4)
   have hwl := lx (hid HM.out.1)
   have hmo4 := (hb14.block _ hwl).trans HM.out.1
   have hlk := HM.out.2.1.look keyDg hmo4 HTZ.out.1 (HTZ.out.2 W4) (shaD s) true
   obtain ⟨o', hup, hM'⟩ := HM.out.2.1.put keyDg hmo4 HTZ.out.1 (shaD s) (.string (bs s))
   have hpt := putObj_turned (lx (hid hmo4)) o'
   have hpa := putObj_at (lx (hid hmo4)) o'
   have HW4 := hid (And.intro hb14 (And.intro hM' (And.intro hpt hpa)))
   unfold dgv at hlk hup
   have HN4 := hid hn4
   have hz4 := hb14.size
   clear hal hb3 hb4 hn4 hs4 hb14 hM' hpt hpa hmo4
   have hnext : ∀ (h1 : apartL m (l.drop k) = apartL (fun d => if d = shaD s then some s else m d) (l.drop (k + 1))), ∃ (k' : Nat) (m' : Dg → Option (List UInt8)) (o'' : Obj), k' ≤ l.length ∧ Value.int .i64 (((k + 1 : Nat)) : Int) = .int .i64 k' ∧ (putObj W4 w.heap.size o').heap[w.heap.size]? = some o'' ∧ MapIs dgv (fun d => (m' d).map fun s => Value.string (bs s)) o'' ∧ apartL (fun _ => none) l = apartL m' (l.drop k') ∧ Below w.heap.size w (putObj W4 w.heap.size o') := fun h1 => by
    obtain ⟨a1, a2, a3, a4⟩ := HW4.out
    have hs := HM.out.2.2.2.size
    refine ⟨k + 1, _, o', by omega, rfl, a4, ?_, HM.out.2.2.1.trans h1, (HM.out.2.2.2.trans (a1.mono hs)).trans (a3.below (Nat.le_refl _))⟩
    have e : (fun x => if x = shaD s then some (Value.string (bs s)) else (m x).map fun s => Value.string (bs s)) = fun d => ((fun d => if d = shaD s then some s else m d) d).map fun s => Value.string (bs s) := by
     funext x
     by_cases hx : x = shaD s <;> simp [hx]
    rw [← e]
    exact a2
   have HNX := hid hnext
   clear hnext
   cases hm : m (shaD s) with
   | none =>
     rw [hm] at hlk
     simp only [Option.map_none, Option.getD_none, Option.isSome_none, if_true] at hlk
     have h1 := HNX.out (by rw [HD.out]; simp only [apartL, hm])
     have HE := hid h1
     clear h1 hm
     go_wp2_with first | (refine wl_ld rt31 (range_of_heap HN4.out) (dgc_len _) ?_)
     refine ⟨?_, by simp [intOf]; omega⟩
     exact HE.out
   | some t =>
     rw [hm] at hlk
     simp only [Option.map_some, Option.getD_some, Option.isSome_some, if_true] at hlk
     by_cases hts : t = s
     ·have h1 := HNX.out (by rw [HD.out]; simp only [apartL, hm, if_pos hts])
      have HE := hid h1
      subst hts
      clear h1 hm
      go_wp2_with first | (refine wl_ld rt31 (range_of_heap HN4.out) (dgc_len _) ?_)
      refine ⟨?_, by simp [intOf]; omega⟩
      exact HE.out
     ·have h1 : apartL m (l.drop k) = false := by rw [HD.out]; simp only [apartL, hm, if_neg hts]
      have HE := hid (HM.out.2.2.1.trans h1)
      have hb : (t == s) = false := beq_eq_false_iff_ne.2 hts
      clear h1 hm hts
      go_wp2_with first | (refine wl_ld rt31 (range_of_heap HN4.out) (dgc_len _) ?_)
      go_ret
      exact ⟨by rw [HE.out]; rfl, HM.out.2.2.2.trans (HW4.out.1.mono HM.out.2.2.2.size)⟩
  ·obtain rfl : k = l.length := by omega
   have hap' := hap
   rw [List.drop_length] at hap'
   go_wp2_with fail
   go_ret
   exact ⟨by rw [hap']; rfl, hbr⟩
end Go.Proofs.YtlbipokkdiiaiaaGreatDoor
namespace Go.Proofs.YtlbipokkdiiaiaaGreatDoor
open Go.RowKit Go.Proofs.YtlbipokkdiiaiaaGreatDoor.Exec
set_option maxRecDepth 100000
theorem rt51 : RowTy 51 2 := ⟨_, Tryz.underlying51, rfl, by kernel_rfl⟩
set_option maxHeartbeats 1000000 in
theorem putclo_any (p d : List UInt8) (w : World) (hd : d.length ≤ 1000) :
  Calls Tryz.prog 46 #[.agg (MdL.cells ⟨p, shaD d⟩).toArray, .agg #[.string (bs p), .string (bs d)]] w fun e w' => e = .returned (.bool true) ∧ Below w.heap.size w w' := by
 have HC := hid (fun (W : World) => show Calls Tryz.prog 47 #[.agg (dgc (shaD d)).toArray, .string (bs d)] W fun e w' => e = .returned (.bool true) ∧ Below W.heap.size W w' from by
  have h1 := bcheck_any (shaD d) d W (by omega)
  rw [decide_eq_true rfl] at h1
  exact h1)
 go_enter Tryz.func46, Tryz.ntmps46
 go_upto_region 1 with first | (refine wl_box rt54 ?_; intro W0 hb0 hn0 hs0) | (refine wl_box rt51 ?_; intro W1 hb1 hn1 hs1)
 have hn01 := (hb1.block _ (by omega)).trans hn0
 have HB := hid (Below.chain hb0 hb1)
 rw [hs0] at hn1
 obtain ⟨q0, q1⟩ := MdL.parts0 hn01
 have p0 := (cell_of_row W1 (w.heap.size + 1) 0 _ _ _ hn1).trans rfl
 have p1 := (cell_of_row W1 (w.heap.size + 1) 1 _ _ _ hn1).trans rfl
 clear hb0 hn0 hb1 hn1 hn01 hs1
 go_wp2_with first | (refine wl_ld rt31 q1 (dgc_len _) ?_) | (go_at_call 47; refine (HC.out _).mono ?_; rintro e w2 ⟨rfl, hb2⟩)
 go_ret
 exact ⟨rfl, Below.chain HB.out hb2⟩
def fileC (x : List UInt8 × List UInt8) : List Value := [.string (bs x.1), .string (bs x.2)]
theorem file_len (x : List UInt8 × List UInt8) : (fileC x).length = 2 := rfl
theorem file_one (x : List UInt8 × List UInt8) : ∀ u ∈ fileC x, u.oneCell' = true := by
 intro u hu
 simp only [fileC, List.mem_cons, List.not_mem_nil, or_false] at hu
 rcases hu with rfl | rfl <;> rfl
def madeOf (x : List UInt8 × List UInt8) : MdL := ⟨x.1, shaD x.2⟩
set_option maxHeartbeats 2000000 in
theorem eqfiles_any (l : List (List UInt8 × List UInt8)) (v0 v1 : Value) (w : World) (h0 : RowsOf w 33 MdL.cells v0 (l.map madeOf)) (h1 : RowsOf w 2 fileC v1 l) (hd : ∀ x ∈ l, x.2.length ≤ 1000) :
  Calls Tryz.prog 45 #[v0, v1, .func (.func 46) #[] #[]] w fun e w' => e = .returned (.bool true) ∧ Below w.heap.size w w' := by
 obtain ⟨a0, c0, rfl, hc0, hm0, -, hx0⟩ := h0.out MdL.len (by omega)
 obtain ⟨a1, c1, rfl, hc1, hm1, -, hx1⟩ := h1.out file_len (by omega)
 rw [List.length_map] at *
 unfold maxLen at hm0 hm1
 have HX0 := hid hx0
 have HX1 := hid hx1
 have HD := hid hd
 clear h0 h1 hx0 hx1 hd
 go_enter Tryz.func45, Tryz.ntmps45
 go_wp2_with fail
 go_loopw [17] (fun i wr => ∃ k : Nat, k ≤ l.length ∧ i = .int .i64 k ∧ Below w.heap.size w wr) (fun i _ => l.length - (intOf i).toNat)
 case atStart => exact ⟨0, by omega, rfl, Below.refl _ _⟩
 case round =>
  obtain ⟨k, hk, rfl, hbe⟩ := hrel
  by_cases hlt : k < l.length
  ·obtain ⟨b0, o0, rfl, hb0, hcl0⟩ := HX0.out k (by rw [List.length_map]; exact hlt)
   obtain ⟨b1, o1, rfl, hb1, hcl1⟩ := HX1.out k hlt
   have L0 := range_keeps hbe (hcl0 k (by rw [List.length_map]; exact hlt))
   rw [List.getElem_map] at L0
   have L1 := range_keeps hbe (hcl1 k hlt)
   have hdl := HD.out l[k] (List.getElem_mem hlt)
   generalize l[k] = x at *
   have HB := hid hbe
   have HC := hid (fun (W : World) => show Calls Tryz.prog 46 #[.agg (MdL.cells (madeOf x)).toArray, .agg (fileC x).toArray] W fun e w' => e = .returned (.bool true) ∧ Below W.heap.size W w' from putclo_any x.1 x.2 W hdl)
   clear hcl0 hcl1 hbe
   go_wp2_with first | (refine wl_ld rt54 L0 (MdL.len _) ?_) | (refine wl_al rt54 ?_; intro zs W2 hzs hb2 hn2 hs2; clear hs2) | (refine wl_st (xs := (MdL.cells (madeOf x)).toArray) rt54 hn2 hzs (by rw [List.size_toArray]; exact MdL.len _) (MdL.one _) ?_; intro W2b ht2 hn2b hs2b; clear hs2b; have hb2b := hb2.trans (ht2.below (Nat.le_refl _)); have L1' := range_keeps hb2b L1) | (refine wl_ld rt51 L1' (file_len _) ?_) | (refine wl_new (xs := (fileC x).toArray) rt51 (by rw [List.size_toArray]; exact file_len _) (file_one _) ?_; intro W3 hb3 hn3 hs3; clear hs3; have hn2' := (hb3.block _ (lx (hid hn2b))).trans hn2b) | (refine wl_ld rt54 (range_of_heap hn2') (MdL.len _) ?_) | (refine wl_ld rt51 (range_of_heap hn3) (file_len _) ?_) | (go_at_call 46; refine (HC.out _).mono ?_; rintro e w4 ⟨rfl, hb4⟩)
   exact ⟨⟨k + 1, by omega, by go_num, Below.chain HB.out (Below.chain hb2b (Below.chain hb3 hb4))⟩, by simp [intOf]; omega⟩
  ·go_wp2_with fail
   go_ret
   exact ⟨rfl, hbe⟩
end Go.Proofs.YtlbipokkdiiaiaaGreatDoor
namespace Go.Proofs.YtlbipokkdiiaiaaGreatDoor
open Go.RowKit Go.Proofs.YtlbipokkdiiaiaaGreatDoor.Exec
set_option maxRecDepth 100000
theorem doa_trace {c c' : CaL} {m r : MsgL} (h : DoA c m c' r) (hk : m.kind = 3) (hc : checkM m = 0) (t : TcL) (ht : m.traces = [t]) : r.kind = 7 ∧ c' = { c with db := fun d => if d = t.key then addTL (c.db d) t else c.db d } := by
 obtain ⟨y, er, ha, rfl⟩ := h
 cases ha with
 | bad h => exact absurd hc h
 | traces h k => omega
 | noblob h k hn => omega
 | blob h k data hm => omega
 | trace h k t' ht' =>
   rw [ht] at ht'
   obtain rfl : t = t' := by simpa using ht'
   exact ⟨rfl, rfl⟩
 | nosum h k hs => omega
 | noroom h k hs hl => omega
 | put h k hs hl => omega
 | other h k => omega
theorem doa_put {c c' : CaL} {m r : MsgL} (h : DoA c m c' r) (hk : m.kind = 4) (hc : checkM m = 0) (hs : shaD m.data = m.sum) (hl : m.data.length ≤ c.most) : r.kind = 7 ∧ c' = { c with rows := fitR c.most m.data.length (without m.sum c.rows) ++ [(m.sum, m.data)] } := by
 obtain ⟨y, er, ha, rfl⟩ := h
 cases ha with
 | bad h => exact absurd hc h
 | traces h k => omega
 | noblob h k hn => omega
 | blob h k data hm => omega
 | trace h k t' ht' => omega
 | nosum h k hs' => exact absurd hs hs'
 | noroom h k hs' hl' => omega
 | put h k hs' hl' => exact ⟨rfl, rfl⟩
 | other h k => omega
theorem doa_traces {c c' : CaL} {m r : MsgL} (h : DoA c m c' r) (hk : m.kind = 1) (hc : checkM m = 0) : r.kind = 5 ∧ r.traces = c.db m.sum ∧ c' = c := by
 obtain ⟨y, er, ha, rfl⟩ := h
 cases ha with
 | bad h => exact absurd hc h
 | traces h k => exact ⟨rfl, rfl, rfl⟩
 | noblob h k hn => omega
 | blob h k data hm => omega
 | trace h k t' ht' => omega
 | nosum h k hs' => omega
 | noroom h k hs' hl' => omega
 | put h k hs' hl' => omega
 | other h k => omega
theorem doa_blob {c c' : CaL} {m r : MsgL} (h : DoA c m c' r) (hk : m.kind = 2) (hc : checkM m = 0) (d : List UInt8) (hm : (m.sum, d) ∈ c.rows) (hu : ∀ e, (m.sum, e) ∈ c.rows → e = d) : r.kind = 6 ∧ r.sum = m.sum ∧ r.data = d ∧ c' = { c with rows := without m.sum c.rows ++ [(m.sum, d)] } := by
 obtain ⟨y, er, ha, rfl⟩ := h
 cases ha with
 | bad h => exact absurd hc h
 | traces h k => omega
 | noblob h k hn => exact absurd rfl (hn _ hm)
 | blob h k data hm' =>
   obtain rfl := hu data hm'
   exact ⟨rfl, rfl, rfl, rfl⟩
 | trace h k t' ht' => omega
 | nosum h k hs' => omega
 | noroom h k hs' hl' => omega
 | put h k hs' hl' => omega
 | other h k => omega
end Go.Proofs.YtlbipokkdiiaiaaGreatDoor
namespace Go.Proofs.YtlbipokkdiiaiaaGreatDoor
open Go.RowKit Go.Proofs.YtlbipokkdiiaiaaGreatDoor.Exec
set_option maxRecDepth 100000
theorem car_traces {f : Nat} {c c' : CaL} {m r : MsgL} (h : Carried f c m c' r) (hk : m.kind = 1) (hc : checkM m = 0) : r.kind = 5 ∧ r.traces = c.db m.sum ∧ c' = c := by
 rcases h with ⟨-, h⟩ | ⟨-, c1, r1, h1, h⟩
 ·exact doa_traces h hk hc
 ·obtain ⟨-, -, rfl⟩ := doa_traces h1 hk hc
  exact doa_traces h hk hc
theorem car_trace {f : Nat} {c c' : CaL} {m r : MsgL} (h : Carried f c m c' r) (hk : m.kind = 3) (hc : checkM m = 0) (t : TcL) (ht : m.traces = [t]) (hn : c.db t.key = []) : r.kind = 7 ∧ c'.db t.key = [t] ∧ c'.rows = c.rows ∧ c'.most = c.most := by
 rcases h with ⟨-, h⟩ | ⟨-, c1, r1, h1, h⟩
 ·obtain ⟨h2, rfl⟩ := doa_trace h hk hc t ht
  refine ⟨h2, ?_, rfl, rfl⟩
  simp [hn, addTL]
 ·obtain ⟨-, rfl⟩ := doa_trace h1 hk hc t ht
  obtain ⟨h2, rfl⟩ := doa_trace h hk hc t ht
  refine ⟨h2, ?_, rfl, rfl⟩
  simp [hn, addTL]
end Go.Proofs.YtlbipokkdiiaiaaGreatDoor
namespace Go.Proofs.YtlbipokkdiiaiaaGreatDoor
open Go.RowKit Go.Proofs.YtlbipokkdiiaiaaGreatDoor.Exec
set_option maxRecDepth 100000
theorem fitR_all (most n : Nat) (l : List (Dg × List UInt8)) (h : szR l + n ≤ most) : fitR most n l = l := by
 cases l with
 | nil => rfl
 | cons r l => unfold fitR; rw [if_neg (by omega)]
theorem szR_le (n : Nat) : ∀ (l : List (Dg × List UInt8)), (∀ r ∈ l, r.2.length ≤ n) → szR l ≤ l.length * n
 | [], _ => by simp [szR]
 | r :: l, h => by
   have h1 := szR_le n l (fun x hx => h x (List.mem_cons_of_mem _ hx))
   have h2 := h r (List.mem_cons_self)
   have h3 : szR (r :: l) = r.2.length + szR l := by simp [szR]
   rw [h3, List.length_cons, Nat.succ_mul]
   omega
structure KeptP (S D : List (List UInt8)) (j : Nat) (c : CaL) : Prop where
 most : c.most = 1048576
 few : c.rows.length ≤ j
 of : ∀ r ∈ c.rows, r.1 = shaD r.2 ∧ r.2 ∈ D
 all : ∀ x ∈ S, (shaD x, x) ∈ c.rows
theorem KeptP.sub {S S' D : List (List UInt8)} {j j' : Nat} {c : CaL} (h : KeptP S D j c) (hs : ∀ x ∈ S', x ∈ S) (hj : j ≤ j') : KeptP S' D j' c :=
 ⟨h.most, Nat.le_trans h.few hj, h.of, fun x hx => h.all x (hs x hx)⟩
theorem KeptP.same {S D : List (List UInt8)} {j : Nat} {c c' : CaL} (h : KeptP S D j c) (h1 : c'.most = c.most) (h2 : c'.rows = c.rows) : KeptP S D j c' :=
 ⟨h1.trans h.most, by rw [h2]; exact h.few, by rw [h2]; exact h.of, by rw [h2]; exact h.all⟩
structure FineD (D : List (List UInt8)) : Prop where
 ap : ∀ s ∈ D, ∀ t ∈ D, shaD s = shaD t → s = t
 sh : ∀ s ∈ D, s.length ≤ 1000
theorem kept_anew {S D : List (List UInt8)} {j : Nat} {c : CaL} {x : List UInt8} (h : KeptP S D j c) (hD : FineD D) (hx : x ∈ D) : KeptP (S ++ [x]) D (j + 1) { c with rows := without (shaD x) c.rows ++ [(shaD x, x)] } where
 most := h.most
 few := by
  have h1 := h.few
  have h2 : (without (shaD x) c.rows).length ≤ c.rows.length := List.length_filter_le _ _
  simp only [List.length_append, List.length_singleton]
  omega
 of := fun r hr => by
  simp only [List.mem_append, List.mem_singleton] at hr
  rcases hr with hr | rfl
  ·exact h.of r (List.mem_filter.1 hr).1
  ·exact ⟨rfl, hx⟩
 all := fun y hy => by
  simp only [List.mem_append, List.mem_singleton] at hy ⊢
  by_cases e : shaD y = shaD x
  ·have hyD : y ∈ D := by
    rcases hy with hy | rfl
    ·exact (h.of _ (h.all y hy)).2
    ·exact hx
   have := hD.ap y hyD x hx e
   subst this
   exact .inr rfl
  ·rcases hy with hy | rfl
   ·exact .inl (List.mem_filter.2 ⟨h.all y hy, by simp [e]⟩)
   ·exact absurd rfl e
theorem put_one {S D : List (List UInt8)} {j : Nat} {c c' : CaL} {m r : MsgL} {x : List UInt8} (h : KeptP S D j c) (hD : FineD D) (hx : x ∈ D) (hj : j ≤ 1000) (hd : DoA c m c' r) (hk : m.kind = 4) (hc : checkM m = 0) (hs : m.sum = shaD x) (hm : m.data = x) :
  r.kind = 7 ∧ KeptP (S ++ [x]) D (j + 1) c' ∧ c'.db = c.db := by
 have hl := hD.sh x hx
 have hmo := h.most
 obtain ⟨h1, rfl⟩ := doa_put hd hk hc (by rw [hm, hs]) (by rw [hm]; omega)
 rw [hs, hm]
 have hsz : szR (without (shaD x) c.rows) + x.length ≤ c.most := by
  have h2 : (without (shaD x) c.rows).length ≤ c.rows.length := List.length_filter_le _ _
  have h3 := szR_le 1000 (without (shaD x) c.rows) (fun r hr => hD.sh _ (h.of r (List.mem_filter.1 hr).1).2)
  have h4 := h.few
  have h5 : (without (shaD x) c.rows).length * 1000 ≤ 1000 * 1000 := Nat.mul_le_mul (by omega) (Nat.le_refl _)
  omega
 rw [fitR_all _ _ _ hsz]
 exact ⟨h1, kept_anew h hD hx, rfl⟩
theorem put_kept {f : Nat} {S D : List (List UInt8)} {j : Nat} {c c' : CaL} {m r : MsgL} {x : List UInt8} (h : KeptP S D j c) (hD : FineD D) (hx : x ∈ D) (hj : j + 1 ≤ 1000) (hd : Carried f c m c' r) (hk : m.kind = 4) (hc : checkM m = 0) (hs : m.sum = shaD x) (hm : m.data = x) :
  r.kind = 7 ∧ KeptP (S ++ [x]) D (j + 2) c' ∧ c'.db = c.db := by
 rcases hd with ⟨-, hd⟩ | ⟨-, c1, r1, h1, hd⟩
 ·obtain ⟨a1, a2, a3⟩ := put_one h hD hx (by omega) hd hk hc hs hm
  exact ⟨a1, a2.sub (fun _ h => h) (by omega), a3⟩
 ·obtain ⟨-, a2, a3⟩ := put_one h hD hx (by omega) h1 hk hc hs hm
  obtain ⟨b1, b2, b3⟩ := put_one a2 hD hx (by omega) hd hk hc hs hm
  exact ⟨b1, b2.sub (fun y hy => List.mem_append.2 (.inl hy)) (by omega), b3.trans a3⟩
theorem blob_one {S D : List (List UInt8)} {j : Nat} {c c' : CaL} {m r : MsgL} {x : List UInt8} (h : KeptP S D j c) (hD : FineD D) (hx : x ∈ S) (hd : DoA c m c' r) (hk : m.kind = 2) (hc : checkM m = 0) (hs : m.sum = shaD x) :
  r.kind = 6 ∧ r.sum = shaD x ∧ r.data = x ∧ KeptP S D (j + 1) c' ∧ c'.db = c.db := by
 have hmem := h.all x hx
 have hxD := (h.of _ hmem).2
 obtain ⟨h1, h2, h3, rfl⟩ := doa_blob hd hk hc x (by rw [hs]; exact hmem) (fun e he => by
  rw [hs] at he
  obtain ⟨e1, e2⟩ := h.of _ he
  exact (hD.ap x hxD e e2 e1).symm)
 rw [hs]
 exact ⟨h1, h2.trans hs, h3, (kept_anew h hD hxD).sub (fun y hy => List.mem_append.2 (.inl hy)) (Nat.le_refl _), rfl⟩
theorem blob_kept {f : Nat} {S D : List (List UInt8)} {j : Nat} {c c' : CaL} {m r : MsgL} {x : List UInt8} (h : KeptP S D j c) (hD : FineD D) (hx : x ∈ S) (hd : Carried f c m c' r) (hk : m.kind = 2) (hc : checkM m = 0) (hs : m.sum = shaD x) :
  r.kind = 6 ∧ r.sum = shaD x ∧ r.data = x ∧ KeptP S D (j + 2) c' ∧ c'.db = c.db := by
 rcases hd with ⟨-, hd⟩ | ⟨-, c1, r1, h1, hd⟩
 ·obtain ⟨a1, a2, a3, a4, a5⟩ := blob_one h hD hx hd hk hc hs
  exact ⟨a1, a2, a3, a4.sub (fun _ h => h) (by omega), a5⟩
 ·obtain ⟨-, -, -, a4, a5⟩ := blob_one h hD hx h1 hk hc hs
  obtain ⟨b1, b2, b3, b4, b5⟩ := blob_one a4 hD hx hd hk hc hs
  exact ⟨b1, b2, b3, b4, b5.trans a5⟩
def putbM (x : List UInt8) : MsgM := ⟨4, 0, shaD x, x, nilS, [], 0⟩
def puttM (v : Value) (t : TcM) : MsgM := ⟨3, 0, dg0, [], v, [t], 0⟩
theorem putb_out {N : Nat → Prop} {w : World} {x : List UInt8} (hx : x.length ≤ 1000) : OutM N w (putbM x) :=
 ⟨heldN ⟨rfl, rfl⟩, by show (-9223372036854775808 : Int) ≤ 4; omega, by show (4 : Int) ≤ 9223372036854775807; omega, hx, fun t h => (by cases h), fun t h => (by cases h), fun h => absurd rfl h⟩
theorem putb_check (x : List UInt8) (hx : x.length ≤ 1000) : checkM (putbM x).l = 0 := by
 have e : hasL 4 = ⟨true, true, false, 0, 0⟩ := rfl
 have ha : argB (putbM x).l = false := by simp [argB, putbM, MsgM.l, e]
 unfold checkM
 rw [if_neg (by simp [putbM, MsgM.l]), ha, if_neg (by simp), if_neg (by simp [putbM, MsgM.l]; omega)]
 rfl
theorem putt_check (v : Value) (t : TcM) (ht : checkT t.t = 0) : checkM (puttM v t).l = 0 := by
 have e : hasL 3 = ⟨false, false, false, 1, 1⟩ := rfl
 have ha : argB (puttM v t).l = false := by simp [argB, puttM, MsgM.l, e]
 unfold checkM
 rw [if_neg (by simp [puttM, MsgM.l]), ha, if_neg (by simp), if_neg (by simp [puttM, MsgM.l])]
 show tracesE [t.t] = 0
 simp [tracesE, ht]
theorem putb_right {f : Nat} {S D : List (List UInt8)} {j : Nat} {c : CaL} {x : List UInt8} (h : KeptP S D j c) (hD : FineD D) (hx : x ∈ D) (hj : j + 1 ≤ 1000) (i : Nat) :
  ∀ c' r, Carried f c { (putbM x).l with id := i } c' r → RightA 4 (shaD x) r := fun c' r hd =>
 ⟨fun e => by omega, fun e => by omega, fun _ _ => (put_kept h hD hx hj hd rfl (by rw [check_id]; exact putb_check x (hD.sh x hx)) rfl rfl).1⟩
theorem car_trace7 {f : Nat} {c c' : CaL} {m r : MsgL} (h : Carried f c m c' r) (hk : m.kind = 3) (hc : checkM m = 0) (t : TcL) (ht : m.traces = [t]) : r.kind = 7 := by
 rcases h with ⟨-, h⟩ | ⟨-, c1, r1, h1, h⟩
 ·exact (doa_trace h hk hc t ht).1
 ·exact (doa_trace h hk hc t ht).1
theorem putt_right {f : Nat} {c : CaL} (v : Value) (t : TcM) (ht : checkT t.t = 0) (i : Nat) :
  ∀ c' r, Carried f c { (puttM v t).l with id := i } c' r → RightA 3 dg0 r := fun c' r hd =>
 ⟨fun e => by omega, fun e => by omega, fun _ _ => car_trace7 hd rfl (by rw [check_id]; exact putt_check v t ht) t.t rfl⟩
end Go.Proofs.YtlbipokkdiiaiaaGreatDoor
