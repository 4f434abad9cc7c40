/- Lemmas for TopTwice: W48o, W60, W42, W61, W62, W63. -/
import Derived.Test.YtlbipokkdiiaiaaGreatDoorU31
import Derived.Test.YtlbipokkdiiaiaaGreatDoorU24
import Derived.Test.YtlbipokkdiiaiaaGreatDoorU29
open List renaming setIfInBounds_toArray → sA, set_cons_zero → sB, set_cons_succ → sC
namespace Go.Proofs.YtlbipokkdiiaiaaGreatDoor
open Go.RowKit Go.Proofs.YtlbipokkdiiaiaaGreatDoor.Exec
set_option maxRecDepth 100000
theorem frame_parts (b : List UInt8) : (frameB b).take 4 = numB b.length 4 ∧ ((frameB b).drop 4).take 4 = (shaD b).1.take 4 ∧ (frameB b).drop 8 = b ∧ (frameB b).length = 8 + b.length := by
 have h1 : (numB b.length 4).length = 4 := numB_len _ _
 have h2 : ((shaD b).1.take 4).length = 4 := by rw [List.length_take, (shaD b).2]; rfl
 unfold frameB
 refine ⟨?_, ?_, ?_, ?_⟩
 ·rw [List.append_assoc, List.take_append_of_le_length (by omega), List.take_of_length_le (by omega)]
 ·rw [List.append_assoc, List.drop_append_of_le_length (by omega), List.drop_eq_nil_of_le (by omega), List.nil_append, List.take_append_of_le_length (by omega), List.take_of_length_le (by omega)]
 ·rw [List.drop_append, List.drop_eq_nil_of_le (by rw [List.length_append]; omega), List.length_append, h1, h2]
  simp
 ·rw [List.length_append, List.length_append]; omega
theorem br3 {ty : TypeId} {d : TypeDesc} (hu : Tryz.prog.underlying ty = some d) {fn : Func} {p u u2 : Tmp} {R : Ending → World → Prop} {a : Act} {w : World} (g : Nat) {t : TypeId} {cs : Array Value} {fr : Nat × Nat} (hg : w.heap[g]? = some (.cells cs t fr)) (hR : R (.returned (.tuple #[.agg cs, a.tmps.getD u undef, a.tmps.getD u2 undef])) w) (h : fn.results = #[.cell p ty, .tmp u, .tmp u2] := by rfl) (hp : a.tmps.getD p undef = .pointer (some ⟨g, 0, none⟩) := by rfl)
  (hd : (match d with | .struct _ | .array _ _ => true | _ => false) = true := by rfl) (hi : (Tryz.prog.info? ty).map (·.size) = some cs.size := by kernel_rfl) (hf : a.defers = [] := by rfl) : bodyPost Tryz.prog fn R .ret a w := by
 refine bodyPost_ret (v := .tuple #[.agg cs, a.tmps.getD u undef, a.tmps.getD u2 undef]) ?_ hf hR
 have hp' : a.tmps[p]?.getD undef = .pointer (some ⟨g, 0, none⟩) := by simpa using hp
 cases d <;> simp at hd <;> simp [results, h, hp', asAddr, run_loadVar_row w g t ty cs fr _ hg hu rfl hi]
set_option maxHeartbeats 4000000 in
theorem wget_any (m : MsgL) (w : World) (hp : PowTab w) (he : ErrsAt w) (hc : checkM m = 0) (hi : m.id < 18446744073709551616) :
  Calls Tryz.prog 11 #[.string (bs (putB m))] w fun e w' => ∃ y : MsgM, e = .returned (.tuple #[.agg y.cells.toArray, .int .i64 ((putB m).length : Int), .int .i64 0]) ∧ y.l = m ∧ HeldM w' y ∧ OwnM (fun b => w.heap.size ≤ b) y ∧ Below w.heap.size w w' := by
 have HP := hid (And.intro hp he)
 have hlb := bodyB_len (goodM hc)
 have HOF := hid (fun (W : World) (hb : Below w.heap.size w W) => of_any m W (hp.below hb) (he.below hb) hc hi)
 unfold putB
 generalize bodyB m = b at *
 obtain ⟨f1, f2, f3, f4⟩ := frame_parts b
 have HBIG := hid (fun (W : World) => show Calls Tryz.prog 38 #[.string (bs (numB b.length 4))] W fun e w' => e = .returned (.int .u64 (b.length : Int)) ∧ w' = W from by
  have h1 := big_any (numB b.length 4) (by rw [numB_len]; omega) W
  rw [big_num, Nat.mod_eq_of_lt (by omega)] at h1
  exact h1)
 generalize frameB b = F at *
 have f5 : (F.drop 8).take b.length = b := by rw [f3, List.take_of_length_le (Nat.le_refl _)]
 have e1 : decide ((F.length : Int) < 4) = false := decide_eq_false (by omega)
 have e2 : decide (16777216 < (b.length : Int)) = false := decide_eq_false (by omega)
 have e3 : decide ((F.length : Int) < 8 + (b.length : Int)) = false := decide_eq_false (by omega)
 have HLB := hid hlb
 have HFL := hid f4
 clear hp he hc hi hlb f3
 go_enter Tryz.func11, Tryz.ntmps11
 go_upto_region 1 with (refine wl_al rt34 ?_; intro zs W0 hzs hb0 hn0 hs0)
 have HB0 := hid hb0
 have HN0 := hid hn0
 have HZ0 := hid hs0
 have hz00 : w.heap.size < W0.heap.size := by omega
 clear hb0 hn0 hs0
 have hl4 : 8 + b.length ≤ F.length := by omega
 have hl5 : F.length ≤ 8 + b.length := by omega
 have hl6 : b.length ≤ 13100000 := HLB.out
 clear f4
 go_upto_region 4 with (go_at_call 38; refine (HBIG.out _).mono ?_; rintro e W1 ⟨rfl, hW1⟩; obtain rfl := hW1.symm)
 go_upto_region 8 with fail
 have hal := below_new W0 (.cells #[.string (bs b)] 9)
 go_upto_region 9 with first | (go_at_call 36; go_loud (refine (sha_any b _ 1 _ (one_text (heap_alloc_new W0 _)) (by omega)).mono ?_; rintro e W3 ⟨rfl, hb3⟩)) | (refine wl_new (xs := (dgc (shaD b)).toArray) rt31 (by rw [List.size_toArray]; exact dgc_len _) (dgc_one _) ?_; intro W4 hb4 hn4 hs4)
 have hb04 := Below.chain hal (Below.chain hb3 hb4)
 have hsl : W3.heap.size < W4.heap.size := by omega
 have hz03 : W0.heap.size ≤ W3.heap.size := by have := hal.size; have := hb3.size; omega
 have HB4 := hid (Below.chain HB0.out hb04)
 have hz04 := hb04.size
 have HN04 := hid ((hb04.block _ (lx HN0)).trans HN0.out)
 obtain ⟨d, hd⟩ : ∃ d, shaD b = d := ⟨_, rfl⟩
 rw [hd] at hn4 f2 ⊢
 have HN3 := hid hn4
 clear hal hb3 hb4 hn4 hs4 hb04 hd
 have h8 : (8 : Int) ≤ (F.length : Int) := by omega
 refine wp_region_wl (fun W => W.heap[W3.heap.size]? = some (.cells (dgc d).toArray 31 (0, 0))) 4 (by kernel_rfl) ?_
 intro Wd hbd
 have hS := (hbd.block _ (lx HN3)).trans HN3.out
 refine WL.tp 0 (some 34) (hi := rfl) (.inr hS) ?_
 apply Exists.intro
 refine ⟨fun W => ?_, ?_⟩
 ·go_simp
  try rfl
 try simp only [Act.put, sA, sB, sC]
 refine WL.te 1 (some 35) (hi := rfl) hS ?_
 apply Exists.intro
 refine ⟨fun W hW => ?_, ?_⟩
 ·have e1 := sum4 hW 32
  go_simp
  try rfl
 try simp only [Act.put, sA, sB, sC]
 refine WL.tp 2 (some 36) (hi := rfl) (.inr hS) ?_
 apply Exists.intro
 refine ⟨fun W => ?_, ?_⟩
 ·go_simp
  try rfl
 try simp only [Act.put, sA, sB, sC]
 refine WL.tp 3 (some 37) (hi := rfl) (.inr hS) ?_
 apply Exists.intro
 refine ⟨fun W => ?_, ?_⟩
 ·go_simp
  try rfl
 try simp only [Act.put, sA, sB, sC]
 refine WL.o 4 (hi := rfl) ?_
 intro K hK
 go_simp
 refine hK.out _ _ (.inl (by kernel_rfl)) ?_
 clear hK K
 try simp only [Act.put, sA, sB, sC]
 refine WL.d ?_
 go_upto_region 12 with first | (go_at_call 39; refine (HOF.out _ (Below.chain HB4.out hbd)).mono ?_; rintro e W5 ⟨y, rfl, hyl, hyh, hyo, hb5⟩) | (refine wl_new (xs := y.cells.toArray) rt34 (by rw [List.size_toArray]; exact MsgM.len _) hyh.one ?_; intro W6 hb6 hn6 hs6)
 have hb46 := Below.chain hbd (Below.chain hb5 hb6)
 have hn06 := (hb46.block _ (lx HN04)).trans HN04.out
 go_wp2_with first | (refine wl_ld rt34 (range_of_heap hn6) (MsgM.len _) ?_) | (refine wl_st (xs := y.cells.toArray) rt34 hn06 hzs (by rw [List.size_toArray]; exact MsgM.len _) hyh.one ?_; intro W7 ht7 hn7 hs7)
 refine br3 _ hn7 ⟨y, ?_, hyl, ?_, hyo.mono (fun b hb => by have := HB4.out.size; have := hbd.size; omega), (Below.chain HB4.out hb46).trans (ht7.below (Nat.le_refl _))⟩ (hu := Tryz.underlying34) (hi := by rw [List.size_toArray, MsgM.len]; kernel_rfl)
 ·rw [show ((F.length : Nat) : Int) = 8 + (b.length : Int) by omega]; rfl
 ·exact (hyh.keep hb6).stay ht7.foot.size hyo (fun k hk hl => ht7.foot.block k hl (by have := HB4.out.size; have := hbd.size; have := lx HN04; have := HZ0.out; omega))
end Go.Proofs.YtlbipokkdiiaiaaGreatDoor
namespace Go.Proofs.YtlbipokkdiiaiaaGreatDoor
open Go.RowKit Go.Proofs.YtlbipokkdiiaiaaGreatDoor.Exec
set_option maxRecDepth 100000
theorem rt133 : RowTy 133 7 := ⟨_, Tryz.underlying133, rfl, by kernel_rfl⟩
def cliC (cb : Nat) (fv : Value) (sent well : Nat) : List Value := [.pointer (some ⟨cb, 0, none⟩), fv, .int .i64 1, .int .u64 (sent : Int), .int .i64 (well : Int), .int .i64 0, .int .i64 0]
def intC (f n : Nat) : List Value := List.replicate n (.int .i64 (f : Int))
structure CliIs (g cb fb f n sent well : Nat) (w : World) : Prop where
 out : ∃ fv, w.heap[g]? = some (.cells (cliC cb fv sent well).toArray 133 (0, 0)) ∧ SliceAt w 1 fv n (intC f n) ∧ ∀ k, fv.ownBlock = some k → k = fb
 ne : fb ≠ g
theorem CliIs.lt {g cb fb f n sent well : Nat} {w : World} (h : CliIs g cb fb f n sent well w) : g < w.heap.size := by
 obtain ⟨fv, h1, -⟩ := h.out
 exact lx (hid h1)
theorem slice_keep {w w' : World} {v : Value} {n : Nat} {cs : List Value} (h : SliceAt w 1 v n cs) (hs : w.heap.size ≤ w'.heap.size) (hk : ∀ k, v.ownBlock = some k → k < w.heap.size → w'.heap[k]? = w.heap[k]?) : SliceAt w' 1 v n cs := by
 obtain ⟨hl, a, c, rfl, hc, hm, hn, hx⟩ := h
 refine ⟨hl, a, c, rfl, hc, hm, hn, fun hne => ?_⟩
 obtain ⟨b, off, rfl, hlt, hcl⟩ := hx hne
 exact ⟨b, off, rfl, Nat.lt_of_lt_of_le hlt hs, fun j u hu => (World.cell?_of_block (hk b rfl hlt)).trans (hcl j u hu)⟩
theorem CliIs.foot {g cb fb f n sent well : Nat} {w w' : World} {D : Nat → Prop} (h : CliIs g cb fb f n sent well w) (hf : Foot D w w') (hg : ¬ D g) (hb : ¬ D fb) : CliIs g cb fb f n sent well w' := by
 obtain ⟨fv, h1, h2, h3⟩ := h.out
 exact ⟨⟨fv, (hf.block g (lx (hid h1)) hg).trans h1, slice_keep h2 hf.size (fun k hk hl => hf.block k hl (by rw [h3 k hk]; exact hb)), h3⟩, h.ne⟩
theorem CliIs.keep {g cb fb f n sent well : Nat} {w w' : World} (h : CliIs g cb fb f n sent well w) (hb : Below w.heap.size w w') : CliIs g cb fb f n sent well w' :=
 h.foot (Foot.of_below (D := fun _ => False) hb) (fun h => h) (fun h => h)
theorem int_tail {w : World} {tb off n c f : Nat} (h : SliceAt w 1 (.slice (some ⟨tb, off, none⟩) (n + 1) c) (n + 1) (intC f (n + 1))) (_ : c ≠ 1) :
  SliceAt w 1 (.slice (some ⟨tb, off + 1, none⟩) n (c - 1)) n (intC f n) := by
 obtain ⟨hl, a, c', he, hc, hm, hn, hx⟩ := h
 simp only [Value.slice.injEq] at he
 obtain ⟨rfl, -, rfl⟩ := he
 refine ⟨by simp [intC], _, _, rfl, by omega, by omega, fun e => (by cases e), fun _ => ?_⟩
 obtain ⟨b', off', e, hb, hcl⟩ := hx (by simp [intC, List.replicate_succ])
 simp only [Option.some.injEq, Addr.mk.injEq, and_true] at e
 obtain ⟨rfl, rfl⟩ := e
 exact ⟨tb, off + 1, rfl, hb, fun j u hu => by rw [show off + 1 + j = off + (j + 1) by omega]; exact hcl (j + 1) u (by simpa [intC, List.replicate_succ] using hu)⟩
theorem int_empty (w : World) (x : Addr) {c f : Nat} (hc : c ≤ 1) : SliceAt w 1 (.slice (some x) 0 c) 0 (intC f 0) :=
 ⟨rfl, _, _, rfl, Nat.zero_le _, by unfold maxLen; omega, fun e => (by cases e), fun h => absurd rfl h⟩
theorem cli_set1 (cb : Nat) (fv v : Value) (sent well : Nat) : (cliC cb fv sent well).toArray.setIfInBounds 1 v = (cliC cb v sent well).toArray := by
 apply Array.ext'
 simp [cliC]
theorem cli_set3 (cb : Nat) (fv : Value) (sent well s : Nat) : (cliC cb fv sent well).toArray.setIfInBounds 3 (.int .u64 (s : Int)) = (cliC cb fv s well).toArray := by
 apply Array.ext'
 simp [cliC]
theorem cli_set4 (cb : Nat) (fv : Value) (sent well s : Nat) : (cliC cb fv sent well).toArray.setIfInBounds 4 (.int .i64 (s : Int)) = (cliC cb fv sent s).toArray := by
 apply Array.ext'
 simp [cliC]
theorem cli_cells {w : World} {g cb : Nat} {fv : Value} {sent well : Nat} (h : w.heap[g]? = some (.cells (cliC cb fv sent well).toArray 133 (0, 0))) :
  w.cell? ⟨g, 0, none⟩ = some (.pointer (some ⟨cb, 0, none⟩)) ∧ w.cell? ⟨g, 1, none⟩ = some fv ∧ w.cell? ⟨g, 2, none⟩ = some (.int .i64 1) ∧ w.cell? ⟨g, 3, none⟩ = some (.int .u64 (sent : Int)) ∧ w.cell? ⟨g, 4, none⟩ = some (.int .i64 (well : Int)) ∧ w.cell? ⟨g, 5, none⟩ = some (.int .i64 0) ∧ w.cell? ⟨g, 6, none⟩ = some (.int .i64 0) := by
 refine ⟨?_, ?_, ?_, ?_, ?_, ?_, ?_⟩ <;> exact (cell_of_row _ _ _ _ _ _ h).trans rfl
set_option maxHeartbeats 1000000 in
theorem fate_any {g cb fb f n sent well : Nat} {w : World} (h : CliIs g cb fb f (n + 1) sent well w) :
  Calls Tryz.prog 132 #[.pointer (some ⟨g, 0, none⟩)] w fun e w' => e = .returned (.int .i64 (f : Int)) ∧ CliIs g cb fb f n sent well w' ∧ Turned g w w' := by
 obtain ⟨fv, hg, hs, ho⟩ := h.out
 have HNE := hid h.ne
 have hss := hs
 obtain ⟨-, a, c, rfl, hc, hm, -, hx⟩ := hss
 obtain ⟨tb, off, rfl, htb, hcl⟩ := hx (by simp [intC, List.replicate_succ])
 have k0 : w.cell? ⟨tb, off, none⟩ = some (.int .i64 (f : Int)) := by simpa [intC, List.replicate_succ] using hcl 0 _ (by simp [intC, List.replicate_succ])
 obtain ⟨-, c1, -, -, -, -, -⟩ := cli_cells hg
 have fz : w.frozen? ⟨g, 1, none⟩ = false := Lib.frozen_of_heap hg 1
 have HG := hid hg
 have HS := hid hs
 have HT := hid (fun k2 => int_tail hs k2)
 have hfb : tb = fb := ho tb rfl
 have HFB := hid hfb
 have hn : ((n : Int) + 1 == 0) = false := eqF (by omega)
 unfold maxLen at hm
 clear h hs hx hcl hg ho hfb
 by_cases h1 : c = 1
 ·subst h1
  obtain rfl : n = 0 := by omega
  go_enter Tryz.func132, Tryz.ntmps132
  go_wp2
  go_ret
  have hn8 := heap_setCell_same w g 1 _ 133 (.slice (some ⟨tb, off, none⟩) 0 0) HG.out
  rw [cli_set1] at hn8
  have ht8 := turned_cell (w := w) (b := g) 1 (.slice (some ⟨tb, off, none⟩) 0 0) (lx HG)
  exact ⟨rfl, ⟨⟨_, hn8, int_empty _ _ (by omega), fun k hk => by have := HFB.out; have : tb = k := Option.some.inj hk; omega⟩, HNE.out⟩, ht8⟩
 ·go_enter Tryz.func132, Tryz.ntmps132
  go_wp2
  go_ret
  have hn8 := heap_setCell_same w g 1 _ 133 (.slice (some ⟨tb, off + 1, none⟩) n (c - 1)) HG.out
  rw [cli_set1] at hn8
  have ht8 := turned_cell (w := w) (b := g) 1 (.slice (some ⟨tb, off + 1, none⟩) n (c - 1)) (lx HG)
  exact ⟨rfl, ⟨⟨_, hn8, slice_keep (HT.out h1) ht8.foot.size (fun k hk hl => ht8.foot.block k hl (by have := HFB.out; have := HNE.out; have : tb = k := Option.some.inj hk; omega)), fun k hk => by have := HFB.out; have : tb = k := Option.some.inj hk; omega⟩, HNE.out⟩, ht8⟩
end Go.Proofs.YtlbipokkdiiaiaaGreatDoor
namespace Go.Proofs.YtlbipokkdiiaiaaGreatDoor
open Go.RowKit Go.Proofs.YtlbipokkdiiaiaaGreatDoor.Exec
set_option maxRecDepth 100000
theorem readsE_rng : ∀ (l : List RdL) (met : List (List UInt8)), 0 ≤ readsE met l ∧ readsE met l ≤ 19
 | [], _ => by unfold readsE; omega
 | r :: l, met => by
   have ih := readsE_rng l (met ++ [r.path])
   unfold readsE
   repeat' split
   all_goals first | omega | exact ih
theorem outsE_rng : ∀ (l : List MdL) (a : Option (List UInt8)), 0 ≤ outsE a l ∧ outsE a l ≤ 19
 | [], _ => by unfold outsE; omega
 | m :: l, a => by
   have ih := outsE_rng l (some m.path)
   unfold outsE
   repeat' split
   all_goals first | omega | exact ih
theorem checkT_rng (t : TcL) : 0 ≤ checkT t ∧ checkT t ≤ 19 := by
 have h1 := readsE_rng t.reads []
 have h2 := outsE_rng t.outs none
 unfold checkT
 repeat' split
 all_goals first | omega | exact h1 | exact h2
theorem tracesE_rng : ∀ l : List TcL, 0 ≤ tracesE l ∧ tracesE l ≤ 19
 | [] => by unfold tracesE; omega
 | t :: l => by
   have ih := tracesE_rng l
   have h1 := checkT_rng t
   unfold tracesE
   split
   ·exact ih
   ·exact h1
theorem checkM_rng (m : MsgL) : 0 ≤ checkM m ∧ checkM m ≤ 19 := by
 have h1 := tracesE_rng m.traces
 unfold checkM
 repeat' split
 all_goals first | omega | exact h1
theorem tracesE_zero : ∀ l : List TcL, (∀ t ∈ l, checkT t = 0) → tracesE l = 0
 | [], _ => rfl
 | t :: l, h => by
   unfold tracesE
   rw [if_pos (h t (by simp))]
   exact tracesE_zero l fun x hx => h x (by simp [hx])
structure GoodC (c : CaL) : Prop where
 rows : ∀ r ∈ c.rows, r.2.length ≤ 1000
 few : ∀ d, (c.db d).length ≤ 8
 ok : ∀ d, ∀ t ∈ c.db d, checkT t = 0
theorem goodC0 (n : Nat) : GoodC ⟨n, [], fun _ => []⟩ := ⟨fun r h => (by cases h), fun d => (by simp), fun d t h => (by cases h)⟩
theorem fitR_mem (most n : Nat) : ∀ (l : List (Dg × List UInt8)) (r : Dg × List UInt8), r ∈ fitR most n l → r ∈ l
 | [], r, h => by unfold fitR at h; exact h
 | x :: l, r, h => by
   unfold fitR at h
   split at h
   ·exact List.mem_cons_of_mem _ (fitR_mem most n l r h)
   ·exact h
theorem check5 (l : List TcL) (h : l.length ≤ 8) (hc : ∀ t ∈ l, checkT t = 0) : checkM (okM 5 dg0 [] l) = 0 := by
 have e : hasL 5 = ⟨false, false, false, 0, 8⟩ := rfl
 have ha : argB (okM 5 dg0 [] l) = false := by simp [argB, okM, e]
 unfold checkM
 rw [if_neg (by simp [okM]), ha, if_neg (by simp), if_neg (by simp [okM]; omega)]
 exact tracesE_zero _ hc
theorem check6 (s : Dg) (d : List UInt8) (h : d.length ≤ 1000) : checkM (okM 6 s d []) = 0 := by
 have e : hasL 6 = ⟨true, true, false, 0, 0⟩ := rfl
 have ha : argB (okM 6 s d []) = false := by simp [argB, okM, e]
 unfold checkM
 rw [if_neg (by simp [okM]), ha, if_neg (by simp), if_neg (by simp [okM]; omega)]
 rfl
theorem check7 : checkM (okM 7 dg0 [] []) = 0 := by
 have e : hasL 7 = ⟨false, false, false, 0, 0⟩ := rfl
 have ha : argB (okM 7 dg0 [] []) = false := by simp [argB, okM, e]
 unfold checkM
 rw [if_neg (by simp [okM]), ha, if_neg (by simp), if_neg (by simp [okM])]
 rfl
theorem check8 (i : Nat) (y : Int) (h1 : 1 ≤ y) (h2 : y ≤ 19) : checkM ⟨8, i, dg0, [], [], y⟩ = 0 := by
 have e : hasL 8 = ⟨false, false, true, 0, 0⟩ := rfl
 have ha : argB ⟨8, i, dg0, [], [], y⟩ = false := by simp [argB, e]; omega
 unfold checkM
 rw [if_neg (by simp), ha, if_neg (by simp), if_neg (by simp)]
 rfl
theorem check_id (m : MsgL) (i : Nat) : checkM { m with id := i } = checkM m := by cases m; rfl
theorem ans_good {c c' : CaL} {m y : MsgL} {er : Int} (hc : GoodC c) (hd : m.data.length ≤ 1000) (h : Ans c m c' y er) : GoodC c' ∧ 0 ≤ er ∧ er ≤ 19 ∧ (er = 0 → checkM y = 0) := by
 cases h with
 | bad h => exact ⟨hc, (checkM_rng m).1, (checkM_rng m).2, fun e => absurd e h⟩
 | traces h k => exact ⟨hc, by omega, by omega, fun _ => check5 _ (hc.few _) (hc.ok _)⟩
 | noblob h k hn => exact ⟨hc, by omega, by omega, fun e => by omega⟩
 | blob h k data hm =>
   have h1 := hc.rows _ hm
   refine ⟨⟨fun r hr => ?_, hc.few, hc.ok⟩, by omega, by omega, fun _ => check6 _ _ h1⟩
   rcases List.mem_append.1 hr with hr | hr
   ·exact hc.rows r (List.mem_filter.1 hr).1
   ·obtain rfl := List.mem_singleton.1 hr
    exact h1
 | trace h k t ht =>
   have h1 : checkT t = 0 := (goodM h).tr t (by rw [ht]; simp)
   refine ⟨⟨hc.rows, fun d => ?_, fun d x hx => ?_⟩, by omega, by omega, fun _ => check7⟩
   ·show (if d = t.key then addTL (c.db d) t else c.db d).length ≤ 8
    split
    ·unfold addTL; rw [List.length_take]; omega
    ·exact hc.few d
   ·replace hx : x ∈ (if d = t.key then addTL (c.db d) t else c.db d) := hx
    split at hx
    ·unfold addTL at hx
     rcases List.mem_cons.1 (List.mem_of_mem_take hx) with rfl | hx
     ·exact h1
     ·exact hc.ok d x (List.mem_filter.1 hx).1
    ·exact hc.ok d x hx
 | nosum h k hs => exact ⟨hc, by omega, by omega, fun e => by omega⟩
 | noroom h k hs hl => exact ⟨hc, by omega, by omega, fun e => by omega⟩
 | put h k hs hl =>
   refine ⟨⟨fun r hr => ?_, hc.few, hc.ok⟩, by omega, by omega, fun _ => check7⟩
   rcases List.mem_append.1 hr with hr | hr
   ·exact hc.rows r (List.mem_filter.1 (fitR_mem _ _ _ _ hr)).1
   ·obtain rfl := List.mem_singleton.1 hr
    exact hd
 | other h k => exact ⟨hc, by omega, by omega, fun e => by omega⟩
theorem do_good {c c' : CaL} {m r : MsgL} (hc : GoodC c) (hd : m.data.length ≤ 1000) (h : DoA c m c' r) : GoodC c' ∧ checkM r = 0 ∧ r.id = m.id := by
 obtain ⟨y, er, ha, rfl⟩ := h
 obtain ⟨h1, h2, h3, h4⟩ := ans_good hc hd ha
 refine ⟨h1, ?_, ?_⟩
 ·split
  ·rename_i e; rw [check_id]; exact h4 e
  ·exact check8 _ _ (by omega) h3
 ·split <;> rfl
end Go.Proofs.YtlbipokkdiiaiaaGreatDoor
namespace Go.Proofs.YtlbipokkdiiaiaaGreatDoor
open Go.RowKit Go.Proofs.YtlbipokkdiiaiaaGreatDoor.Exec
set_option maxRecDepth 100000
theorem Went.below {B cb : Nat} {F : Nat → Prop} {w w' w'' : World} {c : CaL} (h : Went B F w w' cb c) (hb : Below w'.heap.size w' w'') : Went B F w w'' cb c := by
 obtain ⟨F', h1, h2, h3⟩ := h
 exact ⟨F', h1, h2.then hb, h3.below hb⟩
theorem Went.ahead {B cb : Nat} {F : Nat → Prop} {w0 w w' : World} {c : CaL} (hb : Below w0.heap.size w0 w) (h : Went B F w w' cb c) : Went B F w0 w' cb c := by
 obtain ⟨F', h1, h2, h3⟩ := h
 exact ⟨F', fun k hk => by rcases h1 k hk with e | e; exact .inl e; exact .inr (Nat.le_trans hb.size e), (Foot.of_below hb).chain h2, h3⟩
set_option maxHeartbeats 4000000 in
theorem canswer_any {B g cb fb f n sent well : Nat} {F N : Nat → Prop} {w : World} {c : CaL} (hcl : CliIs g cb fb f n sent well w) (hc : CacheIs B F w cb c) (x : MsgM) (hx : OutM N w x) (hFN : ∀ k, F k → N k) (hB : B ≤ w.heap.size) (hgc : GoodC c) (hi : x.id < 18446744073709551616) (hp : ∀ W, Foot F w W → PowTab W) :
  Calls Tryz.prog 133 #[.pointer (some ⟨g, 0, none⟩), x.val] w fun e w' => ∃ (r : MsgL) (c' : CaL), e = .returned (.string (bs (putB r))) ∧ DoA c x.l c' r ∧ checkM r = 0 ∧ r.id = x.id ∧ GoodC c' ∧ Went B F w w' cb c' := by
 have HGC := hid (And.intro hgc (show x.l.data.length ≤ 1000 from hx.nd))
 have HDO : Hid (∀ W, Below w.heap.size w W → Calls Tryz.prog 9 #[.pointer (some ⟨cb, 0, none⟩), .agg x.cells.toArray] W fun e w' => ∃ (y : MsgM) (c' : CaL), e = .returned (.agg y.cells.toArray) ∧ DoA c x.l c' y.l ∧ Went B F W w' cb c' ∧ HeldM w' y ∧ OwnM (fun k => W.heap.size ≤ k) y) := hid (fun W hb => do_any (hc.below hb) x (hx.keep hb) hFN (Nat.le_trans hB hb.size))
 obtain ⟨fv, hg, -, -⟩ := hcl.out
 have c0 := (cli_cells hg).1
 have HPW := hid hp
 have HX := hid hx
 have hgl := lx (hid hg)
 unfold MsgM.val
 clear hcl hc hx hB hgc hp hg hFN
 go_enter Tryz.func133, Tryz.ntmps133
 go_upto_region 1 with first | (refine wl_box rt34 ?_; intro W0 hb0 hn0 hs0)
 have HB0 := hid hb0
 have HS := hid (fun (W : World) (hb : Below W0.heap.size W0 W) => show W.cell? ⟨g, 0, none⟩ = some (.pointer (some ⟨cb, 0, none⟩)) ∧ W.heap[w.heap.size]? = some (.cells x.cells.toArray 34 (0, 0)) from ⟨Below.keeps (Below.chain hb0 hb) c0, (hb.block _ (by omega)).trans hn0⟩)
 clear hb0 hn0 hs0 c0
 have HPT := hid (fun (y : MsgM) (W : World) (hy : HeldM W y) (h1 : PowTab W) (h2 : checkM y.l = 0) (h3 : y.l.id = x.id) => show Calls Tryz.prog 10 #[.agg y.cells.toArray] W fun e w' => e = .returned (.tuple #[.string (bs (putB y.l)), .int .i64 0]) ∧ Below W.heap.size W w' from wput_any y W hy h1 (by have h4 : y.id = x.id := h3; omega) h2)
 refine wp_region_wl (fun W => W.cell? ⟨g, 0, none⟩ = some (.pointer (some ⟨cb, 0, none⟩)) ∧ W.heap[w.heap.size]? = some (.cells x.cells.toArray 34 (0, 0))) 5 (by kernel_rfl) ?_
 intro Wd hbd
 have hS := HS.out _ hbd
 refine WL.tp 0 (some 8) (hi := rfl) (.inr hS) ?_
 apply Exists.intro
 refine ⟨fun W => ?_, ?_⟩
 ·go_simp
  try rfl
 try simp only [Act.put, sA, sB, sC]
 refine WL.tp 1 (some 9) (hi := rfl) (.inr hS) ?_
 apply Exists.intro
 refine ⟨fun W => ?_, ?_⟩
 ·go_simp
  try rfl
 try simp only [Act.put, sA, sB, sC]
 refine WL.tp 2 (some 10) (hi := rfl) (.inr hS) ?_
 apply Exists.intro
 refine ⟨fun W => ?_, ?_⟩
 ·go_simp
  try rfl
 try simp only [Act.put, sA, sB, sC]
 refine WL.te 3 (some 11) (hi := rfl) hS ?_
 apply Exists.intro
 refine ⟨fun W hW => ?_, ?_⟩
 ·have e1 := hW.1
  go_simp
  try rfl
 try simp only [Act.put, sA, sB, sC]
 refine WL.ld 4 (some 12) rt34 (fun W hW => range_of_heap hW.2) (MsgM.len _) (hi := rfl) hS ?_
 try simp only [Act.put, sA, sB, sC]
 refine WL.o 5 (hi := rfl) ?_
 intro K hK
 go_simp
 refine (HDO.out _ (Below.chain HB0.out hbd)).mono ?_
 rintro e W2 ⟨y, c', rfl, hda, hwent, hy, hyo⟩
 obtain ⟨hgc', hck, hid'⟩ := do_good HGC.out.1 HGC.out.2 hda
 refine hK.out _ _ (.inl (by kernel_rfl)) ?_
 clear hK K
 try simp only [Act.put, sA, sB, sC]
 refine WL.o 6 (hi := rfl) ?_
 intro K hK
 go_simp
 have hpw := HPW.out W2 (by obtain ⟨F', g1, g2, g3⟩ := hwent; exact (Foot.of_below (Below.chain HB0.out hbd)).chain g2)
 refine (HPT.out y W2 hy hpw hck hid').mono ?_
 rintro e W3 ⟨rfl, hb3⟩
 refine hK.out _ _ (.inl (by kernel_rfl)) ?_
 clear hK K
 try simp only [Act.put, sA, sB, sC]
 refine WL.tp 7 (some 7) (hi := rfl) (.inl (by kernel_rfl)) ?_
 apply Exists.intro
 refine ⟨fun W => ?_, ?_⟩
 ·go_simp
  try rfl
 try simp only [Act.put, sA, sB, sC]
 refine WL.tp 8 (some 15) (hi := rfl) (.inl (by kernel_rfl)) ?_
 apply Exists.intro
 refine ⟨fun W => ?_, ?_⟩
 ·go_simp
  try rfl
 try simp only [Act.put, sA, sB, sC]
 refine WL.tp 9 (some 16) (hi := rfl) (.inl (by kernel_rfl)) ?_
 apply Exists.intro
 refine ⟨fun W => ?_, ?_⟩
 ·go_simp
  try rfl
 try simp only [Act.put, sA, sB, sC]
 refine WL.o 10 (hi := rfl) ?_
 intro K hK
 go_simp
 refine hK.out _ _ (.inl (by kernel_rfl)) ?_
 clear hK K
 try simp only [Act.put, sA, sB, sC]
 refine WL.o 11 (hi := rfl) ?_
 intro K hK
 go_simp
 refine hK.out _ _ (.inl (by kernel_rfl)) ?_
 clear hK K
 try simp only [Act.put, sA, sB, sC]
 refine WL.d ?_
 go_wp2_with fail
 go_ret
 obtain ⟨F', g1, g2, g3⟩ := hwent
 exact ⟨y.l, c', rfl, hda, hck, hid', hgc', Went.ahead (Below.chain HB0.out hbd) (Went.below ⟨F', g1, g2, g3⟩ hb3)⟩
end Go.Proofs.YtlbipokkdiiaiaaGreatDoor
namespace Go.Proofs.YtlbipokkdiiaiaaGreatDoor
open Go.RowKit Go.Proofs.YtlbipokkdiiaiaaGreatDoor.Exec
set_option maxRecDepth 100000
theorem OutM.foot {N : Nat → Prop} {w w' : World} {x : MsgM} {D : Nat → Prop} (h : OutM N w x) (hf : Foot D w w') (hD : ∀ k, D k → N k) : OutM N w' x where
 held := ⟨rows_keepE h.held.1 hf.size fun k hk hl => hf.block k hl fun e => (h.tl hk.1 k hk.2).1 (hD k e), fun t ht => (h.held.2 t ht).stayE hf.size fun k hk hl => hf.block k hl fun e => h.lo t ht k hk (hD k e)⟩
 k0 := h.k0
 k1 := h.k1
 nd := h.nd
 sm := h.sm
 lo := h.lo
 tl := fun hne k hk => ⟨(h.tl hne k hk).1, Nat.lt_of_lt_of_le (h.tl hne k hk).2 hf.size⟩
theorem OutM.mono {N M : Nat → Prop} {w : World} {x : MsgM} (h : OutM N w x) (hs : ∀ k, M k → N k) : OutM M w x :=
 ⟨h.held, h.k0, h.k1, h.nd, h.sm, fun t ht k hk e => h.lo t ht k hk (hs k e), fun hne k hk => ⟨fun e => (h.tl hne k hk).1 (hs k e), (h.tl hne k hk).2⟩⟩
theorem rows_in {α : Type} {w : World} {sz : Nat} {f : α → List Value} {v : Value} {l : List α} (hs : ∀ x, (f x).length = sz) (h0 : 0 < sz) (h : RowsOf w sz f v l) (hl : l ≠ []) (k : Nat) (hk : v.ownBlock = some k) : k < w.heap.size := by
 obtain ⟨a, c, rfl, -, -, -, hx⟩ := h.out hs h0
 obtain ⟨b, off, rfl, hb, -⟩ := hx 0 (List.length_pos_iff.2 hl)
 have : b = k := Option.some.inj hk
 omega
theorem OutM.more {N : Nat → Prop} {w : World} {x : MsgM} (h : OutM N w x) : OutM (fun k => N k ∨ w.heap.size ≤ k) w x :=
 ⟨h.held, h.k0, h.k1, h.nd, h.sm, fun t ht k hk e => by
  rcases e with e | e
  ·exact h.lo t ht k hk e
  ·have : k < w.heap.size := by
    rcases hk with ⟨h1, h2⟩ | ⟨h1, h2⟩
    ·exact rows_in RdL.len (by omega) (h.held.2 t ht).1 h1 k h2
    ·exact rows_in MdL.len (by omega) (h.held.2 t ht).2 h1 k h2
   omega, fun hne k hk => ⟨fun e => by
  have h1 := h.tl hne k hk
  rcases e with e | e
  ·exact h1.1 e
  ·have := h1.2; omega, (h.tl hne k hk).2⟩⟩
def Carried (f : Nat) (c : CaL) (m : MsgL) (c' : CaL) (r : MsgL) : Prop := (f = 0 ∧ DoA c m c' r) ∨ (f = 2 ∧ ∃ c1 r1, DoA c m c1 r1 ∧ DoA c1 m c' r)
def WentC (B : Nat) (F : Nat → Prop) (g : Nat) (w w' : World) (cb : Nat) (c' : CaL) : Prop := ∃ F' : Nat → Prop, (∀ k, F' k → F k ∨ w.heap.size ≤ k) ∧ Foot (fun k => F k ∨ k = g) w w' ∧ CacheIs B F' w' cb c'
set_option maxHeartbeats 4000000 in
theorem carry_any {B g cb fb f n sent well : Nat} {F N : Nat → Prop} {w lo : World} {c : CaL} (hcl : CliIs g cb fb f (n + 1) sent well w) (hf : f = 0 ∨ f = 2) (hc : CacheIs B F w cb c) (hF : ¬ F g ∧ ¬ F fb) (hfb : fb < w.heap.size) (x : MsgM) (hx : OutM N w x) (hFN : ∀ k, F k ∨ k = g → N k) (hB : B ≤ w.heap.size) (hgB : B ≤ g) (hgc : GoodC c) (hi : x.id < 18446744073709551616) (hp : PowTab lo) (hl : Below lo.heap.size lo w) (hlB : lo.heap.size ≤ B) :
  Calls Tryz.prog 90 #[.pointer (some ⟨g, 0, none⟩), x.val] w fun e w' => ∃ (r : MsgL) (c' : CaL), e = .returned (.tuple #[.string (bs (putB r)), .bool true]) ∧ Carried f c x.l c' r ∧ checkM r = 0 ∧ r.id = x.id ∧ GoodC c' ∧ CliIs g cb fb f n sent well w' ∧ WentC B F g w w' cb c' := by
 have hFB : ∀ k, F k → B ≤ k ∧ k < w.heap.size := fun k hk => hc.bd k hk
 have hgl := hcl.lt
 have HCL := hid (fun (W : World) (hb : Below w.heap.size w W) => fate_any (hcl.keep hb))
 have HC := hid hc
 have HX := hid hx
 have HFN := hid hFN
 have HGC := hid hgc
 have HP := hid (fun (W : World) (hb : Foot (fun k => F k ∨ k = g) w W) => hp.below (hl.trans (hb.below (by have := hl.size; omega) (fun k hk => by rcases hk with e | e; have := (hFB k e).1; omega; omega))))
 have HNF := hid hF
 have HH := hid (And.intro hFB (And.intro hfb (And.intro hB (And.intro hgB hgl))))
 have HI := hid hi
 have ef3 : ((f : Int) == 3) = false := eqF (by omega)
 have ef4 : ((f : Int) == 4) = false := eqF (by omega)
 have ef1 : ((f : Int) == 1) = false := eqF (by omega)
 unfold MsgM.val
 clear hcl hc hx hFN hgc hp hl hF hFB hfb hB hgB hgl hi
 go_enter Tryz.func90, Tryz.ntmps90
 go_upto_region 1 with (refine wl_box rt34 ?_; intro W0 hb0 hn0 hs0)
 go_upto_region 2 with (go_at_call 132; refine (HCL.out _ hb0).mono ?_; rintro e W1 ⟨rfl, hcl1, ht1⟩)
 have hn1 := (ht1.foot.block _ (by omega) (by have := HH.out.2.2.2.2; omega)).trans hn0
 have hf1 : Foot (fun k => k = g) w W1 := (Foot.of_below hb0).chain ht1.foot
 have hfF1 : Foot (fun k => F k ∨ k = g) w W1 := hf1.mono fun k _ e => .inr e
 have hc1 := HC.out.keep hf1 (fun k hk e => HNF.out.1 (e ▸ hk))
 have hx1 := HX.out.foot hf1 (fun k e => HFN.out k (.inr e))
 have hz1 := hf1.size
 have HA1 := hid (canswer_any hcl1 hc1 x hx1 (fun k hk => HFN.out k (.inl hk)) (by have := HH.out.2.2.1; omega) HGC.out HI.out (fun W hf => HP.out W (hfF1.chain (hf.mono fun k _ e => .inl e))))
 have HK1 := hid (And.intro hcl1 (And.intro hfF1 (And.intro hx1 (And.intro hn1 hz1))))
 have HN1 := hid hn1
 unfold MsgM.val at HA1
 clear hb0 hn0 hs0 ht1 hn1 hf1 hfF1 hc1 hx1 hz1 hcl1 HCL
 rcases hf with hf | hf
 ·have ef2 : ((f : Int) == 2) = false := eqF (by omega)
  have HF := hid hf
  clear hf
  go_wp2_with first | (refine wl_ld rt34 (range_of_heap HN1.out) (MsgM.len _) ?_) | (go_at_call 133; refine (HA1.out).mono ?_; rintro e W2 ⟨r, c', rfl, hda, hck, hid', hgc', F', g1, g2, g3⟩)
  go_ret2
  obtain ⟨k1, k2, k3, k4, k5⟩ := HK1.out
  exact ⟨r, c', rfl, .inl ⟨HF.out, hda⟩, hck, hid', hgc', k1.foot g2 HNF.out.1 HNF.out.2, F', fun k hk => by rcases g1 k hk with e | e; exact .inl e; exact .inr (by omega), k2.chain (g2.mono fun k _ e => .inl e), g3⟩
 ·have ef2 : ((f : Int) == 2) = true := eqT (by omega)
  have HF := hid hf
  clear hf
  go_upto_region 14 with first | (refine wl_ld rt34 (range_of_heap HN1.out) (MsgM.len _) ?_) | (go_at_call 133; refine (HA1.out).mono ?_; rintro e W2 ⟨r1, c1, rfl, hda, hck, hid', hgc', F', g1, g2, g3⟩)
  obtain ⟨k1, k2, k3, k4, k5⟩ := HK1.out
  have hn2 := (g2.block _ (lx HN1) (fun e => by have := (HH.out.1 _ e).2; omega)).trans HN1.out
  have hcl2 := k1.foot g2 HNF.out.1 HNF.out.2
  have hz2 := g2.size
  have hFg : ¬ F' g := fun e => by rcases g1 g e with e | e; exact HNF.out.1 e; have := HH.out.2.2.2.2; omega
  have hFf : ¬ F' fb := fun e => by rcases g1 fb e with e | e; exact HNF.out.2 e; have := HH.out.2.1; omega
  have hf02 : Foot (fun k => F k ∨ k = g) w W2 := k2.chain (g2.mono fun k _ e => .inl e)
  have HA2 := hid (canswer_any (N := F') hcl2 g3 x ((k3.more.foot g2 (fun k e => .inl (HFN.out k (.inl e)))).mono fun k e => by rcases g1 k e with e | e; exact .inl (HFN.out k (.inl e)); exact .inr e) (fun k hk => hk) (by have := HH.out.2.2.1; omega) hgc' HI.out (fun W hf => HP.out W (hf02.trans hf fun k hk e => by
   rcases g1 k e with e | e
   ·exact .inl e
   ·omega)))
  have HK2 := hid (And.intro hda (And.intro hcl2 (And.intro hf02 (And.intro g1 (And.intro hFg hFf)))))
  unfold MsgM.val at HA2
  clear hda hck hid' hgc' g1 g2 g3 hcl2 hf02 k1 k2 k3 k4 hFg hFf
  go_wp2_with first | (refine wl_ld rt34 (range_of_heap hn2) (MsgM.len _) ?_) | (go_at_call 133; refine (HA2.out).mono ?_; rintro e W3 ⟨r, c', rfl, hda, hck, hid', hgc', F'', g1, g2, g3⟩)
  go_ret2
  obtain ⟨l1, l2, l3, l4, l5, l6⟩ := HK2.out
  exact ⟨r, c', rfl, .inr ⟨HF.out, c1, r1, l1, hda⟩, hck, hid', hgc', l2.foot g2 l5 l6, F'', fun k hk => by
   rcases g1 k hk with e | e
   ·rcases l4 k e with e | e
    ·exact .inl e
    ·exact .inr (by omega)
   ·exact .inr (by omega), l3.trans g2 fun k hk e => by
   rcases l4 k e with e | e
   ·exact .inl e
   ·omega, g3⟩
end Go.Proofs.YtlbipokkdiiaiaaGreatDoor
namespace Go.Proofs.YtlbipokkdiiaiaaGreatDoor
open Go.RowKit Go.Proofs.YtlbipokkdiiaiaaGreatDoor.Exec
set_option maxRecDepth 100000
set_option maxHeartbeats 1000000 in
theorem keyclo_any (x : TcM) (q : Nat) (d : Dg) (w : World) (hq : w.rangeAt q 2 (dgc d)) (hk : x.t.key = d) :
  Calls Tryz.prog 135 #[x.val, .pointer (some ⟨q, 0, none⟩)] w fun e w' => e = .returned (.bool false) ∧ Below w.heap.size w w' := by
 subst hk
 unfold TcM.val
 have E := eqt_is (eqt31 x.t.key x.t.key) true (decide_eq_true rfl)
 have HQ := hid hq
 clear hq
 go_enter Tryz.func135, Tryz.ntmps135
 go_wp2_with first | (refine wl_box rt44 ?_; intro W0 hb0 hn0 hs0; have hr0 := (TcM.parts0 hn0).1; have hr1 := range_keeps hb0 HQ.out) | (refine wl_ld rt31 hr0 (dgc_len _) ?_) | (refine wl_ld rt31 hr1 (dgc_len _) ?_) | (refine wl_neq E ?_)
 go_ret
 exact ⟨rfl, hb0⟩
set_option maxHeartbeats 1000000 in
theorem keyidx_any (l : List TcM) (d : Dg) (q : Nat) (v : Value) (w : World) (hq : w.rangeAt q 2 (dgc d)) (h0 : RowsOf w 34 TcM.cells v l) (hl : ∀ x ∈ l, x.t.key = d) :
  Calls Tryz.prog 169 #[v, .func (.func 135) #[] #[.pointer (some ⟨q, 0, none⟩)]] w fun e w' => e = .returned (.int .i64 (-1)) ∧ Below w.heap.size w w' := by
 obtain ⟨a0, c0, rfl, hc0, hm0, -, hx⟩ := h0.out TcM.len (by omega)
 unfold maxLen at hm0
 have HX := hid hx
 have HL := hid hl
 have HQ := hid hq
 clear h0 hx hl hq
 go_enter Tryz.func169, Tryz.ntmps169
 go_wp2_with fail
 go_loopw [8] (fun i wr => ∃ k : Nat, k ≤ l.length ∧ i = .int .i64 k ∧ Below w.heap.size w wr) (fun i _ => l.length - (intOf i).toNat)
 case atStart => exact ⟨0, by omega, rfl, Below.refl _ _⟩
 case round =>
  obtain ⟨k, hk, rfl, hbe⟩ := hrel
  by_cases hlt : k < l.length
  ·obtain ⟨b, off, rfl, hbw, hcl⟩ := HX.out k hlt
   have L0 := range_keeps hbe (hcl k hlt)
   have HC := hid (keyclo_any l[k] q d wr (range_keeps hbe HQ.out) (HL.out l[k] (List.getElem_mem hlt)))
   have HB := hid hbe
   unfold TcM.val at HC
   generalize l[k] = t at *
   clear hcl hbe HX HL
   go_wp2_with first | (refine wl_ld rt44 L0 (TcM.len _) ?_) | (go_at_call 135; refine (HC.out).mono ?_; rintro e w1 ⟨rfl, hb1⟩)
   exact ⟨⟨k + 1, by omega, by go_num, Below.chain HB.out hb1⟩, by simp [intOf]; omega⟩
  ·go_wp2_with fail
   go_ret
   exact ⟨rfl, hbe⟩
theorem keys_any (l : List TcM) (d : Dg) (q : Nat) (v : Value) (w : World) (hq : w.rangeAt q 2 (dgc d)) (h0 : RowsOf w 34 TcM.cells v l) (hl : ∀ x ∈ l, x.t.key = d) :
  Calls Tryz.prog 134 #[v, .func (.func 135) #[] #[.pointer (some ⟨q, 0, none⟩)]] w fun e w' => e = .returned (.bool false) ∧ Below w.heap.size w w' := by
 obtain ⟨a0, c0, rfl, -⟩ := h0.out TcM.len (by omega)
 have HC := hid (keyidx_any l d q _ w hq h0 hl)
 clear hq h0 hl
 go_enter Tryz.func134, Tryz.ntmps134
 go_wp2_with (go_at_call 169; refine (HC.out).mono ?_; rintro e w1 ⟨rfl, hb1⟩)
 go_ret
 exact ⟨rfl, hb1⟩
end Go.Proofs.YtlbipokkdiiaiaaGreatDoor
