/- Lemmas for TopTwice: W74. -/
import Derived.Test.YtlbipokkdiiaiaaGreatDoorU34
open List renaming setIfInBounds_toArray → sA, set_cons_zero → sB, set_cons_succ → sC
namespace Go.Proofs.YtlbipokkdiiaiaaGreatDoor
open Go.RowKit Go.Proofs.YtlbipokkdiiaiaaGreatDoor.Exec
set_option maxRecDepth 100000
def putMs (l : List (List UInt8 × List UInt8)) (tv : Value) (t : TcM) : List MsgM := l.map (fun x => putbM x.2) ++ [puttM tv t]
theorem putMs_len (l : List (List UInt8 × List UInt8)) (tv : Value) (t : TcM) : (putMs l tv t).length = l.length + 1 := by simp [putMs]
structure PutSt (lo V : World) (B g cb fb f n sent well : Nat) (F : Nat → Prop) (l : List (List UInt8 × List UInt8)) (D : List (List UInt8)) (t : TcL) (k : Nat) (F' : Nat → Prop) (c : CaL) (W : World) : Prop where
 st : CliSt lo B g cb fb f (l.length + 1 - k + n) (sent + k) (well + k) F' c W
 own : ∀ j, F' j → F j ∨ V.heap.size ≤ j
 foot : Foot (fun j => F j ∨ j = g) V W
 kept : KeptP ((l.map (·.2)).take k) D (2 * k) c
 db : (k ≤ l.length → c.db t.key = []) ∧ (l.length < k → c.db t.key = [t])
section
variable {lo V : World} {B g cb fb f n sent well : Nat} {F F' : Nat → Prop} {l : List (List UInt8 × List UInt8)} {D : List (List UInt8)} {t : TcM} {k : Nat} {c : CaL} {W : World}
theorem PutSt.keep {t : TcL} {W' : World} (h : PutSt lo V B g cb fb f n sent well F l D t k F' c W) (hb : Below W.heap.size W W') : PutSt lo V B g cb fb f n sent well F l D t k F' c W' :=
 ⟨h.st.keep hb, h.own, h.foot.then hb, h.kept, h.db⟩
theorem put_step (h : PutSt lo V B g cb fb f n sent well F l D t.t k F' c W) (tv : Value) (hk : k < (putMs l tv t).length) (hD : FineD D) (hin : ∀ x ∈ l, x.2 ∈ D) (hl : l.length ≤ 20) (hs : sent ≤ 900) (hw : well ≤ 900)
  (hT : RowsOf V 34 TcM.cells tv [t]) (hTH : HeldT V t) (hsm : SmallT t.t) (hck : checkT t.t = 0) (hlo : InE (fun j => (¬ (F j ∨ j = g)) ∧ j < V.heap.size) t) (htl : ∀ j, tv.ownBlock = some j → (¬ (F j ∨ j = g)) ∧ j < V.heap.size) :
  Calls Tryz.prog 48 #[.pointer (some ⟨g, 0, none⟩), .agg ((putMs l tv t)[k]).cells.toArray] W fun e w' => ∃ (z : MsgM) (c' : CaL) (F'' : Nat → Prop), e = .returned (.tuple #[.agg z.cells.toArray, .int .i64 0]) ∧ (∀ u ∈ z.cells, u.oneCell' = true) ∧ PutSt lo V B g cb fb f n sent well F l D t.t (k + 1) F'' c' w' := by
 rw [putMs_len] at hk
 have hst := h.st
 rw [show l.length + 1 - k + n = (l.length + 1 - (k + 1) + n) + 1 by omega] at hst
 have hzV := h.foot.size
 have hfin : ∀ (F'' : Nat → Prop) (c' : CaL) (w' : World), (∀ j, F'' j → F' j ∨ W.heap.size ≤ j) → Foot (fun j => F' j ∨ j = g) W w' → (∀ j, F'' j → F j ∨ V.heap.size ≤ j) ∧ Foot (fun j => F j ∨ j = g) V w' := fun F'' c' w' g2 g3 =>
  ⟨fun j hj => by
   rcases g2 j hj with e | e
   ·exact h.own j e
   ·exact .inr (by omega), h.foot.trans g3 fun j hj e => by
   rcases e with e | e
   ·rcases h.own j e with e | e
    ·exact .inl e
    ·omega
   ·exact .inr e⟩
 by_cases hlt : k < l.length
 ·have hm : (putMs l tv t)[k] = putbM l[k].2 := by simp [putMs, List.getElem_append_left, hlt]
  rw [hm]
  have hxD := hin l[k] (List.getElem_mem hlt)
  refine (call_st (N := fun j => F' j ∨ j = g) hst (putbM l[k].2) (putb_out (hD.sh _ hxD)) (fun j e => e) 4 rfl (putb_check _ (hD.sh _ hxD)) (by show 0 < 18446744073709551616; omega) (by omega) (by omega) (putb_right h.kept hD hxD (by omega) _)).mono ?_
  rintro e w' ⟨z, c', rfl, hcd, ⟨F'', g1, g2, g3⟩, hz, hzo⟩
  obtain ⟨-, k2, k3⟩ := put_kept h.kept hD hxD (by omega) hcd rfl (by rw [check_id]; exact putb_check _ (hD.sh _ hxD)) rfl rfl
  obtain ⟨f1, f2⟩ := hfin F'' c' w' g2 g3
  refine ⟨z, c', F'', rfl, hz.one, ⟨g1, f1, f2, ?_, fun _ => by rw [k3]; exact h.db.1 (by omega), fun e => by omega⟩⟩
  have ht : (l.map (·.2)).take (k + 1) = (l.map (·.2)).take k ++ [l[k].2] := by
   rw [List.take_add_one]
   simp [hlt]
  rw [ht]
  exact k2
 ·obtain rfl : k = l.length := by omega
  have hm : (putMs l tv t)[l.length] = puttM tv t := by simp [putMs]
  rw [hm]
  have hkb : ∀ j, (¬ (F j ∨ j = g)) ∧ j < V.heap.size → ¬ (F' j ∨ j = g) := fun j hj e => by
   rcases e with e | e
   ·rcases h.own j e with e | e
    ·exact hj.1 (.inl e)
    ·omega
   ·exact hj.1 (.inr e)
  have hout : OutM (fun j => F' j ∨ j = g) W (puttM tv t) :=
   ⟨⟨rows_keep hT h.foot.size fun j hj hl => h.foot.block j hl (htl j hj).1, fun x hx => by
     obtain rfl : x = t := by simpa [puttM] using hx
     exact hTH.stayE h.foot.size fun j hj hl => h.foot.block j hl (hlo j hj).1⟩,
   by show (-9223372036854775808 : Int) ≤ 3; omega, by show (3 : Int) ≤ 9223372036854775807; omega, Nat.zero_le _, fun x hx => by
    obtain rfl : x = t := by simpa [puttM] using hx
    exact hsm, fun x hx j hj => by
    obtain rfl : x = t := by simpa [puttM] using hx
    exact hkb j (hlo j hj), fun _ j hj => ⟨hkb j (htl j hj), Nat.lt_of_lt_of_le (htl j hj).2 hzV⟩⟩
  refine (call_st (N := fun j => F' j ∨ j = g) hst (puttM tv t) hout (fun j e => e) 3 rfl (putt_check _ _ hck) (by show 0 < 18446744073709551616; omega) (by omega) (by omega) (putt_right _ _ hck _)).mono ?_
  rintro e w' ⟨z, c', rfl, hcd, ⟨F'', g1, g2, g3⟩, hz, hzo⟩
  obtain ⟨-, k2, k3, k4⟩ := car_trace hcd rfl (by rw [check_id]; exact putt_check _ _ hck) t.t rfl (h.db.1 (Nat.le_refl _))
  obtain ⟨f1, f2⟩ := hfin F'' c' w' g2 g3
  exact ⟨z, c', F'', rfl, hz.one, ⟨g1, f1, f2, ((h.kept.same k4 k3).sub (fun x hx => by
   rw [List.take_of_length_le (by simp)] at hx ⊢
   exact hx) (by omega)), fun e => by omega, fun _ => k2⟩⟩
end
theorem built_putb (s : Dg) (d : List UInt8) : Tryz.prog.built 34 [(0, .int .i64 4), (2, .agg (dgc s).toArray), (3, .string (bs d))] = some (msgC 4 0 s d nilS 0).toArray := by rw [built34, fill0, fill2, fill3]; rfl
theorem built_putt (a : Option Addr) (n c : Nat) : Tryz.prog.built 34 [(0, .int .i64 3), (4, .slice a n c)] = some (msgC 3 0 dg0 [] (.slice a n c) 0).toArray := by rw [built34, fill0, fill4]; rfl
theorem putb_one (d : List UInt8) : ∀ u ∈ (putbM d).cells, u.oneCell' = true := msgC_one rfl
theorem rows_single {α : Type} {w : World} {b sz : Nat} {f : α → List Value} {x : α} {ty : TypeId} {fr : Nat × Nat} (h : w.heap[b]? = some (.cells (f x).toArray ty fr)) (hl : (f x).length = sz) : RowsOf w sz f (.slice (some ⟨b, 0, none⟩) 1 1) [x] :=
 ⟨by simp [hl], _, _, rfl, Nat.le_refl _, by unfold maxLen; omega, fun e => (by cases e), fun _ => ⟨b, 0, rfl, lx (hid h), fun j u hu => range_of_heap h j u (by simpa using hu)⟩⟩
theorem putMs_one (l : List (List UInt8 × List UInt8)) (tv : Value) (t : TcM) (h : tv.oneCell' = true) : ∀ x ∈ putMs l tv t, ∀ u ∈ x.cells, u.oneCell' = true := by
 intro x hx
 simp only [putMs, List.mem_append, List.mem_map, List.mem_singleton] at hx
 rcases hx with ⟨y, -, rfl⟩ | rfl
 ·exact putb_one _
 ·exact msgC_one h
set_option maxHeartbeats 16000000 in
theorem cput_any {lo : World} {B g cb fb f n sent well : Nat} {F : Nat → Prop} {c : CaL} {w : World} {D : List (List UInt8)} (l : List (List UInt8 × List UInt8)) (v1 : Value) (t : TcM) (h : CliSt lo B g cb fb f (l.length + 1 + n) sent well F c w) (ht : HeldT w t) (hsm : SmallT t.t) (hlo : InE (fun j => ¬ (F j ∨ j = g)) t) (hck : checkT t.t = 0) (h1 : RowsOf w 2 fileC v1 l) (hl : l.length ≤ 20) (houts : t.t.outs = l.map madeOf) (hD : FineD D) (hin : ∀ x ∈ l, x.2 ∈ D) (hk : KeptP [] D 0 c) (hdb : c.db t.t.key = []) (hs : sent ≤ 900) (hw : well ≤ 900) :
  Calls Tryz.prog 17 #[.pointer (some ⟨g, 0, none⟩), t.val, v1] w fun e w' => ∃ c', e = .returned (.int .i64 0) ∧ KeptP (l.map (·.2)) D 100 c' ∧ c'.db t.t.key = [t.t] ∧ Called lo B g cb fb f n (sent + (l.length + 1)) (well + (l.length + 1)) F c' w w' := by
 have HST := hid h
 have hgl := h.cl.lt
 have HFB := hid (fun j (hj : F j) => h.ca.bd j hj)
 have HT := hid (And.intro ht (And.intro hsm (And.intro hlo hck)))
 have HD := hid (And.intro hD (And.intro hin (And.intro hk hdb)))
 have HOU := hid houts
 have h33 : RowsOf w 33 MdL.cells t.ov (l.map madeOf) := by rw [← houts]; exact ht.2
 have H33 := hid h33
 have H1 := hid h1
 obtain ⟨a0, c0, hov, hc0, hm0, -, hx0⟩ := h33.out MdL.len (by omega)
 obtain ⟨a1, c1, hv1, hc1, hm1, -, hx1⟩ := h1.out file_len (by omega)
 rw [List.length_map] at hov hc0
 unfold maxLen at hm0 hm1
 have HX0 := hid hx0
 have HX1 := hid hx1
 have HOV := hid hov
 subst hv1
 have HCK : Hid (∀ W, Below w.heap.size w W → Calls Tryz.prog 15 #[.agg t.cells.toArray] W fun e w' => e = .returned (.int .i64 0) ∧ Below W.heap.size W w') := hid (fun W hb => by
  have h2 := checkT_any t W (ht.keep hb) hsm
  rw [hck] at h2
  exact h2)
 have HEQ : Hid (∀ W, Below w.heap.size w W → Calls Tryz.prog 45 #[.slice a0 l.length c0, .slice a1 l.length c1, .func (.func 46) #[] #[]] W fun e w' => e = .returned (.bool true) ∧ Below W.heap.size W w') := hid (fun W hb => by
  have h2 := eqfiles_any l t.ov _ W (h33.below hb (Nat.le_refl _)) (h1.below hb (Nat.le_refl _)) (fun x hx => hD.sh _ (hin x hx))
  rw [hov] at h2
  exact h2)
 unfold TcM.val
 clear h ht hsm hlo hck hD hin hk hdb houts h33 h1 hx0 hx1 hov
 go_enter Tryz.func17, Tryz.ntmps17
 go_upto_region 4 with first | (refine wl_box rt44 ?_; intro W0 hb0 hn0 hs0) | (refine wl_ld rt44 (range_of_heap hn0) (TcM.len _) ?_) | (go_at_call 15; refine (HCK.out _ hb0).mono ?_; rintro e W1 ⟨rfl, hb1⟩)
 have hn1 := (hb1.block _ (by omega)).trans hn0
 obtain ⟨-, -, c33⟩ := TcM.parts0 hn1
 rw [HOV.out] at c33
 have HB1 := hid (Below.chain hb0 hb1)
 have hz1 : w.heap.size < W1.heap.size := by have := hb1.size; omega
 clear hb0 hn0 hs0
 go_upto_region 9 with (go_at_call 45; refine (HEQ.out _ HB1.out).mono ?_; rintro e W2 ⟨rfl, hb2⟩)
 have hz2 : W1.heap.size ≤ W2.heap.size := hb2.size
 have HB2 := hid (Below.chain HB1.out hb2)
 have HN2 := hid ((hb2.block _ (by omega)).trans hn1)
 clear hb1 hb2 hn1 c33 HCK HEQ HB1
 have HV := hid (show Value.slice none 0 0 = nilS from rfl)
 go_wp2_with fail
 go_loopw [8, 29] (fun s i wr => ∃ (k : Nat) (a : Option Addr) (q : Nat), k ≤ l.length ∧ i = .int .i64 k ∧ s = .slice a k q ∧ wr.ownsRow W2.heap.size 34 37 (.slice a k q) k (((l.take k).map fun x => putbM x.2).flatMap MsgM.cells) ∧ Below W2.heap.size W2 wr) (fun _ i _ => l.length - (intOf i).toNat)
 case atStart => exact ⟨0, none, 0, by omega, rfl, rfl, World.ownsRow_nil _ _ _ _, Below.refl _ _⟩
 case round =>
  obtain ⟨k, a, q, hk, rfl, rfl, hor, hbr⟩ := hrel
  have HO := hid hor
  have HBR := hid hbr
  have hnr := (hbr.block _ (lx HN2)).trans HN2.out
  have hz3 := hbr.size
  have HNR := hid hnr
  clear hor
  by_cases hlt : k < l.length
  ·obtain ⟨b0, o0, rfl, hb0, hcl0⟩ := HX0.out k (by rw [List.length_map]; exact hlt)
   obtain ⟨b1, o1, rfl, hb1, hcl1⟩ := HX1.out k hlt
   have hbw := Below.chain HB2.out (hbr.mono (Nat.le_refl _))
   have L0 := range_keeps hbw (hcl0 k (by rw [List.length_map]; exact hlt))
   rw [List.getElem_map] at L0
   have L1 := range_keeps hbw (hcl1 k hlt)
   have hxd : l[k].2.length ≤ 1000 := HD.out.1.sh _ (HD.out.2.1 _ (List.getElem_mem hlt))
   have htk : (l.take (k + 1)).map (fun x => putbM x.2) = (l.take k).map (fun x => putbM x.2) ++ [putbM l[k].2] := by rw [List.take_add_one, List.getElem?_eq_getElem hlt, List.map_append]; rfl
   have HTK := hid htk
   generalize l[k] = x at *
   have HL0 := hid L0
   clear hcl0 hcl1 hbr hbw htk L0 hnr
   go_upto_region 12 with first | (refine wl_ld rt51 L1 (file_len _) ?_) | (refine wl_al rt51 ?_; intro zs W3 hzs hb3 hn3 hs3) | (refine wl_st (xs := (fileC x).toArray) rt51 hn3 hzs (by rw [List.size_toArray]; exact file_len _) (file_one _) ?_; intro W4 ht4 hn4 hs4)
   have HS := hid (And.intro ((ht4.foot.block _ (by have := hb3.size; omega) (by omega)).trans ((hb3.block _ (lx HNR)).trans HNR.out)) (And.intro ((range_keeps (hb3.trans (ht4.below (Nat.le_refl _))) HL0.out)) hn4))
   have HB4 := hid (hb3.trans (ht4.below (Nat.le_refl _)))
   have HN := hid (show w.heap.size < W1.heap.size ∧ W1.heap.size ≤ W2.heap.size ∧ W2.heap.size ≤ wr.heap.size ∧ W4.heap.size = wr.heap.size + 1 from ⟨hz1, hz2, hz3, by omega⟩)
   clear hb3 hn3 hs3 ht4 hn4 hs4 L1
   refine wp_region_wl (fun W => W.heap[w.heap.size]? = some (.cells t.cells.toArray 44 (0, 0)) ∧ W.rangeAt b0 (o0 + k * 33) (MdL.cells (madeOf x)) ∧ W.heap[wr.heap.size]? = some (.cells (fileC x).toArray 51 (0, 0))) 12 (by kernel_rfl) ?_
   intro Wd hbd
   have hS := show _ ∧ _ ∧ _ from ⟨(hbd.block _ (lx (hid HS.out.1))).trans HS.out.1, range_keeps hbd HS.out.2.1, (hbd.block _ (lx (hid HS.out.2.2))).trans HS.out.2.2⟩
   refine WL.tp 0 (some 34) (hi := rfl) (.inr hS) ?_
   apply Exists.intro
   refine ⟨fun W => ?_, ?_⟩
   ·go_simp
    try rfl
   try simp only [Act.put, sA, sB, sC]
   refine WL.tp 1 (some 35) (hi := rfl) (.inr hS) ?_
   apply Exists.intro
   refine ⟨fun W => ?_, ?_⟩
   ·go_simp
    try rfl
   try simp only [Act.put, sA, sB, sC]
   refine WL.te 2 (some 36) (hi := rfl) hS ?_
   apply Exists.intro
   refine ⟨fun W hW => ?_, ?_⟩
   ·obtain ⟨-, -, e1⟩ := TcM.parts0 hW.1; rw [HOV.out] at e1
    go_simp
    try rfl
   try simp only [Act.put, sA, sB, sC]
   refine WL.tp 3 (some 37) (hi := rfl) (.inr hS) ?_
   apply Exists.intro
   refine ⟨fun W => ?_, ?_⟩
   ·go_simp
    try rfl
   try simp only [Act.put, sA, sB, sC]
   refine WL.tp 4 (some 38) (hi := rfl) (.inr hS) ?_
   apply Exists.intro
   refine ⟨fun W => ?_, ?_⟩
   ·go_simp
    try rfl
   try simp only [Act.put, sA, sB, sC]
   refine WL.tp 5 (some 39) (hi := rfl) (.inr hS) ?_
   apply Exists.intro
   refine ⟨fun W => ?_, ?_⟩
   ·go_simp
    try rfl
   try simp only [Act.put, sA, sB, sC]
   refine WL.ld 6 (some 40) rt31 (fun W hW => (MdL.parts hW.2.1).2) (dgc_len _) (hi := rfl) hS ?_
   try simp only [Act.put, sA, sB, sC]
   refine WL.tp 7 (some 41) (hi := rfl) (.inr hS) ?_
   apply Exists.intro
   refine ⟨fun W => ?_, ?_⟩
   ·go_simp
    try rfl
   try simp only [Act.put, sA, sB, sC]
   refine WL.te 8 (some 42) (hi := rfl) hS ?_
   apply Exists.intro
   refine ⟨fun W hW => ?_, ?_⟩
   ·have e1 := (cell_of_row W wr.heap.size 1 _ _ _ hW.2.2).trans rfl
    go_simp
    try rfl
   try simp only [Act.put, sA, sB, sC]
   refine WL.tp 9 (some 43) (hi := rfl) (.inr hS) ⟨_, fun W => r_build (built_putb _ _) rfl (by simp only [List.map_toArray, List.map_cons, List.map_nil]; rfl), ?_⟩
   try simp only [Act.put, sA, sB, sC]
   refine WL.o 10 (hi := rfl) ?_
   intro K hK
   refine wp_bs (xs := (putbM x.2).cells.toArray) (e := 34) (sz := 37) (by_ := 96) (by omega) (by omega) (by rw [List.size_toArray]; exact MsgM.len _) Tryz.underlying22 (by kernel_rfl) ?_
   intro W6 hb6 hn6 hs6
   have ho6 := owns_below (owns_below (owns_below HO.out HB4.out (Nat.le_refl _)) hbd (Nat.le_refl _)) hb6 (Nat.le_refl _)
   have hz6 := hb6.size
   have hzd := hbd.size
   obtain ⟨v7, W7, hr7, ho7, hb7, hg7, -⟩ := app_row MsgM.cells (t := 22) (by_ := 96) Tryz.underlying22 (by kernel_rfl) MsgM.len (by omega) (by omega) (putbM x.2) (putb_one _) ho6 hn6 (by have := HN.out; omega) (by have := HN.out; omega)
   obtain ⟨a7, c7, rfl⟩ := owns_form ho7
   have hS6 := And.intro ((hb6.block _ (lx (hid hS.1))).trans hS.1) (And.intro (range_keeps hb6 hS.2.1) ((hb6.block _ (lx (hid hS.2.2))).trans hS.2.2))
   have hS7 := And.intro ((hg7.block _ (lx (hid hS6.1)) (fun e => by have := (HO.out.lt _ e.symm).1; have := HN.out; omega)).trans hS6.1) (And.intro (fun j v hv => (World.cell?_of_block (hg7.block b0 (by have := HN.out; omega) (fun e => by have := (HO.out.lt _ e.symm).1; have := HN.out; omega))).trans (hS6.2.1 j v hv)) ((hg7.block _ (lx (hid hS6.2.2)) (fun e => by have := (HO.out.lt _ e.symm).2; have := HN.out; omega)).trans hS6.2.2))
   refine hK.out _ _ (.inr hS6) ?_
   clear hK K
   try simp only [Act.put, sA]
   refine WL.o 11 (hi := rfl) ?_
   intro K hK
   refine wp_appT (t := 22) hr7 ?_
   refine hK.out _ _ (.inr hS7) ?_
   clear hK K
   try simp only [Act.put]
   refine WL.o 12 (hi := rfl) ?_
   intro K hK
   go_simp
   refine hK.out _ _ (.inl (by kernel_rfl)) ?_
   clear hK K
   try simp only [Act.put, sA, sB, sC]
   refine WL.d ?_
   go_wp2_with fail
   refine ⟨⟨k + 1, a7, c7, by omega, by go_num, rfl, ?_, ?_⟩, by simp [intOf]; omega⟩
   ·rw [HTK.out]; exact ho7
   ·have hN := HN.out
    have hbd' := HB4.out
    exact HBR.out.trans ((hbd'.mono (by omega)).trans ((hbd.mono (by omega)).trans ((hb6.mono (by omega)).trans hb7)))
  ·obtain rfl : k = l.length := by omega
   have HNR := hid hnr
   rw [List.take_length] at HO
   have hz3 := hbr.size
   clear hbr hnr
   go_wp2_with first | (refine wl_ld rt44 (range_of_heap HNR.out) (TcM.len _) ?_) | (refine wl_bs (xs := t.cells.toArray) (e := 44) (sz := 34) (by_ := 80) (by omega) (by omega) (by rw [List.size_toArray]; exact TcM.len _) Tryz.underlying32 (by kernel_rfl) ?_; intro W3 hb3 hn3 hs3) | (refine wl_run (r_build (built_putt _ _ _) rfl (by simp only [List.map_toArray, List.map_cons, List.map_nil]; rfl)) ?_) | (refine wl_bs (xs := (puttM (.slice (some ⟨wr.heap.size, 0, none⟩) 1 1) t).cells.toArray) (e := 34) (sz := 37) (by_ := 96) (by omega) (by omega) (by rw [List.size_toArray]; exact MsgM.len _) Tryz.underlying22 (by kernel_rfl) ?_; intro W4 hb4 hn4 hs4; obtain ⟨v5, W5, hap, ho5, hb5, hg5, -⟩ := app_row MsgM.cells (t := 22) (by_ := 96) Tryz.underlying22 (by kernel_rfl) MsgM.len (by omega) (by omega) (puttM (.slice (some ⟨wr.heap.size, 0, none⟩) 1 1) t) (msgC_one rfl) (owns_below (owns_below HO.out hb3 (Nat.le_refl _)) hb4 (Nat.le_refl _)) hn4 (by have := hb3.size; have := hb4.size; omega) (by omega); obtain ⟨a5, c5, rfl⟩ := owns_form ho5) | (at_builtin; refine Lib.wpList_append_run _ rfl _ _ _ _ rfl _ _ rfl rfl _ _ (hap _) ?_)
   have hz4 := hb3.size
   have hz5 := hb4.size
   have hz6 := hg5.size
   have hg0 : Below W2.heap.size W2 W5 := HBR.out.trans ((hb3.mono (by omega)).trans ((hb4.mono (by omega)).trans hb5))
   have HBV := hid (Below.chain HB2.out hg0)
   have hrow : RowsOf W5 37 MsgM.cells (.slice a5 (l.length + 1) c5) (putMs l (.slice (some ⟨wr.heap.size, 0, none⟩) 1 1) t) := rows_of_owns (by rw [putMs_len]; exact ho5) (by rw [putMs_len]; unfold maxLen; omega)
   have hn35 := (hg5.block wr.heap.size (by omega) (fun e => by have := (HO.out.lt _ e.symm).2; omega)).trans ((hb4.block _ (by omega)).trans hn3)
   have HROW := hid hrow
   have HOB := hid (fun j (hj : (Value.slice a5 (l.length + 1) c5).ownBlock = some j) => ho5.lt j hj)
   have HTV := hid (rows_single (f := TcM.cells) hn35 (TcM.len _))
   have HN := hid (show w.heap.size < W1.heap.size ∧ W1.heap.size ≤ W2.heap.size ∧ W2.heap.size ≤ wr.heap.size ∧ wr.heap.size < W5.heap.size from ⟨hz1, hz2, hz3, by omega⟩)
   have hP0 : PutSt lo W5 B g cb fb f n sent well F l D t.t 0 F c W5 := ⟨HST.out.keep HBV.out, fun j hj => .inl hj, Foot.refl _ _, HD.out.2.2.1, ⟨fun _ => HD.out.2.2.2, fun e => absurd e (Nat.not_lt_zero _)⟩⟩
   have HP0 := hid hP0
   have HSTEP := hid (fun (k : Nat) (F' : Nat → Prop) (c' : CaL) (W : World) (hp : PutSt lo W5 B g cb fb f n sent well F l D t.t k F' c' W) (hk : k < (putMs l (.slice (some ⟨wr.heap.size, 0, none⟩) 1 1) t).length) =>
    put_step hp (.slice (some ⟨wr.heap.size, 0, none⟩) 1 1) hk HD.out.1 HD.out.2.1 hl hs hw HTV.out (HT.out.1.keep HBV.out) HT.out.2.1 HT.out.2.2.2 (fun j hj => ⟨HT.out.2.2.1 j hj, by
     have : j < w.heap.size := by
      rcases hj with ⟨h1, h2⟩ | ⟨h1, h2⟩
      ·exact rows_in RdL.len (by omega) HT.out.1.1 h1 j h2
      ·exact rows_in MdL.len (by omega) HT.out.1.2 h1 j h2
     have := HN.out
     omega⟩) (fun j hj => by
     have hj' : wr.heap.size = j := Option.some.inj hj
     have := HN.out
     refine ⟨fun e => ?_, by omega⟩
     rcases e with e | e
     ·have := (HFB.out j e).2; omega
     ·omega))
   have HONE := hid (putMs_one l (.slice (some ⟨wr.heap.size, 0, none⟩) 1 1) t rfl)
   have HPL := hid (putMs_len l (.slice (some ⟨wr.heap.size, 0, none⟩) 1 1) t)
   generalize putMs l (.slice (some ⟨wr.heap.size, 0, none⟩) 1 1) t = ms at *
   clear hb3 hn3 hs3 hb4 hn4 hs4 hap ho5 hb5 hg5 hg0 hrow hn35 hP0 hz4 hz5 hz6
   go_loopw [54] (fun i wx => ∃ (k : Nat) (F' : Nat → Prop) (c' : CaL), k ≤ l.length + 1 ∧ i = .int .i64 k ∧ PutSt lo W5 B g cb fb f n sent well F l D t.t k F' c' wx) (fun i _ => l.length + 1 - (intOf i).toNat)
   case atStart => exact ⟨0, F, c, by omega, rfl, HP0.out⟩
   case round =>
    obtain ⟨k, F', c', hk, rfl, hp⟩ := hrel
    have HPK := hid hp
    have hN := HN.out
    by_cases hlt : k < l.length + 1
    ·have hrw : RowsOf wr 37 MsgM.cells (.slice a5 (l.length + 1) c5) ms := rows_keep HROW.out hp.foot.size (fun j hj hl => hp.foot.block j hl (fun e => by
      have h1 := HOB.out j hj
      rcases e with e | e
      ·have := (HFB.out j e).2; omega
      ·omega))
     obtain ⟨a6, c6, h6, -, -, -, hxr⟩ := hrw.out MsgM.len (by omega)
     simp only [Value.slice.injEq] at h6
     obtain ⟨rfl, -, rfl⟩ := h6
     have hkm : k < ms.length := by rw [HPL.out]; exact hlt
     obtain ⟨b, o, rfl, hb, hcl⟩ := hxr k hkm
     have L := hcl k hkm
     have hone := HONE.out ms[k] (List.getElem_mem hkm)
     have HC := hid (fun (W : World) (hb : Below wr.heap.size wr W) => HSTEP.out k F' c' W (HPK.out.keep hb) hkm)
     generalize ms[k] = x at *
     clear hrw hxr hcl hp
     go_wp2_with first | (refine wl_ld rt34 L (MsgM.len _) ?_) | (refine wl_new (xs := x.cells.toArray) rt34 (by rw [List.size_toArray]; exact MsgM.len _) hone ?_; intro W6 hb6 hn6 hs6) | (refine wl_ld rt34 (range_of_heap hn6) (MsgM.len _) ?_) | (go_at_call 48; refine (HC.out _ hb6).mono ?_; rintro e W7 ⟨z, c'', F'', rfl, hz1, hp7⟩) | (refine wl_new (xs := z.cells.toArray) rt34 (by rw [List.size_toArray]; exact MsgM.len _) hz1 ?_; intro W8 hb8 hn8 hs8)
     exact ⟨⟨k + 1, F'', c'', by omega, by go_num, hp7.keep hb8⟩, by simp [intOf]; omega⟩
    ·obtain rfl : k = l.length + 1 := by omega
     clear hp
     go_wp2_with fail
     go_ret
     have hst := HPK.out.st
     rw [show l.length + 1 - (l.length + 1) + n = n by omega] at hst
     refine ⟨c', rfl, (HPK.out.kept.sub (fun x hx => by rw [List.take_of_length_le (by simp)]; exact hx) (by omega)), HPK.out.db.2 (by omega), F', hst, fun j hj => ?_, (Foot.of_below HBV.out).chain HPK.out.foot⟩
     rcases HPK.out.own j hj with e | e
     ·exact .inl e
     ·exact .inr (Nat.le_trans HBV.out.size e)
end Go.Proofs.YtlbipokkdiiaiaaGreatDoor
