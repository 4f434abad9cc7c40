/- Lemmas for TopTwice: W24, W30. -/
import Derived.Test.YtlbipokkdiiaiaaGreatDoorU25
import Derived.Test.YtlbipokkdiiaiaaGreatDoorU19
import Derived.Test.YtlbipokkdiiaiaaGreatDoorU20
open List renaming setIfInBounds_toArray → sA, set_cons_zero → sB, set_cons_succ → sC
namespace Go.Proofs.YtlbipokkdiiaiaaGreatDoor
open Go.RowKit Go.Proofs.YtlbipokkdiiaiaaGreatDoor.Exec
set_option maxRecDepth 100000
theorem rowC_parts {w : World} {b : Nat} {d : Dg} {data : List UInt8} {o n : Value} (h : w.heap[b]? = some (.cells (rowC d data o n).toArray 113 (0, 0))) : w.rangeAt b 0 (dgc d) ∧ w.cell? ⟨b, 32, none⟩ = some (.string (bs data)) ∧ w.cell? ⟨b, 33, none⟩ = some o ∧ w.cell? ⟨b, 34, none⟩ = some n := by
 have h0 := range_of_heap h
 unfold rowC at h0
 obtain ⟨h1, h2⟩ := range_app h0
 rw [dgc_len] at h2
 obtain ⟨h3, h4⟩ := range_cons h2
 obtain ⟨h5, h6⟩ := range_cons h4
 exact ⟨h1, by simpa using h3, by simpa using h5, by simpa using (range_cons h6).1⟩
set_option maxHeartbeats 4000000 in
theorem last_any {B : Nat} {R : Nat → Prop} {w : World} {cb rb dp most : Nat} {l : List Rw} (hR : RingIs B R w cb rb dp most l) (d : Dg) (data : List UInt8) (hd : ∀ r ∈ l, r.2.1 ≠ d) (hsm : data.length ≤ 1000) (hfit : sizeL l + data.length ≤ most) (hB : B ≤ w.heap.size) :
  Calls Tryz.prog 117 #[.pointer (some ⟨cb, 0, none⟩), dgv d, .string (bs data)] w fun e w' => e = .returned (.tuple #[]) ∧ Foot R w w' ∧ ∃ (b : Nat) (R' : Nat → Prop), RingIs B R' w' cb rb dp most (l ++ [(b, d, data)]) ∧ (∀ k, R' k → R k ∨ w.heap.size ≤ k) := by
 obtain ⟨p, hp, hpm⟩ := hR.ch.last
 have hpm' : p = (cb, 4) ∨ p ∈ l.map Rw.p := by
  rcases hpm with ⟨_, rfl⟩ | ⟨l', h, _⟩
  ·exact .inl rfl
  ·exact .inr (by rw [h]; simp)
 obtain ⟨pb, po⟩ := p
 have co : w.cell? ⟨cb, 37, none⟩ = some (.pointer (some ⟨pb, po, none⟩)) := hp.ol
 have pn : w.cell? ⟨pb, po + 34, none⟩ = some (.pointer (some ⟨cb, 4, none⟩)) := hp.nw
 have fp : w.frozen? ⟨pb, po + 34, none⟩ = false := hR.free (pb, po) hpm' _
 have fc : ∀ j, w.frozen? ⟨cb, j, none⟩ = false := fun j => hR.free (cb, 4) (.inl rfl) j
 have hbl := hR.bl
 simp only [List.nodup_cons, List.mem_cons, List.mem_map, not_or, not_exists, not_and] at hbl
 obtain ⟨⟨hcrb, hc1⟩, hr1, hn1⟩ := hbl
 have hpo : (pb = cb ∧ po = 4 ∨ pb ≠ cb ∧ po = 0) ∧ pb ≠ rb ∧ R pb := by
  rcases hpm' with h | h
  ·obtain ⟨rfl, rfl⟩ := Prod.mk.inj h
   exact ⟨.inl ⟨rfl, rfl⟩, hcrb, hR.rc⟩
  ·obtain ⟨x, hx, he⟩ := List.mem_map.1 h
   obtain ⟨rfl, rfl⟩ := Prod.mk.inj he
   exact ⟨.inr ⟨hc1 x hx, rfl⟩, hr1 x hx, hR.rl x hx⟩
 have hpw : pb < w.heap.size := World.block_lt_of_cell? w _ pn
 have hcw : cb < w.heap.size := World.block_lt_of_cell? w _ co
 have hrw : rb < w.heap.size := (hR.bd rb hR.rr).2
 have kcs := hR.cs
 have kcr := hR.cr
 have hwrap : IntKind.i64.wrap ((sizeL l : Int) + (data.length : Int)) = (sizeL l : Int) + (data.length : Int) := by
  have := hR.mx
  rw [IntKind.wrap_i64]; omega
 have HR := hid hR
 have HP := hid hp
 have HPM := hid hpm'
 have HPO := hid hpo
 have HW := hid (And.intro hpw (And.intro hcw hrw))
 have HFR := hid (And.intro fp fc)
 have HD := hid hd
 have HN := hid (And.intro hcrb hn1)
 have HS := hid (And.intro hsm (And.intro hfit hB))
 unfold dgv
 clear hR hp hpm hpm' fp fc hpo hpw hcw hrw hd hcrb hc1 hr1 hn1 hsm hfit hB
 go_enter Tryz.func117, Tryz.ntmps117
 go_wp2_with first | (refine wl_box rt31 ?_; intro W0 hb0 hn0 hs0')
 refine wp_region_wl (fun W => W.heap[w.heap.size]? = some (.cells (dgc d).toArray 31 (0, 0)) ∧ W.cell? ⟨cb, 37, none⟩ = some (.pointer (some ⟨pb, po, none⟩))) 12 (by kernel_rfl) ?_
 intro Wd hbd
 have hS := And.intro ((hbd.block _ (by omega)).trans hn0) (Below.keeps (Below.chain hb0 hbd) co)
 refine WL.ld 0 (some 7) rt31 (fun W hW => range_of_heap hW.1) (dgc_len _) (hi := rfl) hS ?_
 try simp only [Act.put, sA, sB, sC]
 refine WL.tp 1 (some 8) (hi := rfl) (.inr hS) ?_
 apply Exists.intro
 refine ⟨fun W => ?_, ?_⟩
 ·go_simp
  try rfl
 try simp only [Act.put, sA, sB, sC]
 refine WL.tp 2 (some 9) (hi := rfl) (.inr hS) ?_
 apply Exists.intro
 refine ⟨fun W => ?_, ?_⟩
 ·go_simp
  try rfl
 try simp only [Act.put, sA, sB, sC]
 refine WL.tp 3 (some 10) (hi := rfl) (.inr hS) ?_
 apply Exists.intro
 refine ⟨fun W => ?_, ?_⟩
 ·go_simp
  try rfl
 try simp only [Act.put, sA, sB, sC]
 refine WL.tp 4 (some 11) (hi := rfl) (.inr hS) ?_
 apply Exists.intro
 refine ⟨fun W => ?_, ?_⟩
 ·go_simp
  try rfl
 try simp only [Act.put, sA, sB, sC]
 refine WL.tp 5 (some 12) (hi := rfl) (.inr hS) ?_
 apply Exists.intro
 refine ⟨fun W => ?_, ?_⟩
 ·go_simp
  try rfl
 try simp only [Act.put, sA, sB, sC]
 refine WL.te 6 (some 13) (hi := rfl) hS ?_
 apply Exists.intro
 refine ⟨fun W hW => ?_, ?_⟩
 ·have e0 := hW.2
  go_simp
  try rfl
 try simp only [Act.put, sA, sB, sC]
 refine WL.tp 7 (some 14) (hi := rfl) (.inr hS) ?_
 apply Exists.intro
 refine ⟨fun W => ?_, ?_⟩
 ·go_simp
  try rfl
 try simp only [Act.put, sA, sB, sC]
 refine WL.tp 8 (some 15) (hi := rfl) (.inr hS) ?_
 apply Exists.intro
 refine ⟨fun W => ?_, ?_⟩
 ·go_simp
  try rfl
 try simp only [Act.put, sA, sB, sC]
 refine WL.tp 9 (some 16) (hi := rfl) (.inr hS) ?_
 apply Exists.intro
 refine ⟨fun W => ?_, ?_⟩
 ·go_simp
  try rfl
 try simp only [Act.put, sA, sB, sC]
 refine WL.tp 10 (some 17) (hi := rfl) (.inr hS) ⟨_, fun W => r_build (built113 d data (some ⟨pb, po, none⟩) (some ⟨cb, 4, none⟩)) rfl (by simp only [List.map_toArray, List.map_cons, List.map_nil]; rfl), ?_⟩
 try simp only [Act.put, sA, sB, sC]
 refine WL.o 11 (hi := rfl) ?_
 intro K hK
 go_simp
 obtain ⟨W1, hW1, hb1, hn1⟩ := an0 Wd (.cells (rowC d data (.pointer (some ⟨pb, po, none⟩)) (.pointer (some ⟨cb, 4, none⟩))).toArray 113)
 rw [← hW1.out]
 have hS1 := And.intro ((hb1.block _ (lx (hid hS.1))).trans hS.1) (Below.keeps hb1 hS.2)
 refine hK.out _ _ (.inr hS1) ?_
 clear hK K
 try simp only [Act.put, sA, sB, sC]
 refine WL.o 12 (hi := rfl) ?_
 intro K hK
 go_simp
 refine hK.out _ _ (.inl (by kernel_rfl)) ?_
 clear hK K
 try simp only [Act.put, sA, sB, sC]
 refine WL.d ?_
 obtain ⟨nb, hnb⟩ : ∃ nb, nb = Wd.heap.size := ⟨_, rfl⟩
 rw [← hnb] at hn1 ⊢
 have hz0 : w.heap.size < nb := by have := hbd.size; omega
 have hB1 := Below.chain hb0 (Below.chain hbd hb1)
 have hz1 : nb < W1.heap.size := lx (hid hn1)
 obtain ⟨nsum, ndat, n33, n34⟩ := rowC_parts hn1
 obtain ⟨hpo, hprb, hpR⟩ := HPO.out
 obtain ⟨hpw, hcw, hrw⟩ := HW.out
 have pn1 := Below.keeps hB1 pn
 have fp1 := (World.frozen?_of_block (a := ⟨pb, po + 34, none⟩) (hB1.block pb hpw)).trans HFR.out.1
 have hne1 : ¬ (pb = cb ∧ po + 34 = 37) := by omega
 have co1 := (cell_ne (w := W1) (.pointer (some ⟨nb, 0, none⟩)) hne1).trans hS1.2
 have fc1 : ∀ j, (W1.setCell ⟨pb, po + 34, none⟩ (.pointer (some ⟨nb, 0, none⟩))).frozen? ⟨cb, j, none⟩ = false := fun j => by
  rw [World.frozen?_setCell]; exact (World.frozen?_of_block (a := ⟨cb, j, none⟩) (hB1.block cb hcw)).trans (HFR.out.2 j)
 have fc37 := fc1 37
 have HN33 := hid n33
 have HNO := hid (show ∃ cur, W1.heap[nb]? = some (.cells cur 113 (0, 0)) ∧ cur.size = 35 from ⟨_, hn1, by rw [List.size_toArray, rowC_len]⟩)
 have HNS := hid (And.intro nsum (And.intro ndat n34))
 have HSZ := hid (And.intro hz0 hz1)
 have HNB := hid hnb
 have HX := hid (And.intro hpo (And.intro hprb (And.intro hpR (And.intro hpw (And.intro hcw hrw)))))
 have HFC := hid fc1
 have HPN := hid pn1
 clear nsum ndat n34 hz0 hz1 hnb hpo hprb hpR hpw hcw hrw hne1 pn co fc1 hS
 go_upto_region 3 with fail
 obtain ⟨hpo, hprb, hpR, hpw, hcw, hrw⟩ := HX.out
 obtain ⟨hz0, hz1⟩ := HSZ.out
 obtain ⟨W2, hW2⟩ : ∃ W, W = (W1.setCell ⟨pb, po + 34, none⟩ (.pointer (some ⟨nb, 0, none⟩))).setCell ⟨cb, 37, none⟩ (.pointer (some ⟨nb, 0, none⟩)) := ⟨_, rfl⟩
 rw [← hW2]
 have hB2 : Foot R w W2 := by
  rw [hW2]
  exact ((Foot.of_below (D := R) hB1).trans (turned_cell (b := pb) _ _ (by omega)).foot (fun b _ e => by rw [e]; exact hpR)).trans (turned_cell (b := cb) _ _ (by simp [World.setCell]; omega)).foot (fun b _ e => by rw [e]; exact HR.out.rc)
 have c2k : ∀ b j, ¬ (pb = b ∧ po + 34 = j) → ¬ (cb = b ∧ 37 = j) → W2.cell? ⟨b, j, none⟩ = W1.cell? ⟨b, j, none⟩ := fun b j h1 h2 => by rw [hW2, cell_ne _ h2, cell_ne _ h1]
 have c2p : W2.cell? ⟨pb, po + 34, none⟩ = some (.pointer (some ⟨nb, 0, none⟩)) ∧ W2.cell? ⟨cb, 37, none⟩ = some (.pointer (some ⟨nb, 0, none⟩)) := by
  rw [hW2]
  exact ⟨(cell_ne _ (by omega)).trans (World.cell?_setCell_same _ _ _ HPN.out), World.cell?_setCell_same _ _ _ co1⟩
 have ob2 : ∀ (b : Nat) (t : TypeId) (n : Nat), (∃ cur, W1.heap[b]? = some (.cells cur t (0, 0)) ∧ cur.size = n) → ∃ cur, W2.heap[b]? = some (.cells cur t (0, 0)) ∧ cur.size = n := fun b t n h => by rw [hW2]; exact set_ob (set_ob h)
 have h2k : ∀ b, b ≠ pb → b ≠ cb → W2.heap[b]? = W1.heap[b]? := fun b h1 h2 => by rw [hW2, heap_set_ne _ _ _ _ _ h2, heap_set_ne _ _ _ _ _ h1]
 have s1 := (c2k cb 1 (by omega) (by omega)).trans (Below.keeps hB1 kcs)
 have f1 : W2.frozen? ⟨cb, 1, none⟩ = false := by rw [hW2, World.frozen?_setCell]; exact HFC.out 1
 have HZ2 := hid (show W2.heap.size = W1.heap.size by rw [hW2]; simp [World.setCell])
 have HB2 := hid hB2
 have HC2 := hid (And.intro c2k (And.intro c2p (And.intro ob2 h2k)))
 clear hW2 hB2 c2k c2p ob2 h2k hpo hprb hpR hpw hcw hrw hz0 hz1 n33 pn1 fp1 co1 fc37 hn1
 go_wp2_with fail
 obtain ⟨W3, hW3⟩ : ∃ W, W = W2.setCell ⟨cb, 1, none⟩ (.int .i64 ((sizeL l : Int) + (data.length : Int))) := ⟨_, rfl⟩
 rw [← hW3]
 obtain ⟨hpo, hprb, hpR, hpw, hcw, hrw⟩ := HX.out
 obtain ⟨hz0, hz1⟩ := HSZ.out
 obtain ⟨c2k, c2p, ob2, h2k⟩ := HC2.out
 have hz2 := HB2.out.size
 have hz21 := HZ2.out
 have hcrb := HN.out.1
 have hT3 : Turned cb W2 W3 := by rw [hW3]; exact turned_cell 1 _ (by omega)
 have HB3 := hid (HB2.out.trans hT3.foot fun b _ e => by rw [e]; exact HR.out.rc)
 have c3k : ∀ b j, ¬ (cb = b ∧ 1 = j) → W3.cell? ⟨b, j, none⟩ = W2.cell? ⟨b, j, none⟩ := fun b j h1 => by rw [hW3, cell_ne _ h1]
 have c31 : W3.cell? ⟨cb, 1, none⟩ = some (.int .i64 ((sizeL l : Int) + (data.length : Int))) := by rw [hW3]; exact World.cell?_setCell_same _ _ _ s1
 have g3 := (c3k cb 3 (by omega)).trans ((c2k cb 3 (by omega) (by omega)).trans (Below.keeps hB1 kcr))
 have gd : W3.heap[w.heap.size]? = some (.cells (dgc d).toArray 31 (0, 0)) := (hT3.foot.block _ (by omega) (by omega)).trans ((h2k _ (by omega) (by omega)).trans hS1.1)
 obtain ⟨ob, M, hob, hM, hMl⟩ := HR.out.mp
 have ho3 : W3.heap[rb]? = some ob := (hT3.foot.block rb (by omega) (fun e => hcrb e.symm)).trans ((h2k rb (fun e => hprb e.symm) (fun e => hcrb e.symm)).trans ((hB1.block rb hrw).trans hob))
 have HMM := hid (And.intro hM hMl)
 have ht110 : Tryz.prog.underlying 110 = some (.map 31 111) := by kernel_rfl
 have HUp := hid (fun (W : World) (hb : Below W3.heap.size W3 W) => show ∃ o', (Instr.mapUpdate 110 (.map (some rb)) (.agg (dgc d).toArray) (.pointer (some ⟨nb, 0, none⟩))).run Tryz.prog W = .ok () (putObj W rb o') ∧ MapIs dgv (fun x => if x = d then some (.pointer (some ⟨nb, 0, none⟩)) else M x) o' from
  hM.put keyDg ((hb.block rb (lx (hid ho3))).trans ho3) ht110 d _)
 have ob3 : ∀ (b : Nat) (t : TypeId) (n : Nat), (∃ cur, W2.heap[b]? = some (.cells cur t (0, 0)) ∧ cur.size = n) → ∃ cur, W3.heap[b]? = some (.cells cur t (0, 0)) ∧ cur.size = n := fun b t n h => by rw [hW3]; exact set_ob h
 have HC3 := hid (And.intro c3k (And.intro c31 ob3))
 have HZ3 := hid (show W3.heap.size = W2.heap.size by rw [hW3]; simp [World.setCell])
 clear hW3 hT3 c3k c31 ob3 c2k c2p ob2 h2k hpo hprb hpR hpw hcw hrw hz0 hz1 hz2 hz21 hcrb hob hM hMl ho3 s1 f1 kcs kcr hS1 hwrap
 refine wp_region_wl (fun W => W.cell? ⟨cb, 3, none⟩ = some (.map (some rb)) ∧ W.heap[w.heap.size]? = some (.cells (dgc d).toArray 31 (0, 0))) 6 (by kernel_rfl) ?_
 intro Wd4 hbd4
 have hS := And.intro (Below.keeps hbd4 g3) ((hbd4.block _ (lx (hid gd))).trans gd)
 refine WL.tp 0 (some 40) (hi := rfl) (.inr hS) ?_
 apply Exists.intro
 refine ⟨fun W => ?_, ?_⟩
 ·go_simp
  try rfl
 try simp only [Act.put, sA, sB, sC]
 refine WL.tp 1 (some 41) (hi := rfl) (.inr hS) ?_
 apply Exists.intro
 refine ⟨fun W => ?_, ?_⟩
 ·go_simp
  try rfl
 try simp only [Act.put, sA, sB, sC]
 refine WL.tp 2 (some 42) (hi := rfl) (.inr hS) ?_
 apply Exists.intro
 refine ⟨fun W => ?_, ?_⟩
 ·go_simp
  try rfl
 try simp only [Act.put, sA, sB, sC]
 refine WL.te 3 (some 43) (hi := rfl) hS ?_
 apply Exists.intro
 refine ⟨fun W hW => ?_, ?_⟩
 ·have e0 := hW.1
  go_simp
  try rfl
 try simp only [Act.put, sA, sB, sC]
 refine WL.ld 4 (some 44) rt31 (fun W hW => range_of_heap hW.2) (dgc_len _) (hi := rfl) hS ?_
 try simp only [Act.put, sA, sB, sC]
 refine WL.tp 5 (some 45) (hi := rfl) (.inr hS) ?_
 apply Exists.intro
 refine ⟨fun W => ?_, ?_⟩
 ·go_simp
  try rfl
 try simp only [Act.put, sA, sB, sC]
 refine WL.o 6 (hi := rfl) ?_
 intro K hK
 obtain ⟨o2, hup, hM2⟩ := HUp.out Wd4 hbd4
 go_simp
 refine hK.out _ _ (.inl (by kernel_rfl)) ?_
 clear hK K
 try simp only [Act.put, sA, sB, sC]
 refine WL.d ?_
 go_wp2_with fail
 go_end0
 obtain ⟨hpo, hprb, hpR, hpw, hcw, hrw⟩ := HX.out
 obtain ⟨hz0, hz1⟩ := HSZ.out
 obtain ⟨c2k, c2p, ob2, h2k⟩ := HC2.out
 obtain ⟨c3k, c31, ob3⟩ := HC3.out
 have hz21 := HZ2.out
 have hz32 := HZ3.out
 have hR := HR.out
 have hcrb := HN.out.1
 have hz4 := hbd4.size
 have hzp : (putObj Wd4 rb o2).heap.size = Wd4.heap.size := by simp [putObj]
 have hT : Turned rb Wd4 (putObj Wd4 rb o2) := putObj_turned (by omega) _
 have FF : Foot R w (putObj Wd4 rb o2) := (HB3.out.then hbd4).trans hT.foot fun b _ e => by rw [e]; exact hR.rr
 have hz1w := hB1.size
 -- a cell of a block other than the map's
 have cc1 : ∀ b j, b ≠ rb → b < W3.heap.size → ¬ (cb = b ∧ 1 = j) → ¬ (pb = b ∧ po + 34 = j) → ¬ (cb = b ∧ 37 = j) → (putObj Wd4 rb o2).cell? ⟨b, j, none⟩ = W1.cell? ⟨b, j, none⟩ := fun b j h1 h2 h3 h4 h5 => by
  have e1 : (putObj Wd4 rb o2).cell? ⟨b, j, none⟩ = Wd4.cell? ⟨b, j, none⟩ := World.cell?_of_block (hT.foot.block b (by omega) h1)
  have e2 : Wd4.cell? ⟨b, j, none⟩ = W3.cell? ⟨b, j, none⟩ := World.cell?_of_block (hbd4.block b (by omega))
  exact e1.trans (e2.trans ((c3k b j h3).trans (c2k b j h4 h5)))
 have cc : ∀ b j, b ≠ rb → b < w.heap.size → ¬ (cb = b ∧ 1 = j) → ¬ (pb = b ∧ po + 34 = j) → ¬ (cb = b ∧ 37 = j) → (putObj Wd4 rb o2).cell? ⟨b, j, none⟩ = w.cell? ⟨b, j, none⟩ := fun b j h1 h2 h3 h4 h5 =>
  (cc1 b j h1 (by omega) h3 h4 h5).trans (World.cell?_of_block (hB1.block b h2))
 have cw : ∀ b j, b ≠ rb → b < W3.heap.size → ¬ (cb = b ∧ 1 = j) → (putObj Wd4 rb o2).cell? ⟨b, j, none⟩ = W2.cell? ⟨b, j, none⟩ := fun b j h1 h2 h3 => by
  have e1 : (putObj Wd4 rb o2).cell? ⟨b, j, none⟩ = Wd4.cell? ⟨b, j, none⟩ := World.cell?_of_block (hT.foot.block b (by omega) h1)
  have e2 : Wd4.cell? ⟨b, j, none⟩ = W3.cell? ⟨b, j, none⟩ := World.cell?_of_block (hbd4.block b (by omega))
  exact e1.trans (e2.trans (c3k b j h3))
 have ob : ∀ (b : Nat) (t : TypeId) (n : Nat), b ≠ rb → b < W3.heap.size → (∃ cur, W1.heap[b]? = some (.cells cur t (0, 0)) ∧ cur.size = n) → ∃ cur, (putObj Wd4 rb o2).heap[b]? = some (.cells cur t (0, 0)) ∧ cur.size = n := fun b t n h1 h2 h3 => by
  have e1 : (putObj Wd4 rb o2).heap[b]? = Wd4.heap[b]? := hT.foot.block b (by omega) h1
  have e2 : Wd4.heap[b]? = W3.heap[b]? := hbd4.block b (by omega)
  rw [e1, e2]
  exact ob3 b t n (ob2 b t n h3)
 have obw : ∀ (b : Nat) (t : TypeId) (n : Nat), b < w.heap.size → (∃ cur, w.heap[b]? = some (.cells cur t (0, 0)) ∧ cur.size = n) → ∃ cur, W1.heap[b]? = some (.cells cur t (0, 0)) ∧ cur.size = n := fun b t n h1 h2 => by rw [hB1.block b h1]; exact h2
 have hnd := hR.bl
 simp only [List.nodup_cons, List.mem_cons, List.mem_map, not_or, not_exists, not_and] at hnd
 obtain ⟨⟨-, hc1⟩, hr1, hn1⟩ := hnd
 obtain ⟨nsum, ndat, n34⟩ := HNS.out
 have hxl : ∀ x ∈ l, x.1 < w.heap.size := fun x hx => (hR.bd _ (hR.rl x hx)).2
 have n33 : (putObj Wd4 rb o2).cell? ⟨nb, 33, none⟩ = some (.pointer (some ⟨pb, po, none⟩)) := (cc1 nb 33 (by omega) (by omega) (by omega) (by omega) (by omega)).trans HN33.out
 refine ⟨rfl, FF, nb, fun k => R k ∨ k = nb, ⟨ob cb 115 39 hcrb (by omega) (obw cb 115 39 hcw hR.ob), (cc cb 0 hcrb hcw (by omega) (by omega) (by omega)).trans hR.cm, ?_, (cc cb 2 hcrb hcw (by omega) (by omega) (by omega)).trans hR.cd, (cc cb 3 hcrb hcw (by omega) (by omega) (by omega)).trans hR.cr, fun x hx => ?_, ?_, ⟨o2, _, putObj_at (by omega) _, hM2, fun e v => ?_⟩, ?_, ?_, ?_, hR.mx, fun x hx => ?_, .inl hR.rc, .inl hR.rr, fun x hx => ?_, fun k hk => ?_⟩, fun k hk => ?_⟩
 ·have e1 : (putObj Wd4 rb o2).cell? ⟨cb, 1, none⟩ = Wd4.cell? ⟨cb, 1, none⟩ := World.cell?_of_block (hT.foot.block cb (by omega) hcrb)
  have e2 : Wd4.cell? ⟨cb, 1, none⟩ = W3.cell? ⟨cb, 1, none⟩ := World.cell?_of_block (hbd4.block cb (by omega))
  rw [e1, e2, c31]
  simp [sizeL]
 ·rcases List.mem_append.1 hx with hx | hx
  ·have hxr := hR.row x hx
   have hxw := hxl x hx
   have h1 := hc1 x hx
   have h2 := hr1 x hx
   exact ⟨ob x.1 113 35 h2 (by omega) (obw x.1 113 35 hxw hxr.ob), fun j v hv => by
    have hj : j < 32 := by rw [← dgc_len x.2.1]; exact (List.getElem?_eq_some_iff.1 hv).1
    exact (cc x.1 (0 + j) h2 hxw (by omega) (by omega) (by omega)).trans (hxr.sum j v hv), (cc x.1 32 h2 hxw (by omega) (by omega) (by omega)).trans hxr.data⟩
  ·obtain rfl := List.mem_singleton.1 hx
   exact ⟨ob nb 113 35 (by omega) (by omega) HNO.out, fun j v hv => by
    have hj : j < 32 := by rw [← dgc_len d]; exact (List.getElem?_eq_some_iff.1 hv).1
    exact (cc1 nb (0 + j) (by omega) (by omega) (by omega) (by omega) (by omega)).trans (nsum j v hv), (cc1 nb 32 (by omega) (by omega) (by omega) (by omega) (by omega)).trans ndat⟩
 ·rw [List.map_append]
  have hplc : ∀ a ∈ (cb, 4) :: l.map Rw.p, a.1 ≠ rb ∧ a.1 < w.heap.size ∧ ((a.1 = cb ∧ a.2 = 4) ∨ (a.1 ≠ cb ∧ a.2 = 0)) := fun a ha => by
   simp only [List.mem_cons, List.mem_map] at ha
   rcases ha with rfl | ⟨x, hx, rfl⟩
   ·exact ⟨hcrb, hcw, .inl ⟨rfl, rfl⟩⟩
   ·exact ⟨hr1 x hx, hxl x hx, .inr ⟨hc1 x hx, rfl⟩⟩
  have hnd2 : (((cb, 4) :: l.map Rw.p).map (·.1)).Nodup := by
   have e : ((cb, 4) :: l.map Rw.p).map (·.1) = cb :: l.map (·.1) := by simp [Rw.p, Function.comp_def]
   rw [e]
   exact List.nodup_cons.2 ⟨fun h => by obtain ⟨x, hx, he⟩ := List.mem_map.1 h; exact hc1 x hx he, hn1⟩
  refine chain_put (p := (pb, po)) (r := (nb, 0)) hR.ch hnd2 HP.out ((cw pb _ hprb (by omega) (by omega)).trans c2p.1) n33 ((cc1 nb 34 (by omega) (by omega) (by omega) (by omega) (by omega)).trans n34) ((cw cb 37 hcrb (by omega) (by omega)).trans c2p.2) (fun a ha hne => ?_) (fun a ha => ?_)
  ·obtain ⟨h1, h2, h3⟩ := hplc a ha
   exact cc a.1 _ h1 h2 (by omega) (fun e => hne e.1.symm) (by rcases h3 with h3 | h3 <;> omega)
  ·obtain ⟨h1, h2, h3⟩ := hplc a (List.mem_cons_of_mem _ ha)
   have h4 : a.1 ≠ cb ∧ a.2 = 0 := by
    obtain ⟨x, hx, rfl⟩ := List.mem_map.1 ha
    exact ⟨hc1 x hx, rfl⟩
   exact cc a.1 _ h1 h2 (by omega) (by omega) (by omega)
 ·have hMl := HMM.out.2
  by_cases he : e = d
  ·simp only [if_pos he, Option.some.injEq]
   constructor
   ·rintro rfl
    exact ⟨(nb, d, data), by simp, he.symm, rfl⟩
   ·rintro ⟨x, hx, hxe, rfl⟩
    rcases List.mem_append.1 hx with hx | hx
    ·exact absurd (hxe.trans he) (HD.out x hx)
    ·obtain rfl := List.mem_singleton.1 hx
     rfl
  ·simp only [if_neg he]
   rw [hMl]
   constructor
   ·rintro ⟨x, hx, hxe, hv⟩
    exact ⟨x, List.mem_append.2 (.inl hx), hxe, hv⟩
   ·rintro ⟨x, hx, hxe, hv⟩
    rcases List.mem_append.1 hx with hx | hx
    ·exact ⟨x, hx, hxe, hv⟩
    ·obtain rfl := List.mem_singleton.1 hx
     exact absurd hxe.symm he
 ·rw [List.map_append]
  refine List.nodup_append.2 ⟨hR.dist, by simp, fun a ha b hb => ?_⟩
  obtain ⟨x, hx, rfl⟩ := List.mem_map.1 ha
  simp only [List.map_cons, List.map_nil, List.mem_singleton] at hb
  rw [hb]
  exact HD.out x hx
 ·rw [List.map_append]
  simp only [List.nodup_cons, List.mem_cons, List.mem_append, List.mem_map, not_or, List.map_cons, List.map_nil]
  refine ⟨⟨hcrb, fun ⟨x, hx, he⟩ => hc1 x hx he, by simp; omega⟩, ⟨fun ⟨x, hx, he⟩ => hr1 x hx he, by simp; omega⟩, List.nodup_append.2 ⟨hn1, by simp, fun a ha b hb => ?_⟩⟩
  obtain ⟨x, hx, rfl⟩ := List.mem_map.1 ha
  have := hxl x hx
  simp only [List.mem_singleton] at hb
  omega
 ·have := HS.out.2.1
  simp only [sizeL_app, sizeL_cons]
  simpa [sizeL] using this
 ·rcases List.mem_append.1 hx with hx | hx
  ·exact hR.sm x hx
  ·obtain rfl := List.mem_singleton.1 hx
   exact HS.out.1
 ·rcases List.mem_append.1 hx with hx | hx
  ·exact .inl (hR.rl x hx)
  ·obtain rfl := List.mem_singleton.1 hx
   exact .inr rfl
 ·rcases hk with hk | rfl
  ·have := hR.bd k hk
   omega
  ·have := HS.out.2.2
   omega
 ·rcases hk with hk | rfl
  ·exact .inl hk
  ·exact .inr (by omega)
end Go.Proofs.YtlbipokkdiiaiaaGreatDoor
namespace Go.Proofs.YtlbipokkdiiaiaaGreatDoor
open Go.RowKit Go.Proofs.YtlbipokkdiiaiaaGreatDoor.Exec
set_option maxRecDepth 100000
theorem RingIs.shrink {B : Nat} {R : Nat → Prop} {w : World} {cb rb dp most : Nat} {l : List Rw} (h : RingIs B R w cb rb dp most l) (R' : Nat → Prop) (hs : ∀ k, R' k → R k) (h1 : R' cb) (h2 : R' rb) (h3 : ∀ r ∈ l, R' r.1) : RingIs B R' w cb rb dp most l :=
 ⟨h.ob, h.cm, h.cs, h.cd, h.cr, h.row, h.ch, h.mp, h.dist, h.bl, h.fit, h.mx, h.sm, h1, h2, h3, fun k hk => h.bd k (hs k hk)⟩
def without (d : Dg) (l : List (Dg × List UInt8)) : List (Dg × List UInt8) := l.filter fun r => !decide (r.1 = d)
def plainR (l : List Rw) : List (Dg × List UInt8) := l.map (·.2)
theorem without_mid {l1 l2 : List Rw} {r : Rw} (hd : ((l1 ++ r :: l2).map (·.2.1)).Nodup) : plainR (l1 ++ l2) = without r.2.1 (plainR (l1 ++ r :: l2)) := by
 have h1 : ∀ x ∈ l1 ++ l2, x.2.1 ≠ r.2.1 := by
  simp only [List.map_append, List.map_cons, List.nodup_append, List.nodup_cons, List.mem_map, List.mem_cons] at hd
  obtain ⟨-, ⟨h2, -⟩, h12⟩ := hd
  intro x hx e
  rcases List.mem_append.1 hx with hx | hx
  ·exact h12 x.2.1 ⟨x, hx, rfl⟩ r.2.1 (.inl rfl) e
  ·exact h2 ⟨x, hx, e⟩
 unfold without plainR
 simp only [List.map_append, List.map_cons, List.filter_append]
 rw [List.filter_cons_of_neg (by simp), List.filter_eq_self.2 (fun y hy => ?_), List.filter_eq_self.2 (fun y hy => ?_)]
 ·obtain ⟨x, hx, rfl⟩ := List.mem_map.1 hy
  simpa using h1 x (List.mem_append.2 (.inr hx))
 ·obtain ⟨x, hx, rfl⟩ := List.mem_map.1 hy
  simpa using h1 x (List.mem_append.2 (.inl hx))
theorem RingIs.look {B : Nat} {R : Nat → Prop} {w : World} {cb rb dp most : Nat} {l : List Rw} (h : RingIs B R w cb rb dp most l) (d : Dg) :
  ∃ o, w.heap[rb]? = some o ∧ ((∀ r ∈ l, r.2.1 ≠ d) ∧ (∀ W, W.heap[rb]? = some o → (Instr.lookup 110 (.map (some rb)) (.agg (dgc d).toArray) true).run Tryz.prog W = .ok (.tuple #[.pointer none, .bool false]) W) ∨
    ∃ l1 r l2, l = l1 ++ r :: l2 ∧ r.2.1 = d ∧ ∀ W, W.heap[rb]? = some o → (Instr.lookup 110 (.map (some rb)) (.agg (dgc d).toArray) true).run Tryz.prog W = .ok (.tuple #[.pointer (some ⟨r.1, 0, none⟩), .bool true]) W) := by
 obtain ⟨o, M, ho, hM, hMl⟩ := h.mp
 have ht : Tryz.prog.underlying 110 = some (.map 31 111) := by kernel_rfl
 have hz : ∀ W, (zeroValue 111).run Tryz.prog W = .ok (.pointer none) W := fun W => rfl
 refine ⟨o, ho, ?_⟩
 cases hd : M d with
 | none =>
   refine .inl ⟨fun r hr e => ?_, fun W hW => ?_⟩
   ·have := (hMl d (ptr (Rw.p r))).2 ⟨r, hr, e, rfl⟩
    rw [hd] at this
    cases this
   ·have := hM.look keyDg hW ht (hz W) d true
    simpa [hd, dgv] using this
 | some v =>
   obtain ⟨r, hr, hrd, rfl⟩ := (hMl d v).1 hd
   obtain ⟨l1, l2, rfl⟩ := List.append_of_mem hr
   refine .inr ⟨l1, r, l2, rfl, hrd, fun W hW => ?_⟩
   have := hM.look keyDg hW ht (hz W) d true
   simpa [hd, dgv, ptr, Rw.p] using this
structure AnsIs (B : Nat) (R : Nat → Prop) (cb rb dp most : Nat) (w w' : World) (rows : List (Dg × List UInt8)) : Prop where
 foot : Foot R w w'
 ring : ∃ l' R', RingIs B R' w' cb rb dp most l' ∧ plainR l' = rows ∧ ∀ k, R' k → R k ∨ w.heap.size ≤ k
set_option maxHeartbeats 4000000 in
theorem blob_any {B : Nat} {R : Nat → Prop} {w : World} {cb rb dp most : Nat} {l : List Rw} (hR : RingIs B R w cb rb dp most l) (x : MsgM) (hx : HeldM w x) (hB : B ≤ w.heap.size) :
  Calls Tryz.prog 75 #[.pointer (some ⟨cb, 0, none⟩), x.val] w fun e w' => ((∀ r ∈ l, r.2.1 ≠ x.sum) ∧ e = .returned (.tuple #[msg0.val, .int .i64 10]) ∧ AnsIs B R cb rb dp most w w' (plainR l)) ∨
   ∃ data, (x.sum, data) ∈ plainR l ∧ e = .returned (.tuple #[(⟨6, 0, x.sum, data, nilS, [], 0⟩ : MsgM).val, .int .i64 0]) ∧ AnsIs B R cb rb dp most w w' (without x.sum (plainR l) ++ [(x.sum, data)]) := by
 obtain ⟨ob, hob, hlk⟩ := hR.look x.sum
 have hcb := (hR.bd cb hR.rc).2
 have hrb := (hR.bd rb hR.rr).2
 have HR := hid hR
 have HX := hid hx
 have HCR := hid (And.intro hR.cr hob)
 have HBS := hid (And.intro hcb (And.intro hrb hB))
 unfold MsgM.val
 rcases hlk with ⟨hno, hl⟩ | ⟨l1, r, l2, hl12, hrd, hl⟩
 ·have HLK := hid hl
  have HNO := hid hno
  clear hR hx hob hcb hrb hB hl hno
  go_enter Tryz.func75, Tryz.ntmps75
  go_wp2_with first | (refine wl_box rt34 ?_; intro W0 hb0 hn0 hs0) | (refine wl_al rt34 ?_; intro zs W1 hzs hb1 hn1 hs1)
  have hB1 := Below.chain hb0 hb1
  rw [hs0] at hn1
  have HK1 := hid (fun (W : World) (hb : Below W1.heap.size W1 W) => And.intro ((hb.block _ (by omega)).trans ((hb1.block _ (by omega)).trans hn0)) (And.intro (Below.keeps (Below.chain hB1 hb) HCR.out.1) (((Below.chain hB1 hb).block rb HBS.out.2.1).trans HCR.out.2)))
  refine wp_region_wl (fun W => W.heap[w.heap.size]? = some (.cells x.cells.toArray 34 (0, 0)) ∧ W.cell? ⟨cb, 3, none⟩ = some (.map (some rb)) ∧ W.heap[rb]? = some ob) 11 (by kernel_rfl) ?_
  intro Wd hbd
  have hS := HK1.out _ hbd
  refine WL.tp 0 (some 9) (hi := rfl) (.inr hS) ?_
  apply Exists.intro
  refine ⟨fun W => ?_, ?_⟩
  ·go_simp
   try rfl
  try simp only [Act.put, sA, sB, sC]
  refine WL.tp 1 (some 10) (hi := rfl) (.inr hS) ?_
  apply Exists.intro
  refine ⟨fun W => ?_, ?_⟩
  ·go_simp
   try rfl
  try simp only [Act.put, sA, sB, sC]
  refine WL.tp 2 (some 11) (hi := rfl) (.inr hS) ?_
  apply Exists.intro
  refine ⟨fun W => ?_, ?_⟩
  ·go_simp
   try rfl
  try simp only [Act.put, sA, sB, sC]
  refine WL.te 3 (some 12) (hi := rfl) hS ?_
  apply Exists.intro
  refine ⟨fun W hW => ?_, ?_⟩
  ·obtain ⟨-, e1, e2⟩ := hW; have e3 := HLK.out _ e2; clear e2
   go_simp
   try rfl
  try simp only [Act.put, sA, sB, sC]
  refine WL.tp 4 (some 13) (hi := rfl) (.inr hS) ?_
  apply Exists.intro
  refine ⟨fun W => ?_, ?_⟩
  ·go_simp
   try rfl
  try simp only [Act.put, sA, sB, sC]
  refine WL.ld 5 (some 14) rt31 (fun W hW => (MsgM.parts hW.1).2.2.1) (dgc_len _) (hi := rfl) hS ?_
  try simp only [Act.put, sA, sB, sC]
  refine WL.te 6 (some 15) (hi := rfl) hS ?_
  apply Exists.intro
  refine ⟨fun W hW => ?_, ?_⟩
  ·obtain ⟨-, e1, e2⟩ := hW; have e3 := HLK.out _ e2; clear e2
   go_simp
   try rfl
  try simp only [Act.put, sA, sB, sC]
  refine WL.tp 7 (some 8) (hi := rfl) (.inr hS) ?_
  apply Exists.intro
  refine ⟨fun W => ?_, ?_⟩
  ·go_simp
   try rfl
  try simp only [Act.put, sA, sB, sC]
  refine WL.tp 8 (some 16) (hi := rfl) (.inr hS) ?_
  apply Exists.intro
  refine ⟨fun W => ?_, ?_⟩
  ·go_simp
   try rfl
  try simp only [Act.put, sA, sB, sC]
  refine WL.tp 9 (some 17) (hi := rfl) (.inr hS) ?_
  apply Exists.intro
  refine ⟨fun W => ?_, ?_⟩
  ·go_simp
   try rfl
  try simp only [Act.put, sA, sB, sC]
  refine WL.tp 10 (some 6) (hi := rfl) (.inr hS) ?_
  apply Exists.intro
  refine ⟨fun W => ?_, ?_⟩
  ·go_simp
   try rfl
  try simp only [Act.put, sA, sB, sC]
  refine WL.o 11 (hi := rfl) ?_
  intro K hK
  go_simp
  refine hK.out _ _ (.inl (by kernel_rfl)) ?_
  clear hK K
  try simp only [Act.put, sA, sB, sC]
  refine WL.d ?_
  have hn1' := (hbd.block _ (by omega)).trans hn1
  go_wp2_with first | (refine wl_run (r_build built_done rfl (by simp only [List.map_toArray, List.map_nil])) ?_) | (refine wl_st (xs := msg0.cells.toArray) rt34 hn1' hzs (by rw [List.size_toArray]; exact MsgM.len _) (msgC_one rfl) ?_; intro W2 ht2 hn2 hs2)
  refine br2 _ hn2 (.inl ⟨HNO.out, rfl, ?_⟩) (hu := Tryz.underlying34) (hi := by rw [List.size_toArray, MsgM.len]; kernel_rfl)
  have hb4 : Below w.heap.size w W2 := (Below.chain hB1 hbd).trans (ht2.below (by omega))
  exact ⟨Foot.of_below hb4, _, R, HR.out.below hb4, rfl, fun k hk => .inl hk⟩
 ·subst hl12
  obtain ⟨rk, d, data⟩ := r
  simp only at hrd
  subst hrd
  have HLK := hid hl
  have hmem : ((rk, x.sum, data) : Rw) ∈ l1 ++ (rk, x.sum, data) :: l2 := by simp
  have HRK := hid (And.intro (hR.bd rk (hR.rl _ hmem)).2 (hR.sm _ hmem))
  have hfit := hR.fit
  have HFIT := hid (show sizeL (l1 ++ l2) + data.length ≤ most by
   have e : sizeL (l1 ++ (rk, x.sum, data) :: l2) = data.length + sizeL (l1 ++ l2) := by simp only [sizeL_app, sizeL_cons]; omega
   omega)
  have HWO := hid (without_mid hR.dist)
  have HDN : Hid (∀ y ∈ l1 ++ l2, y.2.1 ≠ x.sum) := hid (by
   have hd := hR.dist
   simp only [List.map_append, List.map_cons, List.nodup_append, List.nodup_cons, List.mem_map, List.mem_cons] at hd
   obtain ⟨-, ⟨h2, -⟩, h12⟩ := hd
   intro y hy e
   rcases List.mem_append.1 hy with hy | hy
   ·exact h12 y.2.1 ⟨y, hy, rfl⟩ x.sum (.inl rfl) e
   ·exact h2 ⟨y, hy, e⟩)
  clear hR hx hob hcb hrb hB hl hmem hfit
  go_enter Tryz.func75, Tryz.ntmps75
  go_wp2_with first | (refine wl_box rt34 ?_; intro W0 hb0 hn0 hs0) | (refine wl_al rt34 ?_; intro zs W1 hzs hb1 hn1 hs1)
  have hB1 := Below.chain hb0 hb1
  rw [hs0] at hn1
  have HK1 := hid (fun (W : World) (hb : Below W1.heap.size W1 W) => And.intro ((hb.block _ (by omega)).trans ((hb1.block _ (by omega)).trans hn0)) (And.intro (Below.keeps (Below.chain hB1 hb) HCR.out.1) (((Below.chain hB1 hb).block rb HBS.out.2.1).trans HCR.out.2)))
  refine wp_region_wl (fun W => W.heap[w.heap.size]? = some (.cells x.cells.toArray 34 (0, 0)) ∧ W.cell? ⟨cb, 3, none⟩ = some (.map (some rb)) ∧ W.heap[rb]? = some ob) 11 (by kernel_rfl) ?_
  intro Wd hbd
  have hS := HK1.out _ hbd
  refine WL.tp 0 (some 9) (hi := rfl) (.inr hS) ?_
  apply Exists.intro
  refine ⟨fun W => ?_, ?_⟩
  ·go_simp
   try rfl
  try simp only [Act.put, sA, sB, sC]
  refine WL.tp 1 (some 10) (hi := rfl) (.inr hS) ?_
  apply Exists.intro
  refine ⟨fun W => ?_, ?_⟩
  ·go_simp
   try rfl
  try simp only [Act.put, sA, sB, sC]
  refine WL.tp 2 (some 11) (hi := rfl) (.inr hS) ?_
  apply Exists.intro
  refine ⟨fun W => ?_, ?_⟩
  ·go_simp
   try rfl
  try simp only [Act.put, sA, sB, sC]
  refine WL.te 3 (some 12) (hi := rfl) hS ?_
  apply Exists.intro
  refine ⟨fun W hW => ?_, ?_⟩
  ·obtain ⟨-, e1, e2⟩ := hW; have e3 := HLK.out _ e2; clear e2
   go_simp
   try rfl
  try simp only [Act.put, sA, sB, sC]
  refine WL.tp 4 (some 13) (hi := rfl) (.inr hS) ?_
  apply Exists.intro
  refine ⟨fun W => ?_, ?_⟩
  ·go_simp
   try rfl
  try simp only [Act.put, sA, sB, sC]
  refine WL.ld 5 (some 14) rt31 (fun W hW => (MsgM.parts hW.1).2.2.1) (dgc_len _) (hi := rfl) hS ?_
  try simp only [Act.put, sA, sB, sC]
  refine WL.te 6 (some 15) (hi := rfl) hS ?_
  apply Exists.intro
  refine ⟨fun W hW => ?_, ?_⟩
  ·obtain ⟨-, e1, e2⟩ := hW; have e3 := HLK.out _ e2; clear e2
   go_simp
   try rfl
  try simp only [Act.put, sA, sB, sC]
  refine WL.tp 7 (some 8) (hi := rfl) (.inr hS) ?_
  apply Exists.intro
  refine ⟨fun W => ?_, ?_⟩
  ·go_simp
   try rfl
  try simp only [Act.put, sA, sB, sC]
  refine WL.tp 8 (some 16) (hi := rfl) (.inr hS) ?_
  apply Exists.intro
  refine ⟨fun W => ?_, ?_⟩
  ·go_simp
   try rfl
  try simp only [Act.put, sA, sB, sC]
  refine WL.tp 9 (some 17) (hi := rfl) (.inr hS) ?_
  apply Exists.intro
  refine ⟨fun W => ?_, ?_⟩
  ·go_simp
   try rfl
  try simp only [Act.put, sA, sB, sC]
  refine WL.tp 10 (some 6) (hi := rfl) (.inr hS) ?_
  apply Exists.intro
  refine ⟨fun W => ?_, ?_⟩
  ·go_simp
   try rfl
  try simp only [Act.put, sA, sB, sC]
  refine WL.o 11 (hi := rfl) ?_
  intro K hK
  go_simp
  refine hK.out _ _ (.inl (by kernel_rfl)) ?_
  clear hK K
  try simp only [Act.put, sA, sB, sC]
  refine WL.d ?_
  have hBd := Below.chain hB1 hbd
  go_wp2_with (go_at_call 116; refine (drop_any (HR.out.below hBd)).mono ?_; rintro e W3 ⟨rfl, hR3, hf3, hd3⟩)
  have hRlt : ∀ k, R k → k < w.heap.size := fun k hk => (HR.out.bd k hk).2
  have hz1 : w.heap.size + 1 < Wd.heap.size := by have := hbd.size; omega
  have hz3 := hf3.size
  have hk3 : W3.heap[w.heap.size]? = some (.cells x.cells.toArray 34 (0, 0)) ∧ W3.heap[w.heap.size + 1]? = some (.cells zs 34 (0, 0)) :=
   ⟨(hf3.block _ (by omega) (fun e => by have := hRlt _ e; omega)).trans ((hbd.block _ (by omega)).trans ((hb1.block _ (by omega)).trans hn0)), (hf3.block _ (by omega) (fun e => by have := hRlt _ e; omega)).trans ((hbd.block _ (by omega)).trans hn1)⟩
  have hnd := HR.out.bl
  simp only [List.map_append, List.map_cons, List.nodup_cons, List.nodup_append, List.mem_append, List.mem_cons, List.mem_map, not_or, not_exists, not_and] at hnd
  obtain ⟨⟨-, -, hck, -⟩, ⟨-, hrk, -⟩, -, ⟨hk2, -⟩, h12⟩ := hnd
  have HR2 := hid (hR3.shrink (fun k => R k ∧ k ≠ rk) (fun k hk => hk.1) ⟨hR3.rc, hck⟩ ⟨hR3.rr, hrk⟩ (fun y hy => ⟨hR3.rl y hy, by
   rcases List.mem_append.1 hy with hy | hy
   ·exact h12 y.1 ⟨y, hy, rfl⟩ rk (.inl rfl)
   ·exact hk2 y hy⟩))
  clear hck hrk hk2 h12
  have HD2 := hid (And.intro HDN.out (And.intro HRK.out.2 (And.intro HFIT.out (show B ≤ W3.heap.size by have := HBS.out.2.2; omega))))
  have HK5 := hid (fun (W : World) (hb : Below W3.heap.size W3 W) => And.intro ((hb.block _ (lx (hid hk3.1))).trans hk3.1) (Below.keeps hb hd3))
  have HF3 := hid (Foot.trans (Foot.of_below (D := R) hBd) hf3 fun _ _ e => e)
  have HK3 := hid hk3
  have HRL := hid hRlt
  clear hk3 hd3 hR3 hRlt hBd hf3 hS
  refine wp_region_wl (fun W => W.heap[w.heap.size]? = some (.cells x.cells.toArray 34 (0, 0)) ∧ W.cell? ⟨rk, 32, none⟩ = some (.string (bs data))) 7 (by kernel_rfl) ?_
  intro Wd5 hbd5
  have hS := HK5.out _ hbd5
  refine WL.tp 0 (some 24) (hi := rfl) (.inr hS) ?_
  apply Exists.intro
  refine ⟨fun W => ?_, ?_⟩
  ·go_simp
   try rfl
  try simp only [Act.put, sA, sB, sC]
  refine WL.tp 1 (some 25) (hi := rfl) (.inr hS) ?_
  apply Exists.intro
  refine ⟨fun W => ?_, ?_⟩
  ·go_simp
   try rfl
  try simp only [Act.put, sA, sB, sC]
  refine WL.ld 2 (some 26) rt31 (fun W hW => (MsgM.parts hW.1).2.2.1) (dgc_len _) (hi := rfl) hS ?_
  try simp only [Act.put, sA, sB, sC]
  refine WL.tp 3 (some 27) (hi := rfl) (.inr hS) ?_
  apply Exists.intro
  refine ⟨fun W => ?_, ?_⟩
  ·go_simp
   try rfl
  try simp only [Act.put, sA, sB, sC]
  refine WL.tp 4 (some 28) (hi := rfl) (.inr hS) ?_
  apply Exists.intro
  refine ⟨fun W => ?_, ?_⟩
  ·go_simp
   try rfl
  try simp only [Act.put, sA, sB, sC]
  refine WL.tp 5 (some 29) (hi := rfl) (.inr hS) ?_
  apply Exists.intro
  refine ⟨fun W => ?_, ?_⟩
  ·go_simp
   try rfl
  try simp only [Act.put, sA, sB, sC]
  refine WL.te 6 (some 30) (hi := rfl) hS ?_
  apply Exists.intro
  refine ⟨fun W hW => ?_, ?_⟩
  ·obtain ⟨-, e1⟩ := hW
   go_simp
   try rfl
  try simp only [Act.put, sA, sB, sC]
  refine WL.o 7 (hi := rfl) ?_
  intro K hK
  go_simp
  refine (last_any (HR2.out.below hbd5) x.sum data HD2.out.1 HD2.out.2.1 HD2.out.2.2.1 (by have := HD2.out.2.2.2; have := hbd5.size; omega)).mono ?_
  rintro e W5 ⟨rfl, hf5, b5, R5, hR5, hk5⟩
  have hdat5 : W5.cell? ⟨rk, 32, none⟩ = some (.string (bs data)) := (World.cell?_of_block (hf5.block rk (World.block_lt_of_cell? _ _ hS.2) (fun e => e.2 rfl))).trans hS.2
  refine hK.out _ _ (.inl (by kernel_rfl)) ?_
  clear hK K
  try simp only [Act.put, sA, sB, sC]
  refine WL.d ?_
  have hz5 := hbd5.size
  have hz6 := hf5.size
  have HF5 := hid ((HF3.out.then hbd5).chain (hf5.mono fun k _ e => e.1))
  have hk6 : W5.heap[w.heap.size]? = some (.cells x.cells.toArray 34 (0, 0)) ∧ W5.heap[w.heap.size + 1]? = some (.cells zs 34 (0, 0)) :=
   ⟨(hf5.block _ (by omega) (fun e => by have := HRL.out _ e.1; omega)).trans ((hbd5.block _ (by omega)).trans HK3.out.1), (hf5.block _ (by omega) (fun e => by have := HRL.out _ e.1; omega)).trans ((hbd5.block _ (by omega)).trans HK3.out.2)⟩
  have HK6 := hid (fun (W : World) (hb : Below W5.heap.size W5 W) => And.intro ((hb.block _ (by omega)).trans hk6.1) (And.intro (Below.keeps hb hdat5) ((hb.block _ (by omega)).trans hk6.2)))
  have HE := hid (And.intro hR5 hk5)
  clear hk6 hR5 hk5 hf5 hS hdat5
  go_wp2_with fail
  refine wp_region_wl (fun W => W.heap[w.heap.size]? = some (.cells x.cells.toArray 34 (0, 0)) ∧ W.cell? ⟨rk, 32, none⟩ = some (.string (bs data)) ∧ W.heap[w.heap.size + 1]? = some (.cells zs 34 (0, 0))) 7 (by kernel_rfl) ?_
  intro Wd6 hbd6
  have hS := HK6.out _ hbd6
  refine WL.tp 0 (some 32) (hi := rfl) (.inr hS) ?_
  apply Exists.intro
  refine ⟨fun W => ?_, ?_⟩
  ·go_simp
   try rfl
  try simp only [Act.put, sA, sB, sC]
  refine WL.ld 1 (some 33) rt31 (fun W hW => (MsgM.parts hW.1).2.2.1) (dgc_len _) (hi := rfl) hS ?_
  try simp only [Act.put, sA, sB, sC]
  refine WL.tp 2 (some 34) (hi := rfl) (.inr hS) ?_
  apply Exists.intro
  refine ⟨fun W => ?_, ?_⟩
  ·go_simp
   try rfl
  try simp only [Act.put, sA, sB, sC]
  refine WL.tp 3 (some 35) (hi := rfl) (.inr hS) ?_
  apply Exists.intro
  refine ⟨fun W => ?_, ?_⟩
  ·go_simp
   try rfl
  try simp only [Act.put, sA, sB, sC]
  refine WL.tp 4 (some 36) (hi := rfl) (.inr hS) ?_
  apply Exists.intro
  refine ⟨fun W => ?_, ?_⟩
  ·go_simp
   try rfl
  try simp only [Act.put, sA, sB, sC]
  refine WL.te 5 (some 37) (hi := rfl) hS ?_
  apply Exists.intro
  refine ⟨fun W hW => ?_, ?_⟩
  ·obtain ⟨-, e1, -⟩ := hW
   go_simp
   try rfl
  try simp only [Act.put, sA, sB, sC]
  refine WL.tp 6 (some 38) (hi := rfl) (.inr hS) ⟨_, fun W => r_build (built_blob 6 x.sum data) rfl (by simp only [List.map_toArray, List.map_cons, List.map_nil]; rfl), ?_⟩
  try simp only [Act.put, sA, sB, sC]
  refine WL.o 7 (hi := rfl) ?_
  intro K hK
  refine wp_st (xs := (msgC 6 0 x.sum data nilS 0).toArray) rt34 hS.2.2 hzs (by rw [List.size_toArray, msgC_len]) (msgC_one rfl) ?_
  intro W7 ht7 hn7 hs7
  refine hK.out _ _ (.inl (by kernel_rfl)) ?_
  clear hK K
  try simp only [Act.put, sA]
  refine WL.o 8 (hi := rfl) ?_
  intro K hK
  go_simp
  refine hK.out _ _ (.inl (by kernel_rfl)) ?_
  clear hK K
  try simp only [Act.put, sA, sB, sC]
  refine WL.d ?_
  go_wp2_with fail
  refine br2 _ hn7 (.inr ⟨data, by simp [plainR], rfl, ?_⟩) (hu := Tryz.underlying34) (hi := by rw [List.size_toArray, msgC_len]; kernel_rfl)
  have hz7 := hbd6.size
  have hT7 : Foot R w W7 := ((HF5.out.then hbd6)).trans ht7.foot fun b hb e => by omega
  refine ⟨hT7, l1 ++ l2 ++ [(b5, x.sum, data)], R5, (HE.out.1.below hbd6).keep ht7.foot fun k hk e => ?_, ?_, fun k hk => ?_⟩
  ·rcases HE.out.2 k hk with h | h
   ·have := HRL.out k h.1; omega
   ·omega
  ·have e1 : plainR (l1 ++ l2 ++ [(b5, x.sum, data)]) = plainR (l1 ++ l2) ++ [(x.sum, data)] := by simp [plainR]
   rw [e1, HWO.out]
  ·rcases HE.out.2 k hk with h | h
   ·exact .inl h.1
   ·exact .inr (by omega)
end Go.Proofs.YtlbipokkdiiaiaaGreatDoor
