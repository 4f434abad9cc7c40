/- Lemmas for TopTwice: W31, W18. -/
import Derived.Test.YtlbipokkdiiaiaaGreatDoorU24
import Derived.Test.YtlbipokkdiiaiaaGreatDoorU26
import Derived.Deep.LoopGhost
import Derived.Test.YtlbipokkdiiaiaaGreatDoorU19
open List renaming setIfInBounds_toArray → sA, set_cons_zero → sB, set_cons_succ → sC
namespace Go.Proofs.YtlbipokkdiiaiaaGreatDoor
open Go.RowKit Go.Proofs.YtlbipokkdiiaiaaGreatDoor.Exec
set_option maxRecDepth 100000
def szR (l : List (Dg × List UInt8)) : Nat := (l.map fun r => r.2.length).sum
def fitR (most n : Nat) : List (Dg × List UInt8) → List (Dg × List UInt8)
 | [] => []
 | r :: l => if most < szR (r :: l) + n then fitR most n l else r :: l
theorem szR_plain (l : List Rw) : szR (plainR l) = sizeL l := by simp [szR, plainR, sizeL, Function.comp_def]
set_option maxHeartbeats 4000000 in
theorem put_any {B : Nat} {R : Nat → Prop} {w : World} {cb rb dp most : Nat} {l : List Rw} (hR : RingIs B R w cb rb dp most l) (x : MsgM) (hx : HeldM w x) (hB : B ≤ w.heap.size) (hd : x.data.length ≤ 1000) :
  Calls Tryz.prog 77 #[.pointer (some ⟨cb, 0, none⟩), x.val] w fun e w' =>
   (shaD x.data ≠ x.sum ∧ e = .returned (.tuple #[msg0.val, .int .i64 5]) ∧ AnsIs B R cb rb dp most w w' (plainR l)) ∨
   (shaD x.data = x.sum ∧ most < x.data.length ∧ e = .returned (.tuple #[msg0.val, .int .i64 6]) ∧ AnsIs B R cb rb dp most w w' (plainR l)) ∨
   (shaD x.data = x.sum ∧ x.data.length ≤ most ∧ e = .returned (.tuple #[(⟨7, 0, dg0, [], nilS, [], 0⟩ : MsgM).val, .int .i64 0]) ∧ AnsIs B R cb rb dp most w w' (fitR most x.data.length (without x.sum (plainR l)) ++ [(x.sum, x.data)])) := by
 have hcb := (hR.bd cb hR.rc).2
 have hrb := (hR.bd rb hR.rr).2
 have HR := hid hR
 have HX := hid hx
 have HBS := hid (And.intro hcb (And.intro hrb hB))
 have HD := hid hd
 have HMX := hid hR.mx
 have hkm := hR.cm
 have hkr := hR.cr
 unfold MsgM.val
 clear hR hx hcb hrb hB hd
 go_enter Tryz.func77, Tryz.ntmps77
 go_upto_region 1 with first | (refine wl_box rt34 ?_; intro W0 hb0 hn0 hs0) | (refine wl_al rt34 ?_; intro zs W1 hzs hb1 hn1 hs1)
 have hB1 := Below.chain hb0 hb1
 rw [hs0] at hn1
 have hn0' := (hb1.block _ (by omega)).trans hn0
 obtain ⟨n0, n1, n2, n3, n4, n5⟩ := MsgM.parts hn0'
 have HN := hid (And.intro hn0' hn1)
 have km := Below.keeps hB1 hkm
 have HKR := hid hkr
 clear n0 n1 n4 n5 hn0 hn0' hkm hkr
 have hz1 : W1.heap.size = w.heap.size + 2 := by omega
 have HZ1 := hid hz1
 by_cases hs : shaD x.data = x.sum
 ·have HS := hid hs
  have HC := hid (bcheck_is x.sum x.data W1 (by have := HD.out; omega) true (decide_eq_true hs))
  clear hs
  by_cases hm : x.data.length ≤ most
  ·have HM := hid hm
   have E : decide (most < x.data.length) = false := decide_eq_false (by omega)
   clear hm hz1
   go_wp2_with first | (refine wl_ld rt31 n2 (dgc_len _) ?_) | (go_at_call 47; refine (HC.out).mono ?_; rintro e W2 ⟨rfl, hb2⟩; have n3 := Below.keeps hb2 n3; have km := Below.keeps hb2 km)
   refine wp_region_wq (by kernel_rfl) (by kernel_rfl) ?_
   repeat (refine WQ.step (fun K hK => ?_); go_simp; first | (refine hK _ ?_; clear hK K) | (apply Exists.intro; refine ⟨fun W hW => ?_, hK _ ?_⟩; (first | with_reducible rfl | (have zz0 := Below.keeps hW n3; have zz1 := Below.keeps hW km; go_simp; first | rfl | exact ⟨rfl, rfl⟩ | (rw [if_neg (by omega)]; exact ⟨rfl, rfl⟩))); clear hK K))
   refine WQ.nil ?_
   intro wq hwq
   have hB3 := Below.chain hB1 (Below.chain hb2 hwq)
   have HN3 := hid (And.intro (((Below.chain hb2 hwq).block _ (by have := HZ1.out; omega)).trans HN.out.1) (((Below.chain hb2 hwq).block _ (by have := HZ1.out; omega)).trans HN.out.2))
   have HB3 := hid hB3
   have HZ3 := hid (show w.heap.size + 2 ≤ wq.heap.size by have := (Below.chain hb2 hwq).size; have := HZ1.out; omega)
   clear n2 n3 km hB3
   go_upto_region 5 with fail
   go_cut [6, 7] (fun p q wx => ((p = .pointer none ∧ q = .bool false ∧ ∀ r ∈ l, r.2.1 ≠ x.sum) ∨ ∃ l1 r l2, l = l1 ++ r :: l2 ∧ r.2.1 = x.sum ∧ p = .pointer (some ⟨r.1, 0, none⟩) ∧ q = .bool true) ∧ Below wq.heap.size wq wx)
   case first =>
    obtain ⟨ob, hob, hlk⟩ := HR.out.look x.sum
    have HK1 := hid (fun (W : World) (hb : Below wq.heap.size wq W) => And.intro ((hb.block _ (by have := HZ3.out; omega)).trans HN3.out.1) (And.intro (Below.keeps (Below.chain HB3.out hb) HKR.out) (((Below.chain HB3.out hb).block rb HBS.out.2.1).trans hob)))
    rcases hlk with ⟨hno, hl⟩ | ⟨l1, r, l2, hl12, hrd, hl⟩
    ·have HLK := hid hl
     have HNO := hid hno
     clear hl hno hob
     refine wp_region_wl (fun W => W.heap[w.heap.size]? = some (.cells x.cells.toArray 34 (0, 0)) ∧ W.cell? ⟨cb, 3, none⟩ = some (.map (some rb)) ∧ W.heap[rb]? = some ob) 11 (by kernel_rfl) ?_
     intro Wd hbd
     have hS := HK1.out _ hbd
     refine WL.tp 0 (some 27) (hi := rfl) (.inr hS) ?_
     apply Exists.intro
     refine ⟨fun W => ?_, ?_⟩
     ·go_simp
      try rfl
     try simp only [Act.put, sA, sB, sC]
     refine WL.tp 1 (some 28) (hi := rfl) (.inr hS) ?_
     apply Exists.intro
     refine ⟨fun W => ?_, ?_⟩
     ·go_simp
      try rfl
     try simp only [Act.put, sA, sB, sC]
     refine WL.tp 2 (some 29) (hi := rfl) (.inr hS) ?_
     apply Exists.intro
     refine ⟨fun W => ?_, ?_⟩
     ·go_simp
      try rfl
     try simp only [Act.put, sA, sB, sC]
     refine WL.te 3 (some 30) (hi := rfl) hS ?_
     apply Exists.intro
     refine ⟨fun W hW => ?_, ?_⟩
     ·obtain ⟨-, e1, e2⟩ := hW; have e3 := HLK.out _ e2; clear e2
      go_simp
      try rfl
     try simp only [Act.put, sA, sB, sC]
     refine WL.tp 4 (some 31) (hi := rfl) (.inr hS) ?_
     apply Exists.intro
     refine ⟨fun W => ?_, ?_⟩
     ·go_simp
      try rfl
     try simp only [Act.put, sA, sB, sC]
     refine WL.ld 5 (some 32) rt31 (fun W hW => (MsgM.parts hW.1).2.2.1) (dgc_len _) (hi := rfl) hS ?_
     try simp only [Act.put, sA, sB, sC]
     refine WL.te 6 (some 33) (hi := rfl) hS ?_
     apply Exists.intro
     refine ⟨fun W hW => ?_, ?_⟩
     ·obtain ⟨-, e1, e2⟩ := hW; have e3 := HLK.out _ e2; clear e2
      go_simp
      try rfl
     try simp only [Act.put, sA, sB, sC]
     refine WL.tp 7 (some 26) (hi := rfl) (.inr hS) ?_
     apply Exists.intro
     refine ⟨fun W => ?_, ?_⟩
     ·go_simp
      try rfl
     try simp only [Act.put, sA, sB, sC]
     refine WL.tp 8 (some 34) (hi := rfl) (.inr hS) ?_
     apply Exists.intro
     refine ⟨fun W => ?_, ?_⟩
     ·go_simp
      try rfl
     try simp only [Act.put, sA, sB, sC]
     refine WL.tp 9 (some 35) (hi := rfl) (.inr hS) ?_
     apply Exists.intro
     refine ⟨fun W => ?_, ?_⟩
     ·go_simp
      try rfl
     try simp only [Act.put, sA, sB, sC]
     refine WL.tp 10 (some 6) (hi := rfl) (.inr hS) ?_
     apply Exists.intro
     refine ⟨fun W => ?_, ?_⟩
     ·go_simp
      try rfl
     try simp only [Act.put, sA, sB, sC]
     refine WL.o 11 (hi := rfl) ?_
     intro K hK
     go_simp
     refine hK.out _ _ (.inl (by kernel_rfl)) ?_
     clear hK K
     try simp only [Act.put, sA, sB, sC]
     refine WL.d ?_
     go_wp2_with fail
     go_meet
     exact ⟨.inl ⟨rfl, rfl, HNO.out⟩, hbd⟩
    ·have HLK := hid hl
     have HNO := hid (And.intro hl12 hrd)
     clear hl hob hl12 hrd
     refine wp_region_wl (fun W => W.heap[w.heap.size]? = some (.cells x.cells.toArray 34 (0, 0)) ∧ W.cell? ⟨cb, 3, none⟩ = some (.map (some rb)) ∧ W.heap[rb]? = some ob) 11 (by kernel_rfl) ?_
     intro Wd hbd
     have hS := HK1.out _ hbd
     refine WL.tp 0 (some 27) (hi := rfl) (.inr hS) ?_
     apply Exists.intro
     refine ⟨fun W => ?_, ?_⟩
     ·go_simp
      try rfl
     try simp only [Act.put, sA, sB, sC]
     refine WL.tp 1 (some 28) (hi := rfl) (.inr hS) ?_
     apply Exists.intro
     refine ⟨fun W => ?_, ?_⟩
     ·go_simp
      try rfl
     try simp only [Act.put, sA, sB, sC]
     refine WL.tp 2 (some 29) (hi := rfl) (.inr hS) ?_
     apply Exists.intro
     refine ⟨fun W => ?_, ?_⟩
     ·go_simp
      try rfl
     try simp only [Act.put, sA, sB, sC]
     refine WL.te 3 (some 30) (hi := rfl) hS ?_
     apply Exists.intro
     refine ⟨fun W hW => ?_, ?_⟩
     ·obtain ⟨-, e1, e2⟩ := hW; have e3 := HLK.out _ e2; clear e2
      go_simp
      try rfl
     try simp only [Act.put, sA, sB, sC]
     refine WL.tp 4 (some 31) (hi := rfl) (.inr hS) ?_
     apply Exists.intro
     refine ⟨fun W => ?_, ?_⟩
     ·go_simp
      try rfl
     try simp only [Act.put, sA, sB, sC]
     refine WL.ld 5 (some 32) rt31 (fun W hW => (MsgM.parts hW.1).2.2.1) (dgc_len _) (hi := rfl) hS ?_
     try simp only [Act.put, sA, sB, sC]
     refine WL.te 6 (some 33) (hi := rfl) hS ?_
     apply Exists.intro
     refine ⟨fun W hW => ?_, ?_⟩
     ·obtain ⟨-, e1, e2⟩ := hW; have e3 := HLK.out _ e2; clear e2
      go_simp
      try rfl
     try simp only [Act.put, sA, sB, sC]
     refine WL.tp 7 (some 26) (hi := rfl) (.inr hS) ?_
     apply Exists.intro
     refine ⟨fun W => ?_, ?_⟩
     ·go_simp
      try rfl
     try simp only [Act.put, sA, sB, sC]
     refine WL.tp 8 (some 34) (hi := rfl) (.inr hS) ?_
     apply Exists.intro
     refine ⟨fun W => ?_, ?_⟩
     ·go_simp
      try rfl
     try simp only [Act.put, sA, sB, sC]
     refine WL.tp 9 (some 35) (hi := rfl) (.inr hS) ?_
     apply Exists.intro
     refine ⟨fun W => ?_, ?_⟩
     ·go_simp
      try rfl
     try simp only [Act.put, sA, sB, sC]
     refine WL.tp 10 (some 6) (hi := rfl) (.inr hS) ?_
     apply Exists.intro
     refine ⟨fun W => ?_, ?_⟩
     ·go_simp
      try rfl
     try simp only [Act.put, sA, sB, sC]
     refine WL.o 11 (hi := rfl) ?_
     intro K hK
     go_simp
     refine hK.out _ _ (.inl (by kernel_rfl)) ?_
     clear hK K
     try simp only [Act.put, sA, sB, sC]
     refine WL.d ?_
     go_wp2_with fail
     go_meet
     exact ⟨.inr ⟨l1, r, l2, HNO.out.1, HNO.out.2, rfl, rfl⟩, hbd⟩
   case rest =>
    obtain ⟨hpq, hbc⟩ := hcut
    have HPQ := hid hpq
    have HBC := hid (Below.chain HB3.out hbc)
    have HNC := hid (And.intro ((hbc.block _ (by have := HZ3.out; omega)).trans HN3.out.1) ((hbc.block _ (by have := HZ3.out; omega)).trans HN3.out.2))
    have HZC := hid (show w.heap.size + 2 ≤ wc.heap.size by have := hbc.size; have := HZ3.out; omega)
    clear hpq hbc
    go_upto_if 36 with fail
    go_cut [] (fun wx => (∃ l', RingIs B R wx cb rb dp most l' ∧ plainR l' = without x.sum (plainR l)) ∧ Foot R w wx ∧ wx.heap[w.heap.size]? = some (.cells x.cells.toArray 34 (0, 0)) ∧ wx.heap[w.heap.size + 1]? = some (.cells zs 34 (0, 0)))
    case first =>
     rcases HPQ.out with ⟨rfl, rfl, hno⟩ | ⟨l1, r, l2, hl12, hrd, rfl, rfl⟩
     ·have HNO := hid hno
      clear hno
      go_wp2_with fail
      go_meet
      refine ⟨⟨l, HR.out.below HBC.out, ?_⟩, Foot.of_below HBC.out, HNC.out⟩
      unfold without
      rw [List.filter_eq_self.2 (fun y hy => ?_)]
      obtain ⟨r, hr, rfl⟩ := List.mem_map.1 hy
      simpa using HNO.out r hr
     ·subst hl12
      have HRD := hid hrd
      clear hrd
      go_wp2_with (go_at_call 116; refine (drop_any (HR.out.below HBC.out)).mono ?_; rintro e W3 ⟨rfl, hR3, hf3, -⟩)
      go_meet
      have hRlt : ∀ k, R k → k < w.heap.size := fun k hk => (HR.out.bd k hk).2
      refine ⟨⟨l1 ++ l2, hR3, ?_⟩, Foot.trans (Foot.of_below (D := R) HBC.out) hf3 fun _ _ e => e, (hf3.block _ (by have := HZC.out; omega) (fun e => by have := hRlt _ e; omega)).trans HNC.out.1, (hf3.block _ (by have := HZC.out; omega) (fun e => by have := hRlt _ e; omega)).trans HNC.out.2⟩
      rw [← HRD.out]
      exact without_mid HR.out.dist
    case rest =>
     obtain ⟨⟨l', hR', hpl⟩, hf, hk1, hk2⟩ := hcut
     have HPL := hid hpl
     have H0 := hid (And.intro hR' (And.intro hf (And.intro hk1 hk2)))
     clear hpl hR' hf hk1 hk2
     go_wp2_with fail
     go_loopg [] l'.length (fun gk wr => ∃ l2 : List Rw, gk = l2.length ∧ RingIs B R wr cb rb dp most l2 ∧ fitR most x.data.length (plainR l2) = fitR most x.data.length (plainR l') ∧ Foot R w wr ∧ wr.heap[w.heap.size]? = some (.cells x.cells.toArray 34 (0, 0)) ∧ wr.heap[w.heap.size + 1]? = some (.cells zs 34 (0, 0)) ∧ ∀ r ∈ l2, r.2.1 ≠ x.sum)
     case atStart =>
      refine ⟨l', rfl, H0.out.1, rfl, H0.out.2.1, H0.out.2.2.1, H0.out.2.2.2, fun r hr => ?_⟩
      have : r.2 ∈ without x.sum (plainR l) := by rw [← HPL.out]; exact List.mem_map.2 ⟨r, hr, rfl⟩
      simpa using (List.mem_filter.1 this).2
     case round =>
      obtain ⟨l2, hgk, hR2, hfit, hf, hk1, hk2, hne⟩ := hrel
      obtain ⟨q0, q1, q2, n3, q4, q5⟩ := MsgM.parts hk1
      have ks := hR2.cs
      have km := hR2.cm
      have HR2 := hid hR2
      have HF := hid (And.intro hfit (And.intro hf (And.intro hk1 (And.intro hk2 (And.intro hgk hne)))))
      have hlt : ∀ k, R k → k < w.heap.size := fun k hk => (HR.out.bd k hk).2
      have HLT := hid hlt
      have hwrap : IntKind.i64.wrap ((sizeL l2 : Int) + (x.data.length : Int)) = (sizeL l2 : Int) + (x.data.length : Int) := by
       have := hR2.fit
       have := HMX.out
       have := HD.out
       rw [IntKind.wrap_i64]; omega
      clear hR2 hfit hf hk1 hk2 hgk hne hlt q0 q1 q2 q4 q5
      by_cases hfull : most < sizeL l2 + x.data.length
      ·have E2 : decide ((most : Int) < (sizeL l2 : Int) + (x.data.length : Int)) = true := decide_eq_true (by omega)
       have HFU := hid hfull
       clear hfull
       cases l2 with
       | nil => have h1 := HFU.out; have h2 := HM.out; simp [sizeL] at h1; omega
       | cons r rest =>
         have kn : wr.cell? ⟨cb, 38, none⟩ = some (.pointer (some ⟨r.1, 0, none⟩)) := HR2.out.ch.1.nw
         go_wp2_with fail
         refine wp_region_wq (by kernel_rfl) (by kernel_rfl) ?_
         repeat (refine WQ.step (fun K hK => ?_); go_simp; first | (refine hK _ ?_; clear hK K) | (apply Exists.intro; refine ⟨fun W hW => ?_, hK _ ?_⟩; (first | with_reducible rfl | (have zz0 := Below.keeps hW ks; have zz1 := Below.keeps hW n3; have zz2 := Below.keeps hW km; go_simp; first | rfl | exact ⟨rfl, rfl⟩ | (rw [if_neg (by omega)]; exact ⟨rfl, rfl⟩))); clear hK K))
         refine WQ.nil ?_
         intro wz hwz
         have kn1 := Below.keeps hwz kn
         go_wp2_with (go_at_call 116; refine (drop_any (l1 := []) (r := r) (l2 := rest) (HR2.out.below hwz)).mono ?_; rintro e W5 ⟨rfl, hR5, hf5, -⟩)
         obtain ⟨hfit, hf, hk1, hk2, hgk, hne⟩ := HF.out
         have hzz := hwz.size
         have hz0 : w.heap.size + 2 ≤ wr.heap.size := by have := lx (hid hk2); omega
         go_roundg rest.length
         case measure => rw [hgk, List.length_cons]; omega
         case rel =>
          refine ⟨rest, rfl, hR5, ?_, (hf.then hwz).chain hf5, (hf5.block _ (by omega) (fun e => by have := HLT.out _ e; omega)).trans ((hwz.block _ (by omega)).trans hk1), (hf5.block _ (by omega) (fun e => by have := HLT.out _ e; omega)).trans ((hwz.block _ (by omega)).trans hk2), fun y hy => hne y (List.mem_cons_of_mem _ hy)⟩
          rw [← hfit]
          have e1 : plainR (r :: rest) = r.2 :: plainR rest := rfl
          rw [e1, fitR, if_pos (by rw [← e1, szR_plain]; exact HFU.out)]
      ·have E2 : decide ((most : Int) < (sizeL l2 : Int) + (x.data.length : Int)) = false := decide_eq_false (by omega)
       have HFU := hid hfull
       have n2 := (MsgM.parts HF.out.2.2.1).2.2.1
       clear hfull
       go_wp2_with fail
       refine wp_region_wq (by kernel_rfl) (by kernel_rfl) ?_
       repeat (refine WQ.step (fun K hK => ?_); go_simp; first | (refine hK _ ?_; clear hK K) | (apply Exists.intro; refine ⟨fun W hW => ?_, hK _ ?_⟩; (first | with_reducible rfl | (have zz0 := Below.keeps hW ks; have zz1 := Below.keeps hW n3; have zz2 := Below.keeps hW km; go_simp; first | rfl | exact ⟨rfl, rfl⟩ | (rw [if_neg (by omega)]; exact ⟨rfl, rfl⟩))); clear hK K))
       refine WQ.nil ?_
       intro wz hwz
       have n2z := range_keeps hwz n2
       have n3z := Below.keeps hwz n3
       have hzz := hwz.size
       go_wp2_with first | (refine wl_ld rt31 n2z (dgc_len _) ?_) | (go_at_call 117; refine (last_any (HR2.out.below hwz) x.sum x.data HF.out.2.2.2.2.2 HD.out (by have := HFU.out; omega) (by have := HBS.out.2.2; have := HF.out.2.1.size; omega)).mono ?_; rintro e W6 ⟨rfl, hf6, b6, R6, hR6, hk6⟩; have hn6 := (hf6.block _ (by have := lx (hid HF.out.2.2.2.1); omega) (fun e => by have := HLT.out _ e; omega)).trans ((hwz.block _ (lx (hid HF.out.2.2.2.1))).trans HF.out.2.2.2.1)) | (refine wl_run (r_build (built_kind 7) rfl (by simp only [List.map_toArray, List.map_cons, List.map_nil]; rfl)) ?_) | (refine wl_st (xs := (msgC 7 0 dg0 [] nilS 0).toArray) rt34 hn6 hzs (by rw [List.size_toArray, msgC_len]) (msgC_one rfl) ?_; intro W7 ht7 hn7 hs7)
       obtain ⟨hfit, hf, hk1, hk2, hgk, hne⟩ := HF.out
       have hz6 := hf6.size
       have hzr := hf.size
       refine br2 _ hn7 (.inr (.inr ⟨HS.out, HM.out, rfl, ?_⟩)) (hu := Tryz.underlying34) (hi := by rw [List.size_toArray, msgC_len]; kernel_rfl)
       refine ⟨((hf.then hwz).chain hf6).trans ht7.foot (fun b hb e => by omega), l2 ++ [(b6, x.sum, x.data)], R6, hR6.keep ht7.foot fun k hk e => ?_, ?_, fun k hk => ?_⟩
       ·rcases hk6 k hk with h | h
        ·have := HLT.out k h; omega
        ·have := lx (hid hk2); omega
       ·have e1 : plainR (l2 ++ [(b6, x.sum, x.data)]) = plainR l2 ++ [(x.sum, x.data)] := by simp [plainR]
        rw [e1, ← HPL.out, ← hfit]
        congr 1
        cases l2 with
        | nil => rfl
        | cons r rest =>
          have e2 : plainR (r :: rest) = r.2 :: plainR rest := rfl
          rw [e2, fitR, if_neg (by rw [← e2, szR_plain]; exact HFU.out)]
       ·rcases hk6 k hk with h | h
        ·exact .inl h
        ·exact .inr (by omega)
  ·have HM := hid hm
   have E : decide (most < x.data.length) = true := decide_eq_true (by omega)
   clear hm hz1
   go_wp2_with first | (refine wl_ld rt31 n2 (dgc_len _) ?_) | (go_at_call 47; refine (HC.out).mono ?_; rintro e W2 ⟨rfl, hb2⟩; have n3 := Below.keeps hb2 n3; have km := Below.keeps hb2 km)
   refine wp_region_wq (by kernel_rfl) (by kernel_rfl) ?_
   repeat (refine WQ.step (fun K hK => ?_); go_simp; first | (refine hK _ ?_; clear hK K) | (apply Exists.intro; refine ⟨fun W hW => ?_, hK _ ?_⟩; (first | with_reducible rfl | (have zz0 := Below.keeps hW n3; have zz1 := Below.keeps hW km; go_simp; first | rfl | exact ⟨rfl, rfl⟩ | (rw [if_neg (by omega)]; exact ⟨rfl, rfl⟩))); clear hK K))
   refine WQ.nil ?_
   intro wq hwq
   have hn4 := ((Below.chain hb2 hwq).block _ (by have := HZ1.out; omega)).trans HN.out.2
   go_wp2_with first | (refine wl_run (r_build built_done rfl (by simp only [List.map_toArray, List.map_nil])) ?_) | (refine wl_st (xs := msg0.cells.toArray) rt34 hn4 hzs (by rw [List.size_toArray]; exact MsgM.len _) (msgC_one rfl) ?_; intro W4 ht4 hn4' hs4)
   refine br2 _ hn4' (.inr (.inl ⟨HS.out, by have := HM.out; omega, rfl, ?_⟩)) (hu := Tryz.underlying34) (hi := by rw [List.size_toArray, MsgM.len]; kernel_rfl)
   have hb4 : Below w.heap.size w W4 := (Below.chain hB1 (Below.chain hb2 hwq)).trans (ht4.below (by omega))
   exact ⟨Foot.of_below hb4, _, R, HR.out.below hb4, rfl, fun k hk => .inl hk⟩
 ·have HS := hid hs
  have HC := hid (bcheck_is x.sum x.data W1 (by have := HD.out; omega) false (decide_eq_false hs))
  clear hs hz1
  go_wp2_with first | (refine wl_ld rt31 n2 (dgc_len _) ?_) | (go_at_call 47; refine (HC.out).mono ?_; rintro e W2 ⟨rfl, hb2⟩; have hn4 := (hb2.block _ (by have := HZ1.out; omega)).trans HN.out.2) | (refine wl_run (r_build built_done rfl (by simp only [List.map_toArray, List.map_nil])) ?_) | (refine wl_st (xs := msg0.cells.toArray) rt34 hn4 hzs (by rw [List.size_toArray]; exact MsgM.len _) (msgC_one rfl) ?_; intro W4 ht4 hn4' hs4)
  refine br2 _ hn4' (.inl ⟨HS.out, rfl, ?_⟩) (hu := Tryz.underlying34) (hi := by rw [List.size_toArray, MsgM.len]; kernel_rfl)
  have hb4 : Below w.heap.size w W4 := (Below.chain hB1 hb2).trans (ht4.below (by omega))
  exact ⟨Foot.of_below hb4, _, R, HR.out.below hb4, rfl, fun k hk => .inl hk⟩
end Go.Proofs.YtlbipokkdiiaiaaGreatDoor
namespace Go.Proofs.YtlbipokkdiiaiaaGreatDoor
open Go.RowKit Go.Proofs.YtlbipokkdiiaiaaGreatDoor.Exec
set_option maxRecDepth 100000
def addT (l : List TcM) (y : TcM) : List TcM := (y :: filterT y.t l).take 8
theorem owns_take {w : World} {base m n : Nat} {a : Option Addr} {c : Nat} {l : List TcM} (h : w.ownsRow base 44 34 (.slice a n c) n (tcs l)) (hm : m ≤ n) (hn : n = l.length) : w.ownsRow base 44 34 (.slice a m c) m (tcs (l.take m)) := by
 subst hn
 have hl : (tcs (l.take m)).length = m * 34 := by rw [tcs, tcs_len, List.length_take, Nat.min_eq_left hm]
 obtain ⟨h1, ⟨h2, h3⟩ | ⟨g, cap, cur, h2, hb, hg, hc, hcm, hs, ht⟩⟩ := h
 ·simp only [Value.slice.injEq] at h2
  obtain ⟨rfl, -, rfl⟩ := h2
  obtain rfl : m = 0 := by omega
  exact ⟨by simp, .inl ⟨rfl, rfl⟩⟩
 ·simp only [Value.slice.injEq] at h2
  obtain ⟨rfl, -, rfl⟩ := h2
  refine ⟨hl, .inr ⟨g, c, cur, rfl, hb, hg, by omega, hcm, hs, ?_⟩⟩
  have hmn : m * 34 ≤ l.length * 34 := Nat.mul_le_mul_right _ hm
  have e : tcs l = tcs (l.take m) ++ tcs (l.drop m) := by rw [tcs, tcs, tcs, ← List.flatMap_append, List.take_append_drop]
  have := congrArg (List.take (m * 34)) ht
  rw [List.take_take, Nat.min_eq_left hmn, e, ← hl, List.take_left' rfl] at this
  rw [← hl]; exact this
theorem owns_cap {w : World} {base e sz n : Nat} {a : Option Addr} {c : Nat} {xs : List Value} (h : w.ownsRow base e sz (.slice a n c) n xs) (h0 : 0 < n) : n ≤ c ∧ c ≤ 9223372036854775807 := by
 obtain ⟨_, ⟨_, h⟩ | ⟨g, cap, cur, h2, hb, hg, hc, hcm, _⟩⟩ := h
 ·omega
 ·simp only [Value.slice.injEq] at h2
  unfold maxLen at hcm
  omega
set_option maxHeartbeats 4000000 in
theorem dbAdd_any {B : Nat} {D I : Nat → Prop} {w : World} {dp mb : Nat} {M : Dg → Option Value} {L : Dg → List TcM} (hdb : DbIs B D I w dp mb M L) (x : TcM) (hx : HeldT w x) (hxd : InE (fun k => ¬ D k) x) (hs : SmallT x.t) (hc : checkT x.t = 0) (hB : B ≤ w.heap.size) :
  Calls Tryz.prog 76 #[.pointer (some ⟨dp, 0, none⟩), x.val] w fun e w' => e = .returned (.int .i64 0) ∧ Foot D w w' ∧ ∃ (D' I' : Nat → Prop) (M' : Dg → Option Value) (y : TcM), y.t = x.t ∧ DbIs B D' I' w' dp mb M' (fun d => if d = x.t.key then addT (L d) y else L d) ∧ (∀ k, D' k → D k ∨ w.heap.size ≤ k) ∧ (∀ k, I' k → I k ∨ w.heap.size ≤ k) := by
 obtain ⟨o, hmo, hMo⟩ := hdb.mp
 obtain ⟨s0, hs0⟩ : ∃ s0, s0 = (M x.t.key).getD nilS := ⟨_, rfl⟩
 have hrow0 := hdb.row x.t.key
 rw [← hs0] at hrow0
 have hz : ∀ W, (zeroValue 32).run Tryz.prog W = .ok nilS W := fun W => rfl
 have ht170 : Tryz.prog.underlying 170 = some (.map 31 32) := by kernel_rfl
 have HLK := hid (fun (W : World) (h : W.heap[mb]? = some o) => show (Instr.lookup 170 (.map (some mb)) (.agg (dgc x.t.key).toArray) false).run Tryz.prog W = .ok s0 W by
  have := hMo.look keyDg h ht170 (hz W) x.t.key false
  simp only [Bool.false_eq_true, if_false, ← hs0] at this
  exact this)
 have hdpw := (hdb.db_ dp hdb.dd).2
 have hmbw := (hdb.db_ mb hdb.dm).2
 have hsd : ∀ k, s0.ownBlock = some k → D k ∧ k ≠ mb ∧ k ≠ dp := fun k hk => hdb.drow x.t.key k (hs0 ▸ hk)
 have hsw : ∀ k, s0.ownBlock = some k → k < w.heap.size := fun k hk => (hdb.db_ k (hsd k hk).1).2
 have HDB := hid hdb
 have HX := hid hx
 have hheld : ∀ W, Foot (fun b => s0.ownBlock = some b) w W → (∀ x' ∈ L x.t.key, HeldT W x') ∧ HeldT W x := fun W hf => by
  refine ⟨fun x' hx' => ?_, hx.stayE hf.size fun k hk hkw => hf.block k hkw fun e => hxd k hk (hsd k e).1⟩
  obtain ⟨h1, h2, _⟩ := hdb.held _ x' hx'
  refine h1.stay hf.size fun k hk _ => ?_
  have hI : I k := by rcases hk with hk | hk; exact h2.1 k hk; exact h2.2 k hk
  exact hf.block k (hdb.ib k hI) fun e => hdb.di k (hsd k e).1 hI
 have HH := hid hheld
 have HBX := hid (fun (W : World) (hb : Below w.heap.size w W) => And.intro ((hb.block dp hdpw).trans hdb.db) ((hb.block mb hmbw).trans hmo))
 have HROW := hid hrow0
 have HSD := hid hsd
 have HFEW := hid (hdb.few x.t.key)
 have hdn := hdb.dne
 have HS0 := hid hs0
 have HMO := hid hMo
 clear hrow0 hmo hMo hsd hheld hdb hx hz hs0
 unfold TcM.val
 go_enter Tryz.func76, Tryz.ntmps76
 go_wp2_with first | (refine wl_box rt44 ?_; intro W0 hb0 hn0 hs0') | (refine wl_ld rt44 (range_of_heap hn0) (TcM.len _) ?_) | (go_at_call 15; refine (checkT_any x W0 (HX.out.keep hb0) hs).mono ?_; rw [hc]; rintro e W1 ⟨rfl, hb1⟩)
 have HB1 := hid (Below.chain hb0 hb1)
 have HN1 := hid ((hb1.block _ (by omega)).trans hn0)
 have hsz1 := hb1.size
 have HKeepB := hid (fun (W : World) (hb : Below W1.heap.size W1 W) => And.intro ((hb.block w.heap.size (by omega)).trans HN1.out) (HBX.out W (Below.chain HB1.out hb)))
 have HDel := hid (fun (W : World) (hb : Below W1.heap.size W1 W) (hS : W.heap[w.heap.size]? = some (.cells x.cells.toArray 44 (0, 0)) ∧ W.heap[dp]? = some (.cells #[.int .i64 8, .map (some mb)] 172 (0, 0)) ∧ W.heap[mb]? = some o) =>
  delete_any (L x.t.key) x w.heap.size B s0 W hS.1 (owns_keep HROW.out fun k hk => (Below.chain HB1.out hb).block k (hsw k hk)) (by have := HFEW.out; omega) (fun e => by have := hsw _ e; omega)
   (fun W' hf => HH.out W' (Foot.trans (Foot.of_below (Below.chain HB1.out hb)) hf fun _ _ e => e)))
 have HKeep := hid (fun (W W' : World) (hS : W.heap[w.heap.size]? = some (.cells x.cells.toArray 44 (0, 0)) ∧ W.heap[dp]? = some (.cells #[.int .i64 8, .map (some mb)] 172 (0, 0)) ∧ W.heap[mb]? = some o) (hf : Foot (fun b => s0.ownBlock = some b) W W') =>
  And.intro ((hf.block w.heap.size (lx (hid hS.1)) (fun e => by have := hsw _ e; omega)).trans hS.1) (And.intro ((hf.block dp (lx (hid hS.2.1)) (fun e => (HSD.out dp e).2.2 rfl)).trans hS.2.1) ((hf.block mb (lx (hid hS.2.2)) (fun e => (HSD.out mb e).2.1 rfl)).trans hS.2.2)))
 refine wp_region_wl (fun W => W.heap[w.heap.size]? = some (.cells x.cells.toArray 44 (0, 0)) ∧ W.heap[dp]? = some (.cells #[.int .i64 8, .map (some mb)] 172 (0, 0)) ∧ W.heap[mb]? = some o) 9 (by kernel_rfl) ?_
 intro Wd hbd
 have hS := HKeepB.out _ hbd
 refine WL.tp 0 (some 14) (hi := rfl) (.inr hS) ?_
 apply Exists.intro
 refine ⟨fun W => ?_, ?_⟩
 ·go_simp
  try rfl
 try simp only [Act.put, sA, sB, sC]
 refine WL.tp 1 (some 15) (hi := rfl) (.inr hS) ?_
 apply Exists.intro
 refine ⟨fun W => ?_, ?_⟩
 ·go_simp
  try rfl
 try simp only [Act.put, sA, sB, sC]
 refine WL.tp 2 (some 16) (hi := rfl) (.inr hS) ?_
 apply Exists.intro
 refine ⟨fun W => ?_, ?_⟩
 ·go_simp
  try rfl
 try simp only [Act.put, sA, sB, sC]
 refine WL.te 3 (some 17) (hi := rfl) hS ?_
 apply Exists.intro
 refine ⟨fun W hW => ?_, ?_⟩
 ·obtain ⟨e0, e1, e2⟩ := hW; have e3 := cell_of_row _ _ 0 _ _ _ e1; have e4 := cell_of_row _ _ 1 _ _ _ e1; have e5 := HLK.out _ e2; clear e0 e1 e2
  go_simp
  try rfl
 try simp only [Act.put, sA, sB, sC]
 refine WL.tp 4 (some 18) (hi := rfl) (.inr hS) ?_
 apply Exists.intro
 refine ⟨fun W => ?_, ?_⟩
 ·go_simp
  try rfl
 try simp only [Act.put, sA, sB, sC]
 refine WL.ld 5 (some 19) rt31 (fun W hW => (TcM.parts0 hW.1).1) (dgc_len _) (hi := rfl) hS ?_
 try simp only [Act.put, sA, sB, sC]
 refine WL.te 6 (some 20) (hi := rfl) hS ?_
 apply Exists.intro
 refine ⟨fun W hW => ?_, ?_⟩
 ·obtain ⟨e0, e1, e2⟩ := hW; have e3 := cell_of_row _ _ 0 _ _ _ e1; have e4 := cell_of_row _ _ 1 _ _ _ e1; have e5 := HLK.out _ e2; clear e0 e1 e2
  go_simp
  try rfl
 try simp only [Act.put, sA, sB, sC]
 refine WL.tp 7 (some 21) (hi := rfl) (.inr hS) ?_
 apply Exists.intro
 refine ⟨fun W => ?_, ?_⟩
 ·go_simp
  try rfl
 try simp only [Act.put, sA, sB, sC]
 refine WL.o 8 (hi := rfl) ?_
 intro K hK
 go_simp
 refine (HDel.out Wd hbd hS).mono ?_
 rintro e W2 ⟨v1, rfl, hv1, ho1, hf1⟩
 have hS2 := HKeep.out Wd W2 hS hf1
 refine hK.out _ _ (.inr hS2) ?_
 clear hK K
 try simp only [Act.put, sA, sB, sC]
 refine WL.o 9 (hi := rfl) ?_
 intro K hK
 go_simp
 refine hK.out _ _ (.inl (by kernel_rfl)) ?_
 clear hK K
 try simp only [Act.put, sA, sB, sC]
 refine WL.d ?_
 have HF2 := hid (Foot.trans (Foot.of_below (D := fun b => s0.ownBlock = some b) (Below.chain HB1.out hbd)) hf1 fun _ _ e => e)
 have HX2 := hid (HH.out W2 HF2.out)
 have HS2 := hid hS2
 have HO1 := hid ho1
 have HV1 := hid hv1
 have hg := goodT hc
 have hz2 := HF2.out.size
 have HG := hid (And.intro hg.nr hg.no)
 clear hg hS hS2 ho1 hf1 hv1 HDel HKeep HKeepB
 go_wp2_with first | (refine wl_ld rt44 (range_of_heap HS2.out.1) (TcM.len _) ?_) | (go_at_call 115; refine (cloneD_any x W2 HX2.out.2 (by have := HG.out.1; omega) (by have := HG.out.2; omega)).mono ?_; rintro e W3 ⟨y, hyt, rfl, hyr, hyo, hb3⟩; have HY3 := hid (show HeldT W3 y from ⟨rows_of_owns (by rw [hyt]; exact hyr) (by rw [hyt]; unfold maxLen; have := HG.out.1; omega), rows_of_owns (by rw [hyt]; exact hyo) (by rw [hyt]; unfold maxLen; have := HG.out.2; omega)⟩)) | (refine wl_bs (e := 44) (sz := 34) (by_ := 80) (xs := y.cells.toArray) (by decide) (by decide) (by rw [List.size_toArray]; exact TcM.len _) Tryz.underlying32 (by kernel_rfl) ?_; intro W4 hb4 hn4 hs4) | (go_at_call 120; refine (insert_any (filterT x.t (L x.t.key)) y W3.heap.size B v1 W4 ?i1 ?i2 ?i3 hn4 ?i4 ?i5 ?i6).mono ?_)
 case i1 => exact owns_keep HO1.out (fun k hk => (Below.chain hb3 hb4).block k (HO1.out.lt k hk).2)
 case i2 => exact HV1.out.cap (fun a n c e => HDB.out.cap x.t.key a n c (HS0.out.symm.trans e))
 case i3 => exact fun e => by have := (HO1.out.lt _ e).2; have := hb3.size; omega
 case i4 => exact one_flat (fun x' hx' => by
  rcases List.mem_cons.1 hx' with rfl | hx'
  ·exact HY3.out.one
  ·exact (HX2.out.1 x' (List.mem_filter.1 hx').1).one)
 case i5 => exact Nat.le_trans (List.length_filter_le _ _) (by have := HFEW.out; omega)
 case i6 => have := hb3.size; have := hb4.size; omega
 rintro e W5 ⟨v2, rfl, ho2, hk2, hf2⟩
 obtain ⟨a2, c2, rfl⟩ := owns_form ho2
 have hz3 := hb3.size
 have hz4 := hb4.size
 have hz5 := hf2.size
 have hf2' : Foot (fun b => s0.ownBlock = some b) W4 W5 := hf2.mono fun b _ e => by rw [← HV1.out.own]; exact e
 have HF35 := hid ((Foot.of_below (D := fun b => s0.ownBlock = some b) hb4).chain hf2')
 have HF25 := hid ((Foot.of_below (D := fun b => s0.ownBlock = some b) (Below.chain hb3 hb4)).chain hf2')
 have HS8 := hid (fun (W : World) (hb : Below W5.heap.size W5 W) => And.intro ((hb.block w.heap.size (by have := lx (hid HS2.out.1); omega)).trans ((HF25.out.block w.heap.size (lx (hid HS2.out.1)) (fun e => by have := hsw _ e; omega)).trans HS2.out.1)) ((hb.block dp (by omega)).trans ((HF25.out.block dp (by omega) (fun e => (HSD.out dp e).2.2 rfl)).trans HS2.out.2.1)))
 have HM8 := hid (fun (W : World) (hb : Below W5.heap.size W5 W) => (hb.block mb (by omega)).trans ((HF25.out.block mb (by omega) (fun e => (HSD.out mb e).2.1 rfl)).trans HS2.out.2.2))
 obtain ⟨m, hm⟩ : ∃ m, m = Nat.min ((filterT x.t (L x.t.key)).length + 1) 8 := ⟨_, rfl⟩
 have HUP := hid (fun (W : World) (hb : Below W5.heap.size W5 W) => show ∃ o', (Instr.mapUpdate 170 (.map (some mb)) (.agg (dgc x.t.key).toArray) (.slice a2 m c2)).run Tryz.prog W = .ok () (putObj W mb o') ∧ MapIs dgv (fun d => if d = x.t.key then some (.slice a2 m c2) else M d) o' from HMO.out.put keyDg (HM8.out W hb) ht170 x.t.key (.slice a2 m c2))
 have HO2 := hid ho2
 have HK2 := hid hk2
 have HY := hid (And.intro hyr hyo)
 have HYT := hid hyt
 have hn1 : (filterT x.t (L x.t.key)).length + 1 ≤ c2 ∧ c2 ≤ 9223372036854775807 := owns_cap ho2 (by omega)
 clear ho2 hk2 hf2 hf2' hn4 hyr hyo hyt hb3 hb4
 generalize hN : (filterT x.t (L x.t.key)).length = N at *
 have HN := hid hN
 have HM := hid hm
 have hmin : min ((N : Int) + 1) 8 = (m : Int) := by rw [hm]; simp only [Nat.min_def]; split <;> omega
 have hmc : m ≤ c2 ∧ m ≤ N + 1 ∧ 1 ≤ m := by rw [hm]; simp only [Nat.min_def]; split <;> omega
 have hmc1 := hmc.1
 clear hN hm
 go_wp2_with fail
 refine wp_region_wl (fun W => W.heap[w.heap.size]? = some (.cells x.cells.toArray 44 (0, 0)) ∧ W.heap[dp]? = some (.cells #[.int .i64 8, .map (some mb)] 172 (0, 0))) 15 (by kernel_rfl) ?_
 intro Wd8 hbd8
 have hS := HS8.out _ hbd8
 refine WL.tp 0 (some 28) (hi := rfl) (.inr hS) ?_
 apply Exists.intro
 refine ⟨fun W => ?_, ?_⟩
 ·go_simp
  try rfl
 try simp only [Act.put, sA, sB, sC]
 refine WL.tp 1 (some 29) (hi := rfl) (.inr hS) ?_
 apply Exists.intro
 refine ⟨fun W => ?_, ?_⟩
 ·go_simp
  try rfl
 try simp only [Act.put, sA, sB, sC]
 refine WL.tp 2 (some 30) (hi := rfl) (.inr hS) ?_
 apply Exists.intro
 refine ⟨fun W => ?_, ?_⟩
 ·go_simp
  try rfl
 try simp only [Act.put, sA, sB, sC]
 refine WL.te 3 (some 31) (hi := rfl) hS ?_
 apply Exists.intro
 refine ⟨fun W hW => ?_, ?_⟩
 ·obtain ⟨e0, e1⟩ := hW; have e3 := cell_of_row _ _ 0 _ _ _ e1; have e4 := cell_of_row _ _ 1 _ _ _ e1; clear e0 e1
  go_simp
  try rfl
 try simp only [Act.put, sA, sB, sC]
 refine WL.tp 4 (some 32) (hi := rfl) (.inr hS) ?_
 apply Exists.intro
 refine ⟨fun W => ?_, ?_⟩
 ·go_simp
  try rfl
 try simp only [Act.put, sA, sB, sC]
 refine WL.ld 5 (some 33) rt31 (fun W hW => (TcM.parts0 hW.1).1) (dgc_len _) (hi := rfl) hS ?_
 try simp only [Act.put, sA, sB, sC]
 refine WL.tp 6 (some 34) (hi := rfl) (.inr hS) ?_
 apply Exists.intro
 refine ⟨fun W => ?_, ?_⟩
 ·go_simp
  try rfl
 try simp only [Act.put, sA, sB, sC]
 refine WL.tp 7 (some 35) (hi := rfl) (.inr hS) ?_
 apply Exists.intro
 refine ⟨fun W => ?_, ?_⟩
 ·go_simp
  try rfl
 try simp only [Act.put, sA, sB, sC]
 refine WL.tp 8 (some 36) (hi := rfl) (.inr hS) ?_
 apply Exists.intro
 refine ⟨fun W => ?_, ?_⟩
 ·go_simp
  try rfl
 try simp only [Act.put, sA, sB, sC]
 refine WL.tp 9 (some 37) (hi := rfl) (.inr hS) ?_
 apply Exists.intro
 refine ⟨fun W => ?_, ?_⟩
 ·go_simp
  try rfl
 try simp only [Act.put, sA, sB, sC]
 refine WL.tp 10 (some 38) (hi := rfl) (.inr hS) ?_
 apply Exists.intro
 refine ⟨fun W => ?_, ?_⟩
 ·go_simp
  try rfl
 try simp only [Act.put, sA, sB, sC]
 refine WL.tp 11 (some 39) (hi := rfl) (.inr hS) ?_
 apply Exists.intro
 refine ⟨fun W => ?_, ?_⟩
 ·go_simp
  try rfl
 try simp only [Act.put, sA, sB, sC]
 refine WL.te 12 (some 40) (hi := rfl) hS ?_
 apply Exists.intro
 refine ⟨fun W hW => ?_, ?_⟩
 ·obtain ⟨e0, e1⟩ := hW; have e3 := cell_of_row _ _ 0 _ _ _ e1; have e4 := cell_of_row _ _ 1 _ _ _ e1; clear e0 e1
  go_simp
  try rfl
 try simp only [Act.put, sA, sB, sC]
 refine WL.tp 13 (some 41) (hi := rfl) (.inr hS) ?_
 apply Exists.intro
 refine ⟨fun W => ?_, ?_⟩
 ·go_simp
  try rfl
 try simp only [Act.put, sA, sB, sC]
 refine WL.tp 14 (some 42) (hi := rfl) (.inr hS) ?_
 apply Exists.intro
 refine ⟨fun W => ?_, ?_⟩
 ·go_simp
  try rfl
 try simp only [Act.put, sA, sB, sC]
 refine WL.o 15 (hi := rfl) ?_
 intro K hK
 obtain ⟨o2, hup, hM2⟩ := HUP.out Wd8 hbd8
 go_simp
 refine hK.out _ _ (.inl (by kernel_rfl)) ?_
 clear hK K
 try simp only [Act.put, sA, sB, sC]
 refine WL.d ?_
 go_wp2_with fail
 go_ret
 have hdb := HDB.out
 obtain ⟨hdm, hmn, hm1⟩ := hmc
 have hz8 := hbd8.size
 have hzp : (putObj Wd8 mb o2).heap.size = Wd8.heap.size := by simp [putObj]
 have hT : Turned mb Wd8 (putObj Wd8 mb o2) := putObj_turned (by omega) _
 have FF : Foot (fun b => s0.ownBlock = some b ∨ b = mb) w (putObj Wd8 mb o2) :=
  ((((HF2.out.mono fun b _ e => Or.inl e).chain (HF25.out.mono fun b _ e => Or.inl e)).then hbd8).trans hT.foot fun b _ e => Or.inr e)
 have hkeep2 : ∀ k, w.heap.size ≤ k → k < W3.heap.size → (putObj Wd8 mb o2).heap[k]? = W3.heap[k]? := fun k h1 h2 => by
  have h3 : (putObj Wd8 mb o2).heap[k]? = Wd8.heap[k]? := hT.foot.block k (by omega) (by omega)
  have h4 : Wd8.heap[k]? = W5.heap[k]? := hbd8.block k (by omega)
  have h5 : W5.heap[k]? = W3.heap[k]? := HF35.out.block k h2 (fun e => by have := hsw k e; omega)
  exact h3.trans (h4.trans h5)
 have hv3 : ∀ k, (Value.slice a2 m c2).ownBlock = some k → (s0.ownBlock = some k ∨ W4.heap.size ≤ k) ∧ B ≤ k ∧ k < W5.heap.size := fun k hk => by
  have hk' : (Value.slice a2 (N + 1) c2).ownBlock = some k := by rw [← hk]; cases a2 <;> rfl
  refine ⟨?_, HO2.out.lt k hk'⟩
  rcases HK2.out k hk' with h | h
  ·exact .inl (by rw [← HV1.out.own]; exact h)
  ·exact .inr h
 have hyb : ∀ k, y.rv.ownBlock = some k ∨ y.ov.ownBlock = some k → W2.heap.size ≤ k ∧ k < W3.heap.size := fun k hk => by
  rcases hk with hk | hk
  ·exact HY.out.1.lt k hk
  ·exact HY.out.2.lt k hk
 have hYY : HeldT (putObj Wd8 mb o2) y := HY3.out.stay (by omega) fun k hk hkw => hkeep2 k (by have := (hyb k hk).1; omega) hkw
 have hold : ∀ d, ∀ x' ∈ L d, HeldT (putObj Wd8 mb o2) x' := fun d x' hx' => by
  obtain ⟨h1, h2, _⟩ := hdb.held d x' hx'
  refine h1.stay FF.size fun k hk _ => ?_
  have hI : I k := by rcases hk with hk | hk; exact h2.1 k hk; exact h2.2 k hk
  exact FF.block k (hdb.ib k hI) fun e => by
   rcases e with e | e
   ·exact hdb.di k (HSD.out k e).1 hI
   ·exact hdb.di k (by rw [e]; exact hdb.dm) hI
 refine ⟨rfl, FF.mono (fun b _ e => by rcases e with e | e; exact (HSD.out b e).1; rw [e]; exact hdb.dm), fun k => D k ∨ (Value.slice a2 m c2).ownBlock = some k, fun k => I k ∨ (y.rv.ownBlock = some k ∨ y.ov.ownBlock = some k), fun d => if d = x.t.key then some (.slice a2 m c2) else M d, y, HYT.out, ?_, ?_, ?_⟩
 rotate_left
 ·intro k hk
  rcases hk with hk | hk
  ·exact .inl hk
  ·rcases (hv3 k hk).1 with h | h
   ·exact .inl (HSD.out k h).1
   ·exact .inr (by omega)
 ·intro k hk
  rcases hk with hk | hk
  ·exact .inl hk
  ·exact .inr (by have := (hyb k hk).1; omega)
 ·refine ⟨(FF.block dp hdpw (fun e => ?_)).trans hdb.db, ⟨o2, putObj_at (by omega) _, hM2⟩, fun d => ?_, fun d => ?_, fun d a n c => ?_, fun d => ?_, .inl hdb.dd, .inl hdb.dm, hdn, fun d k => ?_, fun d e k => ?_, fun k => ?_, fun k => ?_, fun k => ?_⟩
  ·rcases e with e | e
   ·exact (HSD.out dp e).2.2 rfl
   ·exact hdn e
  ·by_cases hd : d = x.t.key
   ·simp only [if_pos hd, Option.getD_some]
    have h1 := owns_take HO2.out hmn (by rw [List.length_cons, HN.out])
    have e1 : addT (L d) y = (y :: filterT x.t (L x.t.key)).take m := by
     unfold addT
     rw [hd, HYT.out, HM.out]
     rcases Nat.le_total (N + 1) 8 with h | h
     ·have h8 : Nat.min (N + 1) 8 = N + 1 := Nat.min_eq_left h
      rw [h8, List.take_of_length_le (by rw [List.length_cons, HN.out]; omega), List.take_of_length_le (by rw [List.length_cons, HN.out]; omega)]
     ·have : Nat.min (N + 1) 8 = 8 := Nat.min_eq_right h
      rw [this]
    have e2 : (addT (L d) y).length = m := by rw [e1, List.length_take, List.length_cons, HN.out]; exact Nat.min_eq_left hmn
    rw [e2, e1]
    refine owns_keep h1 fun k hk => ?_
    have h2 : (putObj Wd8 mb o2).heap[k]? = Wd8.heap[k]? := hT.foot.block k (by have := (hv3 k hk).2.2; omega) (fun e => by
     rcases (hv3 k hk).1 with h | h
     ·exact (HSD.out k h).2.1 e
     ·omega)
    exact h2.trans (hbd8.block k (hv3 k hk).2.2)
   ·simp only [if_neg hd]
    refine owns_keep (hdb.row d) fun k hk => FF.block k ((hdb.db_ k (hdb.drow d k hk).1).2) fun e => ?_
    rcases e with e | e
    ·exact hd (hdb.apart d x.t.key k hk (by rw [← HS0.out]; exact e))
    ·exact (hdb.drow d k hk).2.1 e
  ·by_cases hd : d = x.t.key
   ·simp only [if_pos hd]
    unfold addT
    rw [List.length_take]
    exact Nat.min_le_left _ _
   ·simp only [if_neg hd]
    exact hdb.few d
  ·by_cases hd : d = x.t.key
   ·simp only [if_pos hd, Option.getD_some]
    intro e
    simp only [Value.slice.injEq] at e
    omega
   ·simp only [if_neg hd]
    exact hdb.cap d a n c
  ·by_cases hd : d = x.t.key
   ·simp only [if_pos hd]
    intro x' hx'
    rcases List.mem_cons.1 (List.mem_of_mem_take hx') with rfl | hx'
    ·exact ⟨hYY, ⟨fun k hk => .inr (.inl hk), fun k hk => .inr (.inr hk)⟩, by rw [HYT.out]; exact hc, by rw [HYT.out]; exact hd.symm⟩
    ·have hx2 := (List.mem_filter.1 hx').1
     obtain ⟨h1, h2, h3, h4⟩ := hdb.held d x' hx2
     exact ⟨hold d x' hx2, ⟨fun k hk => .inl (h2.1 k hk), fun k hk => .inl (h2.2 k hk)⟩, h3, h4⟩
   ·simp only [if_neg hd]
    intro x' hx'
    obtain ⟨h1, h2, h3, h4⟩ := hdb.held d x' hx'
    exact ⟨hold d x' hx', ⟨fun k hk => .inl (h2.1 k hk), fun k hk => .inl (h2.2 k hk)⟩, h3, h4⟩
  ·by_cases hd : d = x.t.key
   ·simp only [if_pos hd, Option.getD_some]
    intro hk
    refine ⟨.inr hk, ?_⟩
    rcases (hv3 k hk).1 with h | h
    ·exact (HSD.out k h).2
    ·exact ⟨by omega, by omega⟩
   ·simp only [if_neg hd]
    intro hk
    exact ⟨.inl (hdb.drow d k hk).1, (hdb.drow d k hk).2⟩
  ·by_cases hd : d = x.t.key
   ·by_cases he : e = x.t.key
    ·intro _ _; rw [hd, he]
    ·simp only [if_pos hd, if_neg he, Option.getD_some]
     intro hk hk2
     rcases (hv3 k hk).1 with h | h
     ·exact absurd (hdb.apart e x.t.key k hk2 (by rw [← HS0.out]; exact h)) he
     ·have := (hdb.db_ k (hdb.drow e k hk2).1).2
      omega
   ·by_cases he : e = x.t.key
    ·simp only [if_neg hd, if_pos he, Option.getD_some]
     intro hk2 hk
     rcases (hv3 k hk).1 with h | h
     ·exact absurd (hdb.apart d x.t.key k hk2 (by rw [← HS0.out]; exact h)) hd
     ·have := (hdb.db_ k (hdb.drow d k hk2).1).2
      omega
    ·simp only [if_neg hd, if_neg he]
     exact hdb.apart d e k
  ·intro hD hI
   rcases hD with hD | hD
   ·rcases hI with hI | hI
    ·exact hdb.di k hD hI
    ·have := (hyb k hI).1
     have := (hdb.db_ k hD).2
     omega
   ·rcases (hv3 k hD).1 with h | h
    ·rcases hI with hI | hI
     ·exact hdb.di k (HSD.out k h).1 hI
     ·have := (hyb k hI).1
      have := hsw k h
      omega
    ·rcases hI with hI | hI
     ·have := hdb.ib k hI
      omega
     ·have := (hyb k hI).2
      omega
  ·intro hD
   rcases hD with hD | hD
   ·have := hdb.db_ k hD
    omega
   ·have := (hv3 k hD).2
    omega
  ·intro hI
   rcases hI with hI | hI
   ·have := hdb.ib k hI
    omega
   ·have := (hyb k hI).2
    omega
end Go.Proofs.YtlbipokkdiiaiaaGreatDoor
