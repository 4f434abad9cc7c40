/- Lemmas for TopWire: W31. -/
import Derived.Test.YtlbipokkdiiaiaaGreatDoorT27
import Derived.Test.YtlbipokkdiiaiaaGreatDoorT29
import Derived.Deep.LoopGhost
/- cache.put. -/
namespace Go.Proofs.YtlbipokkdiiaiaaGreatDoor
open Go.RowKit Go.Proofs.YtlbipokkdiiaiaaGreatDoor.Exec
set_option maxRecDepth 100000
def szR (l : List (Dg × List UInt8)) : Nat := (l.map fun r => r.2.length).sum
/-- The oldest rows go till there is room. -/
def fitR (most n : Nat) : List (Dg × List UInt8) → List (Dg × List UInt8)
  | [] => []
  | r :: l => if most < szR (r :: l) + n then fitR most n l else r :: l
theorem szR_plain (l : List Rw) : szR (plainR l) = sizeL l := by simp [szR, plainR, sizeL, Function.comp_def]
set_option maxHeartbeats 4000000 in
theorem put_any {B : Nat} {R : Nat → Prop} {w : World} {cb rb dp most : Nat} {l : List Rw} (hR : RingIs B R w cb rb dp most l) (x : MsgM) (hx : HeldM w x) (hB : B ≤ w.heap.size) (hd : x.data.length ≤ 1000) :
    Calls Tryz.prog 77 #[.pointer (some ⟨cb, 0, none⟩), x.val] w fun e w' =>
      (shaD x.data ≠ x.sum ∧ e = .returned (.tuple #[msg0.val, .int .i64 5]) ∧ AnsIs B R cb rb dp most w w' (plainR l)) ∨
      (shaD x.data = x.sum ∧ most < x.data.length ∧ e = .returned (.tuple #[msg0.val, .int .i64 6]) ∧ AnsIs B R cb rb dp most w w' (plainR l)) ∨
      (shaD x.data = x.sum ∧ x.data.length ≤ most ∧ e = .returned (.tuple #[(⟨7, 0, dg0, [], nilS, [], 0⟩ : MsgM).val, .int .i64 0]) ∧ AnsIs B R cb rb dp most w w' (fitR most x.data.length (without x.sum (plainR l)) ++ [(x.sum, x.data)])) := by
  have hcb := (hR.bd cb hR.rc).2
  have hrb := (hR.bd rb hR.rr).2
  have HR := hid hR
  have HX := hid hx
  have HBS := hid (And.intro hcb (And.intro hrb hB))
  have HD := hid hd
  have HMX := hid hR.mx
  have hkm := hR.cm
  have hkr := hR.cr
  unfold MsgM.val
  clear hR hx hcb hrb hB hd
  go_enter Tryz.func77, Tryz.ntmps77
  go_upto_region 1 with first | (refine wl_box rt34 ?_; intro W0 hb0 hn0 hs0) | (refine wl_al rt34 ?_; intro zs W1 hzs hb1 hn1 hs1)
  have hB1 := Below.chain hb0 hb1
  rw [hs0] at hn1
  have hn0' := (hb1.block _ (by omega)).trans hn0
  obtain ⟨n0, n1, n2, n3, n4, n5⟩ := MsgM.parts hn0'
  have HN := hid (And.intro hn0' hn1)
  have km := Below.keeps hB1 hkm
  have HKR := hid hkr
  clear n0 n1 n4 n5 hn0 hn0' hkm hkr
  have hz1 : W1.heap.size = w.heap.size + 2 := by omega
  have HZ1 := hid hz1
  by_cases hs : shaD x.data = x.sum
  · have HS := hid hs
    have HC := hid (bcheck_is x.sum x.data W1 (by have := HD.out; omega) true (decide_eq_true hs))
    clear hs
    by_cases hm : x.data.length ≤ most
    · have HM := hid hm
      have E : decide (most < x.data.length) = false := decide_eq_false (by omega)
      clear hm hz1
      go_wp2_with first | (refine wl_ld rt31 n2 (dgc_len _) ?_) | (go_at_call 47; refine (HC.out).mono ?_; rintro e W2 ⟨rfl, hb2⟩; have n3 := Below.keeps hb2 n3; have km := Below.keeps hb2 km)
      refine wp_region_wq (by kernel_rfl) (by kernel_rfl) ?_
      repeat (refine WQ.step (fun K hK => ?_); go_simp; first | (refine hK _ ?_; clear hK K) | (apply Exists.intro; refine ⟨fun W hW => ?_, hK _ ?_⟩; (first | with_reducible rfl | (have zz0 := Below.keeps hW n3; have zz1 := Below.keeps hW km; go_simp; first | rfl | exact ⟨rfl, rfl⟩ | (rw [if_neg (by omega)]; exact ⟨rfl, rfl⟩))); clear hK K))
      refine WQ.nil ?_
      intro wq hwq
      have hB3 := Below.chain hB1 (Below.chain hb2 hwq)
      have HN3 := hid (And.intro (((Below.chain hb2 hwq).block _ (by have := HZ1.out; omega)).trans HN.out.1) (((Below.chain hb2 hwq).block _ (by have := HZ1.out; omega)).trans HN.out.2))
      have HB3 := hid hB3
      have HZ3 := hid (show w.heap.size + 2 ≤ wq.heap.size by have := (Below.chain hb2 hwq).size; have := HZ1.out; omega)
      clear n2 n3 km hB3
      go_upto_region 5 with fail
      go_cut [6, 7] (fun p q wx => ((p = .pointer none ∧ q = .bool false ∧ ∀ r ∈ l, r.2.1 ≠ x.sum) ∨ ∃ l1 r l2, l = l1 ++ r :: l2 ∧ r.2.1 = x.sum ∧ p = .pointer (some ⟨r.1, 0, none⟩) ∧ q = .bool true) ∧ Below wq.heap.size wq wx)
      case first =>
        obtain ⟨ob, hob, hlk⟩ := HR.out.look x.sum
        have HK1 := hid (fun (W : World) (hb : Below wq.heap.size wq W) => And.intro ((hb.block _ (by have := HZ3.out; omega)).trans HN3.out.1) (And.intro (Below.keeps (Below.chain HB3.out hb) HKR.out) (((Below.chain HB3.out hb).block rb HBS.out.2.1).trans hob)))
        rcases hlk with ⟨hno, hl⟩ | ⟨l1, r, l2, hl12, hrd, hl⟩
        · have HLK := hid hl
          have HNO := hid hno
          clear hl hno hob
          refine wp_region_wl (fun W => W.heap[w.heap.size]? = some (.cells x.cells.toArray 34 (0, 0)) ∧ W.cell? ⟨cb, 3, none⟩ = some (.map (some rb)) ∧ W.heap[rb]? = some ob) 11 (by kernel_rfl) ?_
          intro Wd hbd
          have hS := HK1.out _ hbd
          refine WL.tp 0 (some 27) (hi := rfl) (.inr hS) ?_
          apply Exists.intro
          refine ⟨fun W => ?_, ?_⟩
          · go_simp
            try rfl
          try simp only [Act.put, List.setIfInBounds_toArray, List.set_cons_zero, List.set_cons_succ]
          refine WL.tp 1 (some 28) (hi := rfl) (.inr hS) ?_
          apply Exists.intro
          refine ⟨fun W => ?_, ?_⟩
          · go_simp
            try rfl
          try simp only [Act.put, List.setIfInBounds_toArray, List.set_cons_zero, List.set_cons_succ]
          refine WL.tp 2 (some 29) (hi := rfl) (.inr hS) ?_
          apply Exists.intro
          refine ⟨fun W => ?_, ?_⟩
          · go_simp
            try rfl
          try simp only [Act.put, List.setIfInBounds_toArray, List.set_cons_zero, List.set_cons_succ]
          refine WL.te 3 (some 30) (hi := rfl) hS ?_
          apply Exists.intro
          refine ⟨fun W hW => ?_, ?_⟩
          · obtain ⟨-, e1, e2⟩ := hW; have e3 := HLK.out _ e2; clear e2
            go_simp
            try rfl
          try simp only [Act.put, List.setIfInBounds_toArray, List.set_cons_zero, List.set_cons_succ]
          refine WL.tp 4 (some 31) (hi := rfl) (.inr hS) ?_
          apply Exists.intro
          refine ⟨fun W => ?_, ?_⟩
          · go_simp
            try rfl
          try simp only [Act.put, List.setIfInBounds_toArray, List.set_cons_zero, List.set_cons_succ]
          refine WL.ld 5 (some 32) rt31 (fun W hW => (MsgM.parts hW.1).2.2.1) (dgc_len _) (hi := rfl) hS ?_
          try simp only [Act.put, List.setIfInBounds_toArray, List.set_cons_zero, List.set_cons_succ]
          refine WL.te 6 (some 33) (hi := rfl) hS ?_
          apply Exists.intro
          refine ⟨fun W hW => ?_, ?_⟩
          · obtain ⟨-, e1, e2⟩ := hW; have e3 := HLK.out _ e2; clear e2
            go_simp
            try rfl
          try simp only [Act.put, List.setIfInBounds_toArray, List.set_cons_zero, List.set_cons_succ]
          refine WL.tp 7 (some 26) (hi := rfl) (.inr hS) ?_
          apply Exists.intro
          refine ⟨fun W => ?_, ?_⟩
          · go_simp
            try rfl
          try simp only [Act.put, List.setIfInBounds_toArray, List.set_cons_zero, List.set_cons_succ]
          refine WL.tp 8 (some 34) (hi := rfl) (.inr hS) ?_
          apply Exists.intro
          refine ⟨fun W => ?_, ?_⟩
          · go_simp
            try rfl
          try simp only [Act.put, List.setIfInBounds_toArray, List.set_cons_zero, List.set_cons_succ]
          refine WL.tp 9 (some 35) (hi := rfl) (.inr hS) ?_
          apply Exists.intro
          refine ⟨fun W => ?_, ?_⟩
          · go_simp
            try rfl
          try simp only [Act.put, List.setIfInBounds_toArray, List.set_cons_zero, List.set_cons_succ]
          refine WL.tp 10 (some 6) (hi := rfl) (.inr hS) ?_
          apply Exists.intro
          refine ⟨fun W => ?_, ?_⟩
          · go_simp
            try rfl
          try simp only [Act.put, List.setIfInBounds_toArray, List.set_cons_zero, List.set_cons_succ]
          refine WL.o 11 (hi := rfl) ?_
          intro K hK
          go_simp
          refine hK.out _ _ (.inl (by kernel_rfl)) ?_
          clear hK K
          try simp only [Act.put, List.setIfInBounds_toArray, List.set_cons_zero, List.set_cons_succ]
          refine WL.d ?_
          go_wp2_with fail
          go_meet
          exact ⟨.inl ⟨rfl, rfl, HNO.out⟩, hbd⟩
        · have HLK := hid hl
          have HNO := hid (And.intro hl12 hrd)
          clear hl hob hl12 hrd
          refine wp_region_wl (fun W => W.heap[w.heap.size]? = some (.cells x.cells.toArray 34 (0, 0)) ∧ W.cell? ⟨cb, 3, none⟩ = some (.map (some rb)) ∧ W.heap[rb]? = some ob) 11 (by kernel_rfl) ?_
          intro Wd hbd
          have hS := HK1.out _ hbd
          refine WL.tp 0 (some 27) (hi := rfl) (.inr hS) ?_
          apply Exists.intro
          refine ⟨fun W => ?_, ?_⟩
          · go_simp
            try rfl
          try simp only [Act.put, List.setIfInBounds_toArray, List.set_cons_zero, List.set_cons_succ]
          refine WL.tp 1 (some 28) (hi := rfl) (.inr hS) ?_
          apply Exists.intro
          refine ⟨fun W => ?_, ?_⟩
          · go_simp
            try rfl
          try simp only [Act.put, List.setIfInBounds_toArray, List.set_cons_zero, List.set_cons_succ]
          refine WL.tp 2 (some 29) (hi := rfl) (.inr hS) ?_
          apply Exists.intro
          refine ⟨fun W => ?_, ?_⟩
          · go_simp
            try rfl
          try simp only [Act.put, List.setIfInBounds_toArray, List.set_cons_zero, List.set_cons_succ]
          refine WL.te 3 (some 30) (hi := rfl) hS ?_
          apply Exists.intro
          refine ⟨fun W hW => ?_, ?_⟩
          · obtain ⟨-, e1, e2⟩ := hW; have e3 := HLK.out _ e2; clear e2
            go_simp
            try rfl
          try simp only [Act.put, List.setIfInBounds_toArray, List.set_cons_zero, List.set_cons_succ]
          refine WL.tp 4 (some 31) (hi := rfl) (.inr hS) ?_
          apply Exists.intro
          refine ⟨fun W => ?_, ?_⟩
          · go_simp
            try rfl
          try simp only [Act.put, List.setIfInBounds_toArray, List.set_cons_zero, List.set_cons_succ]
          refine WL.ld 5 (some 32) rt31 (fun W hW => (MsgM.parts hW.1).2.2.1) (dgc_len _) (hi := rfl) hS ?_
          try simp only [Act.put, List.setIfInBounds_toArray, List.set_cons_zero, List.set_cons_succ]
          refine WL.te 6 (some 33) (hi := rfl) hS ?_
          apply Exists.intro
          refine ⟨fun W hW => ?_, ?_⟩
          · obtain ⟨-, e1, e2⟩ := hW; have e3 := HLK.out _ e2; clear e2
            go_simp
            try rfl
          try simp only [Act.put, List.setIfInBounds_toArray, List.set_cons_zero, List.set_cons_succ]
          refine WL.tp 7 (some 26) (hi := rfl) (.inr hS) ?_
          apply Exists.intro
          refine ⟨fun W => ?_, ?_⟩
          · go_simp
            try rfl
          try simp only [Act.put, List.setIfInBounds_toArray, List.set_cons_zero, List.set_cons_succ]
          refine WL.tp 8 (some 34) (hi := rfl) (.inr hS) ?_
          apply Exists.intro
          refine ⟨fun W => ?_, ?_⟩
          · go_simp
            try rfl
          try simp only [Act.put, List.setIfInBounds_toArray, List.set_cons_zero, List.set_cons_succ]
          refine WL.tp 9 (some 35) (hi := rfl) (.inr hS) ?_
          apply Exists.intro
          refine ⟨fun W => ?_, ?_⟩
          · go_simp
            try rfl
          try simp only [Act.put, List.setIfInBounds_toArray, List.set_cons_zero, List.set_cons_succ]
          refine WL.tp 10 (some 6) (hi := rfl) (.inr hS) ?_
          apply Exists.intro
          refine ⟨fun W => ?_, ?_⟩
          · go_simp
            try rfl
          try simp only [Act.put, List.setIfInBounds_toArray, List.set_cons_zero, List.set_cons_succ]
          refine WL.o 11 (hi := rfl) ?_
          intro K hK
          go_simp
          refine hK.out _ _ (.inl (by kernel_rfl)) ?_
          clear hK K
          try simp only [Act.put, List.setIfInBounds_toArray, List.set_cons_zero, List.set_cons_succ]
          refine WL.d ?_
          go_wp2_with fail
          go_meet
          exact ⟨.inr ⟨l1, r, l2, HNO.out.1, HNO.out.2, rfl, rfl⟩, hbd⟩
      case rest =>
        obtain ⟨hpq, hbc⟩ := hcut
        have HPQ := hid hpq
        have HBC := hid (Below.chain HB3.out hbc)
        have HNC := hid (And.intro ((hbc.block _ (by have := HZ3.out; omega)).trans HN3.out.1) ((hbc.block _ (by have := HZ3.out; omega)).trans HN3.out.2))
        have HZC := hid (show w.heap.size + 2 ≤ wc.heap.size by have := hbc.size; have := HZ3.out; omega)
        clear hpq hbc
        go_upto_if 36 with fail
        go_cut [] (fun wx => (∃ l', RingIs B R wx cb rb dp most l' ∧ plainR l' = without x.sum (plainR l)) ∧ Foot R w wx ∧ wx.heap[w.heap.size]? = some (.cells x.cells.toArray 34 (0, 0)) ∧ wx.heap[w.heap.size + 1]? = some (.cells zs 34 (0, 0)))
        case first =>
          rcases HPQ.out with ⟨rfl, rfl, hno⟩ | ⟨l1, r, l2, hl12, hrd, rfl, rfl⟩
          · have HNO := hid hno
            clear hno
            go_wp2_with fail
            go_meet
            refine ⟨⟨l, HR.out.below HBC.out, ?_⟩, Foot.of_below HBC.out, HNC.out⟩
            unfold without
            rw [List.filter_eq_self.2 (fun y hy => ?_)]
            obtain ⟨r, hr, rfl⟩ := List.mem_map.1 hy
            simpa using HNO.out r hr
          · subst hl12
            have HRD := hid hrd
            clear hrd
            go_wp2_with (go_at_call 116; refine (drop_any (HR.out.below HBC.out)).mono ?_; rintro e W3 ⟨rfl, hR3, hf3, -⟩)
            go_meet
            have hRlt : ∀ k, R k → k < w.heap.size := fun k hk => (HR.out.bd k hk).2
            refine ⟨⟨l1 ++ l2, hR3, ?_⟩, Foot.trans (Foot.of_below (D := R) HBC.out) hf3 fun _ _ e => e, (hf3.block _ (by have := HZC.out; omega) (fun e => by have := hRlt _ e; omega)).trans HNC.out.1, (hf3.block _ (by have := HZC.out; omega) (fun e => by have := hRlt _ e; omega)).trans HNC.out.2⟩
            rw [← HRD.out]
            exact without_mid HR.out.dist
        case rest =>
          obtain ⟨⟨l', hR', hpl⟩, hf, hk1, hk2⟩ := hcut
          have HPL := hid hpl
          have H0 := hid (And.intro hR' (And.intro hf (And.intro hk1 hk2)))
          clear hpl hR' hf hk1 hk2
          go_wp2_with fail
          go_loopg [] l'.length (fun gk wr => ∃ l2 : List Rw, gk = l2.length ∧ RingIs B R wr cb rb dp most l2 ∧ fitR most x.data.length (plainR l2) = fitR most x.data.length (plainR l') ∧ Foot R w wr ∧ wr.heap[w.heap.size]? = some (.cells x.cells.toArray 34 (0, 0)) ∧ wr.heap[w.heap.size + 1]? = some (.cells zs 34 (0, 0)) ∧ ∀ r ∈ l2, r.2.1 ≠ x.sum)
          case atStart =>
            refine ⟨l', rfl, H0.out.1, rfl, H0.out.2.1, H0.out.2.2.1, H0.out.2.2.2, fun r hr => ?_⟩
            have : r.2 ∈ without x.sum (plainR l) := by rw [← HPL.out]; exact List.mem_map.2 ⟨r, hr, rfl⟩
            simpa using (List.mem_filter.1 this).2
          case round =>
            obtain ⟨l2, hgk, hR2, hfit, hf, hk1, hk2, hne⟩ := hrel
            obtain ⟨q0, q1, q2, n3, q4, q5⟩ := MsgM.parts hk1
            have ks := hR2.cs
            have km := hR2.cm
            have HR2 := hid hR2
            have HF := hid (And.intro hfit (And.intro hf (And.intro hk1 (And.intro hk2 (And.intro hgk hne)))))
            have hlt : ∀ k, R k → k < w.heap.size := fun k hk => (HR.out.bd k hk).2
            have HLT := hid hlt
            have hwrap : IntKind.i64.wrap ((sizeL l2 : Int) + (x.data.length : Int)) = (sizeL l2 : Int) + (x.data.length : Int) := by
              have := hR2.fit
              have := HMX.out
              have := HD.out
              rw [IntKind.wrap_i64]; omega
            clear hR2 hfit hf hk1 hk2 hgk hne hlt q0 q1 q2 q4 q5
            by_cases hfull : most < sizeL l2 + x.data.length
            · have E2 : decide ((most : Int) < (sizeL l2 : Int) + (x.data.length : Int)) = true := decide_eq_true (by omega)
              have HFU := hid hfull
              clear hfull
              cases l2 with
              | nil => have h1 := HFU.out; have h2 := HM.out; simp [sizeL] at h1; omega
              | cons r rest =>
                have kn : wr.cell? ⟨cb, 38, none⟩ = some (.pointer (some ⟨r.1, 0, none⟩)) := HR2.out.ch.1.nw
                go_wp2_with fail
                refine wp_region_wq (by kernel_rfl) (by kernel_rfl) ?_
                repeat (refine WQ.step (fun K hK => ?_); go_simp; first | (refine hK _ ?_; clear hK K) | (apply Exists.intro; refine ⟨fun W hW => ?_, hK _ ?_⟩; (first | with_reducible rfl | (have zz0 := Below.keeps hW ks; have zz1 := Below.keeps hW n3; have zz2 := Below.keeps hW km; go_simp; first | rfl | exact ⟨rfl, rfl⟩ | (rw [if_neg (by omega)]; exact ⟨rfl, rfl⟩))); clear hK K))
                refine WQ.nil ?_
                intro wz hwz
                have kn1 := Below.keeps hwz kn
                go_wp2_with (go_at_call 116; refine (drop_any (l1 := []) (r := r) (l2 := rest) (HR2.out.below hwz)).mono ?_; rintro e W5 ⟨rfl, hR5, hf5, -⟩)
                obtain ⟨hfit, hf, hk1, hk2, hgk, hne⟩ := HF.out
                have hzz := hwz.size
                have hz0 : w.heap.size + 2 ≤ wr.heap.size := by have := lx (hid hk2); omega
                go_roundg rest.length
                case measure => rw [hgk, List.length_cons]; omega
                case rel =>
                  refine ⟨rest, rfl, hR5, ?_, (hf.then hwz).chain hf5, (hf5.block _ (by omega) (fun e => by have := HLT.out _ e; omega)).trans ((hwz.block _ (by omega)).trans hk1), (hf5.block _ (by omega) (fun e => by have := HLT.out _ e; omega)).trans ((hwz.block _ (by omega)).trans hk2), fun y hy => hne y (List.mem_cons_of_mem _ hy)⟩
                  rw [← hfit]
                  have e1 : plainR (r :: rest) = r.2 :: plainR rest := rfl
                  rw [e1, fitR, if_pos (by rw [← e1, szR_plain]; exact HFU.out)]
            · have E2 : decide ((most : Int) < (sizeL l2 : Int) + (x.data.length : Int)) = false := decide_eq_false (by omega)
              have HFU := hid hfull
              have n2 := (MsgM.parts HF.out.2.2.1).2.2.1
              clear hfull
              go_wp2_with fail
              refine wp_region_wq (by kernel_rfl) (by kernel_rfl) ?_
              repeat (refine WQ.step (fun K hK => ?_); go_simp; first | (refine hK _ ?_; clear hK K) | (apply Exists.intro; refine ⟨fun W hW => ?_, hK _ ?_⟩; (first | with_reducible rfl | (have zz0 := Below.keeps hW ks; have zz1 := Below.keeps hW n3; have zz2 := Below.keeps hW km; go_simp; first | rfl | exact ⟨rfl, rfl⟩ | (rw [if_neg (by omega)]; exact ⟨rfl, rfl⟩))); clear hK K))
              refine WQ.nil ?_
              intro wz hwz
              have n2z := range_keeps hwz n2
              have n3z := Below.keeps hwz n3
              have hzz := hwz.size
              go_wp2_with first | (refine wl_ld rt31 n2z (dgc_len _) ?_) | (go_at_call 117; refine (last_any (HR2.out.below hwz) x.sum x.data HF.out.2.2.2.2.2 HD.out (by have := HFU.out; omega) (by have := HBS.out.2.2; have := HF.out.2.1.size; omega)).mono ?_; rintro e W6 ⟨rfl, hf6, b6, R6, hR6, hk6⟩; have hn6 := (hf6.block _ (by have := lx (hid HF.out.2.2.2.1); omega) (fun e => by have := HLT.out _ e; omega)).trans ((hwz.block _ (lx (hid HF.out.2.2.2.1))).trans HF.out.2.2.2.1)) | (refine wl_run (r_build (built_kind 7) rfl (by simp only [List.map_toArray, List.map_cons, List.map_nil]; rfl)) ?_) | (refine wl_st (xs := (msgC 7 0 dg0 [] nilS 0).toArray) rt34 hn6 hzs (by rw [List.size_toArray, msgC_len]) (msgC_one rfl) ?_; intro W7 ht7 hn7 hs7)
              obtain ⟨hfit, hf, hk1, hk2, hgk, hne⟩ := HF.out
              have hz6 := hf6.size
              have hzr := hf.size
              refine br2 _ hn7 (.inr (.inr ⟨HS.out, HM.out, rfl, ?_⟩)) (hu := Tryz.underlying34) (hi := by rw [List.size_toArray, msgC_len]; kernel_rfl)
              refine ⟨((hf.then hwz).chain hf6).trans ht7.foot (fun b hb e => by omega), l2 ++ [(b6, x.sum, x.data)], R6, hR6.keep ht7.foot fun k hk e => ?_, ?_, fun k hk => ?_⟩
              · rcases hk6 k hk with h | h
                · have := HLT.out k h; omega
                · have := lx (hid hk2); omega
              · have e1 : plainR (l2 ++ [(b6, x.sum, x.data)]) = plainR l2 ++ [(x.sum, x.data)] := by simp [plainR]
                rw [e1, ← HPL.out, ← hfit]
                congr 1
                cases l2 with
                | nil => rfl
                | cons r rest =>
                  have e2 : plainR (r :: rest) = r.2 :: plainR rest := rfl
                  rw [e2, fitR, if_neg (by rw [← e2, szR_plain]; exact HFU.out)]
              · rcases hk6 k hk with h | h
                · exact .inl h
                · exact .inr (by omega)
    · have HM := hid hm
      have E : decide (most < x.data.length) = true := decide_eq_true (by omega)
      clear hm hz1
      go_wp2_with first | (refine wl_ld rt31 n2 (dgc_len _) ?_) | (go_at_call 47; refine (HC.out).mono ?_; rintro e W2 ⟨rfl, hb2⟩; have n3 := Below.keeps hb2 n3; have km := Below.keeps hb2 km)
      refine wp_region_wq (by kernel_rfl) (by kernel_rfl) ?_
      repeat (refine WQ.step (fun K hK => ?_); go_simp; first | (refine hK _ ?_; clear hK K) | (apply Exists.intro; refine ⟨fun W hW => ?_, hK _ ?_⟩; (first | with_reducible rfl | (have zz0 := Below.keeps hW n3; have zz1 := Below.keeps hW km; go_simp; first | rfl | exact ⟨rfl, rfl⟩ | (rw [if_neg (by omega)]; exact ⟨rfl, rfl⟩))); clear hK K))
      refine WQ.nil ?_
      intro wq hwq
      have hn4 := ((Below.chain hb2 hwq).block _ (by have := HZ1.out; omega)).trans HN.out.2
      go_wp2_with first | (refine wl_run (r_build built_done rfl (by simp only [List.map_toArray, List.map_nil])) ?_) | (refine wl_st (xs := msg0.cells.toArray) rt34 hn4 hzs (by rw [List.size_toArray]; exact MsgM.len _) (msgC_one rfl) ?_; intro W4 ht4 hn4' hs4)
      refine br2 _ hn4' (.inr (.inl ⟨HS.out, by have := HM.out; omega, rfl, ?_⟩)) (hu := Tryz.underlying34) (hi := by rw [List.size_toArray, MsgM.len]; kernel_rfl)
      have hb4 : Below w.heap.size w W4 := (Below.chain hB1 (Below.chain hb2 hwq)).trans (ht4.below (by omega))
      exact ⟨Foot.of_below hb4, _, R, HR.out.below hb4, rfl, fun k hk => .inl hk⟩
  · have HS := hid hs
    have HC := hid (bcheck_is x.sum x.data W1 (by have := HD.out; omega) false (decide_eq_false hs))
    clear hs hz1
    go_wp2_with first | (refine wl_ld rt31 n2 (dgc_len _) ?_) | (go_at_call 47; refine (HC.out).mono ?_; rintro e W2 ⟨rfl, hb2⟩; have hn4 := (hb2.block _ (by have := HZ1.out; omega)).trans HN.out.2) | (refine wl_run (r_build built_done rfl (by simp only [List.map_toArray, List.map_nil])) ?_) | (refine wl_st (xs := msg0.cells.toArray) rt34 hn4 hzs (by rw [List.size_toArray]; exact MsgM.len _) (msgC_one rfl) ?_; intro W4 ht4 hn4' hs4)
    refine br2 _ hn4' (.inl ⟨HS.out, rfl, ?_⟩) (hu := Tryz.underlying34) (hi := by rw [List.size_toArray, MsgM.len]; kernel_rfl)
    have hb4 : Below w.heap.size w W4 := (Below.chain hB1 hb2).trans (ht4.below (by omega))
    exact ⟨Foot.of_below hb4, _, R, HR.out.below hb4, rfl, fun k hk => .inl hk⟩
end Go.Proofs.YtlbipokkdiiaiaaGreatDoor
