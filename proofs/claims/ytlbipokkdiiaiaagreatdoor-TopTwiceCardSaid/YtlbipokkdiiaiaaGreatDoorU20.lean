/- Lemmas for TopTwice: W27, W28, W38, ShaTurn, ShaWord, ShaProg. -/
import Derived.Test.YtlbipokkdiiaiaaGreatDoorU19
import Derived.Test.YtlbipokkdiiaiaaGreatDoorU15
import Derived.Test.YtlbipokkdiiaiaaGreatDoorU14
import Derived.Deep.DeepCutAuto
import Derived.Test.YtlbipokkdiiaiaaGreatDoorU17
import Derived.Test.YtlbipokkdiiaiaaGreatDoorChecked
import Derived.Deep.QuietTactic
import Derived.Test.YtlbipokkdiiaiaaGreatDoorU10
import Derived.Deep.AppendLies
import Derived.Deep.RegionWith
import Derived.Laws.Tables
import Derived.Laws.Rows
open List renaming setIfInBounds_toArray → sA, set_cons_zero → sB, set_cons_succ → sC
namespace Go.Proofs.YtlbipokkdiiaiaaGreatDoor
open Go.RowKit Go.Proofs.YtlbipokkdiiaiaaGreatDoor.Exec
set_option maxRecDepth 100000
section
variable {o : Oper} {a : Act} {w : World} {Q : Exit → Act → World → Prop} {K : Act → World → Prop}
theorem wp_al {ty n : Nat} (_ : RowTy ty n)
  (h : ∀ (zs : Array Value) (W1 : World), zs.size = n → Below w.heap.size w W1 → W1.heap[w.heap.size]? = some (.cells zs ty (0, 0)) → W1.heap.size = w.heap.size + 1 → K (a.put o.dst (.pointer (some ⟨w.heap.size, 0, none⟩))) W1)
  (ho : o.op = .alloc ty := by rfl) (hz : zeroOk ty n = true := by kernel_rfl) : Oper.wp Tryz.prog o a w K Q := by
 obtain ⟨zs, hzs, hz⟩ := zeroOk_out hz
 unfold Oper.wp execOp
 simp only [ho, Sem.run_bind, run_alloc_row w hz, Result.andThen_ok, Sem.run_pure]
 exact h zs _ hzs (below_new w _) (heap_alloc_new w _) (by rw [World.size_alloc])
theorem wp_st {ty n r : Nat} {xs old : Array Value} {x y : Operand} {t : TypeId} (rt : RowTy ty n) (hr : w.heap[r]? = some (.cells old t (0, 0))) (hold : old.size = n) (hs : xs.size = n) (h1 : ∀ u ∈ xs.toList, u.oneCell' = true)
  (h : ∀ W1, Turned r w W1 → W1.heap[r]? = some (.cells xs t (0, 0)) → W1.heap.size = w.heap.size → K (a.put o.dst undef) W1)
  (ho : o.op = .store ty x y := by rfl) (hx : a.eval x = .pointer (some ⟨r, 0, none⟩) := by rfl) (hy : a.eval y = .agg xs := by rfl) : Oper.wp Tryz.prog o a w K Q := by
 obtain ⟨d, _, _, h3⟩ := rt.out
 have hlt : r < w.heap.size := (Array.getElem?_eq_some_iff.1 hr).1
 have hst := run_storeVar_row (P := Tryz.prog) w r t ty old xs hr (by rw [h3, hs]) (by rw [hold, hs]) (by rw [← Array.toArray_toList (xs := xs)]; exact all_oneCell_toArray h1)
 unfold Oper.wp execOp
 simp only [ho, hx, hy, Instr.storeAt, Instr.sureAddr, Sem.run_bind, Sem.run_pure, Result.andThen_ok, hst]
 exact h _ ⟨hlt, rfl, rfl, rfl, by simp, fun k _ hne => setRow_other _ _ _ _ hne⟩ (setRow_heap _ _ _ _ _ _ hr) (by simp)
end
theorem r_idx {o : Oper} {a : Act} {w : World} {x y : Operand} (k : Nat) (hk : k ≤ 8) (ho : o.op = .index 176 x y) (hx : a.eval x = .agg tableC.toArray) (hy : a.eval y = .int .i64 k) :
  (execOp a.eval o).run Tryz.prog w = .ok (.value (.agg (hasC (hasL k)).toArray)) w := by
 have hu : Tryz.prog.underlying 176 = some (.array 9 175) := by kernel_rfl
 have hu2 : ∃ fs, Tryz.prog.underlying 175 = some (.struct fs) := ⟨_, Tryz.underlying175⟩
 obtain ⟨fs, hu2⟩ := hu2
 have hsz : (Tryz.prog.info? 175).map (·.size) = some 5 := by kernel_rfl
 have hx5 := table_at k hk
 unfold execOp
 cases hq : Tryz.prog.info? 175 with
 | none => rw [hq] at hsz; cases hsz
 | some i =>
   have hi : i.size = 5 := by rw [hq] at hsz; simpa using hsz
   have h0 : (asIntOf (.int .i64 (k : Int))).run Tryz.prog w = .ok (.i64, (k : Int)) w := rfl
   have h9 : (k : Int) < 9 := by omega
   simp [ho, hx, hy, h0, h9, Instr.index, run_underlying hu, part, isAgg, run_underlying hu2, sizeOf, typeInfo, hq, hi, hx5]
end Go.Proofs.YtlbipokkdiiaiaaGreatDoor
namespace Go.Proofs.YtlbipokkdiiaiaaGreatDoor
open Go.RowKit Go.Proofs.YtlbipokkdiiaiaaGreatDoor.Exec
set_option maxRecDepth 100000
theorem hasC_parts {w : World} {b : Nat} {h : HasL} (hb : w.heap[b]? = some (.cells (hasC h).toArray 175 (0, 0))) : w.cell? ⟨b, 0, none⟩ = some (.bool h.sum) ∧ w.cell? ⟨b, 1, none⟩ = some (.bool h.data) ∧ w.cell? ⟨b, 2, none⟩ = some (.bool h.why) ∧ w.cell? ⟨b, 3, none⟩ = some (.int .i64 h.least) ∧ w.cell? ⟨b, 4, none⟩ = some (.int .i64 h.traces) := by
 refine ⟨?_, ?_, ?_, ?_, ?_⟩ <;> (rw [cell_of_row _ _ _ _ _ _ hb]; rfl)
theorem hasC_one (h : HasL) : ∀ u ∈ (hasC h).toArray.toList, u.oneCell' = true := by
 intro u hu
 simp only [hasC, List.mem_cons, List.not_mem_nil, or_false] at hu
 rcases hu with rfl | rfl | rfl | rfl | rfl <;> rfl
theorem checkT_is (x : TcM) (w : World) (hx : HeldT w x) (hs : SmallT x.t) (r : Int) (hr : checkT x.t = r) :
  Calls Tryz.prog 15 #[x.val] w fun e w' => e = .returned (.int .i64 r) ∧ Below w.heap.size w w' := hr ▸ checkT_any x w hx hs
set_option maxHeartbeats 4000000 in
theorem checkM_any (x : MsgM) (w : World) (hx : HeldM w x) (hk0 : -9223372036854775808 ≤ x.kind) (hk1 : x.kind ≤ 9223372036854775807) (hd : x.data.length ≤ 1000000000000) (hs : ∀ t ∈ x.ts, SmallT t.t) :
  Calls Tryz.prog 34 #[x.val] w fun e w' => e = .returned (.int .i64 (checkM x.l)) ∧ Below w.heap.size w w' := by
 obtain ⟨a0, c0, htv, hc0, hm0, -, hrow⟩ := hx.1.out TcM.len (by omega)
 unfold MsgM.val
 have HX := hid hx
 have HS := hid hs
 have HROW := hid hrow
 have HCM := hid (show checkM x.l = if x.kind < 1 ∨ x.kind > 8 then 1 else if argB x.l = true then 1 else if x.data.length > 65536 ∨ x.ts.length > 8 then 6 else tracesE (x.ts.map (·.t)) by unfold checkM MsgM.l; simp)
 unfold maxLen at hm0
 have HTV := hid htv
 clear hx hs hrow
 go_enter Tryz.func34, Tryz.ntmps34
 go_upto_region 1 with first | (refine wl_box (n := 37) (xs := x.cells.toArray) ⟨_, Tryz.underlying34, rfl, by kernel_rfl⟩ ?_; intro W0 hb0 hn0 hs0)
 obtain ⟨m0, m1, m2, m3, m4, m5⟩ := MsgM.parts hn0
 rw [htv] at m4
 have HN0 := hid hn0
 have HB0 := hid hb0
 clear hn0 htv
 by_cases hkind : x.kind < 1 ∨ x.kind > 8
 ·have HK := hid hkind
  rcases hkind with h1 | h8
  ·have e1 : decide (x.kind < 1) = true := decide_eq_true h1
   go_wp2_with fail
   go_ret
   exact ⟨by rw [HCM.out, if_pos HK.out]; rfl, HB0.out⟩
  ·have e1 : decide (x.kind < 1) = false := decide_eq_false (by omega)
   have e2 : decide (8 < x.kind) = true := decide_eq_true h8
   go_wp2_with fail
   go_ret
   exact ⟨by rw [HCM.out, if_pos HK.out]; rfl, HB0.out⟩
 ·have HK := hid hkind
  obtain ⟨k, hk⟩ : ∃ k : Nat, x.kind = k := ⟨x.kind.toNat, by omega⟩
  have hk8 : k ≤ 8 := by omega
  have hk1' : 1 ≤ k := by omega
  have HKN := hid hk
  rw [hk] at m0 hk0 hk1
  have e1 : decide ((k : Int) < 1) = false := decide_eq_false (by omega)
  have e2 : decide ((8 : Int) < (k : Int)) = false := decide_eq_false (by omega)
  clear hk hkind
  go_upto_region 3 with fail
  go_cut [3] (fun p wx => ∃ hb, p = .pointer (some ⟨hb, 0, none⟩) ∧ wx.heap[hb]? = some (.cells (hasC (hasL k)).toArray 175 (0, 0)) ∧ Below W0.heap.size W0 wx)
  case first =>
   refine wp_region_wl (fun W => W.cell? ⟨w.heap.size, 0, none⟩ = some (.int .i64 k)) 5 (by kernel_rfl) ?_
   intro Wd hbd
   have hS := Below.keeps hbd m0
   refine WL.tp 1 (some 16) (hi := rfl) (.inr hS) ?_
   apply Exists.intro
   refine ⟨fun W => ?_, ?_⟩
   ·go_simp
    try rfl
   try simp only [Act.put, sA, sB, sC]
   refine WL.te 2 (some 17) (hi := rfl) hS ?_
   apply Exists.intro
   refine ⟨fun W hW => ?_, ?_⟩
   ·have e0 := hW
    go_simp
    try rfl
   try simp only [Act.put, sA, sB, sC]
   refine WL.tw 0 4 ?_ ?_ (hi := rfl) (hj := rfl)
   ·intro K hK
    go_simp
    refine (table_any _).mono ?_
    rintro e w1 ⟨rfl, hb1⟩
    have hS1 := Below.keeps hb1 hS
    refine hK.out _ _ (.inr hS1) ?_
    clear hK K
    try simp only [Act.put, sA, sB, sC]
    refine WL.tp 3 (some 18) (hi := rfl) (.inr hS1) ⟨_, fun W => r_idx k hk8 rfl rfl rfl, ?_⟩
    try simp only [Act.put, sA, sB, sC]
    refine WL.o 4 (hi := rfl) ?_
    intro K hK
    refine wp_al rt175 ?_
    intro zs W2 hzs hb2 hn2 hs2
    refine hK.out _ _ (.inr (Below.keeps hb2 hS1)) ?_
    clear hK K
    go_simp
    try simp only [Act.put, sA, sB, sC]
    refine WL.o 5 (hi := rfl) ?_
    intro K hK
    refine wp_st (xs := (hasC (hasL k)).toArray) rt175 hn2 hzs rfl (hasC_one _) ?_
    intro W3 ht3 hn3 hs3
    refine hK.out _ _ (.inl (by kernel_rfl)) ?_
    clear hK K
    try simp only [Act.put, sA]
    refine WL.d ?_
    go_wp2_with fail
    go_meet
    have hz1 := hbd.size
    have hz2 := hb1.size
    exact ⟨_, rfl, hn3, (Below.chain (Below.chain hbd hb1) hb2).trans (ht3.below (by omega))⟩
   ·intro K hK
    refine wp_al rt175 ?_
    intro zs W2 hzs hb2 hn2 hs2
    have hS1 := Below.keeps hb2 hS
    refine hK.out _ _ (.inr hS1) ?_
    clear hK K
    try simp only [Act.put, sA]
    refine WL.o 0 (hi := rfl) ?_
    intro K hK
    go_simp
    refine (table_any _).mono ?_
    rintro e w1 ⟨rfl, hb1⟩
    have hS2 := Below.keeps hb1 hS1
    refine hK.out _ _ (.inr hS2) ?_
    clear hK K
    try simp only [Act.put, sA, sB, sC]
    refine WL.tp 3 (some 18) (hi := rfl) (.inr hS2) ⟨_, fun W => r_idx k hk8 rfl rfl rfl, ?_⟩
    try simp only [Act.put, sA, sB, sC]
    refine WL.o 5 (hi := rfl) ?_
    intro K hK
    refine wp_st (xs := (hasC (hasL k)).toArray) rt175 ((hb1.block _ (lx (hid hn2))).trans hn2) hzs rfl (hasC_one _) ?_
    intro W3 ht3 hn3 hs3
    refine hK.out _ _ (.inl (by kernel_rfl)) ?_
    clear hK K
    try simp only [Act.put, sA]
    refine WL.d ?_
    go_wp2_with fail
    go_meet
    have hz1 := hbd.size
    exact ⟨_, rfl, hn3, (Below.chain (Below.chain hbd hb2) hb1).trans (ht3.below (by omega))⟩
  case rest =>
   obtain ⟨hb, rfl, hhb, hbw⟩ := hcut
   obtain ⟨H, hH⟩ : ∃ H, H = hasL (k : Int) := ⟨_, rfl⟩
   rw [← hH] at hhb
   obtain ⟨g0, g1, g2, g3, g4⟩ := hasC_parts hhb
   have n2 := range_keeps hbw m2
   have n3 := Below.keeps hbw m3
   have n4 := Below.keeps hbw m4
   have n5 := Below.keeps hbw m5
   have HARG := hid (show argB x.l = ((!H.sum && !decide (x.sum = dg0)) || (!H.data && !x.data.isEmpty) || (H.traces == 0 && decide (0 < x.ts.length)) || (H.least == 1 && !(x.ts.length == 1)) || (!H.why && !(x.why == 0)) || (H.why && (decide (x.why < 1) || decide (x.why > 19)))) by
    have hl : x.l.traces.length = x.ts.length := by simp [MsgM.l]
    have hkk : hasL x.l.kind = H := by rw [hH]; exact congrArg hasL HKN.out
    unfold argB
    rw [hl, hkk]
    rfl)
   obtain ⟨hs, hd', hw, hle, htr⟩ := H
   simp only at g0 g1 g2 g3 g4 HARG
   have HB := hid (Below.chain HB0.out hbw)
   have HHB := hid hhb
   clear hhb hbw hH m0 m1 m2 m3 m4 m5
   go_upto_region 4 with fail
   go_cut [19] (fun b wx => b = .bool (!hs && !decide (x.sum = dg0)) ∧ wx = wc)
   case first =>
    cases hs with
    | true =>
      go_wp2_with fail
      go_meet
      exact ⟨rfl, rfl⟩
    | false =>
      by_cases hq : x.sum = dg0
      ·have E := eqt_is (eqt31 x.sum dg0) true (decide_eq_true hq)
       have HQ := hid hq
       clear hq
       go_wp2_with first | (refine wl_ld rt31 n2 (dgc_len _) ?_) | (refine wl_run (r_build31 rfl) ?_) | (refine wl_neq E ?_)
       go_meet
       exact ⟨by rw [decide_eq_true HQ.out]; rfl, rfl⟩
      ·have E := eqt_is (eqt31 x.sum dg0) false (decide_eq_false hq)
       have HQ := hid hq
       clear hq
       go_wp2_with first | (refine wl_ld rt31 n2 (dgc_len _) ?_) | (refine wl_run (r_build31 rfl) ?_) | (refine wl_neq E ?_)
       go_meet
       exact ⟨by rw [decide_eq_false HQ.out]; rfl, rfl⟩
   case rest =>
    obtain ⟨rfl, rfl⟩ := hcut
    generalize (!hs && !decide (x.sum = dg0)) = c1 at *
    go_upto_if 19 with fail
    go_cut [19] (fun b wx => b = .bool (argB x.l) ∧ wx = wc)
    case first =>
     cases c1 with
     | true =>
       go_wp2_with fail
       go_meet
       exact ⟨by rw [HARG.out]; simp, rfl⟩
     | false =>
       go_upto_region 5 with fail
       go_cut [19] (fun b wx => b = .bool (!hd' && !x.data.isEmpty) ∧ wx = wc)
       case first =>
        cases hd' with
        | true =>
          go_wp2_with fail
          go_meet
          exact ⟨by simp, rfl⟩
        | false =>
          by_cases hq : x.data = []
          ·have E := (show (x.data == ([] : List UInt8)) = true by rw [hq]; rfl)
           have E3 := hid (show x.data.isEmpty = true by rw [hq]; rfl)
           clear hq
           go_wp2_with fail
           go_meet
           exact ⟨by simp [E3.out], rfl⟩
          ·have E := (show (x.data == ([] : List UInt8)) = false by simpa using hq)
           have E3 := hid (show x.data.isEmpty = false by simpa using hq)
           clear hq
           go_wp2_with fail
           go_meet
           exact ⟨by simp [E3.out], rfl⟩
       case rest =>
        obtain ⟨rfl, rfl⟩ := hcut
        generalize (!hd' && !x.data.isEmpty) = c2 at *
        cases c2 with
        | true =>
          go_wp2_with fail
          go_meet
          exact ⟨by rw [HARG.out]; simp, rfl⟩
        | false =>
          go_upto_region 6 with fail
          go_cut [19] (fun b wx => b = .bool (htr == 0 && decide (0 < x.ts.length)) ∧ wx = wc)
          case first =>
           by_cases hq : htr = 0
           ·have E := eqT hq
            have E1 := hid E
            clear hq
            by_cases hr : 0 < x.ts.length
            ·have G := decide_eq_true hr
             have G1 := hid G
             clear hr
             go_wp2_with fail
             go_meet
             exact ⟨by simp [E1.out, G1.out], rfl⟩
            ·have G := decide_eq_false hr
             have G1 := hid G
             clear hr
             go_wp2_with fail
             go_meet
             exact ⟨by simp [E1.out, G1.out], rfl⟩
           ·have E := eqF hq
            have E1 := hid E
            clear hq
            go_wp2_with fail
            go_meet
            exact ⟨by simp [E1.out], rfl⟩
          case rest =>
           obtain ⟨rfl, rfl⟩ := hcut
           generalize (htr == 0 && decide (0 < x.ts.length)) = c3 at *
           cases c3 with
           | true =>
             go_wp2_with fail
             go_meet
             exact ⟨by rw [HARG.out]; simp, rfl⟩
           | false =>
             go_upto_region 7 with fail
             go_cut [19] (fun b wx => b = .bool (hle == 1 && !(x.ts.length == 1)) ∧ wx = wc)
             case first =>
              by_cases hq : hle = 1
              ·have E := eqT hq
               have E1 := hid E
               clear hq
               by_cases hr : x.ts.length = 1
               ·have G : ((x.ts.length : Int) != 1) = false := neF (by omega)
                have G1 := hid hr
                clear hr
                go_wp2_with fail
                go_meet
                exact ⟨by simp [E1.out, G1.out], rfl⟩
               ·have G : ((x.ts.length : Int) != 1) = true := neT (by omega)
                have G1 := hid hr
                clear hr
                go_wp2_with fail
                go_meet
                exact ⟨by simp [E1.out, G1.out], rfl⟩
              ·have E := eqF hq
               have E1 := hid E
               clear hq
               go_wp2_with fail
               go_meet
               exact ⟨by simp [E1.out], rfl⟩
             case rest =>
              obtain ⟨rfl, rfl⟩ := hcut
              generalize (hle == 1 && !(x.ts.length == 1)) = c4 at *
              cases c4 with
              | true =>
                go_wp2_with fail
                go_meet
                exact ⟨by rw [HARG.out]; simp, rfl⟩
              | false =>
                go_upto_region 8 with fail
                go_cut [19] (fun b wx => b = .bool (!hw && !(x.why == 0)) ∧ wx = wc)
                case first =>
                 cases hw with
                 | true =>
                   go_wp2_with fail
                   go_meet
                   exact ⟨by simp, rfl⟩
                 | false =>
                   by_cases hq : x.why = 0
                   ·have E : (x.why != 0) = false := neF hq
                    have E1 := hid hq
                    clear hq
                    go_wp2_with fail
                    go_meet
                    exact ⟨by simp [E1.out], rfl⟩
                   ·have E : (x.why != 0) = true := neT hq
                    have E1 := hid hq
                    clear hq
                    go_wp2_with fail
                    go_meet
                    exact ⟨by simp [E1.out], rfl⟩
                case rest =>
                 obtain ⟨rfl, rfl⟩ := hcut
                 generalize (!hw && !(x.why == 0)) = c5 at *
                 cases c5 with
                 | true =>
                   go_wp2_with fail
                   go_meet
                   exact ⟨by rw [HARG.out]; simp, rfl⟩
                 | false =>
                   go_upto_region 9 with fail
                   go_cut [19] (fun b wx => b = .bool (hw && (decide (x.why < 1) || decide (x.why > 19))) ∧ wx = wc)
                   case first =>
                    cases hw with
                    | true =>
                      by_cases hq : x.why < 1
                      ·have E := decide_eq_true hq
                       have E1 : Hid (decide (x.why < 1) = true) := hid E
                       clear hq
                       go_wp2_with fail
                       go_meet
                       exact ⟨by rw [E1.out]; rfl, rfl⟩
                      ·have E := decide_eq_false hq
                       have E1 : Hid (decide (x.why < 1) = false) := hid E
                       clear hq
                       by_cases hr : x.why > 19
                       ·have G : decide (19 < x.why) = true := decide_eq_true hr
                        have G1 : Hid (decide (x.why > 19) = true) := hid G
                        clear hr
                        go_wp2_with fail
                        go_meet
                        exact ⟨by rw [E1.out, G1.out]; rfl, rfl⟩
                       ·have G : decide (19 < x.why) = false := decide_eq_false hr
                        have G1 : Hid (decide (x.why > 19) = false) := hid G
                        clear hr
                        go_wp2_with fail
                        go_meet
                        exact ⟨by rw [E1.out, G1.out]; rfl, rfl⟩
                    | false =>
                      go_wp2_with fail
                      go_meet
                      exact ⟨by simp, rfl⟩
                   case rest =>
                    obtain ⟨rfl, rfl⟩ := hcut
                    generalize (hw && (decide (x.why < 1) || decide (x.why > 19))) = c6 at *
                    go_wp2_with fail
                    go_meet
                    exact ⟨by rw [HARG.out]; simp, rfl⟩
    case rest =>
     obtain ⟨rfl, rfl⟩ := hcut
     have hk2 := HK.out
     cases hA : argB x.l with
     | true =>
       have HA := hid hA
       clear hA HARG hk2
       go_wp2_with fail
       go_ret
       exact ⟨by rw [HCM.out, if_neg HK.out, if_pos HA.out]; rfl, HB.out⟩
     | false =>
       have HA := hid (show ¬ (argB x.l = true) by rw [hA]; simp)
       clear hA HARG hk2
       by_cases hl : x.data.length > 65536 ∨ x.ts.length > 8
       ·have HL := hid hl
        rcases hl with hl | hl
        ·have E : decide ((65536 : Int) < (x.data.length : Int)) = true := decide_eq_true (by omega)
         clear hl
         go_wp2_with fail
         go_ret
         exact ⟨by rw [HCM.out, if_neg HK.out, if_neg HA.out, if_pos HL.out]; rfl, HB.out⟩
        ·have G : decide ((8 : Int) < (x.ts.length : Int)) = true := decide_eq_true (by omega)
         by_cases hl2 : x.data.length > 65536
         ·have E : decide ((65536 : Int) < (x.data.length : Int)) = true := decide_eq_true (by omega)
          clear hl hl2
          go_wp2_with fail
          go_ret
          exact ⟨by rw [HCM.out, if_neg HK.out, if_neg HA.out, if_pos HL.out]; rfl, HB.out⟩
         ·have E : decide ((65536 : Int) < (x.data.length : Int)) = false := decide_eq_false (by omega)
          clear hl hl2
          go_wp2_with fail
          go_ret
          exact ⟨by rw [HCM.out, if_neg HK.out, if_neg HA.out, if_pos HL.out]; rfl, HB.out⟩
       ·have HL := hid hl
        have E : decide ((65536 : Int) < (x.data.length : Int)) = false := decide_eq_false (by omega)
        have G : decide ((8 : Int) < (x.ts.length : Int)) = false := decide_eq_false (by omega)
        clear hl
        go_wp2_with fail
        go_loopw [89] (fun i wr => ∃ j : Nat, j ≤ x.ts.length ∧ i = .int .i64 j ∧ tracesE (x.ts.map (·.t)) = tracesE ((x.ts.drop j).map (·.t)) ∧ Below w.heap.size w wr) (fun i _ => x.ts.length - (intOf i).toNat)
        case atStart => exact ⟨0, by omega, rfl, rfl, HB.out⟩
        case round =>
         obtain ⟨j, hj, rfl, he, hbe⟩ := hrel
         have He := hid he
         clear he
         by_cases hlt : j < x.ts.length
         ·obtain ⟨b, off, rfl, hbw, hcl⟩ := HROW.out j hlt
          have L0 := range_keeps hbe (hcl j hlt)
          have HJ := hid ((HX.out.2 x.ts[j] (List.getElem_mem hlt)).keep hbe)
          have HD := hid (drop_at x.ts j hlt)
          rw [HD.out, List.map_cons] at He
          have HB2 := hid hbe
          have HSJ := hid (HS.out x.ts[j] (List.getElem_mem hlt))
          clear hcl hbe HD
          by_cases hz : checkT x.ts[j].t = 0
          ·have HC := hid (fun W hb => checkT_is x.ts[j] W (HJ.out.keep hb) HSJ.out 0 hz)
           have HZ := hid hz
           clear hz
           go_wp2_with first | (refine wl_ld rt44 L0 (TcM.len _) ?_) | (refine wl_new (xs := x.ts[j].cells.toArray) rt44 (by rw [List.size_toArray]; exact TcM.len _) HJ.out.one ?_; intro W2 hb2 hn2 hs2) | (refine wl_ld rt44 (range_of_heap hn2) (TcM.len _) ?_) | (go_at_call 15; refine (HC.out _ hb2).mono ?_; rintro e w3 ⟨rfl, hb3⟩)
           exact ⟨⟨j + 1, by omega, by go_num, by rw [He.out, tracesE, if_pos HZ.out], Below.chain (Below.chain HB2.out hb2) hb3⟩, by simp [intOf]; omega⟩
          ·obtain ⟨r, hr⟩ : ∃ r, checkT x.ts[j].t = r := ⟨_, rfl⟩
           have HC := hid (fun W hb => checkT_is x.ts[j] W (HJ.out.keep hb) HSJ.out r hr)
           have HZ := hid hz
           have hne : (r != 0) = true := neT (by rw [← hr]; exact hz)
           have HR := hid hr
           clear hz hr
           go_wp2_with first | (refine wl_ld rt44 L0 (TcM.len _) ?_) | (refine wl_new (xs := x.ts[j].cells.toArray) rt44 (by rw [List.size_toArray]; exact TcM.len _) HJ.out.one ?_; intro W2 hb2 hn2 hs2) | (refine wl_ld rt44 (range_of_heap hn2) (TcM.len _) ?_) | (go_at_call 15; refine (HC.out _ hb2).mono ?_; rintro e w3 ⟨rfl, hb3⟩)
           go_ret
           exact ⟨by rw [HCM.out, if_neg HK.out, if_neg HA.out, if_neg HL.out, He.out, tracesE, if_neg HZ.out, HR.out]; rfl, Below.chain (Below.chain HB2.out hb2) hb3⟩
         ·obtain rfl : j = x.ts.length := by omega
          go_wp2_with fail
          go_ret
          exact ⟨by rw [HCM.out, if_neg HK.out, if_neg HA.out, if_neg HL.out, He.out, List.drop_length]; rfl, hbe⟩
end Go.Proofs.YtlbipokkdiiaiaaGreatDoor
namespace Go.Proofs.YtlbipokkdiiaiaaGreatDoor
open Go.RowKit Go.Proofs.YtlbipokkdiiaiaaGreatDoor.Exec
set_option maxRecDepth 100000
set_option maxHeartbeats 4000000 in
theorem body_any (x : MsgM) (w : World) (hx : HeldM w x) (ht : PowTab w) (hid_ : x.id < 18446744073709551616) (hc : checkM x.l = 0) :
  Calls Tryz.prog 35 #[x.val] w fun e w' => e = .returned (.string (bs (bodyB x.l))) ∧ Below w.heap.size w w' := by
 have hg := goodM hc
 have HLB := hid (bodyB_len hg)
 obtain ⟨a0, c0, htv, hc0, hm0, -, hrow⟩ := hx.1.out TcM.len (by omega)
 obtain ⟨k, hk⟩ : ∃ k : Nat, x.kind = k := ⟨x.kind.toNat, by have := hg.k1; show _ = _; unfold MsgM.l at this; simp only at this; omega⟩
 have hk8 : k ≤ 8 := by have := hg.k8; unfold MsgM.l at this; simp only at this; omega
 have hlen8 : x.ts.length ≤ 8 := by have := hg.nt; unfold MsgM.l at this; simpa using this
 have hwhy : 0 ≤ x.why ∧ x.why ≤ 19 := ⟨hg.why.1, hg.why.2.1⟩
 have HX := hid hx
 have HG := hid hg
 have HID := hid hid_
 have HPT := hid ht
 have HROW := hid hrow
 have HTV := hid htv
 have HK := hid hk
 unfold MsgM.val
 clear hx ht hid_ hc hg hrow hm0 hc0 hk htv
 go_enter Tryz.func35, Tryz.ntmps35
 go_upto_region 1 with first | (refine wl_box (n := 37) (xs := x.cells.toArray) rt34 ?_; intro W0 hb0 hn0 hs0)
 have m0 := (MsgM.parts hn0).1
 rw [HK.out] at m0
 have HN0 := hid hn0
 have HB0 := hid hb0
 have hz0 : w.heap.size < W0.heap.size := by omega
 clear hn0 hb0 hs0
 go_cut [3] (fun p wx => ∃ hb, p = .pointer (some ⟨hb, 0, none⟩) ∧ wx.heap[hb]? = some (.cells (hasC (hasL k)).toArray 175 (0, 0)) ∧ Below W0.heap.size W0 wx)
 case first =>
  refine wp_region_wl (fun W => W.cell? ⟨w.heap.size, 0, none⟩ = some (.int .i64 k)) 5 (by kernel_rfl) ?_
  intro Wd hbd
  have hS := Below.keeps hbd m0
  refine WL.tp 1 (some 10) (hi := rfl) (.inr hS) ?_
  apply Exists.intro
  refine ⟨fun W => ?_, ?_⟩
  ·go_simp
   try rfl
  try simp only [Act.put, sA, sB, sC]
  refine WL.te 2 (some 11) (hi := rfl) hS ?_
  apply Exists.intro
  refine ⟨fun W hW => ?_, ?_⟩
  ·have e0 := hW
   go_simp
   try rfl
  try simp only [Act.put, sA, sB, sC]
  refine WL.tw 0 4 ?_ ?_ (hi := rfl) (hj := rfl)
  ·intro K hK
   go_simp
   refine (table_any _).mono ?_
   rintro e w1 ⟨rfl, hb1⟩
   have hS1 := Below.keeps hb1 hS
   refine hK.out _ _ (.inr hS1) ?_
   clear hK K
   try simp only [Act.put, sA, sB, sC]
   refine WL.tp 3 (some 12) (hi := rfl) (.inr hS1) ⟨_, fun W => r_idx k hk8 rfl rfl rfl, ?_⟩
   try simp only [Act.put, sA, sB, sC]
   refine WL.o 4 (hi := rfl) ?_
   intro K hK
   refine wp_al rt175 ?_
   intro zs W2 hzs hb2 hn2 hs2
   refine hK.out _ _ (.inr (Below.keeps hb2 hS1)) ?_
   clear hK K
   go_simp
   try simp only [Act.put, sA, sB, sC]
   refine WL.o 5 (hi := rfl) ?_
   intro K hK
   refine wp_st (xs := (hasC (hasL k)).toArray) rt175 hn2 hzs rfl (hasC_one _) ?_
   intro W3 ht3 hn3 hs3
   refine hK.out _ _ (.inl (by kernel_rfl)) ?_
   clear hK K
   try simp only [Act.put, sA]
   refine WL.d ?_
   go_wp2_with fail
   go_meet
   have hz1 := hbd.size
   have hz2 := hb1.size
   exact ⟨_, rfl, hn3, (Below.chain (Below.chain hbd hb1) hb2).trans (ht3.below (by omega))⟩
  ·intro K hK
   refine wp_al rt175 ?_
   intro zs W2 hzs hb2 hn2 hs2
   have hS1 := Below.keeps hb2 hS
   refine hK.out _ _ (.inr hS1) ?_
   clear hK K
   try simp only [Act.put, sA]
   refine WL.o 0 (hi := rfl) ?_
   intro K hK
   go_simp
   refine (table_any _).mono ?_
   rintro e w1 ⟨rfl, hb1⟩
   have hS2 := Below.keeps hb1 hS1
   refine hK.out _ _ (.inr hS2) ?_
   clear hK K
   try simp only [Act.put, sA, sB, sC]
   refine WL.tp 3 (some 12) (hi := rfl) (.inr hS2) ⟨_, fun W => r_idx k hk8 rfl rfl rfl, ?_⟩
   try simp only [Act.put, sA, sB, sC]
   refine WL.o 5 (hi := rfl) ?_
   intro K hK
   refine wp_st (xs := (hasC (hasL k)).toArray) rt175 ((hb1.block _ (lx (hid hn2))).trans hn2) hzs rfl (hasC_one _) ?_
   intro W3 ht3 hn3 hs3
   refine hK.out _ _ (.inl (by kernel_rfl)) ?_
   clear hK K
   try simp only [Act.put, sA]
   refine WL.d ?_
   go_wp2_with fail
   go_meet
   have hz1 := hbd.size
   exact ⟨_, rfl, hn3, (Below.chain (Below.chain hbd hb2) hb1).trans (ht3.below (by omega))⟩
 case rest =>
  obtain ⟨V, hV⟩ : ∃ V, V = wc := ⟨_, rfl⟩
  subst hV
  obtain ⟨hb, rfl, hhb, hbw⟩ := hcut
  have hbl := lx (hid hhb)
  obtain ⟨H, hH⟩ : ∃ H, H = hasL (k : Int) := ⟨_, rfl⟩
  rw [← hH] at hhb
  have HH := hid hH
  obtain ⟨B, hB⟩ : ∃ B, B = V.heap.size := ⟨_, rfl⟩
  have HB := hid hB
  have HW := hid (fun (W : World) (hb1 : Below V.heap.size V W) => And.intro ((hb1.block w.heap.size (by have := hbw.size; omega)).trans ((hbw.block w.heap.size (by omega)).trans HN0.out)) ((hb1.block hb hbl).trans hhb))
  have HBW := hid (Below.chain HB0.out hbw)
  have hz1 : w.heap.size < V.heap.size := by have := hbw.size; omega
  clear hhb hbl hbw hH hB
  go_upto_region 2 with fail
  refine wp_region_wl (fun W => W.heap[w.heap.size]? = some (.cells x.cells.toArray 34 (0, 0)) ∧ W.heap[hb]? = some (.cells (hasC H).toArray 175 (0, 0))) 8 (by kernel_rfl) ?_
  intro Wd hbd
  have hS := HW.out _ hbd
  refine WL.tp 0 (some 13) (hi := rfl) (.inr hS) ?_
  apply Exists.intro
  refine ⟨fun W => ?_, ?_⟩
  ·go_simp
   try rfl
  try simp only [Act.put, sA, sB, sC]
  refine WL.te 1 (some 14) (hi := rfl) hS ?_
  apply Exists.intro
  refine ⟨fun W hW => ?_, ?_⟩
  ·obtain ⟨e0, -⟩ := hW; obtain ⟨e1, e2, -⟩ := MsgM.parts e0; rw [HK.out] at e1; clear e0
   go_simp
   try rfl
  try simp only [Act.put, sA, sB, sC]
  refine WL.tp 3 (some 16) (hi := rfl) (.inr hS) ?_
  apply Exists.intro
  refine ⟨fun W => ?_, ?_⟩
  ·go_simp
   try rfl
  try simp only [Act.put, sA, sB, sC]
  refine WL.te 4 (some 17) (hi := rfl) hS ?_
  apply Exists.intro
  refine ⟨fun W hW => ?_, ?_⟩
  ·obtain ⟨e0, -⟩ := hW; obtain ⟨e1, e2, -⟩ := MsgM.parts e0; rw [HK.out] at e1; clear e0
   go_simp
   try rfl
  try simp only [Act.put, sA, sB, sC]
  refine WL.o 2 (hi := rfl) ?_
  intro K hK
  go_simp
  refine (num_any (k : Int) (by omega) (by omega) Wd (HPT.out.below (Below.chain HBW.out hbd))).mono ?_
  rintro e W2 ⟨rfl, hb2⟩
  have hS2 := And.intro ((hb2.block _ (lx (hid hS.1))).trans hS.1) ((hb2.block _ (lx (hid hS.2))).trans hS.2)
  refine hK.out _ _ (.inr hS2) ?_
  clear hK K
  try simp only [Act.put, sA, sB, sC]
  refine WL.o 5 (hi := rfl) ?_
  intro K hK
  go_simp
  refine (number_any x.id 8 HID.out (by omega) W2).mono ?_
  rintro e W3 ⟨v3, rfl, hv3, hb3⟩
  have hS3 := And.intro ((hb3.block _ (lx (hid hS2.1))).trans hS2.1) ((hb3.block _ (lx (hid hS2.2))).trans hS2.2)
  have hcv := conv_slice hv3
  refine hK.out _ _ (.inr hS3) ?_
  clear hK K
  try simp only [Act.put, sA, sB, sC]
  refine WL.o 6 (hi := rfl) ?_
  intro K hK
  go_simp
  refine hK.out _ _ (.inr hS3) ?_
  clear hK K
  try simp only [Act.put, sA, sB, sC]
  refine WL.o 7 (hi := rfl) ?_
  intro K hK
  go_simp
  obtain ⟨W4, hW4, hb4, hn4⟩ := an0 W3 (.cells #[.string (bs (Lib.itoa k)), .string (bs (numB x.id 8))] 9)
  rw [← hW4.out]
  clear hW4
  have hS4 := And.intro ((hb4.block _ (lx (hid hS3.1))).trans hS3.1) ((hb4.block _ (lx (hid hS3.2))).trans hS3.2)
  refine hK.out _ _ (.inr hS4) ?_
  clear hK K
  try simp only [Act.put, sA, sB, sC]
  refine WL.o 8 (hi := rfl) ?_
  intro K hK
  go_simp
  refine hK.out _ _ (.inl (by kernel_rfl)) ?_
  clear hK K
  try simp only [Act.put, sA, sB, sC]
  refine WL.d ?_
  have hzd := hbd.size
  have hz2 := hb2.size
  have hz3 := hb3.size
  obtain ⟨l0, hl0⟩ : ∃ l0, l0 = [Lib.itoa x.kind, numB x.id 8] := ⟨_, rfl⟩
  have HL0 := hid hl0
  have HL0n := hid (show l0.length = 2 by rw [hl0]; rfl)
  have HO4 : Hid (W4.ownsRow B 9 1 (.slice (some ⟨W3.heap.size, 0, none⟩) 2 2) l0.length (strCells l0)) := hid (by rw [hl0, HK.out]; exact ⟨rfl, .inr ⟨W3.heap.size, 2, _, rfl, by rw [HB.out]; omega, hn4, Nat.le_refl _, by unfold maxLen; omega, rfl, rfl⟩⟩)
  have HB4 := hid (Below.chain hbd (Below.chain hb2 (Below.chain hb3 hb4)))
  obtain ⟨g0, g1, g2, g3, g4⟩ := hasC_parts (HW.out _ HB4.out).2
  clear hzd hz2 hz3 hl0 hbd hS hb2 hS2 hv3 hb3 hS3 hcv hb4 hn4 hS4 m0
  go_upto_if 22 with fail
  clear g0 g1 g2 g3 g4
  go_cut [4] (fun v wx => wx.ownsRow B 9 1 v (l0 ++ if H.sum = true then [x.sum.1] else []).length (strCells (l0 ++ if H.sum = true then [x.sum.1] else [])) ∧ Below V.heap.size V wx)
  case first =>
   cases hs : H.sum with
   | false =>
     go_wp2_with fail
     go_meet
     exact ⟨by simpa [hs] using HO4.out, HB4.out⟩
   | true =>
     have hcv := conv_range (cap := 32) (l := x.sum.1) (MsgM.parts (HW.out _ HB4.out).1).2.2.1
     rw [x.sum.2] at hcv
     obtain ⟨v5, W5, hap, ho5, hb5⟩ := app_one x.sum.1 HO4.out (by rw [HB.out]; exact HB4.out.size) (by have := HL0n.out; omega)
     go_wp2_with (at_builtin; refine Lib.wpList_append_run _ rfl _ _ _ _ rfl _ _ rfl rfl _ _ (hap _) ?_)
     go_meet
     exact ⟨by simpa [hs] using ho5, HB4.out.trans (by rw [← HB.out]; exact hb5)⟩
  case rest =>
   obtain ⟨ho, hbw⟩ := hcut
   obtain ⟨l1, hl1⟩ : ∃ l1, l1 = l0 ++ if H.sum = true then [x.sum.1] else [] := ⟨_, rfl⟩
   rw [← hl1] at ho
   have HL1n := hid (show l1.length ≤ 3 by rw [hl1]; have := HL0n.out; split <;> simp <;> omega)
   have HL1 := hid hl1
   have HO := hid ho
   have HBc := hid hbw
   clear ho hbw hl1
   obtain ⟨g0, g1, g2, g3, g4⟩ := hasC_parts (HW.out _ HBc.out).2
   obtain ⟨W5, hW5⟩ : ∃ W5, W5 = wc := ⟨_, rfl⟩
   subst hW5
   go_upto_if 30 with fail
   clear g0 g1 g2 g3 g4
   go_cut [4] (fun v wx => wx.ownsRow B 9 1 v (l1 ++ if H.data = true then [x.data] else []).length (strCells (l1 ++ if H.data = true then [x.data] else [])) ∧ Below V.heap.size V wx)
   case first =>
    cases hs : H.data with
    | false =>
      go_wp2_with fail
      go_meet
      exact ⟨by simpa [hs] using HO.out, HBc.out⟩
    | true =>
      have n3 := (MsgM.parts (HW.out _ HBc.out).1).2.2.2.1
      obtain ⟨v6, W6, hap, ho6, hb6⟩ := app_one x.data HO.out (by rw [HB.out]; exact HBc.out.size) (by have := HL1n.out; omega)
      go_wp2_with (at_builtin; refine Lib.wpList_append_run _ rfl _ _ _ _ rfl _ _ rfl rfl _ _ (hap _) ?_)
      go_meet
      exact ⟨by simpa [hs] using ho6, HBc.out.trans (by rw [← HB.out]; exact hb6)⟩
   case rest =>
    obtain ⟨ho, hbw⟩ := hcut
    obtain ⟨l2, hl2⟩ : ∃ l2, l2 = l1 ++ if H.data = true then [x.data] else [] := ⟨_, rfl⟩
    rw [← hl2] at ho
    have HL2n := hid (show l2.length ≤ 4 by rw [hl2]; have := HL1n.out; split <;> simp <;> omega)
    have HL2 := hid hl2
    have HO2 := hid ho
    have HB2 := hid hbw
    clear ho hbw hl2
    have n4 := (MsgM.parts (HW.out _ HB2.out).1).2.2.2.2.1
    rw [HTV.out] at n4
    obtain ⟨W6, hW6⟩ : ∃ W6, W6 = wc := ⟨_, rfl⟩
    subst hW6
    go_wp2_with fail
    clear n4
    go_loopw [4, 39] (fun o i wr => ∃ (j : Nat) (v : Value), j ≤ x.ts.length ∧ i = .int .i64 j ∧ v = o ∧ wr.ownsRow B 9 1 v (l2 ++ (x.ts.take j).map (fun t => traceB t.t)).length (strCells (l2 ++ (x.ts.take j).map fun t => traceB t.t)) ∧ Below V.heap.size V wr) (fun _ i _ => x.ts.length - (intOf i).toNat)
    case atStart => exact ⟨0, _, by omega, rfl, rfl, by simpa using HO2.out, HB2.out⟩
    case round =>
     obtain ⟨j, v, hj, rfl, rfl, ho, hbr⟩ := hrel
     by_cases hlt : j < x.ts.length
     ·obtain ⟨tb, off, rfl, htb, hcl⟩ := HROW.out j hlt
      have hbwr := Below.chain HBW.out hbr
      have L0 := range_keeps hbwr (hcl j hlt)
      have HT := hid (show l2 ++ (x.ts.take (j + 1)).map (fun t => traceB t.t) = (l2 ++ (x.ts.take j).map (fun t => traceB t.t)) ++ [traceB x.ts[j].t] by rw [take_at x.ts j hlt, List.map_append, List.append_assoc]; rfl)
      have HLn := hid (show (l2 ++ (x.ts.take j).map (fun t => traceB t.t)).length ≤ 20 by rw [List.length_append, List.length_map, List.length_take]; have := HL2n.out; omega)
      have hmem : x.ts[j] ∈ x.ts := List.getElem_mem hlt
      have hch : checkT x.ts[j].t = 0 := HG.out.tr _ (List.mem_map.2 ⟨_, hmem, rfl⟩)
      have hhd := HX.out.2 _ hmem
      generalize l2 ++ (x.ts.take j).map (fun t => traceB t.t) = l3 at *
      generalize x.ts[j] = t at *
      have HO3 := hid ho
      have HBR := hid hbr
      have HTT := hid (And.intro hch hhd)
      clear ho hbr hch hhd hcl hmem
      go_upto_region 11 with first | (refine wl_ld rt44 L0 (TcM.len _) ?_) | (refine wl_new (xs := t.cells.toArray) rt44 (by rw [List.size_toArray]; exact TcM.len _) HTT.out.2.one ?_; intro W7 hb7 hn7 hs7) | (refine wl_ld rt44 (range_of_heap hn7) (TcM.len _) ?_) | (go_at_call 80; refine (tbytes_any t W7 (HTT.out.2.keep (Below.chain hbwr hb7)) (smallT HTT.out.1) (HPT.out.below (Below.chain hbwr hb7)) HTT.out.1).mono ?_; rintro e W8 ⟨rfl, hb8⟩)
      have hb78 := Below.chain hb7 hb8
      obtain ⟨v9, W9, hap, ho9, hb9⟩ := app_one (traceB t.t) (owns_below HO3.out hb78 (Nat.le_refl _)) (by rw [HB.out]; exact Nat.le_trans HBR.out.size hb78.size) (by have := HLn.out; omega)
      go_wp2_with (at_builtin; refine Lib.wpList_append_run _ rfl _ _ _ _ rfl _ _ rfl rfl _ _ (hap _) ?_)
      refine ⟨⟨j + 1, _, by omega, by go_num, rfl, ?_, (Below.chain HBR.out hb78).trans (by rw [← HB.out]; exact hb9)⟩, by simp [intOf]; omega⟩
      rw [HT.out]
      exact ho9
     ·obtain rfl : j = x.ts.length := by omega
      rw [List.take_length] at ho
      obtain ⟨l3, hl3⟩ : ∃ l3, l3 = l2 ++ x.ts.map fun t => traceB t.t := ⟨_, rfl⟩
      rw [← hl3] at ho
      have HL3n := hid (show l3.length ≤ 12 by rw [hl3, List.length_append, List.length_map]; have := HL2n.out; omega)
      have HL3 := hid hl3
      have HO3 := hid ho
      have HB3 := hid hbr
      clear ho hbr hl3
      obtain ⟨g0, g1, g2, g3, g4⟩ := hasC_parts (HW.out _ HB3.out).2
      go_upto_if 54 with fail
      clear g0 g1 g2 g3 g4
      go_cut [4] (fun v wx => wx.ownsRow B 9 1 v (l3 ++ if H.why = true then [Lib.itoa x.why] else []).length (strCells (l3 ++ if H.why = true then [Lib.itoa x.why] else [])) ∧ Below V.heap.size V wx)
      case first =>
       cases hs : H.why with
       | false =>
         go_wp2_with fail
         go_meet
         exact ⟨by simpa [hs] using HO3.out, HB3.out⟩
       | true =>
         have n5 := (MsgM.parts (HW.out _ HB3.out).1).2.2.2.2.2
         go_wp2_with first | (at_builtin; refine Lib.wpList_append_run _ rfl _ _ _ _ rfl _ _ rfl rfl _ _ (hap _) ?_) | (go_at_call 79; refine (num_any x.why (by omega) (by omega) wr (HPT.out.below (Below.chain HBW.out HB3.out))).mono ?_; rintro e W8 ⟨rfl, hb8⟩; obtain ⟨v9, W9, hap, ho9, hb9⟩ := app_one (Lib.itoa x.why) (owns_below HO3.out hb8 (Nat.le_refl _)) (by rw [HB.out]; exact Nat.le_trans HB3.out.size hb8.size) (by have := HL3n.out; omega))
         go_meet
         exact ⟨by simpa [hs] using ho9, (HB3.out.trans (hb8.mono HB3.out.size)).trans (by rw [← HB.out]; exact hb9)⟩
      case rest =>
       obtain ⟨ho, hbw⟩ := hcut
       have hall : l3 ++ (if H.why = true then [Lib.itoa x.why] else []) = bodyT x.l := by
        have hkk : hasL x.l.kind = H := by rw [HH.out]; exact congrArg hasL HK.out
        rw [HL3.out, HL2.out, HL1.out, HL0.out]
        unfold bodyT
        rw [hkk]
        simp [MsgM.l, Function.comp_def]
       rw [hall] at ho
       have HSA := hid (SliceAt.of_owns ho (by have h9 := HL3n.out; rw [← hall, List.length_append]; unfold maxLen; split <;> simp <;> omega))
       have HBL := hid (Below.chain HBW.out hbw)
       clear ho hbw hall
       go_wp2_with (go_at_call 54; refine (row_any _ _ _ _ HSA.out (HPT.out.below HBL.out) (by have := HLB.out; unfold bodyB at this; omega)).mono ?_; rintro e W9 ⟨rfl, hb9⟩)
       go_ret
       exact ⟨rfl, Below.chain HBL.out hb9⟩
end Go.Proofs.YtlbipokkdiiaiaaGreatDoor
namespace Go.Proofs.YtlbipokkdiiaiaaGreatDoor
set_option maxRecDepth 100000
open Go.RowKit
theorem and31 (m : Int) (h1 : 0 ≤ m) (h2 : m < 32) : bits .and .u64 m 31 = m := by
 obtain ⟨k, rfl⟩ := Int.eq_ofNat_of_zero_le h1
 have := u64_and_nat k 31 (by omega) (by omega)
 rw [show ((31 : Nat) : Int) = 31 from rfl] at this
 rw [this, show (31 : Nat) = 2 ^ 5 - 1 from rfl, Nat.and_two_pow_sub_one_eq_mod, Nat.mod_eq_of_lt (by omega)]
set_option maxHeartbeats 400000 in
theorem rotl_any (x m : Int) (h1 : 0 ≤ m) (h2 : m < 32) (w : World) : Calls Tryz.prog 216 #[.int .u32 x, .int .i64 m] w fun e w' => e = .returned (.int .u32 (rotI x (32 - m))) ∧ w' = w := by
 have hm := and31 m h1 h2
 have hw : m % 18446744073709551616 = m := by omega
 have hw2 : (32 - m) % 18446744073709551616 = 32 - m := by omega
 have h4 : 0 ≤ 32 - m := by omega
 have e : rotI x (32 - m) = bits .or .u32 (x * 2 ^ m.toNat % 4294967296) (x / 2 ^ (32 - m).toNat) := by
  unfold rotI
  rw [bits_or_comm, show 32 - (32 - m) = m by omega]
 rw [e]
 clear e
 go_enter Tryz.func216, Tryz.ntmps216
 go_wp2_with fail
 go_ret
 exact ⟨rfl, rfl⟩
end Go.Proofs.YtlbipokkdiiaiaaGreatDoor
namespace Go.Proofs.YtlbipokkdiiaiaaGreatDoor
set_option maxRecDepth 100000
open Go.RowKit
def wordCells (ws : List Int) : List Value := ws.map (.int .u32)
theorem wordCells_len (ws : List Int) : (wordCells ws).length = ws.length := by simp [wordCells]
theorem wordCells_get (ws : List Int) (k : Nat) (h : k < ws.length) : (wordCells ws)[k]? = some (.int .u32 (ws.getD k 0)) := by simp [wordCells, h]
theorem wordCells_one (ws : List Int) : ∀ u ∈ wordCells ws, u.oneCell' = true := by
 intro u hu
 simp only [wordCells, List.mem_map] at hu
 obtain ⟨s, _, rfl⟩ := hu; rfl
theorem SliceAt.words {w : World} {v : Value} {n : Nat} {ws : List Int} (h : SliceAt w 1 v n (wordCells ws)) (hp : 0 < ws.length) : n = ws.length ∧ ∃ b off c, v = .slice (some ⟨b, off, none⟩) ws.length c ∧ ws.length ≤ c ∧ c ≤ maxLen ∧ b < w.heap.size ∧
  ∀ j, j < ws.length → w.cell? ⟨b, off + j, none⟩ = some (.int .u32 (ws.getD j 0)) := by
 obtain ⟨hl, a, c, rfl, hc, hm, -, hx⟩ := h
 have hn : n = ws.length := by rw [wordCells_len] at hl; omega
 subst hn
 obtain ⟨b, off, rfl, hb, hcl⟩ := hx (by intro e; have := wordCells_len ws; rw [e] at this; simp at this; omega)
 exact ⟨rfl, b, off, c, rfl, hc, hm, hb, fun j hj => hcl j _ (wordCells_get ws j hj)⟩
theorem SliceAt.bytes {w : World} {v : Value} {n : Nat} {l : List UInt8} (h : SliceAt w 1 v n (Lib.byteCells l)) (hp : 0 < l.length) : n = l.length ∧ ∃ b off c, v = .slice (some ⟨b, off, none⟩) l.length c ∧ l.length ≤ c ∧ c ≤ maxLen ∧ b < w.heap.size ∧
  ∀ j, j < l.length → w.cell? ⟨b, off + j, none⟩ = some (.int .u8 (byteAt l j)) := by
 obtain ⟨hl, a, c, rfl, hc, hm, -, hx⟩ := h
 have hn : n = l.length := by rw [byteCells_len] at hl; omega
 subst hn
 obtain ⟨b, off, rfl, hb, hcl⟩ := hx (by intro e; have := byteCells_len l; rw [e] at this; simp at this; omega)
 refine ⟨rfl, b, off, c, rfl, hc, hm, hb, fun j hj => ?_⟩
 rw [hcl j _ (byteCells_get l j hj)]
 simp [byteAt, hj]
theorem byteAt_in (l : List UInt8) (j : Nat) : 0 ≤ byteAt l j ∧ byteAt l j < 256 := by
 unfold byteAt
 have := (l.getD j 0).toNat_lt
 omega
end Go.Proofs.YtlbipokkdiiaiaaGreatDoor
namespace Go.Proofs.YtlbipokkdiiaiaaGreatDoor
set_option maxRecDepth 100000
open Go.RowKit
set_option maxHeartbeats 400000 in
theorem turned_any (x n : Int) (h1 : 0 < n) (h2 : n < 32) (w : World) : Calls Tryz.prog 175 #[.int .u32 x, .int .i64 n] w fun e w' => e = .returned (.int .u32 (rotI x n)) ∧ w' = w := by
 have H := hid (rotl_any x (32 - n) (by omega) (by omega) w)
 have e1 : 32 - (32 - n) = n := by omega
 rw [e1] at H
 have hw : wrap64 (32 - n) = 32 - n := by unfold wrap64; omega
 clear e1
 go_enter Tryz.func175, Tryz.ntmps175
 go_wp2_with (refine (H.out).mono ?_; rintro e w1 ⟨rfl, rfl⟩)
 go_ret
 exact ⟨rfl, rfl⟩
def kA : Array Value := (wordCells shaK).toArray
theorem kA_size : kA.size = 64 := rfl
theorem words_info : (Tryz.prog.info? 298).map (·.size) = some 64 := by kernel_rfl
theorem kA_one : kA.all (·.oneCell') = true := by kernel_rfl
set_option maxHeartbeats 1000000 in
theorem consts_any (w : World) : Calls Tryz.prog 173 #[] w fun e w' => e = .returned (.agg kA) ∧ Below w.heap.size w w' := by
 go_enter Tryz.func173, Tryz.ntmps173
 go_wp2_with first
  | (refine wpList_build rfl 298 _ rfl (by kernel_rfl) ?_)
  | (refine wpList_store_row rfl 298 _ _ rfl w.heap.size kA rfl (by kernel_rfl) 298 _ (heap_alloc_new w _) (by rw [kA_size]; exact words_info) rfl kA_one ?_)
 refine bodyPost_ret (results_cell_row rfl _ _ w.heap.size _ _ _ _ rfl (setRow_heap _ _ _ _ _ _ (heap_alloc_new w _)) Tryz.underlying298 rfl (by rw [kA_size]; exact words_info)) rfl ⟨rfl, ?_⟩
 exact ⟨rfl, rfl, rfl, by simp, fun k hk => by rw [setRow_other _ _ _ _ (by omega), Below.heap_alloc _ _ _ hk]⟩
end Go.Proofs.YtlbipokkdiiaiaaGreatDoor
