/- Lemmas for TopWire: W49. -/
import Derived.Test.YtlbipokkdiiaiaaGreatDoorT44
import Derived.Test.YtlbipokkdiiaiaaGreatDoorT41
/- PLAIN WORDS: TopWire answers true. -/
namespace Go.Proofs.YtlbipokkdiiaiaaGreatDoor
open Go.RowKit Go.Proofs.YtlbipokkdiiaiaaGreatDoor.Exec
set_option maxRecDepth 100000
theorem rows_lt {α : Type} {w : World} {sz : Nat} {f : α → List Value} {v : Value} {l : List α} (hs : ∀ x, (f x).length = sz) (h0 : 0 < sz) (h : RowsOf w sz f v l) (hl : l ≠ []) (k : Nat) (hk : v.ownBlock = some k) : k < w.heap.size := by
  obtain ⟨a, c, rfl, -, -, -, hx⟩ := h.out hs h0
  obtain ⟨b, off, rfl, hb, -⟩ := hx 0 (List.length_pos_iff.2 hl)
  have : b = k := Option.some.inj hk
  omega
theorem InM.out {W w : World} {x : MsgM} (h : InM W x) (hb : Below W.heap.size W w) (hd : x.data.length ≤ 1000) : OutM W.heap.size w x where
  held := h.held.keep hb
  k0 := h.k0
  k1 := h.k1
  nd := hd
  sm := h.sm
  lo := fun t ht k hk => by
    rcases hk with ⟨h1, h2⟩ | ⟨h1, h2⟩
    · exact rows_lt RdL.len (by omega) (h.held.2 t ht).1 h1 k h2
    · exact rows_lt MdL.len (by omega) (h.held.2 t ht).2 h1 k h2
  tl := fun hne k hk => rows_lt TcM.len (by omega) h.held.1 hne k hk
set_option maxHeartbeats 16000000 in
theorem law_wire (l : List MsgM) (v : Value) (W : World) (most : Nat) (hm : most ≤ 65535) (hl : RowsOf W 37 MsgM.cells v l) (hi : ∀ y ∈ l, InM W y) (ht : PowTab W) (he : ErrsAt W) :
    Calls Tryz.prog 3 #[v, .int .u16 (most : Int)] W fun e W' => e = .returned (.bool true) ∧ Below W.heap.size W W' := by
  obtain ⟨va, vc, rfl, hcl, hml, -, hrow⟩ := hl.out MsgM.len (by omega)
  have HROW := hid hrow
  have HI := hid hi
  have HP := hid (And.intro ht he)
  unfold maxLen at hml
  clear hl hrow hi ht he
  by_cases hbig : 30 < l.length
  · have E : decide (30 < (l.length : Int)) = true := decide_eq_true (by omega)
    have hb2 : 30 < l.length := hbig
    go_enter Tryz.func3, Tryz.ntmps3
    go_wp2_with (go_at_call 7; refine (speaks_any _).mono ?_; rintro e w1 ⟨rfl, hb1⟩)
    go_ret
    exact ⟨rfl, hb1⟩
  · have E : decide (30 < (l.length : Int)) = false := decide_eq_false (by omega)
    have hl30 : l.length ≤ 30 := by omega
    clear hbig
    have hwr : IntKind.i64.wrap (most : Int) = (most : Int) := by rw [IntKind.wrap_i64]; omega
    have hwr2 : wrap64 (most : Int) = (most : Int) := by unfold wrap64; omega
    go_enter Tryz.func3, Tryz.ntmps3
    go_upto_region 4 with (go_at_call 8; refine (cacheNew_any W most (by omega)).mono ?_; rintro e W1 ⟨cb, rfl, F0, hc0, hb0⟩)
    have HC0 := hid (And.intro hc0 hb0)
    clear hc0 hb0 hwr hwr2
    go_wp2_with fail
    go_loopw [34] (fun i wr => ∃ (k : Nat) (c : CaL) (F : Nat → Prop), k ≤ l.length ∧ i = .int .i64 k ∧ CacheIs W.heap.size F wr cb c ∧ GoodC c ∧ Below W.heap.size W wr) (fun i _ => l.length - (intOf i).toNat)
    case atStart => exact ⟨0, _, F0, by omega, rfl, HC0.out.1, goodC0 most, HC0.out.2⟩
    case round =>
      obtain ⟨k, c, F, hk, rfl, hc, hgc, hbr⟩ := hrel
      have HC := hid (And.intro hc hgc)
      have HBR := hid hbr
      clear hc hgc HC0
      by_cases hlt : k < l.length
      · obtain ⟨b0, o0, rfl, hbl, hcl0⟩ := HROW.out k hlt
        have L0 := range_keeps hbr (hcl0 k hlt)
        have hix := HI.out l[k] (List.getElem_mem hlt)
        generalize l[k] = x at *
        have HIX := hid hix
        obtain ⟨ta, tc, htv, -, htm, -, -⟩ := hix.held.1.out TcM.len (by omega)
        unfold maxLen at htm
        have HTV := hid htv
        clear hcl0 htv hix hbr
        go_upto_region 9 with first | (refine wl_ld rt34 L0 (MsgM.len _) ?_) | (refine wl_new (xs := x.cells.toArray) rt34 (by rw [List.size_toArray]; exact MsgM.len _) HIX.out.held.one ?_; intro W2 hb2 hn2 hs2)
        have hz0 := HBR.out.size
        have HB2 := hid hb2
        have HN2 := hid hn2
        have HZ2 := hid hs2
        obtain ⟨-, m1, -, m3, m4, -⟩ := MsgM.parts hn2
        rw [HTV.out] at m4
        clear hb2 hn2 hs2 L0
        by_cases hd : 1000 < x.data.length
        · have e1 : decide (1000 < (x.data.length : Int)) = true := decide_eq_true (by omega)
          go_wp2_with (go_at_call 7; refine (speaks_any _).mono ?_; rintro e w1 ⟨rfl, hb1⟩)
          go_ret
          exact ⟨rfl, (HBR.out.trans (HB2.out.mono hz0)).trans (hb1.mono (by have := HB2.out.size; omega))⟩
        · have e1 : decide (1000 < (x.data.length : Int)) = false := decide_eq_false (by omega)
          by_cases ht8 : 8 < x.ts.length
          · have e2 : decide (8 < (x.ts.length : Int)) = true := decide_eq_true (by omega)
            go_wp2_with (go_at_call 7; refine (speaks_any _).mono ?_; rintro e w1 ⟨rfl, hb1⟩)
            go_ret
            exact ⟨rfl, (HBR.out.trans (HB2.out.mono hz0)).trans (hb1.mono (by have := HB2.out.size; omega))⟩
          · have e2 : decide (8 < (x.ts.length : Int)) = false := decide_eq_false (by omega)
            have hd1 : x.data.length ≤ 1000 := by omega
            have HDO := hid (do_any (HC.out.1.below HB2.out) x (HIX.out.out (HBR.out.trans (HB2.out.mono hz0)) hd1) (by have := HB2.out.size; omega))
            unfold MsgM.val at HDO
            go_upto_region 11 with fail
            clear m1 m3 m4 e1 e2
            go_upto_region 12 with first | (refine wl_ld rt34 (range_of_heap HN2.out) (MsgM.len _) ?_) | (go_at_call 9; refine (HDO.out).mono ?_; rintro e W3 ⟨y, c', rfl, hda, hwent, hy, hyo⟩) | (refine wl_new (xs := y.cells.toArray) rt34 (by rw [List.size_toArray]; exact MsgM.len _) hy.one ?_; intro W4 hb4 hn4 hs4)
            obtain ⟨hgc', hck, hid'⟩ := do_good HC.out.2 hd1 hda
            obtain ⟨F', hF', hf23, hc3⟩ := hwent
            have hFB : ∀ b, F b → W.heap.size ≤ b ∧ b < wr.heap.size := fun b hb => HC.out.1.bd b hb
            have hz2 := HB2.out.size
            have hz3 := hf23.size
            have hz4 := hb4.size
            have hbW4 : Below W.heap.size W W4 := ((HBR.out.trans (HB2.out.mono hz0)).trans (hf23.below (by omega) (fun b hb => (hFB b hb).1))).trans (hb4.mono (by omega))
            have hn24 := (hb4.block _ (by have := HZ2.out; omega)).trans ((hf23.block _ (lx HN2) (fun e => by have := (hFB _ e).2; omega)).trans HN2.out)
            have HC4 := hid (And.intro (hc3.below hb4) hgc')
            have HB4 := hid hbW4
            have HY := hid (hy.keep hb4)
            have HN4 := hid (And.intro hn4 hn24)
            have HY2 := hid (And.intro hck hid')
            have hyid : y.id < 18446744073709551616 := by have h1 : y.l.id = x.l.id := hid'; have h2 : y.id = x.id := h1; rw [h2]; exact HIX.out.id
            have HZ4 := hid (show wr.heap.size < W3.heap.size ∧ W3.heap.size < W4.heap.size from ⟨by have := HZ2.out; omega, by omega⟩)
            have HPT := hid (wput_any y W4 (hy.keep hb4) (HP.out.1.below hbW4) hyid hck)
            unfold MsgM.val at HPT
            have HGT := hid (fun (V : World) (hb : Below W4.heap.size W4 V) => wget_any y.l V (HP.out.1.below (hbW4.trans (hb.mono (by omega)))) (HP.out.2.below (hbW4.trans (hb.mono (by omega)))) hck hyid)
            clear hda hf23 hc3 hgc' hck hid' hb4 hn4 hs4 hn24 hbW4 hy hyo hF' hFB hz0 hz2 hz3 hz4 HDO
            go_upto_region 14 with first | (refine wl_ld rt34 (range_of_heap HN4.out.1) (MsgM.len _) ?_) | (go_at_call 10; refine (HPT.out).mono ?_; rintro e W5 ⟨rfl, hb5⟩) | (go_at_call 11; refine (HGT.out _ hb5).mono ?_; rintro e W6 ⟨z, rfl, hzl, hz, hb6⟩) | (refine wl_new (xs := z.cells.toArray) rt34 (by rw [List.size_toArray]; exact MsgM.len _) hz.one ?_; intro W7 hb7 hn7 hs7)
            generalize putB y.l = S at *
            have hb47 := Below.chain hb5 (Below.chain hb6 hb7)
            have hs56 := hb5.size
            have hs6 := hb6.size
            have HY7 := hid (HY.out.keep hb47)
            have HZ7 := hid (hz.keep hb7)
            have HC7 := hid (And.intro (HC4.out.1.below hb47) HC4.out.2)
            have HB7 := hid (HB4.out.trans (hb47.mono (by have := HB4.out.size; omega)))
            have hm8 := (hb47.block _ (lx (hid HN4.out.2))).trans HN4.out.2
            have hm9 := (hb47.block _ (lx (hid HN4.out.1))).trans HN4.out.1
            have hyx : y.id = x.id := HY2.out.2
            clear hb5 hb6 hb7 hb47 hs7 hz hs56 hs6 HY HC4 HB4 HPT HGT
            obtain ⟨yk, yi, ys, yd, yv, yts, yw⟩ := y
            obtain ⟨zk, zi, zs, zd, zv, zts, zw⟩ := z
            simp only [MsgM.l, MsgL.mk.injEq] at hzl
            obtain ⟨rfl, rfl, rfl, rfl, hzts, rfl⟩ := hzl
            simp only at hyx
            subst hyx
            have hlen : zts.length = yts.length := by have := congrArg List.length hzts; simpa using this
            obtain ⟨ya, yc, hyv, hyc, hym, -, hyrow⟩ := HY7.out.1.out TcM.len (by omega)
            obtain ⟨za, zc, hzv, hzc, hzm, -, hzrow⟩ := HZ7.out.1.out TcM.len (by omega)
            simp only at hyv hzv hyc hzc hyrow hzrow
            rw [hlen] at hzv hzc
            subst hyv hzv
            unfold maxLen at hym hzm
            have HYR := hid hyrow
            have HZR := hid hzrow
            have HZT := hid hzts
            have HLEN := hid hlen
            have HM := hid (And.intro hm8 (And.intro hm9 hn7))
            clear hyrow hzrow hzts hlen
            obtain ⟨-, p1, -, -, -, -⟩ := MsgM.parts hm8
            obtain ⟨q0, q1, q2, q3, q4, q5⟩ := MsgM.parts hm9
            obtain ⟨r0, r1, r2, r3, r4, r5⟩ := MsgM.parts hn7
            clear hm8 hm9 hn7
            have E31 := eqt_is (eqt31 zs zs) true (decide_eq_true rfl)
            have hzz : W3.heap.size < W4.heap.size := HZ4.out.2
            go_upto_region 17 with first | (refine wl_ld rt31 r2 (dgc_len _) ?_) | (refine wl_ld rt31 q2 (dgc_len _) ?_) | (refine wl_neq E31 ?_)
            have HQ4 := hid (And.intro r4 q4)
            clear p1 q0 q1 q2 q3 q4 q5 r0 r1 r2 r3 r4 r5 E31
            obtain ⟨wo, rfl⟩ : ∃ wo : World, wo = wr := ⟨_, rfl⟩
            go_loopw [129] (fun i wr => ∃ j : Nat, j ≤ yts.length ∧ i = .int .i64 j ∧ Below W7.heap.size W7 wr) (fun i _ => yts.length - (intOf i).toNat)
            case atStart => exact ⟨0, by omega, rfl, Below.refl _ _⟩
            case round =>
              obtain ⟨j, hj, rfl, hbj⟩ := hrel
              have HBJ := hid hbj
              by_cases hjl : j < yts.length
              · obtain ⟨yb, yo, rfl, hyb, hyc1⟩ := HYR.out j hjl
                have hjz : j < zts.length := by have := HLEN.out; omega
                obtain ⟨zb, zo, rfl, hzb, hzc1⟩ := HZR.out j hjz
                have LY := range_keeps hbj (hyc1 j hjl)
                have LZ := range_keeps hbj (hzc1 j hjz)
                have r4 := Below.keeps hbj HQ4.out.1
                have q4 := Below.keeps hbj HQ4.out.2
                have hsm : zts[j].t = yts[j].t := by
                  have h1 : (zts.map (·.t))[j]? = (yts.map (·.t))[j]? := by rw [HZT.out]
                  rw [List.getElem?_map, List.getElem?_map, List.getElem?_eq_getElem hjz, List.getElem?_eq_getElem hjl] at h1
                  simpa using h1
                have hhz := (HZ7.out.2 zts[j] (List.getElem_mem hjz)).keep hbj
                have hhy := (HY7.out.2 yts[j] (List.getElem_mem hjl)).keep hbj
                generalize zts[j] = zt at *
                generalize yts[j] = yt at *
                have HSAME := hid (fun (V' : World) (hb : Below wr.heap.size wr V') => show Calls Tryz.prog 12 #[.agg zt.cells.toArray, .agg yt.cells.toArray] V' fun e w' => e = .returned (.bool true) ∧ Below V'.heap.size V' w' from by
                  have h1 := sameT_any zt yt V' (hhz.keep hb) (hhy.keep hb)
                  rw [decide_eq_true hsm] at h1
                  exact h1)
                clear hyc1 hzc1 hbj hhz hhy hsm
                go_wp2_with fail
                refine wp_region_wq (by kernel_rfl) (by kernel_rfl) ?_
                repeat (first | refine WQ.ld rt44 (fun W hW => range_keeps hW LY) (TcM.len _) ?_ | refine WQ.ld rt44 (fun W hW => range_keeps hW LZ) (TcM.len _) ?_ | (refine WQ.step (fun K hK => ?_); go_simp; first | (refine hK _ ?_; clear hK K) | (apply Exists.intro; refine ⟨fun W hW => ?_, hK _ ?_⟩; (first | (go_at_call 12; exact Calls.quiet_below hW (HSAME.out W hW)) | (first | with_reducible rfl | (have zz0 := Below.keeps hW r4; have zz1 := Below.keeps hW q4; go_simp; first | rfl | exact ⟨rfl, rfl⟩ | (rw [if_neg (by omega)]; exact ⟨rfl, rfl⟩)))); clear hK K)))
                refine WQ.nil ?_
                intro wq hwq
                go_wp2_with fail
                exact ⟨⟨j + 1, by omega, by go_num, Below.chain HBJ.out hwq⟩, by simp [intOf]; omega⟩
              · have HE := hid (And.intro (HC7.out.1.below hbj) (And.intro HC7.out.2 (HB7.out.trans (hbj.mono (by have := HB7.out.size; omega)))))
                clear hbj
                go_wp2_with fail
                refine ⟨?_, by simp [intOf]; omega⟩
                (first | exact ⟨k + 1, c', F', by omega, by go_num, HE.out⟩ | ((repeat apply Exists.intro); exact ⟨⟨k + 1, c', F', by omega, by go_num, HE.out⟩, rfl⟩))
      · go_wp2_with (go_at_call 7; refine (speaks_any _).mono ?_; rintro e w1 ⟨rfl, hb1⟩)
        go_ret
        exact ⟨rfl, HBR.out.trans (hb1.mono (by have := HBR.out.size; omega))⟩
end Go.Proofs.YtlbipokkdiiaiaaGreatDoor
