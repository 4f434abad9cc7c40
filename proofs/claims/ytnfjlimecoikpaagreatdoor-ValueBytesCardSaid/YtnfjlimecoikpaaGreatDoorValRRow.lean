/- The document's walk over values: bytes, Bytes. -/
import Derived.Test.YtnfjlimecoikpaaGreatDoorValRow
import Derived.Test.YtnfjlimecoikpaaGreatDoorMPack
namespace Go.Proofs.YtnfjlimecoikpaaGreatDoor
set_option maxRecDepth 100000
open Go.RowKit

/-- The blocks with which the document's bytes begin. -/
theorem rb_three (w : World) (k n : Int) (s : List UInt8) (lv kv : Value) (head : List UInt8) (hv : Value) (hh : hv = .string (bs head)) (six : Array Value) :
    ∃ W, W = ((w.alloc (.cells #[.int .i64 k, .int .i64 n, .string (bs s), lv, kv] 25)).alloc (.cells six 9)).alloc (.cells #[hv] 9) ∧ Box W w.heap.size k n s lv kv ∧ W.ownsRow (w.heap.size + 2) 9 1 (.slice (some ⟨w.heap.size + 1 + 1, 0, none⟩) 1 1) 1 (strCells [head]) ∧ Below w.heap.size w W ∧ w.heap.size + 2 ≤ W.heap.size := by
  subst hh
  refine ⟨_, rfl, ?_, ?_, ?_, by simp⟩
  · exact ((box_new w k n s lv kv 25 (0, 0)).keeps (below_new _ _)).keeps (below_new _ _)
  · exact own_lit2 _ [head] (w.heap.size + 2) (by simp) (by simp) #[.string (bs head)] rfl 1 (w.heap.size + 1 + 1) rfl (by simp)
  · exact Below.chain (Below.chain (below_new _ _) (below_new _ _)) (below_new _ _)
theorem rrow_of {W : World} {B m : Nat} {v : Value} {ss : List (List UInt8)} (h : W.ownsRow B 9 1 v m (strCells ss)) (hm : m ≤ 1000000) (hb : (rowL ss).length ≤ 1000000000000) :
    Calls Tryz.prog 51 #[v] W fun e w' => e = .returned (.string (bs (rowL ss))) ∧ Below W.heap.size W w' :=
  refRow_any v m ss W (SliceAt.of_owns h (by unfold maxLen; omega)) (by omega)
def RBytesC (N : Nat) : Prop := ∀ (k n : Int) (s : List UInt8) (lv kv : Value) (l : List VM) (ks : List (List UInt8)), dep (.mk k n s lv kv l ks) ≤ N → nodesB (.mk k n s lv kv l ks) = true → fitB (.mk k n s lv kv l ks) = true → cnt (.mk k n s lv kv l ks) ≤ 20000 → ∀ w, Held w (.mk k n s lv kv l ks) → 
    Calls Tryz.prog 34 #[valA k n s lv kv] w fun e w' => e = .returned (.string (bs (rowV (.mk k n s lv kv l ks)))) ∧ Below w.heap.size w w'
set_option maxHeartbeats 800000 in
theorem rb_step (N : Nat) (IH : RBytesC N) : RBytesC (N + 1) := by
  intro k n s lv kv l ks hN hnb hft hcn w hH
  obtain ⟨i0, hi, hz0, hz1, hz2⟩ := info_parts pstr_info
  obtain ⟨hl, hk, hL⟩ := held_mk hH
  have hdep : depL l ≤ N := by rw [dep_mk] at hN; omega
  have hno : nodesL l = true ∧ nodeB k n s l.length ks = true := by simpa [nodesB] using hnb
  have hfi : (-9223372036854775808 ≤ k ∧ k ≤ 9223372036854775807 ∧ -9223372036854775808 ≤ n ∧ n ≤ 9223372036854775807) ∧ fitL l = true := by simpa [fitB] using hft
  have hcl : cntL l ≤ 20000 := by rw [cnt_mk] at hcn; omega
  have hrv := rowV_le (.mk k n s lv kv l ks) hnb hft hcn
  have hbig : (rowL (partsOf k n s (rowsV l) ks)).length ≤ 1000000000000 := by rw [← rowV_parts k n s lv kv]; omega
  have hll := len_cntL l
  have hll2 : l.length ≤ 20000 := by omega
  have htl1 : (rowsV l).length ≤ l.length := by have := rowsV_len l; omega
  have htl2 : l.length ≤ (rowsV l).length := by have := rowsV_len l; omega
  have HC := hid (fun j (hj : j < l.length) W (hW : Below w.heap.size w W) => show Calls Tryz.prog 34 #[l[j].val] W (fun e w' => e = .returned (.string (bs (rowV l[j]))) ∧ Below W.heap.size W w') by
    have h1 := heldL_get (HeldL.below hW (Nat.le_refl _) hL) j hj
    have h2 := dep_get hdep j hj
    have h3 := nodesL_get hno.1 j hj
    have h4 := fitL_get hfi.2 j hj
    have h5 := cntL_get hcl j hj
    generalize l[j] = x at *
    cases x with
    | mk a b c d e f g => exact IH a b c d e f g h2 h3 h4 h5 W h1)
  have HLS := hid (fun W (hW : Below w.heap.size w W) => hl.below hW (Nat.le_refl _))
  have HKS := hid (fun W (hW : Below w.heap.size w W) => hk.below hW (Nat.le_refl _))
  have HLV : Hid (∃ a c, lv = .slice a l.length c ∧ l.length ≤ c ∧ c ≤ maxLen) := hid (by obtain ⟨-, a, c, e, h1, h2, -⟩ := hl.vms; exact ⟨a, c, e, h1, h2⟩)
  have HKV : Hid (∃ a c, kv = .slice a ks.length c ∧ ks.length ≤ c ∧ c ≤ maxLen) := hid (by obtain ⟨-, a, c, e, h1, h2, -⟩ := hk.str; exact ⟨a, c, e, h1, h2⟩)
  have HB := hid (box_new w k n s lv kv 25 (0, 0))
  have hbn := below_new w (.cells #[.int .i64 k, .int .i64 n, .string (bs s), lv, kv] 25)
  have HP := hid (rowV_parts k n s lv kv l ks)
  have hcs := node_cases hno.2
  rw [HP.out]
  clear hl hH hnb hft hcn hN IH hdep hL hrv hno
  have HRW := hid (fun v (ss : List (List UInt8)) W (h : SliceAt W 1 v ss.length (strCells ss)) (hb : (rowL ss).length ≤ 1000000000000) => refRow_any v ss.length ss W h (by omega))
  clear HP
  rcases hcs with ⟨hk0, -, -, hm, -⟩ | ⟨hk0, -, hm, -⟩ | ⟨hk0, -, hm, -⟩ | ⟨hk0, -, -, hm, -⟩ | ⟨hk0, -, -, -, -⟩ | ⟨hk0, -, -, -, hm, -⟩
  · subst k
    have HF : Hid (partsOf 0 n s (rowsV l) ks = [[110, 111, 110, 101]]) := hid (by unfold partsOf; simp)
    rw [HF.out] at hbig ⊢
    obtain rfl := empty_of hm
    obtain ⟨la, lc, rfl, hlc, hlm⟩ := HLV.out
    clear hk
    obtain ⟨W, hW, hbx, hown, hbw, hsz⟩ := rb_three w 0 n s (.slice la 0 lc) kv [110, 111, 110, 101] (.string { data := #[110, 111, 110, 101] }) rfl #[(.string { data := #[110, 111, 110, 101] }), (.string { data := #[98, 111, 111, 108] }), (.string { data := #[105, 110, 116] }), (.string { data := #[116, 101, 120, 116] }), (.string { data := #[108, 105, 115, 116] }), (.string { data := #[100, 105, 99, 116] })]
    have HX := hid hbx
    obtain ⟨c0, c1, c2, c3, c4⟩ := hbx
    obtain ⟨d0, d1, d2, d3, d4⟩ := HB.out
    go_enter Tryz.func34, Tryz.ntmps34
    go_upto_region 2 with fail
    rw [← hW]
    clear hW d0 d1 d2 d3 d4
    have HZ := hid (rrow_of (show W.ownsRow (w.heap.size + 2) 9 1 (.slice (some ⟨w.heap.size + 1 + 1, 0, none⟩) 1 1) 1 (strCells [[110, 111, 110, 101]]) from hown) (by omega) hbig)
    go_wp2_with fail
    go_loop [3, 36] (fun o i => o = (.slice (some ⟨w.heap.size + 1 + 1, 0, none⟩) 1 1) ∧ i = .int .i64 0) (fun _ _ => 0)
    case atStart => exact ⟨rfl, rfl⟩
    case round =>
      obtain ⟨rfl, rfl⟩ := hrel
      go_wp2_with fail
      refine HZ.out.mono ?_
      rintro e w9 ⟨rfl, hb9⟩
      go_wp2_with fail
      go_ret
      exact ⟨rfl, Below.chain hbw hb9⟩
  · subst k
    have HF : Hid (partsOf 1 n s (rowsV l) ks = [[98, 111, 111, 108], Lib.itoa n]) := hid (by unfold partsOf; simp)
    rw [HF.out] at hbig ⊢
    obtain rfl := empty_of hm
    obtain ⟨la, lc, rfl, hlc, hlm⟩ := HLV.out
    clear hk
    have HN := hid (fun W => refNum_any n.natAbs n W (Nat.le_refl _) hfi.1.2.2.1 hfi.1.2.2.2)
    generalize Lib.itoa n = t at *
    obtain ⟨W, hW, hbx, hown, hbw, hsz⟩ := rb_three w 1 n s (.slice la 0 lc) kv [98, 111, 111, 108] (.string { data := #[98, 111, 111, 108] }) rfl #[(.string { data := #[110, 111, 110, 101] }), (.string { data := #[98, 111, 111, 108] }), (.string { data := #[105, 110, 116] }), (.string { data := #[116, 101, 120, 116] }), (.string { data := #[108, 105, 115, 116] }), (.string { data := #[100, 105, 99, 116] })]
    have HX := hid hbx
    obtain ⟨c0, c1, c2, c3, c4⟩ := hbx
    obtain ⟨d0, d1, d2, d3, d4⟩ := HB.out
    go_enter Tryz.func34, Tryz.ntmps34
    go_upto_region 2 with fail
    rw [← hW]
    clear hW d0 d1 d2 d3 d4
    go_wp2_with fail
    refine (HN.out _).mono ?_
    rintro e w1 ⟨rfl, hb1⟩
    have hbq := Below.chain hbw hb1
    have hown1 := ownsRow_below hown hb1
    have hs1 := hb1.size
    have HX2 := hid (HX.out.keeps hb1)
    go_wp2_with (at_builtin; go_must (refine wpList_append_own _ rfl _ _ 23 rfl (w.heap.size + 2) 9 i0 (.string ⟨#[]⟩) 1 16 Tryz.underlying23 hi hz0 hz1 hz2 rfl (by decide) _ _ _ rfl (hown1.alloc _) ⟨w1.heap.size, 0, none⟩ 1 1 [.string (bs t)] rfl rfl ?c1 ?c2 ?c3 ?c4 ?c5 ?_))
    case c1 => exact new_cells _ #[_] _ _
    case c2 => intro u hu; simp at hu; subst hu; rfl
    case c3 => unfold maxLen; omega
    case c4 => omega
    case c5 => simp; omega
    intro v2 w2 hown2 hgrow2 _
    have hbe2 : Below (w.heap.size + 2) w1 w2 := ((Below.refl _ w1).alloc (by omega) _).grown hgrow2 (by simp; omega) (fun k hk => (hown1.lt k hk).1)
    have hb2 : Below w.heap.size w w2 := hbq.trans (hbe2.mono (by omega))
    clear hgrow2
    clear c0 c1 c2 c3 c4
    obtain ⟨c0, c1, c2, c3, c4⟩ := HX2.out.lower hbe2 (by omega)
    have HZ := hid (rrow_of (show w2.ownsRow (w.heap.size + 2) 9 1 v2 2 (strCells [[98, 111, 111, 108], t]) from hown2) (by omega) hbig)
    go_wp2_with fail
    go_loop [3, 36] (fun o i => o = v2 ∧ i = .int .i64 0) (fun _ _ => 0)
    case atStart => exact ⟨rfl, rfl⟩
    case round =>
      obtain ⟨rfl, rfl⟩ := hrel
      go_wp2_with fail
      refine HZ.out.mono ?_
      rintro e w9 ⟨rfl, hb9⟩
      go_wp2_with fail
      go_ret
      exact ⟨rfl, Below.chain hb2 hb9⟩
  · subst k
    have HF : Hid (partsOf 2 n s (rowsV l) ks = [[105, 110, 116], Lib.itoa n]) := hid (by unfold partsOf; simp)
    rw [HF.out] at hbig ⊢
    obtain rfl := empty_of hm
    obtain ⟨la, lc, rfl, hlc, hlm⟩ := HLV.out
    clear hk
    have HN := hid (fun W => refNum_any n.natAbs n W (Nat.le_refl _) hfi.1.2.2.1 hfi.1.2.2.2)
    generalize Lib.itoa n = t at *
    obtain ⟨W, hW, hbx, hown, hbw, hsz⟩ := rb_three w 2 n s (.slice la 0 lc) kv [105, 110, 116] (.string { data := #[105, 110, 116] }) rfl #[(.string { data := #[110, 111, 110, 101] }), (.string { data := #[98, 111, 111, 108] }), (.string { data := #[105, 110, 116] }), (.string { data := #[116, 101, 120, 116] }), (.string { data := #[108, 105, 115, 116] }), (.string { data := #[100, 105, 99, 116] })]
    have HX := hid hbx
    obtain ⟨c0, c1, c2, c3, c4⟩ := hbx
    obtain ⟨d0, d1, d2, d3, d4⟩ := HB.out
    go_enter Tryz.func34, Tryz.ntmps34
    go_upto_region 2 with fail
    rw [← hW]
    clear hW d0 d1 d2 d3 d4
    go_wp2_with fail
    refine (HN.out _).mono ?_
    rintro e w1 ⟨rfl, hb1⟩
    have hbq := Below.chain hbw hb1
    have hown1 := ownsRow_below hown hb1
    have hs1 := hb1.size
    have HX2 := hid (HX.out.keeps hb1)
    go_wp2_with (at_builtin; go_must (refine wpList_append_own _ rfl _ _ 23 rfl (w.heap.size + 2) 9 i0 (.string ⟨#[]⟩) 1 16 Tryz.underlying23 hi hz0 hz1 hz2 rfl (by decide) _ _ _ rfl (hown1.alloc _) ⟨w1.heap.size, 0, none⟩ 1 1 [.string (bs t)] rfl rfl ?c1 ?c2 ?c3 ?c4 ?c5 ?_))
    case c1 => exact new_cells _ #[_] _ _
    case c2 => intro u hu; simp at hu; subst hu; rfl
    case c3 => unfold maxLen; omega
    case c4 => omega
    case c5 => simp; omega
    intro v2 w2 hown2 hgrow2 _
    have hbe2 : Below (w.heap.size + 2) w1 w2 := ((Below.refl _ w1).alloc (by omega) _).grown hgrow2 (by simp; omega) (fun k hk => (hown1.lt k hk).1)
    have hb2 : Below w.heap.size w w2 := hbq.trans (hbe2.mono (by omega))
    clear hgrow2
    clear c0 c1 c2 c3 c4
    obtain ⟨c0, c1, c2, c3, c4⟩ := HX2.out.lower hbe2 (by omega)
    have HZ := hid (rrow_of (show w2.ownsRow (w.heap.size + 2) 9 1 v2 2 (strCells [[105, 110, 116], t]) from hown2) (by omega) hbig)
    go_wp2_with fail
    go_loop [3, 36] (fun o i => o = v2 ∧ i = .int .i64 0) (fun _ _ => 0)
    case atStart => exact ⟨rfl, rfl⟩
    case round =>
      obtain ⟨rfl, rfl⟩ := hrel
      go_wp2_with fail
      refine HZ.out.mono ?_
      rintro e w9 ⟨rfl, hb9⟩
      go_wp2_with fail
      go_ret
      exact ⟨rfl, Below.chain hb2 hb9⟩
  · subst k
    have HF : Hid (partsOf 3 n s (rowsV l) ks = [[116, 101, 120, 116], s]) := hid (by unfold partsOf; simp)
    rw [HF.out] at hbig ⊢
    obtain rfl := empty_of hm
    obtain ⟨la, lc, rfl, hlc, hlm⟩ := HLV.out
    clear hk
    obtain ⟨W, hW, hbx, hown, hbw, hsz⟩ := rb_three w 3 n s (.slice la 0 lc) kv [116, 101, 120, 116] (.string { data := #[116, 101, 120, 116] }) rfl #[(.string { data := #[110, 111, 110, 101] }), (.string { data := #[98, 111, 111, 108] }), (.string { data := #[105, 110, 116] }), (.string { data := #[116, 101, 120, 116] }), (.string { data := #[108, 105, 115, 116] }), (.string { data := #[100, 105, 99, 116] })]
    have HX := hid hbx
    obtain ⟨c0, c1, c2, c3, c4⟩ := hbx
    obtain ⟨d0, d1, d2, d3, d4⟩ := HB.out
    go_enter Tryz.func34, Tryz.ntmps34
    go_upto_region 2 with fail
    rw [← hW]
    clear hW d0 d1 d2 d3 d4
    go_wp2_with (at_builtin; go_must (refine wpList_append_own _ rfl _ _ 23 rfl (w.heap.size + 2) 9 i0 (.string ⟨#[]⟩) 1 16 Tryz.underlying23 hi hz0 hz1 hz2 rfl (by decide) _ _ _ rfl (hown.alloc _) ⟨W.heap.size, 0, none⟩ 1 1 [.string (bs s)] rfl rfl ?c1 ?c2 ?c3 ?c4 ?c5 ?_))
    case c1 => exact new_cells _ #[_] _ _
    case c2 => intro u hu; simp at hu; subst hu; rfl
    case c3 => unfold maxLen; omega
    case c4 => omega
    case c5 => simp; omega
    intro v2 w2 hown2 hgrow2 _
    have hbe2 : Below (w.heap.size + 2) W w2 := ((Below.refl _ W).alloc (by omega) _).grown hgrow2 (by simp; omega) (fun k hk => (hown.lt k hk).1)
    have hb2 : Below w.heap.size w w2 := hbw.trans (hbe2.mono (by omega))
    clear hgrow2
    clear c0 c1 c2 c3 c4
    obtain ⟨c0, c1, c2, c3, c4⟩ := HX.out.lower hbe2 (by omega)
    have HZ := hid (rrow_of (show w2.ownsRow (w.heap.size + 2) 9 1 v2 2 (strCells [[116, 101, 120, 116], s]) from hown2) (by omega) hbig)
    go_wp2_with fail
    go_loop [3, 36] (fun o i => o = v2 ∧ i = .int .i64 0) (fun _ _ => 0)
    case atStart => exact ⟨rfl, rfl⟩
    case round =>
      obtain ⟨rfl, rfl⟩ := hrel
      go_wp2_with fail
      refine HZ.out.mono ?_
      rintro e w9 ⟨rfl, hb9⟩
      go_wp2_with fail
      go_ret
      exact ⟨rfl, Below.chain hb2 hb9⟩
  · subst k
    have HF : Hid (partsOf 4 n s (rowsV l) ks = [108, 105, 115, 116] :: rowsV l) := hid (by unfold partsOf; simp)
    rw [HF.out] at hbig ⊢
    obtain ⟨la, lc, rfl, hlc, hlm⟩ := HLV.out
    unfold maxLen at hlm
    obtain ⟨W, hW, hbx, hown, hbw, hsz⟩ := rb_three w 4 n s (.slice la l.length lc) kv [108, 105, 115, 116] (.string { data := #[108, 105, 115, 116] }) rfl #[(.string { data := #[110, 111, 110, 101] }), (.string { data := #[98, 111, 111, 108] }), (.string { data := #[105, 110, 116] }), (.string { data := #[116, 101, 120, 116] }), (.string { data := #[108, 105, 115, 116] }), (.string { data := #[100, 105, 99, 116] })]
    have HX := hid hbx
    obtain ⟨c0, c1, c2, c3, c4⟩ := hbx
    have HG := hid (fun j (h : j < l.length) (h' : j < (rowsV l).length) => show (rowsV l)[j]'h' = rowV (l[j]'h) by simp [rowsV_map])
    generalize rowsV l = ts at *
    obtain ⟨d0, d1, d2, d3, d4⟩ := HB.out
    go_enter Tryz.func34, Tryz.ntmps34
    go_upto_region 2 with fail
    rw [← hW]
    clear hW d0 d1 d2 d3 d4
    go_wp2_with fail
    go_loopw [3, 36] (fun o i wr => ∃ j : Nat, j ≤ l.length ∧ i = .int .i64 j ∧ wr.ownsRow (w.heap.size + 2) 9 1 o (1 + j) (strCells ([108, 105, 115, 116] :: ts.take j)) ∧ Below w.heap.size w wr ∧ Box wr w.heap.size 4 n s (.slice la l.length lc) kv ∧ w.heap.size + 2 ≤ wr.heap.size) (fun _ i _ => l.length - (intOf i).toNat)
    case atStart => exact ⟨0, by omega, rfl, by rw [List.take_zero]; exact hown, hbw, HX.out, hsz⟩
    case round =>
      clear hown hbw hsz
      obtain ⟨j, hj, rfl, hown, hbw, hbx, hsz⟩ := hrel
      have HX1 := hid hbx
      clear c0 c1 c2 c3 c4
      obtain ⟨c0, c1, c2, c3, c4⟩ := hbx
      by_cases hlt : j < l.length
      · have hltt : j < ts.length := by omega
        obtain ⟨-, la2, lc2, hv, -, -, hx⟩ := (HLS.out _ hbw).vms
        obtain ⟨lb, lo, rfl, hlb, hcl2⟩ := hx j hlt
        obtain ⟨rfl, rfl⟩ : la = some ⟨lb, lo, none⟩ ∧ lc = lc2 := by simpa using hv
        clear hx hv hcl2
        have HTK := hid (take_at ts j hltt)
        rw [HG.out j hlt hltt] at HTK
        have hcellj : FiveC wr lb (lo + j * 5) l[j] := by
          obtain ⟨-, la3, lc3, hv, -, -, hx⟩ := (HLS.out _ hbw).vms
          obtain ⟨lb3, lo3, rfl, hlb3, hcl3⟩ := hx j hlt
          obtain ⟨⟨rfl, rfl⟩, rfl⟩ : (lb = lb3 ∧ lo = lo3) ∧ lc = lc3 := by simpa using hv
          exact hcl3 j hlt
        obtain ⟨p0, p1, p2, p3, p4⟩ := hcellj
        have HCj := hid (HC.out j hlt _ hbw)
        have ev : l[j].val = valA l[j].k l[j].n l[j].s l[j].lv l[j].kv := by cases l[j]; rfl
        rw [ev] at HCj
        generalize l[j].k = xk at *
        generalize l[j].n = xn at *
        generalize l[j].s = xs at *
        generalize l[j].lv = xl at *
        generalize l[j].kv = xv at *
        clear ev
        generalize rowV l[j] = t at *
        go_wp2_with fail
        refine HCj.out.mono ?_
        rintro e w1 ⟨rfl, hb1⟩
        have hbq := Below.chain hbw hb1
        have hown1 := ownsRow_below hown hb1
        have hs1 := hb1.size
        have HX2 := hid (HX1.out.keeps hb1)
        go_wp2_with (at_builtin; go_must (refine wpList_append_own _ rfl _ _ 23 rfl (w.heap.size + 2) 9 i0 (.string ⟨#[]⟩) 1 16 Tryz.underlying23 hi hz0 hz1 hz2 rfl (by decide) _ _ _ rfl (hown1.alloc _) ⟨w1.heap.size, 0, none⟩ 1 1 [.string (bs t)] rfl rfl ?c1 ?c2 ?c3 ?c4 ?c5 ?_))
        case c1 => exact new_cells _ #[_] _ _
        case c2 => intro u hu; simp at hu; subst hu; rfl
        case c3 => unfold maxLen; omega
        case c4 => omega
        case c5 => simp; omega
        intro v2 w2 hown2 hgrow2 _
        have hbe2 : Below (w.heap.size + 2) w1 w2 := ((Below.refl _ w1).alloc (by omega) _).grown hgrow2 (by simp; omega) (fun k hk => (hown1.lt k hk).1)
        have hb2 : Below w.heap.size w w2 := hbq.trans (hbe2.mono (by omega))
        clear hgrow2
        have hbx2 : Box w2 w.heap.size 4 n s (.slice (some ⟨lb, lo, none⟩) l.length lc) kv := HX2.out.lower hbe2 (by omega)
        have hs2 := hbe2.size
        go_wp2_with fail
        refine ⟨⟨j + 1, by omega, by go_num, ?_, hb2, hbx2, by omega⟩, by simp [intOf]; omega⟩
        rw [HTK.out, show 1 + (j + 1) = 1 + j + 1 by omega, show [108, 105, 115, 116] :: (ts.take j ++ [t]) = ([108, 105, 115, 116] :: ts.take j) ++ [t] from rfl, strCells_append]
        exact hown2
      · obtain rfl : j = l.length := by omega
        have hs2 : SliceAt wr 1 u3 ([108, 105, 115, 116] :: ts).length (strCells ([108, 105, 115, 116] :: ts)) := by
          have := SliceAt.of_owns hown (by unfold maxLen; omega)
          have e1 : ts.take l.length = ts := List.take_of_length_le (by omega)
          rw [e1] at this
          rw [List.length_cons, show ts.length = l.length by omega, Nat.add_comm]; exact this
        clear hown
        go_wp2_with fail
        refine (HRW.out _ _ _ hs2 hbig).mono ?_
        rintro e w3 ⟨rfl, hb3⟩
        go_wp2_with fail
        go_ret
        exact ⟨rfl, Below.chain hbw hb3⟩
  · subst k
    have HF : Hid (partsOf 5 n s (rowsV l) ks = [100, 105, 99, 116] :: weave ks (rowsV l)) := hid (by unfold partsOf; simp)
    rw [HF.out] at hbig ⊢
    obtain ⟨la, lc, rfl, hlc, hlm⟩ := HLV.out
    unfold maxLen at hlm
    obtain ⟨ka, kc, rfl, hkc, hkm⟩ := HKV.out
    unfold maxLen at hkm
    obtain ⟨W, hW, hbx, hown, hbw, hsz⟩ := rb_three w 5 n s (.slice la l.length lc) (.slice ka ks.length kc) [100, 105, 99, 116] (.string { data := #[100, 105, 99, 116] }) rfl #[(.string { data := #[110, 111, 110, 101] }), (.string { data := #[98, 111, 111, 108] }), (.string { data := #[105, 110, 116] }), (.string { data := #[116, 101, 120, 116] }), (.string { data := #[108, 105, 115, 116] }), (.string { data := #[100, 105, 99, 116] })]
    have HX := hid hbx
    obtain ⟨c0, c1, c2, c3, c4⟩ := hbx
    have hlk1 : l.length ≤ ks.length := by omega
    have hlk2 : ks.length ≤ l.length := by omega
    clear hm
    have HW := hid (fun j (h : j < ks.length) (h' : j < (rowsV l).length) => weave_take ks (rowsV l) j h h')
    have HWL := hid (fun j (h : j ≤ ks.length) (h' : j ≤ (rowsV l).length) => weave_len ks (rowsV l) j h h')
    have HG := hid (fun j (h : j < l.length) (h' : j < (rowsV l).length) => show (rowsV l)[j]'h' = rowV (l[j]'h) by simp [rowsV_map])
    generalize rowsV l = ts at *
    obtain ⟨d0, d1, d2, d3, d4⟩ := HB.out
    go_enter Tryz.func34, Tryz.ntmps34
    go_upto_region 2 with fail
    rw [← hW]
    clear hW d0 d1 d2 d3 d4
    go_wp2_with fail
    go_loopw [3, 36] (fun o i wr => ∃ j : Nat, j ≤ l.length ∧ i = .int .i64 j ∧ wr.ownsRow (w.heap.size + 2) 9 1 o (1 + 2 * j) (strCells ([100, 105, 99, 116] :: weave (ks.take j) (ts.take j))) ∧ Below w.heap.size w wr ∧ Box wr w.heap.size 5 n s (.slice la l.length lc) (.slice ka ks.length kc) ∧ w.heap.size + 2 ≤ wr.heap.size) (fun _ i _ => l.length - (intOf i).toNat)
    case atStart => exact ⟨0, by omega, rfl, by rw [List.take_zero, List.take_zero]; exact hown, hbw, HX.out, hsz⟩
    case round =>
      clear hown hbw hsz
      obtain ⟨j, hj, rfl, hown, hbw, hbx, hsz⟩ := hrel
      have HX1 := hid hbx
      clear c0 c1 c2 c3 c4
      obtain ⟨c0, c1, c2, c3, c4⟩ := hbx
      by_cases hlt : j < l.length
      · have hltt : j < ts.length := by omega
        obtain ⟨-, la2, lc2, hv, -, -, hx⟩ := (HLS.out _ hbw).vms
        obtain ⟨lb, lo, rfl, hlb, hcl2⟩ := hx j hlt
        obtain ⟨rfl, rfl⟩ : la = some ⟨lb, lo, none⟩ ∧ lc = lc2 := by simpa using hv
        clear hx hv hcl2
        obtain ⟨-, ka2, kc2, hv, -, -, hx⟩ := (HKS.out _ hbw).str
        obtain ⟨kb, ko, rfl, hkb, hcl2⟩ := hx j (by omega)
        obtain ⟨rfl, rfl⟩ : ka = some ⟨kb, ko, none⟩ ∧ kc = kc2 := by simpa using hv
        have hltk : j < ks.length := by omega
        have e0 := hcl2 j hltk
        clear hx hv hcl2
        have HTK := hid (HW.out j hltk hltt)
        rw [HG.out j hlt hltt] at HTK
        have hwl := HWL.out j (by omega) (by omega)
        go_wp2_with (at_builtin; go_must (refine wpList_append_own _ rfl _ _ 23 rfl (w.heap.size + 2) 9 i0 (.string ⟨#[]⟩) 1 16 Tryz.underlying23 hi hz0 hz1 hz2 rfl (by decide) _ _ _ rfl (hown.alloc _) ⟨wr.heap.size, 0, none⟩ 1 1 [.string (bs ks[j])] rfl rfl ?c1 ?c2 ?c3 ?c4 ?c5 ?_))
        case c1 => exact new_cells _ #[_] _ _
        case c2 => intro u hu; simp at hu; subst hu; rfl
        case c3 => unfold maxLen; omega
        case c4 => omega
        case c5 => simp; omega
        intro v2 w2 hown2 hgrow2 _
        have hbe2 : Below (w.heap.size + 2) wr w2 := ((Below.refl _ wr).alloc (by omega) _).grown hgrow2 (by simp; omega) (fun k hk => (hown.lt k hk).1)
        have hb2 : Below w.heap.size w w2 := hbw.trans (hbe2.mono (by omega))
        clear hgrow2
        have hbx2 : Box w2 w.heap.size 5 n s (.slice (some ⟨lb, lo, none⟩) l.length lc) (.slice (some ⟨kb, ko, none⟩) ks.length kc) := HX1.out.lower hbe2 (by omega)
        have HX2 := hid hbx2
        have hs2 := hbe2.size
        clear c0 c1 c2 c3 c4
        obtain ⟨c0, c1, c2, c3, c4⟩ := hbx2
        have hcellj : FiveC w2 lb (lo + j * 5) l[j] := by
          obtain ⟨-, la3, lc3, hv, -, -, hx⟩ := (HLS.out _ hb2).vms
          obtain ⟨lb3, lo3, rfl, hlb3, hcl3⟩ := hx j hlt
          obtain ⟨⟨rfl, rfl⟩, rfl⟩ : (lb = lb3 ∧ lo = lo3) ∧ lc = lc3 := by simpa using hv
          exact hcl3 j hlt
        obtain ⟨p0, p1, p2, p3, p4⟩ := hcellj
        have HCj := hid (HC.out j hlt _ hb2)
        have ev : l[j].val = valA l[j].k l[j].n l[j].s l[j].lv l[j].kv := by cases l[j]; rfl
        rw [ev] at HCj
        generalize l[j].k = xk at *
        generalize l[j].n = xn at *
        generalize l[j].s = xs at *
        generalize l[j].lv = xl at *
        generalize l[j].kv = xv at *
        clear ev
        generalize rowV l[j] = t at *
        go_wp2_with fail
        refine HCj.out.mono ?_
        rintro e w3 ⟨rfl, hb3⟩
        have hbq := Below.chain hb2 hb3
        have hown3 := ownsRow_below hown2 hb3
        have hs3 := hb3.size
        have HX3 := hid (HX2.out.keeps hb3)
        go_wp2_with (at_builtin; go_must (refine wpList_append_own _ rfl _ _ 23 rfl (w.heap.size + 2) 9 i0 (.string ⟨#[]⟩) 1 16 Tryz.underlying23 hi hz0 hz1 hz2 rfl (by decide) _ _ _ rfl (hown3.alloc _) ⟨w3.heap.size, 0, none⟩ 1 1 [.string (bs t)] rfl rfl ?c1 ?c2 ?c3 ?c4 ?c5 ?_))
        case c1 => exact new_cells _ #[_] _ _
        case c2 => intro u hu; simp at hu; subst hu; rfl
        case c3 => unfold maxLen; omega
        case c4 => omega
        case c5 => simp; omega
        intro v4 w4 hown4 hgrow4 _
        have hbe4 : Below (w.heap.size + 2) w3 w4 := ((Below.refl _ w3).alloc (by omega) _).grown hgrow4 (by simp; omega) (fun k hk => (hown3.lt k hk).1)
        have hb4 : Below w.heap.size w w4 := hbq.trans (hbe4.mono (by omega))
        clear hgrow4
        have hbx4 : Box w4 w.heap.size 5 n s (.slice (some ⟨lb, lo, none⟩) l.length lc) (.slice (some ⟨kb, ko, none⟩) ks.length kc) := HX3.out.lower hbe4 (by omega)
        have hs4 := hbe4.size
        go_wp2_with fail
        refine ⟨⟨j + 1, by omega, by go_num, ?_, hb4, hbx4, by omega⟩, by simp [intOf]; omega⟩
        rw [HTK.out, show 1 + 2 * (j + 1) = 1 + 2 * j + 1 + 1 by omega, show [100, 105, 99, 116] :: (weave (ks.take j) (ts.take j) ++ [ks[j], t]) = ([100, 105, 99, 116] :: weave (ks.take j) (ts.take j)) ++ [ks[j]] ++ [t] by simp, strCells_append, strCells_append, List.append_assoc]
        exact hown4
      · obtain rfl : j = l.length := by omega
        have hs2 : SliceAt wr 1 u3 ([100, 105, 99, 116] :: weave ks ts).length (strCells ([100, 105, 99, 116] :: weave ks ts)) := by
          have := SliceAt.of_owns hown (by unfold maxLen; omega)
          have hwl := HWL.out l.length (by omega) (by omega)
          have e1 : ts.take l.length = ts := List.take_of_length_le (by omega)
          have e2 : ks.take l.length = ks := List.take_of_length_le (by omega)
          rw [e1, e2] at this hwl
          rw [List.length_cons, hwl, Nat.add_comm]; exact this
        clear hown
        go_wp2_with fail
        refine (HRW.out _ _ _ hs2 hbig).mono ?_
        rintro e w3 ⟨rfl, hb3⟩
        go_wp2_with fail
        go_ret
        exact ⟨rfl, Below.chain hbw hb3⟩
theorem rb_all : ∀ N, RBytesC N
  | 0 => by
    intro k n s lv kv l ks hN
    have := dep_pos (.mk k n s lv kv l ks)
    omega
  | N + 1 => rb_step N (rb_all N)
end Go.Proofs.YtnfjlimecoikpaaGreatDoor
