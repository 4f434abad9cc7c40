/- The program's walk over values: row, Bytes. -/
import Derived.Test.YtnfjlimecoikpaaGreatDoorValText0
import Derived.Test.YtnfjlimecoikpaaGreatDoorMSame
import Derived.Test.YtnfjlimecoikpaaGreatDoorMPack
namespace Go.Proofs.YtnfjlimecoikpaaGreatDoor
set_option maxRecDepth 100000
open Go.RowKit

theorem Box.lower {w w' : World} {b B : Nat} {k n : Int} {s : List UInt8} {lv kv : Value} (h : Box w b k n s lv kv) (hb : Below B w w') (hlt : b < B) : Box w' b k n s lv kv :=
  ⟨(hb.cell (p := ⟨b, 0, none⟩) hlt).trans h.c0, (hb.cell (p := ⟨b, 1, none⟩) hlt).trans h.c1, (hb.cell (p := ⟨b, 2, none⟩) hlt).trans h.c2, (hb.cell (p := ⟨b, 3, none⟩) hlt).trans h.c3, (hb.cell (p := ⟨b, 4, none⟩) hlt).trans h.c4⟩
theorem own_lit (w : World) (ss : List (List UInt8)) (B : Nat) (hB : B ≤ w.heap.size) (hn : ss.length ≤ 1000000) : (w.alloc (.cells (strCells ss).toArray 9)).ownsRow B 9 1 (.slice (some ⟨w.heap.size, 0, none⟩) ss.length ss.length) ss.length (strCells ss) :=
  World.ownsRow_lit w (strCells ss).toArray ss.length hB (by unfold maxLen; omega) (by simp [strCells])
theorem own_lit2 (w : World) (ss : List (List UInt8)) (B : Nat) (hB : B ≤ w.heap.size) (hn : ss.length ≤ 1000000) (xs : Array Value) (hx : xs = (strCells ss).toArray) (m b : Nat) (hm : m = ss.length) (hbb : b = w.heap.size) : (w.alloc (.cells xs 9 (0, 0))).ownsRow B 9 1 (.slice (some ⟨b, 0, none⟩) m m) m (strCells ss) := by
  subst hx hm hbb
  exact own_lit w ss B hB hn
theorem slice_lit (w : World) (ss : List (List UInt8)) (hn : ss.length ≤ 1000000) : SliceAt (w.alloc (.cells (strCells ss).toArray 9)) 1 (.slice (some ⟨w.heap.size, 0, none⟩) ss.length ss.length) ss.length (strCells ss) :=
  SliceAt.of_owns (own_lit w ss 0 (Nat.zero_le _) hn) (by unfold maxLen; omega)
/-- pack.Row at a row that is written out. -/
theorem row_lit (w : World) (ss : List (List UInt8)) (hn : ss.length ≤ 1000000) (ht : PowTab w) (hb : (rowL ss).length ≤ 1000000000000) (xs : Array Value) (hx : xs = (strCells ss).toArray) (m b : Nat) (hm : m = ss.length) (hbb : b = w.heap.size) :
    Calls Tryz.prog 45 #[.slice (some ⟨b, 0, none⟩) m m] (w.alloc (.cells xs 9 (0, 0))) fun e w' => e = .returned (.string (bs (rowL ss))) ∧ Below w.heap.size w w' := by
  subst hx hm hbb
  refine (row_any _ ss.length ss _ (slice_lit w ss hn) (ht.below (below_new w _)) hb).mono ?_
  rintro e w' ⟨rfl, hb'⟩
  exact ⟨rfl, below_call hb'⟩
theorem weave_take (ks ts : List (List UInt8)) : ∀ j (h : j < ks.length) (h' : j < ts.length), weave (ks.take (j + 1)) (ts.take (j + 1)) = weave (ks.take j) (ts.take j) ++ [ks[j], ts[j]] := by
  induction ks generalizing ts with
  | nil => intro j h; simp at h
  | cons a r ih =>
    cases ts with
    | nil => intro j _ h; simp at h
    | cons b t =>
      intro j h h'
      cases j with
      | zero => simp [weave]
      | succ j =>
        have := ih t j (by simpa using h) (by simpa using h')
        simp only [List.take_succ_cons, weave, List.cons_append, List.getElem_cons_succ]
        rw [this]
theorem weave_len (ks ts : List (List UInt8)) : ∀ j, j ≤ ks.length → j ≤ ts.length → (weave (ks.take j) (ts.take j)).length = 2 * j := by
  induction ks generalizing ts with
  | nil => intro j h; have : j = 0 := by simpa using h
           subst this; simp [weave]
  | cons a r ih =>
    cases ts with
    | nil => intro j _ h; have : j = 0 := by simpa using h
             subst this; simp [weave]
    | cons b t =>
      intro j h h'
      cases j with
      | zero => simp [weave]
      | succ j =>
        have := ih t j (by simpa using h) (by simpa using h')
        simp only [List.take_succ_cons, weave, List.length_cons]; omega
def RowVC (N : Nat) : Prop := ∀ (k n : Int) (s : List UInt8) (lv kv : Value) (l : List VM) (ks : List (List UInt8)), dep (.mk k n s lv kv l ks) ≤ N → nodesB (.mk k n s lv kv l ks) = true → fitB (.mk k n s lv kv l ks) = true → cnt (.mk k n s lv kv l ks) ≤ 20000 → ∀ w, Held w (.mk k n s lv kv l ks) → PowTab w →
    Calls Tryz.prog 30 #[valA k n s lv kv] w fun e w' => e = .returned (.string (bs (rowV (.mk k n s lv kv l ks)))) ∧ Below w.heap.size w w'
/-- The elements of a value whose bytes are made. -/
theorem all_rows (N : Nat) (IH : RowVC N) (l : List VM) (lv : Value) (hd : depL l ≤ N) (hn : nodesL l = true) (hf : fitL l = true) (hc : cntL l ≤ 20000) (w : World) (hl : SliceAt w 5 lv l.length (vmCells l)) (hH : HeldL w l) (ht : PowTab w) :
    Calls Tryz.prog 41 #[lv, .func (.func 30) #[] #[]] w (RowRet (rowsV l) w) := by
  rw [rowsV_map]
  refine all_row rowV l lv w hl hH (by have := len_cntL l; omega) (fun j hj W hW => ?_)
  have h1 := heldL_get (HeldL.below hW (Nat.le_refl _) hH) j hj
  have h2 := dep_get hd j hj
  have h3 := nodesL_get hn j hj
  have h4 := fitL_get hf j hj
  have h5 := cntL_get hc j hj
  generalize l[j] = x at *
  cases x with
  | mk a b c d e f g => exact IH a b c d e f g h2 h3 h4 h5 W h1 (ht.below hW)
set_option maxHeartbeats 2000000 in
theorem row_step (N : Nat) (IH : RowVC N) : RowVC (N + 1) := by
  intro k n s lv kv l ks hN hnb hft hcn w hH ht
  obtain ⟨i0, hi, hz0, hz1, hz2⟩ := info_parts pstr_info
  obtain ⟨hl, hk, hL⟩ := held_mk hH
  have hdep : depL l ≤ N := by rw [dep_mk] at hN; omega
  have hno : nodesL l = true ∧ nodeB k n s l.length ks = true := by simpa [nodesB] using hnb
  have hfi : (-9223372036854775808 ≤ k ∧ k ≤ 9223372036854775807 ∧ -9223372036854775808 ≤ n ∧ n ≤ 9223372036854775807) ∧ fitL l = true := by simpa [fitB] using hft
  have hcl : cntL l ≤ 20000 := by rw [cnt_mk] at hcn; omega
  have hrv := rowV_le (.mk k n s lv kv l ks) hnb hft hcn
  have hbig : (rowL (partsOf k n s (rowsV l) ks)).length ≤ 1000000000000 := by rw [← rowV_parts k n s lv kv]; omega
  have hll := len_cntL l
  have hll2 : l.length ≤ 20000 := by omega
  have htl1 : (rowsV l).length ≤ l.length := by have := rowsV_len l; omega
  have htl2 : l.length ≤ (rowsV l).length := by have := rowsV_len l; omega
  have HA := hid (fun W (hW : Below w.heap.size w W) => all_rows N IH l lv hdep hno.1 hfi.2 hcl W (hl.below hW (Nat.le_refl _)) (HeldL.below hW (Nat.le_refl _) hL) (ht.below hW))
  have HC := hid (fun j (hj : j < l.length) W (hW : Below w.heap.size w W) => show Calls Tryz.prog 30 #[l[j].val] W (fun e w' => e = .returned (.string (bs (rowV l[j]))) ∧ Below W.heap.size W w') by
    have h1 := heldL_get (HeldL.below hW (Nat.le_refl _) hL) j hj
    have h2 := dep_get hdep j hj
    have h3 := nodesL_get hno.1 j hj
    have h4 := fitL_get hfi.2 j hj
    have h5 := cntL_get hcl j hj
    generalize l[j] = x at *
    cases x with
    | mk a b c d e f g => exact IH a b c d e f g h2 h3 h4 h5 W h1 (ht.below hW))
  have HLS := hid (fun W (hW : Below w.heap.size w W) => hl.below hW (Nat.le_refl _))
  have HKS := hid (fun W (hW : Below w.heap.size w W) => hk.below hW (Nat.le_refl _))
  have HLV : Hid (∃ a c, lv = .slice a l.length c ∧ l.length ≤ c ∧ c ≤ maxLen) := hid (by obtain ⟨-, a, c, e, h1, h2, -⟩ := hl.vms; exact ⟨a, c, e, h1, h2⟩)
  have HKV : Hid (∃ a c, kv = .slice a ks.length c ∧ ks.length ≤ c ∧ c ≤ maxLen) := hid (by obtain ⟨-, a, c, e, h1, h2, -⟩ := hk.str; exact ⟨a, c, e, h1, h2⟩)
  have HB := hid (box_new w k n s lv kv 25 (0, 0))
  have hbn := below_new w (.cells #[.int .i64 k, .int .i64 n, .string (bs s), lv, kv] 25)
  have HP := hid (rowV_parts k n s lv kv l ks)
  have hcs := node_cases hno.2
  rw [HP.out]
  clear hl hH hnb hft hcn hN IH hdep hL hrv hno
  have HT := hid (fun W (hW : Below w.heap.size w W) => ht.below hW)
  have HRW := hid (fun v (ss : List (List UInt8)) W (h : SliceAt W 1 v ss.length (strCells ss)) (hW : Below w.heap.size w W) (hb : (rowL ss).length ≤ 1000000000000) => row_any v ss.length ss W h (ht.below hW) hb)
  clear HP
  rcases hcs with ⟨hk0, -, -, -, -⟩ | ⟨hk0, -, -, -⟩ | ⟨hk0, -, -, -⟩ | ⟨hk0, -, -, -, -⟩ | ⟨hk0, -, -, -, -⟩ | ⟨hk0, -, -, -, hm, -⟩
  · subst k
    have HF : Hid (partsOf 0 n s (rowsV l) ks = [[110, 111, 110, 101]]) := hid (by unfold partsOf; simp)
    rw [HF.out] at hbig ⊢
    clear hk
    obtain ⟨c0, c1, c2, c3, c4⟩ := HB.out
    go_enter Tryz.func30, Tryz.ntmps30
    go_wp2_with fail
    refine (row_lit (w.alloc (.cells #[.int .i64 0, .int .i64 n, .string (bs s), lv, kv] 25)) [[110, 111, 110, 101]] (by simp) (HT.out _ hbn) hbig _ rfl 1 _ rfl (by simp)).mono ?_
    rintro e w2 ⟨rfl, hb2⟩
    go_wp2_with fail
    go_ret
    exact ⟨rfl, below_call hb2⟩
  · subst k
    have HF : Hid (partsOf 1 n s (rowsV l) ks = [[98, 111, 111, 108], Lib.itoa n]) := hid (by unfold partsOf; simp)
    rw [HF.out] at hbig ⊢
    have HN := hid (num_any n hfi.1.2.2.1 hfi.1.2.2.2 _ (ht.below hbn))
    clear hk
    generalize Lib.itoa n = t at *
    obtain ⟨c0, c1, c2, c3, c4⟩ := HB.out
    go_enter Tryz.func30, Tryz.ntmps30
    go_wp2_with fail
    refine HN.out.mono ?_
    rintro e w1 ⟨rfl, hb1⟩
    go_wp2_with fail
    refine (row_lit w1 [[98, 111, 111, 108], t] (by simp) (HT.out _ (below_call hb1)) hbig _ rfl 2 _ rfl rfl).mono ?_
    rintro e w2 ⟨rfl, hb2⟩
    go_wp2_with fail
    go_ret
    exact ⟨rfl, Below.chain (below_call hb1) hb2⟩
  · subst k
    have HF : Hid (partsOf 2 n s (rowsV l) ks = [[105, 110, 116], Lib.itoa n]) := hid (by unfold partsOf; simp)
    rw [HF.out] at hbig ⊢
    have HN := hid (num_any n hfi.1.2.2.1 hfi.1.2.2.2 _ (ht.below hbn))
    clear hk
    generalize Lib.itoa n = t at *
    obtain ⟨c0, c1, c2, c3, c4⟩ := HB.out
    go_enter Tryz.func30, Tryz.ntmps30
    go_wp2_with fail
    refine HN.out.mono ?_
    rintro e w1 ⟨rfl, hb1⟩
    go_wp2_with fail
    refine (row_lit w1 [[105, 110, 116], t] (by simp) (HT.out _ (below_call hb1)) hbig _ rfl 2 _ rfl rfl).mono ?_
    rintro e w2 ⟨rfl, hb2⟩
    go_wp2_with fail
    go_ret
    exact ⟨rfl, Below.chain (below_call hb1) hb2⟩
  · subst k
    have HF : Hid (partsOf 3 n s (rowsV l) ks = [[116, 101, 120, 116], s]) := hid (by unfold partsOf; simp)
    rw [HF.out] at hbig ⊢
    clear hk
    obtain ⟨c0, c1, c2, c3, c4⟩ := HB.out
    go_enter Tryz.func30, Tryz.ntmps30
    go_wp2_with fail
    refine (row_lit (w.alloc (.cells #[.int .i64 3, .int .i64 n, .string (bs s), lv, kv] 25)) [[116, 101, 120, 116], s] (by simp) (HT.out _ hbn) hbig _ rfl 2 _ rfl (by simp)).mono ?_
    rintro e w2 ⟨rfl, hb2⟩
    go_wp2_with fail
    go_ret
    exact ⟨rfl, below_call hb2⟩
  · subst k
    have HF : Hid (partsOf 4 n s (rowsV l) ks = [108, 105, 115, 116] :: rowsV l) := hid (by unfold partsOf; simp)
    rw [HF.out] at hbig ⊢
    clear hk
    obtain ⟨c0, c1, c2, c3, c4⟩ := HB.out
    have hbl := Below.chain hbn (below_new (w.alloc (.cells #[.int .i64 4, .int .i64 n, .string (bs s), lv, kv] 25)) (.cells #[.string (bs [108, 105, 115, 116])] 9))
    have hlit := own_lit2 (w.alloc (.cells #[.int .i64 4, .int .i64 n, .string (bs s), lv, kv] 25)) [[108, 105, 115, 116]] w.heap.size (by simp) (by simp) #[.string (bs [108, 105, 115, 116])] rfl 1 (w.heap.size + 1) rfl (by simp)
    obtain ⟨la, lc, rfl, hlc, hlm⟩ := HLV.out
    generalize rowsV l = ts at *
    go_enter Tryz.func30, Tryz.ntmps30
    go_wp2_with fail
    refine (HA.out _ hbl).mono ?_
    rintro e w1 ⟨v1, rfl, hown, hb1⟩
    have hbq := Below.chain hbl hb1
    have hown1 := ownsRow_below hlit hb1
    have hs1 := SliceAt.of_owns hown (by unfold maxLen; omega)
    have HS1 := hid hs1
    clear hs1 hown
    go_wp2_with (at_builtin; go_must (refine wpList_append_src rfl _ _ 23 rfl w.heap.size 9 i0 (.string ⟨#[]⟩) 1 16 Tryz.underlying23 hi hz0 hz1 hz2 rfl (by decide) _ 1 (strCells [[108, 105, 115, 116]]) rfl hown1 _ ts.length (strCells ts) rfl HS1.out ?c3 ?c4 ?c5 ?c6 ?_))
    case c3 => intro u hu; unfold strCells at hu; simp at hu; obtain ⟨y, -, rfl⟩ := hu; rfl
    case c4 => unfold maxLen; omega
    case c5 => omega
    case c6 => exact hbq.size
    intro v2 w2 hown2 hgrow2
    have hb2 : Below w.heap.size w w2 := hbq.grown hgrow2 hbq.size (fun k hk => (hown1.lt k hk).1)
    have hs2 : SliceAt w2 1 v2 ([108, 105, 115, 116] :: ts).length (strCells ([108, 105, 115, 116] :: ts)) := by
      have := SliceAt.of_owns hown2 (by unfold maxLen; omega)
      rw [← strCells_append] at this
      rw [List.length_cons, Nat.add_comm]
      exact this
    clear hown2 hgrow2 hown1 hlit
    go_wp2_with fail
    refine (HRW.out _ _ _ hs2 hb2 hbig).mono ?_
    rintro e w3 ⟨rfl, hb3⟩
    go_wp2_with fail
    go_ret
    exact ⟨rfl, Below.chain hb2 hb3⟩
  · subst k
    have HF : Hid (partsOf 5 n s (rowsV l) ks = [100, 105, 99, 116] :: weave ks (rowsV l)) := hid (by unfold partsOf; simp)
    rw [HF.out] at hbig ⊢
    have hlk1 : l.length ≤ ks.length := by omega
    have hlk2 : ks.length ≤ l.length := by omega
    clear hm
    obtain ⟨c0, c1, c2, c3, c4⟩ := HB.out
    have hbl := Below.chain hbn (below_new (w.alloc (.cells #[.int .i64 5, .int .i64 n, .string (bs s), lv, kv] 25)) (.cells #[.string (bs [100, 105, 99, 116])] 9))
    have hlit := own_lit2 (w.alloc (.cells #[.int .i64 5, .int .i64 n, .string (bs s), lv, kv] 25)) [[100, 105, 99, 116]] (w.heap.size + 1) (by simp) (by simp) #[.string (bs [100, 105, 99, 116])] rfl 1 (w.heap.size + 1) rfl (by simp)
    have HBX := hid (HB.out.keeps (below_new (w.alloc (.cells #[.int .i64 5, .int .i64 n, .string (bs s), lv, kv] 25)) (.cells #[.string (bs [100, 105, 99, 116])] 9)))
    obtain ⟨la, lc, rfl, hlc, hlm⟩ := HLV.out
    obtain ⟨ka, kc, rfl, hkc, hkm⟩ := HKV.out
    unfold maxLen at hlm hkm
    have HW := hid (fun j (h : j < ks.length) (h' : j < (rowsV l).length) => weave_take ks (rowsV l) j h h')
    have HWL := hid (fun j (h : j ≤ ks.length) (h' : j ≤ (rowsV l).length) => weave_len ks (rowsV l) j h h')
    have HG := hid (fun j (h : j < l.length) (h' : j < (rowsV l).length) => show (rowsV l)[j] = rowV l[j] by simp [rowsV_map])
    generalize rowsV l = ts at *
    go_enter Tryz.func30, Tryz.ntmps30
    obtain ⟨d0, d1, d2, d3, d4⟩ := HBX.out
    go_wp2_with fail
    go_loopw [3, 42] (fun o i wr => ∃ j : Nat, j ≤ ks.length ∧ i = .int .i64 j ∧ wr.ownsRow (w.heap.size + 1) 9 1 o (1 + 2 * j) (strCells ([100, 105, 99, 116] :: weave (ks.take j) (ts.take j))) ∧ Below w.heap.size w wr ∧ Box wr w.heap.size 5 n s (.slice la l.length lc) (.slice ka ks.length kc)) (fun _ i _ => ks.length - (intOf i).toNat)
    case atStart => exact ⟨0, by omega, rfl, by rw [List.take_zero, List.take_zero]; exact hlit, hbl, HBX.out⟩
    case round =>
      obtain ⟨j, hj, rfl, hown, hbw, hbx⟩ := hrel
      have hsw : w.heap.size + 1 ≤ wr.heap.size := by
        have := World.block_lt_of_cell? wr _ hbx.c0
        exact this
      have HX := hid hbx
      clear c0 c1 c2 c3 c4 d0 d1 d2 d3 d4
      obtain ⟨c0, c1, c2, c3, c4⟩ := hbx
      by_cases hlt : j < ks.length
      · obtain ⟨-, ka2, kc2, hv, -, -, hx⟩ := (HKS.out _ hbw).str
        obtain ⟨kb, ko, rfl, hkb, hcl2⟩ := hx j hlt
        obtain ⟨rfl, rfl⟩ : ka = some ⟨kb, ko, none⟩ ∧ kc = kc2 := by simpa using hv
        have e0 := hcl2 j hlt
        clear hx hv hcl2
        have hltl : j < l.length := by omega
        have hltt : j < ts.length := by omega
        obtain ⟨-, la2, lc2, hv, -, -, hx⟩ := (HLS.out _ hbw).vms
        obtain ⟨lb, lo, rfl, hlb, hcl2⟩ := hx j hltl
        obtain ⟨rfl, rfl⟩ : la = some ⟨lb, lo, none⟩ ∧ lc = lc2 := by simpa using hv
        obtain ⟨p0, p1, p2, p3, p4⟩ := hcl2 j hltl
        clear hx hv hcl2
        have HCj := hid (HC.out j hltl _ hbw)
        have ev : l[j].val = valA l[j].k l[j].n l[j].s l[j].lv l[j].kv := by cases l[j]; rfl
        have HTK := hid (HW.out j hlt hltt)
        rw [HG.out j hltl hltt] at HTK
        have hwl := HWL.out j (by omega) (by omega)
        rw [ev] at HCj
        generalize rowV l[j] = t at *
        generalize l[j].k = xk at *
        generalize l[j].n = xn at *
        generalize l[j].s = xs at *
        generalize l[j].lv = xl at *
        generalize l[j].kv = xv at *
        clear ev
        go_wp2_with fail
        refine HCj.out.mono ?_
        rintro e w1 ⟨rfl, hb1⟩
        have hbq := Below.chain hbw hb1
        have hown1 := ownsRow_below hown hb1
        have hs1 := hb1.size
        have HX1 := hid (HX.out.keeps hb1)
        go_wp2_with (at_builtin; go_must (refine wpList_append_own _ rfl _ _ 23 rfl (w.heap.size + 1) 9 i0 (.string ⟨#[]⟩) 1 16 Tryz.underlying23 hi hz0 hz1 hz2 rfl (by decide) _ _ _ rfl (hown1.alloc _) ⟨w1.heap.size, 0, none⟩ 2 2 [.string (bs ks[j]), .string (bs t)] rfl rfl ?c1 ?c2 ?c3 ?c4 ?c5 ?_))
        case c1 => exact new_cells _ #[_,_] _ _
        case c2 => intro u hu; simp at hu; rcases hu with rfl | rfl <;> rfl
        case c3 => unfold maxLen; omega
        case c4 => omega
        case c5 => simp; omega
        intro v2 w2 hown2 hgrow2 _
        have hbe2 : Below (w.heap.size + 1) w1 w2 := ((Below.refl _ w1).alloc (by omega) _).grown hgrow2 (by simp; omega) (fun k hk => (hown1.lt k hk).1)
        have hb2 : Below w.heap.size w w2 := hbq.trans (hbe2.mono (by omega))
        clear hgrow2
        have hbx2 : Box w2 w.heap.size 5 n s (.slice (some ⟨lb, lo, none⟩) l.length lc) (.slice (some ⟨kb, ko, none⟩) ks.length kc) := HX1.out.lower hbe2 (by omega)
        go_wp2_with fail
        refine ⟨⟨j + 1, by omega, by go_num, ?_, hb2, hbx2⟩, by simp [intOf]; omega⟩
        rw [HTK.out, show 1 + 2 * (j + 1) = 1 + 2 * j + 2 by omega, show [100, 105, 99, 116] :: (weave (ks.take j) (ts.take j) ++ [ks[j], t]) = ([100, 105, 99, 116] :: weave (ks.take j) (ts.take j)) ++ [ks[j], t] from rfl, strCells_append]
        exact hown2
      · obtain rfl : j = ks.length := by omega
        have hs2 : SliceAt wr 1 u3 ([100, 105, 99, 116] :: weave ks ts).length (strCells ([100, 105, 99, 116] :: weave ks ts)) := by
          have hwl := HWL.out ks.length (by omega) (by omega)
          have := SliceAt.of_owns hown (by unfold maxLen; omega)
          have e1 : ts.take ks.length = ts := List.take_of_length_le (by omega)
          rw [List.take_length, e1] at this hwl
          rw [List.length_cons, hwl, Nat.add_comm]; exact this
        clear hown
        go_wp2_with fail
        refine (HRW.out _ _ _ hs2 hbw hbig).mono ?_
        rintro e w3 ⟨rfl, hb3⟩
        go_wp2_with fail
        go_ret
        exact ⟨rfl, Below.chain hbw hb3⟩
theorem row_all : ∀ N, RowVC N
  | 0 => by
    intro k n s lv kv l ks hN
    have := dep_pos (.mk k n s lv kv l ks)
    omega
  | N + 1 => row_step N (row_all N)
end Go.Proofs.YtnfjlimecoikpaaGreatDoor
