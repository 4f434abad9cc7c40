/- The program's walk over values: may in may; Check. -/
import Derived.Test.YtnfjlimecoikpaaGreatDoorValMay0
import Derived.Test.YtnfjlimecoikpaaGreatDoorValMay1
import Derived.Test.YtnfjlimecoikpaaGreatDoorValMay2
import Derived.Test.YtnfjlimecoikpaaGreatDoorValMay3
import Derived.Test.YtnfjlimecoikpaaGreatDoorValMay4
import Derived.Test.YtnfjlimecoikpaaGreatDoorValMay5
import Derived.Test.YtnfjlimecoikpaaGreatDoorValMayO
import Derived.Test.YtnfjlimecoikpaaGreatDoorValRef3
namespace Go.Proofs.YtnfjlimecoikpaaGreatDoor
set_option maxRecDepth 100000
open Go.RowKit

theorem may_node (k n : Int) (s : List UInt8) (lv kv : Value) (l : List VM) (ks : List (List UInt8)) (d m b : Nat) (hdm : d ≤ 60 ∧ 0 < m ∧ m ≤ 1000000) (w : World) (hL : Left w b m) (hl : SliceAt w 5 lv l.length (vmCells l)) (hk : SliceAt w 1 kv ks.length (strCells ks))
    (hkw : ∀ W, But b w W → SliceAt W 1 kv ks.length (strCells ks)) (q r : Option Nat) (hr : r = if nodeB k n s l.length ks = false then none else q) (hC : ConC lv d m b q w) :
    Calls Tryz.prog 37 #[valA k n s lv kv, .int .i64 d, .pointer (some ⟨b, 0, none⟩)] w (MayRet r b w) := by
  by_cases h0 : k = 0
  · subst h0; exact may_k0 n s lv kv l ks d m b hdm w hL hl hk q r hr hC
  by_cases h1 : k = 1
  · subst h1; exact may_k1 n s lv kv l ks d m b hdm w hL hl hk q r hr hC
  by_cases h2 : k = 2
  · subst h2; exact may_k2 n s lv kv l ks d m b hdm w hL hl hk q r hr hC
  by_cases h3 : k = 3
  · subst h3; exact may_k3 n s lv kv l ks d m b hdm w hL hl hk q r hr hC
  by_cases h4 : k = 4
  · subst h4; exact may_k4 n s lv kv l ks d m b hdm w hL hl hk q r hr hC
  by_cases h5 : k = 5
  · subst h5; exact may_k5 n s lv kv l ks d m b hdm w hL hl hk hkw q r hr hC
  exact may_other k n s lv kv l ks d m b hdm w hL hl hk ⟨h0, h1, h2, h3, h4, h5⟩ q r hr hC
/-- The contract, as deep as N. -/
def MayC (N : Nat) : Prop := ∀ (k n : Int) (s : List UInt8) (lv kv : Value) (l : List VM) (ks : List (List UInt8)), dep (.mk k n s lv kv l ks) ≤ N → ∀ (d m b : Nat), d ≤ 61 → m ≤ 1000000 → ∀ w0 w, Held w0 (.mk k n s lv kv l ks) → Below w0.heap.size w0 w → w0.heap.size ≤ b → Left w b m →
    Calls Tryz.prog 37 #[valA k n s lv kv, .int .i64 d, .pointer (some ⟨b, 0, none⟩)] w (MayRet (mayR (.mk k n s lv kv l ks) d m) b w)
def CloRet (r : Option Nat) (b : Nat) (w : World) (e : Ending) (w' : World) : Prop :=
  ∃ x : Int, e = .returned (.bool (!r.isSome)) ∧ (∀ m, r = some m → x = m) ∧ But b w w' ∧ Left w' b x
set_option maxHeartbeats 1000000 in
theorem clo_may (N : Nat) (IH : MayC N) (k n : Int) (s : List UInt8) (lv kv : Value) (l : List VM) (ks : List (List UInt8)) (hN : dep (.mk k n s lv kv l ks) ≤ N) (d m b : Nat) (hd : d ≤ 60) (hm : m ≤ 1000000) (w0 w : World) (hH : Held w0 (.mk k n s lv kv l ks)) (h0 : Below w0.heap.size w0 w) (hb : w0.heap.size ≤ b) (hL : Left w b m)
    (c2 c3 : Nat) (h2 : w.cell? ⟨c2, 0, none⟩ = some (.int .i64 d)) (h3 : w.cell? ⟨c3, 0, none⟩ = some (.pointer (some ⟨b, 0, none⟩))) :
    Calls Tryz.prog 57 #[valA k n s lv kv, .pointer (some ⟨c2, 0, none⟩), .pointer (some ⟨c3, 0, none⟩)] w (CloRet (mayR (.mk k n s lv kv l ks) (d + 1) m) b w) := by
  obtain ⟨W, hW⟩ : ∃ W, W = w.alloc (.cells #[.int .i64 k, .int .i64 n, .string (bs s), lv, kv] 25) := ⟨_, rfl⟩
  have hbx := box_new w k n s lv kv 25 (0, 0)
  have hbn := below_new w (.cells #[.int .i64 k, .int .i64 n, .string (bs s), lv, kv] 25)
  rw [← hW] at hbx hbn
  have e2 := keeps_of hbn h2
  have e3 := keeps_of hbn h3
  have H := hid (IH k n s lv kv l ks hN (d + 1) m b (by omega) hm w0 W hH (h0.trans (hbn.mono h0.size)) hb (hL.keep hbn))
  rw [show ((d + 1 : Nat) : Int) = (d : Int) + 1 from rfl] at H
  generalize mayR (.mk k n s lv kv l ks) (d + 1) m = r at *
  obtain ⟨x0, x1, x2, x3, x4⟩ := hbx
  clear IH hH hL h2 h3
  go_enter Tryz.func57, Tryz.ntmps57
  go_upto_region 1 with fail
  rw [← hW]
  clear hW
  go_wp2_with fail
  refine H.out.mono ?_
  rintro e w1 ⟨x, rfl, hx, hb1, hl1⟩
  go_wp2_with fail
  go_ret
  refine ⟨x, ?_, hx, (But.of hbn).trans hb1, hl1⟩
  cases r <;> rfl
theorem mayL_drop {l : List VM} {j : Nat} (h : j < l.length) (d m : Nat) : mayL (l.drop j) d m = match mayR l[j] d m with | none => none | some m' => mayL (l.drop (j + 1)) d m' := by
  rw [drop_at l j h, mayL]
  cases mayR l[j] d m <;> rfl
theorem mayR_le {v : VM} {d m m' : Nat} (h : mayR v d m = some m') : m' ≤ m := by
  rw [mayR_is] at h
  split at h
  · have := Option.some.inj h; omega
  · cases h
def IdxRet (r : Option Nat) (b : Nat) (w : World) (e : Ending) (w' : World) : Prop :=
  ∃ x i : Int, e = .returned (.int .i64 i) ∧ (r = none → 0 ≤ i) ∧ (∀ m, r = some m → x = m ∧ i = -1) ∧ But b w w' ∧ Left w' b x
set_option maxHeartbeats 1000000 in
theorem idx_may (N : Nat) (IH : MayC N) (l : List VM) (hN : depL l ≤ N) (lv : Value) (d m b : Nat) (hd : d ≤ 60) (hm : m ≤ 1000000) (w0 w : World) (hH : HeldL w0 l) (hl : SliceAt w0 5 lv l.length (vmCells l)) (h0 : Below w0.heap.size w0 w) (hb : w0.heap.size ≤ b) (hL : Left w b m)
    (c2 c3 : Nat) (h2 : w.cell? ⟨c2, 0, none⟩ = some (.int .i64 d)) (h3 : w.cell? ⟨c3, 0, none⟩ = some (.pointer (some ⟨b, 0, none⟩))) (n2 : c2 ≠ b) (n3 : c3 ≠ b) :
    Calls Tryz.prog 68 #[lv, .func (.func 57) #[] #[.pointer (some ⟨c2, 0, none⟩), .pointer (some ⟨c3, 0, none⟩)]] w (IdxRet (mayL l (d + 1) m) b w) := by
  have HS := hid (fun W (hW : Below w0.heap.size w0 W) => hl.below hW (Nat.le_refl _))
  have k2 := World.block_lt_of_cell? w _ h2
  have k3 := World.block_lt_of_cell? w _ h3
  have HC := hid (fun k n s lv' kv' l' ks (hN : dep (.mk k n s lv' kv' l' ks) ≤ N) (mj : Nat) (hmj : mj ≤ 1000000) W (hH : Held w0 (.mk k n s lv' kv' l' ks)) (hW : But b w W) (hLW : Left W b mj) =>
    clo_may N IH k n s lv' kv' l' ks hN d mj b hd hmj w0 W hH (But.below h0 hb hW) hb hLW c2 c3 ((hW.cell k2 n2).trans h2) ((hW.cell k3 n3).trans h3))
  have HH := hid (fun j hj => heldL_get hH j hj)
  have HD := hid (fun j hj => dep_get hN j hj)
  obtain ⟨-, la, lc, rfl, hlc, hlm, -⟩ := hl.vms
  unfold maxLen at hlm
  have H0 := hid h0
  have HL0 := hid hL
  clear hl hH IH hN h2 h3 h0 hL
  obtain ⟨r, hr⟩ : ∃ r, mayL l (d + 1) m = r := ⟨_, rfl⟩
  have HR := hid hr
  rw [hr]
  clear hr
  go_enter Tryz.func68, Tryz.ntmps68
  go_wp2_with fail
  go_loopw [8] (fun i wr => ∃ j mj : Nat, j ≤ l.length ∧ i = .int .i64 j ∧ Hid (r = mayL (l.drop j) (d + 1) mj) ∧ mj ≤ 1000000 ∧ But b w wr ∧ Left wr b mj) (fun i _ => l.length - (intOf i).toNat)
  case atStart => exact ⟨0, m, by omega, rfl, hid HR.out.symm, hm, But.of (Below.refl _ _), HL0.out⟩
  case round =>
    obtain ⟨j, mj, hj, rfl, HA, hmj, hbw, hlw⟩ := hrel
    have HLW := hid hlw
    clear hlw
    by_cases hlt : j < l.length
    · obtain ⟨-, la', lc', hv, -, -, hx⟩ := (HS.out _ (But.below H0.out hb hbw)).vms
      obtain ⟨lb, lo, rfl, hlb, hcl⟩ := hx j hlt
      obtain ⟨rfl, rfl⟩ : la = some ⟨lb, lo, none⟩ ∧ lc = lc' := by simpa using hv
      have hfc := hcl j hlt
      have hdj := HD.out j hlt
      have hhj := HH.out j hlt
      have hdr := mayL_drop hlt (d + 1) mj
      obtain ⟨k', n', s', lv', kv', l', ks', hq⟩ : ∃ k' n' s' lv' kv' l' ks', l[j] = .mk k' n' s' lv' kv' l' ks' := by
        cases h : l[j] with
        | mk a b c d e f g => exact ⟨a, b, c, d, e, f, g, rfl⟩
      obtain ⟨e0, e1, e2, e3, e4⟩ := hfc.open hq
      rw [hq] at hdj hhj hdr
      have HCj := hid (HC.out k' n' s' lv' kv' l' ks' hdj mj hmj _ hhj hbw HLW.out)
      have HDr := hid hdr
      clear hcl hx hv hfc hq hhj hdr
      cases hz : mayR (.mk k' n' s' lv' kv' l' ks') (d + 1) mj with
      | none =>
        rw [hz] at HCj HDr
        have HF : Hid (r = none) := hid (by rw [HA.out, HDr.out])
        clear hz
        go_wp2_with fail
        refine HCj.out.mono ?_
        rintro e w1 ⟨x, rfl, -, hb1, hl1⟩
        go_wp2_with fail
        go_ret
        exact ⟨x, _, rfl, (fun _ => by omega), (fun m' h => by rw [HF.out] at h; cases h), hbw.trans hb1, hl1⟩
      | some m' =>
        have hmm := mayR_le hz
        rw [hz] at HCj HDr
        have HF : Hid (r = mayL (l.drop (j + 1)) (d + 1) m') := hid (by rw [HA.out, HDr.out])
        clear hz
        go_wp2_with fail
        refine HCj.out.mono ?_
        rintro e w1 ⟨x, rfl, hx', hb1, hl1⟩
        obtain rfl := hx' m' rfl
        go_wp2_with fail
        exact ⟨⟨j + 1, m', by omega, by go_num, HF, by omega, hbw.trans hb1, hl1⟩, by simp [intOf]; omega⟩
    · have HF : Hid (r = some mj) := hid (by rw [HA.out, List.drop_eq_nil_of_le (by omega), mayL])
      go_wp2_with fail
      go_ret
      exact ⟨mj, -1, rfl, (fun h => by rw [HF.out] at h; cases h), (fun m' h => ⟨by rw [HF.out] at h; have := Option.some.inj h; omega, rfl⟩), hbw, HLW.out⟩
set_option maxHeartbeats 1000000 in
theorem con_may (N : Nat) (IH : MayC N) (l : List VM) (hN : depL l ≤ N) (lv : Value) (d m b : Nat) (hd : d ≤ 60) (hm : 0 < m ∧ m ≤ 1000000) (w0 w : World) (hH : HeldL w0 l) (hl : SliceAt w0 5 lv l.length (vmCells l)) (h0 : Below w0.heap.size w0 w) (hb : w0.heap.size ≤ b) :
    ConC lv d m b (mayL l (d + 1) (m - 1)) w := by
  intro W c2 c3 hW hL h2 h3 n2 n3
  have hLm : Left W b ((m - 1 : Nat) : Int) := by rw [show ((m - 1 : Nat) : Int) = (m : Int) - 1 by omega]; exact hL
  have H := hid (idx_may N IH l hN lv d (m - 1) b hd (by omega) w0 W hH hl (But.below h0 hb hW) hb hLm c2 c3 h2 h3 n2 n3)
  generalize mayL l (d + 1) (m - 1) = r at *
  clear hL hLm h2 h3 hH hl IH
  go_enter Tryz.func47, Tryz.ntmps47
  go_wp2_with fail
  refine H.out.mono ?_
  rintro e w1 ⟨x, i, rfl, hi1, hi2, hb1, hl1⟩
  cases r with
  | none =>
    have hi := hi1 rfl
    clear hi1 hi2
    go_wp2_with fail
    go_ret
    exact ⟨x, by simp, (fun m' h => by cases h), hb1, hl1⟩
  | some m' =>
    obtain ⟨hx, rfl⟩ := hi2 m' rfl
    have HX := hid hx
    clear hi1 hi2 hx
    go_wp2_with fail
    go_ret
    exact ⟨x, rfl, (fun m'' h => by rw [HX.out]; have := Option.some.inj h; omega), hb1, hl1⟩
theorem may_all : ∀ N, MayC N
  | 0 => fun k n s lv kv l ks h => by have := dep_pos (.mk k n s lv kv l ks); omega
  | N + 1 => by
    intro k n s lv kv l ks hN d m b hd hm w0 w hH h0 hb hL
    by_cases he : 60 < d ∨ m = 0
    · exact may_early k n s lv kv l ks d m b ⟨by omega, hm⟩ he w hL
    · obtain ⟨hl, hk, hLl⟩ := held_mk hH
      have hdep : depL l ≤ N := by rw [dep_mk] at hN; omega
      refine may_node k n s lv kv l ks d m b ⟨by omega, by omega, hm⟩ w hL (hl.below h0 (Nat.le_refl _)) (hk.below h0 (Nat.le_refl _)) (fun W hW => hk.below (But.below h0 hb hW) (Nat.le_refl _)) (mayL l (d + 1) (m - 1)) _ ?_
        (con_may N (may_all N) l hdep lv d m b (by omega) ⟨by omega, hm⟩ w0 w hLl hl h0 hb)
      rw [mayR, if_neg he]
set_option maxHeartbeats 1000000 in
theorem check_any (k n : Int) (s : List UInt8) (lv kv : Value) (l : List VM) (ks : List (List UInt8)) (w : World) (hH : Held w (.mk k n s lv kv l ks)) (r : Bool) (hr : okB (.mk k n s lv kv l ks) = r) :
    Calls Tryz.prog 22 #[valA k n s lv kv] w fun e w' => e = .returned (.bool r) ∧ Below w.heap.size w w' := by
  obtain ⟨W, hW⟩ : ∃ W, W = w.alloc (.cells #[.int .i64 k, .int .i64 n, .string (bs s), lv, kv] 25) := ⟨_, rfl⟩
  have hbx := box_new w k n s lv kv 25 (0, 0)
  have hbn := below_new w (.cells #[.int .i64 k, .int .i64 n, .string (bs s), lv, kv] 25)
  rw [← hW] at hbx hbn
  obtain ⟨W2, hW2⟩ : ∃ W2, W2 = W.alloc (.cells #[.int .i64 20000] 3) := ⟨_, rfl⟩
  have hbn2 := below_new W (.cells #[.int .i64 20000] 3)
  have hl2 : Left (W.alloc (.cells #[.int .i64 20000] 3)) W.heap.size ((20000 : Nat) : Int) := ⟨by rw [World.cell?_alloc_mark]; rfl, by rw [World.frozen?_alloc_mark]; rfl⟩
  rw [← hW2] at hbn2 hl2
  have hwz : w.heap.size ≤ W.heap.size := hbn.size
  have hb2 := Below.chain hbn hbn2
  have hb3 : Below w.heap.size w W2 := hb2
  have H := hid (may_all _ k n s lv kv l ks (Nat.le_refl _) 1 20000 W.heap.size (by omega) (by omega) w W2 hH hb3 hwz hl2)
  rw [← may_ok] at hr
  generalize mayR (.mk k n s lv kv l ks) 1 20000 = q at *
  obtain ⟨x0, x1, x2, x3, x4⟩ := hbx.keeps hbn2
  obtain ⟨B, hB⟩ : ∃ B, B = W.heap.size := ⟨_, rfl⟩
  rw [← hB] at H hwz
  have HR := hid hr
  clear hH hl2 hbn hbn2 hb2 hr
  go_enter Tryz.func22, Tryz.ntmps22
  go_upto_region 1 with fail
  rw [← hW]
  clear hW
  go_upto_region 2 with fail
  rw [← hW2, ← hB]
  clear hW2 hB
  go_wp2_with fail
  refine H.out.mono ?_
  rintro e w1 ⟨x, rfl, -, hb1, -⟩
  go_wp2_with fail
  go_ret
  exact ⟨by rw [← HR.out]; rfl, But.below hb3 hwz hb1⟩
end Go.Proofs.YtnfjlimecoikpaaGreatDoor
