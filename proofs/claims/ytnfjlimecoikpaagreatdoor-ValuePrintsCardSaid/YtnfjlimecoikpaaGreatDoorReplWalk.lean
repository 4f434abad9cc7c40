/- The walk of strings.Replacer's build at the six texts. -/
import Derived.Test.YtnfjlimecoikpaaGreatDoorReplBuild
import Derived.Laws.CopyOwn
namespace Go.Proofs.YtnfjlimecoikpaaGreatDoor
set_option maxRecDepth 100000
open Go.RowKit

/-- What the build hands out. -/
structure Built (w : World) (lo r : Nat) : Prop where
  tab : TabAt w r (takenB 3)
  low : lo ≤ r
  reps : ∃ n c : Nat, w.cell? ⟨r, 256, none⟩ = some (.slice (some ⟨n, 0, none⟩) 3 c) ∧ 3 ≤ c ∧ c ≤ maxLen ∧ lo ≤ n ∧ n < w.heap.size ∧ ∀ j u, (strCells (ones (takenB 3)))[j]? = some u → w.cell? ⟨n, j, none⟩ = some u
theorem Built.agree {w w' : World} {lo r : Nat} (h : Built w lo r) (hs : w.heap.size ≤ w'.heap.size) (hc : ∀ k j, lo ≤ k → k < w.heap.size → w'.cell? ⟨k, j, none⟩ = w.cell? ⟨k, j, none⟩)
    (hf : ∀ k j, lo ≤ k → k < w.heap.size → w'.frozen? ⟨k, j, none⟩ = w.frozen? ⟨k, j, none⟩) : Built w' lo r := by
  have hlr := h.low
  have hrl := h.tab.lt
  refine ⟨⟨fun c hc' => ?_, fun c hc' => (hc _ _ hlr hrl).trans (h.tab.non c hc'), fun j => (hf _ _ hlr hrl).trans (h.tab.free j), Nat.lt_of_lt_of_le hrl hs⟩, hlr, ?_⟩
  · obtain ⟨g, k, h1, h2, h3, h4, h5, h6⟩ := h.tab.has c hc'
    exact ⟨g, k, (hc _ _ hlr hrl).trans h1, h2, h3, Nat.lt_of_lt_of_le h4 hs, h5, fun j u hj => (hc _ _ (by omega) h4).trans (h6 j u hj)⟩
  · obtain ⟨n, c, h1, h2, h3, h4, h5, h6⟩ := h.reps
    exact ⟨n, c, (hc _ _ hlr hrl).trans h1, h2, h3, h4, Nat.lt_of_lt_of_le h5 hs, fun j u hj => (hc _ _ h4 h5).trans (h6 j u hj)⟩
theorem Built.past {B : Nat} {w w' : World} {lo r : Nat} (h : Built w lo r) (hb : Below B w w') (hB : w.heap.size ≤ B) : Built w' lo r :=
  h.agree hb.size (fun k j _ hk => hb.cell (p := ⟨k, j, none⟩) (Nat.lt_of_lt_of_le hk hB)) (fun k j _ hk => hb.frozen (p := ⟨k, j, none⟩) (Nat.lt_of_lt_of_le hk hB))
theorem Built.store {w : World} {lo r b : Nat} (h : Built w lo r) (hb : b < lo) (j : Nat) (v : Value) : Built (w.setCell ⟨b, j, none⟩ v) lo r :=
  h.agree (by simp) (fun k i hk _ => World.cell?_setCell_other _ _ _ _ (fun e => by have := congrArg Addr.block e; simp only at this; omega)) (fun k i _ _ => by rw [World.frozen?_setCell])
theorem one_str (w : World) (o : Obj) (l : List UInt8) (j : Nat) (u : Value) (h : [Value.string (bs l)][j]? = some u) : ((w.alloc o).alloc (.cells #[.string (bs l)] 9)).cell? ((⟨w.heap.size + 1, 0, none⟩ : Addr).add j) = some u := by
  have := new_cells (w.alloc o) #[.string (bs l)] 9 (0, 0) j u h
  rwa [World.size_alloc] at this
set_option maxHeartbeats 4000000 in
theorem build_any (b b1 o1 c1 : Nat) (w : World) (h4 : w.cell? ⟨b, 4, none⟩ = some (.slice (some ⟨b1, o1, none⟩) 6 c1)) (h6 : Six w b1 o1) :
    Calls Tryz.prog 90 #[.pointer (some ⟨b, 0, none⟩)] w fun e w' => ∃ r, e = .returned (.iface 147 (.pointer (some ⟨r, 0, none⟩))) ∧ Built w' w.heap.size r ∧ Below w.heap.size w w' := by
  obtain ⟨i0, hi, hz0, hz1, hz2⟩ := info_parts str_info
  have H6 := hid h6
  obtain ⟨hlt, s0, s1, s2, s3, s4, s5⟩ := h6
  go_enter Tryz.func90, Tryz.ntmps90
  go_wp2_with fail
  refine wp_loop_rounds 4 ?_
  iterate 3 (rw [rounds_succ]; go_wp2_with fail)
  rw [rounds_succ]
  go_wp2_with (at_make; go_must (refine wpList_make_own _ rfl _ _ 23 rfl w.heap.size 9 i0 (.string ⟨#[]⟩) 1 Tryz.underlying23 hi hz0 hz1 .i64 .i64 _ 3 rfl rfl rfl (by rw [hz2]; decide) (by decide) (Nat.le_refl _) ?_); intro w0 hown0 hgrow0; go_must (refine wpList_buildTo rfl 146 _ rfl (some 95) rfl (nils (.slice (some ⟨w.heap.size, 0, none⟩) 0 3)) (by kernel_rfl) ?_); go_must (refine Go.Great.wpList_runTo rfl (some 11) rfl (.pointer (some ⟨w0.heap.size, 0, none⟩)) (w0.alloc (.cells (nils (.slice none 0 0)) 146)) (by kernel_rfl) ?_); go_must (refine wpList_store_rowTo rfl 146 _ _ rfl rfl w0.heap.size (nils (.slice (some ⟨w.heap.size, 0, none⟩) 0 3)) (by kernel_rfl) (by kernel_rfl) 146 (nils (.slice none 0 0)) Array.getElem?_push_size (by kernel_rfl) rfl (nils_one _ _ _) ?_))
  have hnR : w.heap.size < w0.heap.size := (hown0.lt _ rfl).2
  obtain ⟨htab, htv⟩ := tab_new (w0.alloc (.cells (nils (.slice none 0 0)) 146)) w0.heap.size Array.getElem?_push_size (.slice (some ⟨w.heap.size, 0, none⟩) 0 3)
  have hB0 : Below w0.heap.size w0 ((w0.alloc (.cells (nils (.slice none 0 0)) 146)).setRow w0.heap.size (nils (.slice (some ⟨w.heap.size, 0, none⟩) 0 3))) := below_setRow ((Below.refl _ _).alloc (Nat.le_refl _) _) (Nat.le_refl _) _
  have hown := ownsRow_below hown0 hB0
  have hBw : Below w.heap.size w ((w0.alloc (.cells (nils (.slice none 0 0)) 146)).setRow w0.heap.size (nils (.slice (some ⟨w.heap.size, 0, none⟩) 0 3))) := ((Below.refl _ w).grown hgrow0 (Nat.le_refl _) (by intro k hk; cases hk)).trans (hB0.mono (Nat.le_of_lt hnR))
  clear hown0 hgrow0 hB0
  generalize (w0.alloc (.cells (nils (.slice none 0 0)) 146)).setRow w0.heap.size (nils (.slice (some ⟨w.heap.size, 0, none⟩) 0 3)) = W0 at *
  generalize w0.heap.size = R at *
  have HS0 := hid hBw
  have HT0 := hid (And.intro htab (And.intro htv hown))
  clear htab htv hown hBw h4 s0 s1 s2 s3 s4 s5
  go_loopw [12] (fun i wr => ∃ m : Nat, m ≤ 3 ∧ i = .int .i64 (4 - 2 * (m : Int)) ∧ Hid (TabAt wr R (takenB m) ∧ wr.cell? ⟨R, 256, none⟩ = some (.slice (some ⟨w.heap.size, 0, none⟩) m 3) ∧ wr.ownsRow w.heap.size 9 1 (.slice (some ⟨w.heap.size, 0, none⟩) m 3) m (strCells (ones (takenB m)))) ∧ Hid (Below w.heap.size w wr)) (fun i _ => (intOf i + 2).toNat)
  case atStart => exact ⟨0, by omega, rfl, HT0, HS0⟩
  case round =>
    obtain ⟨m, hm3, rfl, HT, HB⟩ := hrel
    obtain ⟨htab, htv, hown⟩ := HT.out
    by_cases hlt3 : m < 3
    · have h6r := H6.out.past HB.out (Nat.le_refl _)
      obtain ⟨t0, t1, e1, e2, e3⟩ := h6r.round m hlt3
      have hnon := htab.non _ e2
      have hfr := htab.free
      have hRl := htab.lt
      have hx256 := (takes m).toNat_lt
      have E1 := hid e1
      have E2 := hid e2
      have hti : ((4 : Int) - 2 * (m : Int)) = ((4 - 2 * m : Nat) : Int) := by omega
      have hi5 : 4 - 2 * m + 1 < 6 := by omega
      have Hm : Hid ((4 - 2 * m : Nat) + 2 * m = 4) := hid (by omega)
      obtain ⟨x, hxe⟩ : ∃ x, takes m = x := ⟨_, rfl⟩
      obtain ⟨tx, htx⟩ : ∃ tx, escB (takes m) = tx := ⟨_, rfl⟩
      rw [htx] at t1 e3
      rw [hxe] at t0 hnon hx256 E1 E2 htx
      have Htx := hid htx
      rw [hti]
      generalize 4 - 2 * m = i at *
      have hi1 : ((i : Int) + 1).toNat = i + 1 := by omega
      have hz256 : wr.frozen? ⟨R, 256, none⟩ = false := hfr 256
      have hzx : wr.frozen? ⟨R, x.toNat, none⟩ = false := hfr x.toNat
      have hcv := run_conv_at (one_byte wr x)
      have HTr := hid htab
      have Hown := hid hown
      clear h6r e1 e2 hxe htx hti hown htab hfr
      have hnil : ∀ W : World, (binOp .eql 68 (.slice none 0 0) (.slice none 0 0)).run Tryz.prog W = .ok (.bool true) W := fun W => by kernel_rfl
      go_wp2_with (at_builtin; go_must (refine wpList_append_fits _ rfl _ _ 23 rfl w.heap.size 9 i0 1 Tryz.underlying23 hi hz1 w.heap.size m 3 (strCells (ones (takenB m))) rfl ?own ⟨wr.heap.size + 1, 0, none⟩ 1 1 [.string (bs [x])] rfl rfl ?hc (by simp [Value.oneCell']) (by omega) ?_))
      case own => exact ((Hown.out.alloc _).alloc _)
      case hc => exact fun j u hj => one_str _ _ _ j u hj
      intro w3 hown3 hgrow3
      have hRne : ∀ j : Nat, w3.cell? ⟨R, j, none⟩ = wr.cell? ⟨R, j, none⟩ := fun j => by
        have h1 : w3.heap[R]? = ((wr.alloc (.cells #[.int .u8 x.toNat] 5)).alloc (.cells #[.string (bs [x])] 9)).heap[R]? := hgrow3.block R (by simp; omega) (by simp; omega)
        have h2 := (((Below.refl wr.heap.size wr).alloc (Nat.le_refl _) (.cells #[.int .u8 x.toNat] 5)).alloc (by simp) (.cells #[.string (bs [x])] 9)).block R hRl
        simp only [World.cell?, h1, h2]
      have htv3 := (hRne 256).trans htv
      have HT3 : Hid (TabAt w3 R (takenB m)) := hid ((HTr.out.past (((Below.refl wr.heap.size wr).alloc (Nat.le_refl _) _).alloc (by simp) _) (Nat.le_refl _)).grown hgrow3 hnR)
      have hz3 : w3.frozen? ⟨R, 256, none⟩ = false := HT3.out.free 256
      have HB3 : Hid (Below w.heap.size w w3) := hid (((HB.out.alloc (HB.out.size) _).alloc (by simp; have := HB.out.size; omega) _).grown hgrow3 (by simp; have := HB.out.size; omega) (by intro k hk; cases hk; exact Nat.le_refl _))
      have Hown3 := hid hown3
      have hR3 := HT3.out.lt
      clear hown3 hgrow3 hRne htv hnon hz256 hzx hcv t0 t1
      go_wp2_with (refine wpList_conv_bytes rfl _ rfl tx 2 e3 (by omega) rfl ?_; intro k5 w5 hk51 hk52 hcell5 hsz5 hb5; have HT5 := hid ((HT3.out.store (.slice (some ⟨w.heap.size, 0, none⟩) (m + 1) 3)).past hb5 (Nat.le_refl _)); have hcx5 := HT5.out.non x E2.out; have hzx5 : w5.frozen? ⟨R, x.toNat, none⟩ = false := HT5.out.free x.toNat)
      have hgt : R < w3.heap.size := hR3
      have HT6 : TabAt (w5.setCell ⟨R, x.toNat, none⟩ (.slice (some ⟨w3.heap.size, 0, none⟩) 2 k5)) R (takenB (m + 1)) := by
        rw [E1.out]
        refine HT5.out.more E2.out _ k5 hk51 hk52 (by simpa using hsz5) hgt ?_
        intro j u hj
        rw [Htx.out] at hj
        simpa using hcell5 j u hj
      have hne : (⟨R, x.toNat, none⟩ : Addr) ≠ ⟨R, 256, none⟩ := fun e => by
        have := congrArg Addr.off e
        simp only at this
        omega
      have htv5 : w5.cell? ⟨R, 256, none⟩ = some (.slice (some ⟨w.heap.size, 0, none⟩) (m + 1) 3) := (hb5.cell (p := ⟨R, 256, none⟩) (by simpa using hgt)).trans (World.cell?_setCell_same' _ _ _ (by rw [htv3]; rfl))
      have hown6 := ownsRow_setCell_other (ownsRow_below (ownsRow_setCell_other Hown3.out (a := ⟨R, 256, none⟩) (by simp [Value.ownBlock]; omega) (.slice (some ⟨w.heap.size, 0, none⟩) (m + 1) 3)) hb5) (a := ⟨R, x.toNat, none⟩) (by simp [Value.ownBlock]; omega) (.slice (some ⟨w3.heap.size, 0, none⟩) 2 k5)
      have hones : strCells (ones (takenB m)) ++ [.string (bs [x])] = strCells (ones (takenB (m + 1))) := by rw [E1.out]; simp [ones, strCells]
      rw [hones] at hown6
      have hHm := Hm.out
      refine ⟨⟨m + 1, by omega, by congr 1; omega, hid ⟨HT6, (World.cell?_setCell_other _ _ _ _ hne).trans htv5, hown6⟩, hid (((HB3.out.setCell (p := ⟨R, 256, none⟩) (Nat.le_of_lt hnR) _).trans (hb5.mono (by simp; omega))).setCell (p := ⟨R, x.toNat, none⟩) (Nat.le_of_lt hnR) _)⟩, by simp [intOf]; omega⟩
    · obtain rfl : m = 3 := by omega
      have HE : Hid (Built wr w.heap.size R) := hid (by
        obtain ⟨hl, a, c, he, hc, hm, _, hx⟩ := SliceAt.of_owns hown (by decide)
        obtain ⟨n, o, rfl, hlt', hcl⟩ := hx (by decide)
        cases he
        exact ⟨htab, Nat.le_of_lt hnR, _, _, htv, hc, hm, Nat.le_refl _, hlt', fun j u hj => by simpa using hcl j u hj⟩)
      clear htab htv hown HT
      go_wp2_with fail
      go_ret
      exact ⟨R, rfl, HE.out, HB.out⟩
end Go.Proofs.YtnfjlimecoikpaaGreatDoor
