/- The chapter's example; the laws LabelReads, LabelTexts. -/
import Derived.Test.YtemfmheimblboaaDoorLabelSees
import Derived.Test.YtemfmheimblboaaDoorLabelRefRead
import Derived.Deep.RegionHeld3
namespace Go.Proofs.YtemfmheimblboaaDoor
open Go.RowKit

theorem SliceAt.fresh (w : World) (xs : Array Value) (e : TypeId) (fr : Nat × Nat) (n size : Nat) (hl : xs.size = n * size) (hn : n ≤ maxLen) :
    SliceAt (w.alloc (.cells xs e fr)) size (.slice (some ⟨w.heap.size, 0, none⟩) n n) n xs.toList := by
  refine ⟨by simpa using hl, _, n, rfl, Nat.le_refl _, hn, fun h => (by cases h), fun _ => ⟨_, 0, rfl, by rw [World.size_alloc]; omega, fun j u hj => ?_⟩⟩
  have h : (⟨w.heap.size, 0 + j, none⟩ : Addr) = (⟨w.heap.size, 0, none⟩ : Addr).add j := by
    unfold Addr.add
    cases j with
    | zero => rfl
    | succ j => rfl
  rw [h]
  exact new_cells w xs e fr j u hj

set_option maxRecDepth 100000
theorem ex_read : readL [58, 120] [97, 47, 98] = ([97, 47, 98], [120], 0) := by rfl
theorem ex_read2 : readL [97, 58, 120] [98] = ([], [], 3) := by rfl
theorem ex_text : textL [97, 47, 98] [120] = [47, 47, 97, 47, 98, 58, 120] := by rfl
set_option maxHeartbeats 1000000 in
theorem alive_any (w : World) : Calls Tryd.prog 7 #[] w fun e w' => e = .returned (.bool true) ∧ Below w.heap.size w w' := by
  have H1 := hid (read_is [58, 120] [97, 47, 98] (by decide) (by decide) _ _ _ ex_read)
  have H2 := hid (read_is [97, 58, 120] [98] (by decide) (by decide) _ _ _ ex_read2)
  have H3 := hid (text_is [97, 47, 98] [120] (by decide) (by decide) _ ex_text)
  have H4 := hid (fun v0 n0 w h0 => sees_one [47, 47, 97, 47, 46, 46, 46] [97, 47, 98] (by decide) (by rfl) true v0 n0 w h0 (fun q W hq hqs => clo_dir [97, 47, 98] [97] (by decide) (by decide) (by rfl) true (by rfl) q W hq hqs))
  have H5 := hid (fun v0 n0 w h0 => sees_one [47, 47, 97] [97, 47, 98] (by decide) (by rfl) false v0 n0 w h0 (fun q W hq hqs => clo_own [97, 47, 98] [97] (by decide) (by rfl) (by rfl) false (by rfl) q W hq hqs))
  go_enter Tryd.func7, Tryd.ntmps7
  go_wp2_with fail
  refine (H1.out _).mono ?_
  rintro e w1 ⟨rfl, hb1⟩
  go_wp2_with fail
  refine (H2.out _).mono ?_
  rintro e w2 ⟨rfl, hb2⟩
  obtain ⟨k0, k1, hbx2⟩ := box_cells hb2
  have hz2 : w1.heap.size < w2.heap.size := by have := hb2.size; rw [World.size_alloc] at this; omega
  have j0 : ∀ o, (w2.alloc o).cell? ⟨w1.heap.size, 0, none⟩ = some (.string (bs [97, 47, 98])) := fun o => (World.cell?_of_block (w := w2) (Below.heap_alloc w2 o _ hz2)).trans k0
  have j1 : ∀ o, (w2.alloc o).cell? ⟨w1.heap.size, 1, none⟩ = some (.string (bs [120])) := fun o => (World.cell?_of_block (w := w2) (Below.heap_alloc w2 o _ hz2)).trans k1
  have hby2 := Below.chain hb1 hbx2
  go_wp2_with fail
  refine (H3.out _).mono ?_
  rintro e w3 ⟨rfl, hb3⟩
  go_wp2_with fail
  refine (H4.out _ _ _ (SliceAt.fresh w3 #[.string (bs [47, 47, 97, 47, 46, 46, 46])] 9 (0, 0) 1 1 rfl (by decide))).mono ?_
  rintro e w4 ⟨rfl, hb4⟩
  go_wp2_with fail
  refine (H5.out _ _ _ (SliceAt.fresh w4 #[.string (bs [47, 47, 97])] 9 (0, 0) 1 1 rfl (by decide))).mono ?_
  rintro e w5 ⟨rfl, hb5⟩
  go_wp2_with fail
  go_ret
  refine ⟨rfl, ?_⟩
  have a1 := hb1
  have a2 : Below w.heap.size w w2 := Below.chain hb1 hbx2
  have a3 : Below w.heap.size w w3 := (a2.alloc a2.size _).trans (hb3.mono (by rw [World.size_alloc]; have := a2.size; omega))
  have a4 : Below w.heap.size w w4 := (a3.alloc a3.size _).trans (hb4.mono (by rw [World.size_alloc]; have := a3.size; omega))
  exact (a4.alloc a4.size _).trans (hb5.mono (by rw [World.size_alloc]; have := a4.size; omega))

/-! A region that draws its order, beside calls that make memory: what it reads stands, whatever has been made. -/
theorem keep_of {W0 W : World} {a b c d : Addr} {u v x y : Value} (h0 : W0.cell? a = some u) (h1 : W0.cell? b = some v) (h2 : W0.cell? c = some x) (h3 : W0.cell? d = some y) (hb : Below W0.heap.size W0 W) :
    W.cell? a = some u ∧ W.cell? b = some v ∧ W.cell? c = some x ∧ W.cell? d = some y ∧ Below W0.heap.size W0 W :=
  ⟨(hb.cell (World.block_lt_of_cell? W0 _ h0)).trans h0, (hb.cell (World.block_lt_of_cell? W0 _ h1)).trans h1, (hb.cell (World.block_lt_of_cell? W0 _ h2)).trans h2, (hb.cell (World.block_lt_of_cell? W0 _ h3)).trans h3, hb⟩
theorem keep_drew (W0 : World) : Below W0.heap.size W0 W0.drew := ⟨rfl, rfl, rfl, Nat.le_refl _, fun _ _ => rfl⟩
theorem keep_alloc {W0 W : World} {a b c d : Addr} {u v x y : Value} {o : Obj} (h : (W.cell? a = some u ∧ W.cell? b = some v ∧ W.cell? c = some x ∧ W.cell? d = some y ∧ Below W0.heap.size W0 W)) : ((W.alloc o).cell? a = some u ∧ (W.alloc o).cell? b = some v ∧ (W.alloc o).cell? c = some x ∧ (W.alloc o).cell? d = some y ∧ Below W0.heap.size W0 (W.alloc o)) := by
  obtain ⟨h0, h1, h2, h3, hb⟩ := h
  have hk : Below W.heap.size W (W.alloc o) := (Below.refl _ _).alloc (Nat.le_refl _) _
  exact ⟨(hk.cell (World.block_lt_of_cell? W _ h0)).trans h0, (hk.cell (World.block_lt_of_cell? W _ h1)).trans h1, (hk.cell (World.block_lt_of_cell? W _ h2)).trans h2, (hk.cell (World.block_lt_of_cell? W _ h3)).trans h3, Below.chain hb hk⟩
theorem keep_call {W0 W W' : World} {a b c d : Addr} {u v x y : Value} (hk : Below W.heap.size W W') (h : (W.cell? a = some u ∧ W.cell? b = some v ∧ W.cell? c = some x ∧ W.cell? d = some y ∧ Below W0.heap.size W0 W)) : (W'.cell? a = some u ∧ W'.cell? b = some v ∧ W'.cell? c = some x ∧ W'.cell? d = some y ∧ Below W0.heap.size W0 W') := by
  obtain ⟨h0, h1, h2, h3, hb⟩ := h
  exact ⟨(hk.cell (World.block_lt_of_cell? W _ h0)).trans h0, (hk.cell (World.block_lt_of_cell? W _ h1)).trans h1, (hk.cell (World.block_lt_of_cell? W _ h2)).trans h2, (hk.cell (World.block_lt_of_cell? W _ h3)).trans h3, Below.chain hb hk⟩
theorem keep_set {W0 W : World} {a b c d : Addr} {u v x y p q : Value} {K : Nat} (ha : a.block < K) (hb : b.block < K) (hc : c.block < K) (hd : d.block < K) (hK : W0.heap.size ≤ K) (h : (W.cell? a = some u ∧ W.cell? b = some v ∧ W.cell? c = some x ∧ W.cell? d = some y ∧ Below W0.heap.size W0 W)) : (((W.setCell ⟨K, 0, none⟩ p).setCell ⟨K, 1, none⟩ q).cell? a = some u ∧ ((W.setCell ⟨K, 0, none⟩ p).setCell ⟨K, 1, none⟩ q).cell? b = some v ∧ ((W.setCell ⟨K, 0, none⟩ p).setCell ⟨K, 1, none⟩ q).cell? c = some x ∧ ((W.setCell ⟨K, 0, none⟩ p).setCell ⟨K, 1, none⟩ q).cell? d = some y ∧ Below W0.heap.size W0 ((W.setCell ⟨K, 0, none⟩ p).setCell ⟨K, 1, none⟩ q)) := by
  obtain ⟨h0, h1, h2, h3, hw⟩ := h
  have hk : Below K W ((W.setCell ⟨K, 0, none⟩ p).setCell ⟨K, 1, none⟩ q) := ((Below.refl K W).setCell (p := ⟨K, 0, none⟩) (Nat.le_refl _) _).setCell (p := ⟨K, 1, none⟩) (Nat.le_refl _) _
  exact ⟨(hk.cell ha).trans h0, (hk.cell hb).trans h1, (hk.cell hc).trans h2, (hk.cell hd).trans h3, hw.trans (hk.mono hK)⟩
theorem keep_re {W0 W : World} {a b c d : Addr} {u v x y : Value} {o2 : Obj} (o1 : Obj) (hz : W0.heap.size ≤ W.heap.size) (h0 : W0.cell? a = some u) (h1 : W0.cell? b = some v) (h2 : W0.cell? c = some x) (h3 : W0.cell? d = some y) (h : ((W.alloc o1).cell? a = some u ∧ (W.alloc o1).cell? b = some v ∧ (W.alloc o1).cell? c = some x ∧ (W.alloc o1).cell? d = some y ∧ Below W0.heap.size W0 (W.alloc o1))) : ((W.alloc o2).cell? a = some u ∧ (W.alloc o2).cell? b = some v ∧ (W.alloc o2).cell? c = some x ∧ (W.alloc o2).cell? d = some y ∧ Below W0.heap.size W0 (W.alloc o2)) := by
  refine keep_of h0 h1 h2 h3 ?_
  obtain ⟨-, -, -, -, e1, e2, e3, e4, e5⟩ := h
  exact ⟨e1, e2, e3, Nat.le_trans hz (by simp), fun k hk => (Below.heap_alloc W o2 k (by omega)).trans ((Below.heap_alloc W o1 k (by omega)).symm.trans (e5 k hk))⟩
theorem new_kept {w w6 : World} {a b : Value} {e : TypeId} (hb : Below (w.alloc (.cells #[a, b] e)).heap.size (w.alloc (.cells #[a, b] e)) w6) :
    w6.cell? ⟨w.heap.size, 0, none⟩ = some a ∧ w6.cell? ⟨w.heap.size, 1, none⟩ = some b ∧ w6.frozen? ⟨w.heap.size, 0, none⟩ = false ∧ w6.frozen? ⟨w.heap.size, 1, none⟩ = false ∧ w.heap.size < w6.heap.size := by
  have hz := hb.size
  rw [World.size_alloc] at hz
  refine ⟨?_, ?_, ?_, ?_, by omega⟩
  · rw [hb.cell (p := ⟨w.heap.size, 0, none⟩) (by simp), World.cell?_alloc_mark]; rfl
  · rw [hb.cell (p := ⟨w.heap.size, 1, none⟩) (by simp), World.cell?_alloc_mark]; rfl
  · rw [hb.frozen (p := ⟨w.heap.size, 0, none⟩) (by simp), World.frozen?_alloc_mark]; rfl
  · rw [hb.frozen (p := ⟨w.heap.size, 1, none⟩) (by simp), World.frozen?_alloc_mark]; rfl
theorem old_kept {w w6 : World} {a b : Value} {K : Nat} (hb : Below w.heap.size w w6) (h : w.cell? ⟨K, 0, none⟩ = some a ∧ w.cell? ⟨K, 1, none⟩ = some b ∧ w.frozen? ⟨K, 0, none⟩ = false ∧ w.frozen? ⟨K, 1, none⟩ = false ∧ K < w.heap.size) :
    w6.cell? ⟨K, 0, none⟩ = some a ∧ w6.cell? ⟨K, 1, none⟩ = some b ∧ w6.frozen? ⟨K, 0, none⟩ = false ∧ w6.frozen? ⟨K, 1, none⟩ = false ∧ K < w6.heap.size :=
  ⟨(hb.cell (p := ⟨K, 0, none⟩) h.2.2.2.2).trans h.1, (hb.cell (p := ⟨K, 1, none⟩) h.2.2.2.2).trans h.2.1, (hb.frozen (p := ⟨K, 0, none⟩) h.2.2.2.2).trans h.2.2.1, (hb.frozen (p := ⟨K, 1, none⟩) h.2.2.2.2).trans h.2.2.2.1, Nat.lt_of_lt_of_le h.2.2.2.2 hb.size⟩

theorem and5 {A B C D E G : Prop} (h : A ∧ B ∧ C ∧ D ∧ E) (g : A → B → C → D → E → G) : G := g h.1 h.2.1 h.2.2.1 h.2.2.2.1 h.2.2.2.2
theorem new_then {w w6 : World} {a b : Value} {e : TypeId} {G : Prop} (hb : Below (w.alloc (.cells #[a, b] e)).heap.size (w.alloc (.cells #[a, b] e)) w6)
    (g : (w6.cell? ⟨w.heap.size, 0, none⟩ = some a ∧ w6.cell? ⟨w.heap.size, 1, none⟩ = some b ∧ w6.frozen? ⟨w.heap.size, 0, none⟩ = false ∧ w6.frozen? ⟨w.heap.size, 1, none⟩ = false ∧ w.heap.size < w6.heap.size) → G) : G := g (new_kept hb)
theorem new_thenD {w w6 : World} {a b : Value} {e : TypeId} {G : Prop} (hb : Below (w.alloc (.cells #[a, b] e)).drew.heap.size (w.alloc (.cells #[a, b] e)).drew w6)
    (g : (w6.cell? ⟨w.heap.size, 0, none⟩ = some a ∧ w6.cell? ⟨w.heap.size, 1, none⟩ = some b ∧ w6.frozen? ⟨w.heap.size, 0, none⟩ = false ∧ w6.frozen? ⟨w.heap.size, 1, none⟩ = false ∧ w.heap.size < w6.heap.size) → G) : G := g (new_kept (below_drew hb))
theorem keep_ad (W0 : World) (o : Obj) : Below W0.heap.size W0 (W0.alloc o).drew := ((Below.refl _ _).alloc (Nat.le_refl _) o).trans ⟨rfl, rfl, rfl, Nat.le_refl _, fun _ _ => rfl⟩
theorem old_then {w w6 : World} {a b : Value} {K : Nat} {G : Prop} (hb : Below w.heap.size w w6) (h : w.cell? ⟨K, 0, none⟩ = some a ∧ w.cell? ⟨K, 1, none⟩ = some b ∧ w.frozen? ⟨K, 0, none⟩ = false ∧ w.frozen? ⟨K, 1, none⟩ = false ∧ K < w.heap.size)
    (g : (w6.cell? ⟨K, 0, none⟩ = some a ∧ w6.cell? ⟨K, 1, none⟩ = some b ∧ w6.frozen? ⟨K, 0, none⟩ = false ∧ w6.frozen? ⟨K, 1, none⟩ = false ∧ K < w6.heap.size) → G) : G := g (old_kept hb h)

set_option maxHeartbeats 1000000 in
theorem law_reads (s pkg other : List UInt8) (hs : s.length ≤ 140737488351232) (hp : pkg.length ≤ 140737488351232) (ho : other.length ≤ 140737488351232) (w : World) :
    Calls Tryd.prog 3 #[.string (bs s), .string (bs pkg), .string (bs other)] w fun e w' => e = .returned (.bool true) ∧ Below w.heap.size w w' := by
  have Ha := hid alive_any
  by_cases hbig : 1500 < s.length ∨ 1500 < pkg.length ∨ 1500 < other.length
  · by_cases h1 : 1500 < s.length
    · clear hbig
      go_enter Tryd.func3, Tryd.ntmps3
      go_wp2_with fail
      refine (Ha.out _).mono ?_
      rintro e w1 ⟨rfl, hb1⟩
      go_wp2_with fail
      go_ret
      exact ⟨rfl, hb1⟩
    · by_cases h2 : 1500 < pkg.length
      · clear hbig
        go_enter Tryd.func3, Tryd.ntmps3
        go_wp2_with fail
        refine (Ha.out _).mono ?_
        rintro e w1 ⟨rfl, hb1⟩
        go_wp2_with fail
        go_ret
        exact ⟨rfl, hb1⟩
      · have h3 : 1500 < other.length := by simpa [h1, h2] using hbig
        clear hbig
        go_enter Tryd.func3, Tryd.ntmps3
        go_wp2_with fail
        refine (Ha.out _).mono ?_
        rintro e w1 ⟨rfl, hb1⟩
        go_wp2_with fail
        go_ret
        exact ⟨rfl, hb1⟩
  · have h1 : s.length ≤ 1500 := by omega
    have h2 : pkg.length ≤ 1500 := by omega
    have h3 : other.length ≤ 1500 := by omega
    clear hbig hs hp ho
    obtain ⟨p, n, k, hr⟩ : ∃ p n k, readL s pkg = (p, n, k) := ⟨_, _, _, rfl⟩
    have Hr := hid (read_is s pkg (by omega) (by omega) p n k hr)
    have Hrr := hid (rread_is s pkg (by omega) (by omega) p n k hr)
    by_cases hk : k = 0
    · subst hk
      have hl := readL_good hr
      have hlen := readL_len hr
      have Ht := hid (text_is p n (by omega) (by omega) (longL p n) (by unfold textL; rw [if_pos hl]))
      have Hsh := hid (short_is p n p (by omega) (by omega) (58 :: n) (by unfold shortL; rw [if_pos ⟨hl, rfl⟩]))
      have Hr2 := hid (read_is (longL p n) other (by simp [longL]; omega) (by omega) p n 0 (readL_long other hl))
      have Hr3 := hid (read_is (58 :: n) p (by simp; omega) (by omega) p n 0 (readL_short hl))
      clear hr hl hlen
      go_enter Tryd.func3, Tryd.ntmps3
      go_wp2_with fail
      refine (Ha.out _).mono ?_
      rintro e w1 ⟨rfl, hb1⟩
      go_wp2_with fail
      refine (Hr.out _).mono ?_
      rintro e w2 ⟨rfl, hb2⟩
      go_wp2_with fail
      refine (Hrr.out _).mono ?_
      rintro e w3 ⟨rfl, hb3⟩
      obtain ⟨k0, k1, hbx3⟩ := box_cells hb3
      have hz3 : w2.heap.size < w3.heap.size := by have := hb3.size; rw [World.size_alloc] at this; omega
      have j0 : ∀ o, (w3.alloc o).cell? ⟨w2.heap.size, 0, none⟩ = some (.string (bs p)) := fun o => (World.cell?_of_block (w := w3) (Below.heap_alloc w3 o _ hz3)).trans k0
      have j1 : ∀ o, (w3.alloc o).cell? ⟨w2.heap.size, 1, none⟩ = some (.string (bs n)) := fun o => (World.cell?_of_block (w := w3) (Below.heap_alloc w3 o _ hz3)).trans k1
      go_wp2_with fail
      refine (Ht.out _).mono ?_
      rintro e w4 ⟨rfl, hb4⟩
      go_wp2_with fail
      refine (Hr2.out _).mono ?_
      rintro e w5 ⟨rfl, hb5⟩
      have m0 : w5.cell? ⟨w2.heap.size, 0, none⟩ = some (.string (bs p)) := by
        rw [hb5.cell (p := ⟨w2.heap.size, 0, none⟩) (by have := hb4.size; rw [World.size_alloc] at this; show w2.heap.size < w4.heap.size; omega), hb4.cell (p := ⟨w2.heap.size, 0, none⟩) (by rw [World.size_alloc]; show w2.heap.size < w3.heap.size + 1; omega)]
        exact j0 _
      have m1 : w5.cell? ⟨w2.heap.size, 1, none⟩ = some (.string (bs n)) := by
        rw [hb5.cell (p := ⟨w2.heap.size, 1, none⟩) (by have := hb4.size; rw [World.size_alloc] at this; show w2.heap.size < w4.heap.size; omega), hb4.cell (p := ⟨w2.heap.size, 1, none⟩) (by rw [World.size_alloc]; show w2.heap.size < w3.heap.size + 1; omega)]
        exact j1 _
      obtain ⟨W0, hW0⟩ : ∃ W0, W0 = w5.alloc (.cells #[.string (bs p), .string (bs n)] 24) := ⟨_, rfl⟩
      have hz5 : w2.heap.size < w5.heap.size := World.block_lt_of_cell? w5 _ m0
      have x0 : W0.cell? ⟨w2.heap.size, 0, none⟩ = some (.string (bs p)) := by rw [hW0]; exact (World.cell?_of_block (w := w5) (Below.heap_alloc w5 _ _ hz5)).trans m0
      have x1 : W0.cell? ⟨w2.heap.size, 1, none⟩ = some (.string (bs n)) := by rw [hW0]; exact (World.cell?_of_block (w := w5) (Below.heap_alloc w5 _ _ hz5)).trans m1
      have x2 : W0.cell? ⟨w5.heap.size, 0, none⟩ = some (.string (bs p)) := by rw [hW0, World.cell?_alloc_mark]; rfl
      have x3 : W0.cell? ⟨w5.heap.size, 1, none⟩ = some (.string (bs n)) := by rw [hW0, World.cell?_alloc_mark]; rfl
      have hB : Below w.heap.size w W0 := by
        have a3 : Below w.heap.size w w3 := Below.chain (Below.chain hb1 hb2) hbx3
        have a4 : Below w.heap.size w w4 := (a3.alloc a3.size _).trans (hb4.mono (by rw [World.size_alloc]; have := a3.size; omega))
        have a5 : Below w.heap.size w w5 := Below.chain a4 hb5
        rw [hW0]; exact a5.alloc a5.size _
      have k20 : w2.heap.size < W0.heap.size := World.block_lt_of_cell? W0 _ x0
      have k50 : w5.heap.size < W0.heap.size := World.block_lt_of_cell? W0 _ x2
      clear j0 j1 k0 k1 m0 m1
      go_wp2_with fail
      rw [← hW0]
      clear hW0
      go_region_held3 (fun W => W.cell? ⟨w2.heap.size, 0, none⟩ = some (.string (bs p)) ∧ W.cell? ⟨w2.heap.size, 1, none⟩ = some (.string (bs n)) ∧ W.cell? ⟨w5.heap.size, 0, none⟩ = some (.string (bs p)) ∧ W.cell? ⟨w5.heap.size, 1, none⟩ = some (.string (bs n)) ∧ Below W0.heap.size W0 W)
        (first
          | exact keep_of x0 x1 x2 x3 (keep_drew W0)
          | exact keep_of x0 x1 x2 x3 (keep_ad W0 _)
          | (refine keep_alloc ?_; assumption)
          | (refine keep_re (.cells #[.string ⟨#[]⟩, .string ⟨#[]⟩] 24) (Nat.le_trans hb6.size hb7.size) x0 x1 x2 x3 ?_; assumption)
          | (refine keep_call hb7 ?_; assumption)
          | (refine keep_call hb6 ?_; assumption)
          | (refine keep_set ?_ ?_ ?_ ?_ ?_ ?_; (first | exact k20 | exact Nat.lt_of_lt_of_le k20 hb6.size); (first | exact k20 | exact Nat.lt_of_lt_of_le k20 hb6.size); (first | exact k50 | exact Nat.lt_of_lt_of_le k50 hb6.size); (first | exact k50 | exact Nat.lt_of_lt_of_le k50 hb6.size); (first | exact Nat.le_refl _ | exact hb6.size); assumption))
        (first | (go_at_call 11; refine (Hsh.out _).mono ?_; rintro e w6 ⟨rfl, hb6⟩; try ((first | refine new_then hb6 ?_ | refine new_thenD hb6 ?_); intro hy6; refine and5 hy6 ?_; intro y0 y1 y2 y3 y4)) | (go_at_call 8; refine (Hr3.out _).mono ?_; rintro e w7 ⟨rfl, hb7⟩; try (first | (refine new_then hb7 ?_; intro hz7; refine and5 hz7 ?_; intro z0 z1 z2 z3 z4) | (refine old_then hb7 hy6 ?_; intro hz7; refine and5 hz7 ?_; intro z0 z1 z2 z3 z4))))
      · rename_i hHeld
        obtain ⟨e0, e1, e2, e3, hbF⟩ := hHeld
        have hy0 : (w7.alloc (.cells #[.string (bs p), .string (bs n)] 24)).cell? ⟨w7.heap.size, 0, none⟩ = some (.string (bs p)) := by rw [World.cell?_alloc_mark]; rfl
        have hy1 : (w7.alloc (.cells #[.string (bs p), .string (bs n)] 24)).cell? ⟨w7.heap.size, 1, none⟩ = some (.string (bs n)) := by rw [World.cell?_alloc_mark]; rfl
        generalize w7.alloc (.cells #[.string (bs p), .string (bs n)] 24) = WF at *
        go_wp2_with fail
        go_ret
        exact ⟨rfl, Below.chain hB hbF⟩
      · rename_i hHeld
        obtain ⟨e0, e1, e2, e3, hbF⟩ := hHeld
        obtain ⟨hy0, hy1⟩ := res_set (a := []) (b := []) z0 z1 (.string (bs p)) (.string (bs n))
        generalize (w7.setCell ⟨w6.heap.size, 0, none⟩ (.string (bs p))).setCell ⟨w6.heap.size, 1, none⟩ (.string (bs n)) = WF at *
        go_wp2_with fail
        go_ret
        exact ⟨rfl, Below.chain hB hbF⟩
      · rename_i hHeld
        obtain ⟨e0, e1, e2, e3, hbF⟩ := hHeld
        obtain ⟨hy0, hy1⟩ := res_set (a := []) (b := []) z0 z1 (.string (bs p)) (.string (bs n))
        generalize (w7.setCell ⟨W0.heap.size, 0, none⟩ (.string (bs p))).setCell ⟨W0.heap.size, 1, none⟩ (.string (bs n)) = WF at *
        go_wp2_with fail
        go_ret
        exact ⟨rfl, Below.chain hB hbF⟩
    · have q0 : ((k : Int) != 0) = true := neT (by omega)
      have q1 : ((k : Int) == 0) = false := eqF (by omega)
      clear hr hk
      go_enter Tryd.func3, Tryd.ntmps3
      go_wp2_with fail
      refine (Ha.out _).mono ?_
      rintro e w1 ⟨rfl, hb1⟩
      go_wp2_with fail
      refine (Hr.out _).mono ?_
      rintro e w2 ⟨rfl, hb2⟩
      go_wp2_with fail
      refine (Hrr.out _).mono ?_
      rintro e w3 ⟨rfl, hb3⟩
      obtain ⟨k0, k1, hbx3⟩ := box_cells hb3
      have hz3 : w2.heap.size < w3.heap.size := by have := hb3.size; rw [World.size_alloc] at this; omega
      have j0 : ∀ o, (w3.alloc o).cell? ⟨w2.heap.size, 0, none⟩ = some (.string (bs p)) := fun o => (World.cell?_of_block (w := w3) (Below.heap_alloc w3 o _ hz3)).trans k0
      have j1 : ∀ o, (w3.alloc o).cell? ⟨w2.heap.size, 1, none⟩ = some (.string (bs n)) := fun o => (World.cell?_of_block (w := w3) (Below.heap_alloc w3 o _ hz3)).trans k1
      go_wp2_with fail
      go_ret
      have a3 : Below w.heap.size w w3 := Below.chain (Below.chain hb1 hb2) hbx3
      exact ⟨rfl, a3.alloc a3.size _⟩
end Go.Proofs.YtemfmheimblboaaDoor
