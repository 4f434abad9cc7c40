/- The walk of slices.DeleteFunc of files, with Drop's function. -/
import Derived.Test.YtffmjjocjcomnaaDoorPutDropIdx
import Derived.Test.YtffmjjocjcomnaaDoorPutLaws
import Derived.Test.YtffmjjocjcomnaaDoorClearTwo
namespace Go.Proofs.YtffmjjocjcomnaaDoor
set_option maxRecDepth 100000
open Go.RowKit

def DropAt (xs : List FileL) (base : Nat) (w : World) (e : Ending) (w' : World) : Prop :=
  ∃ v, e = .returned v ∧ SliceAt w' 2 v xs.length (fileCells xs) ∧ Below base w w'
theorem drop_none {p : List UInt8} : ∀ {fs : List FileL}, getL p fs = none → dropL fs p = fs
  | [], _ => rfl
  | f :: fs, h => by
    unfold getL at h
    by_cases hf : (f.1 == p) = true
    · rw [if_pos hf] at h; cases h
    · rw [if_neg hf] at h
      have := drop_none h
      unfold dropL at *
      rw [List.filter_cons, if_pos (by simpa using hf), this]
theorem idx_first (p : List UInt8) : ∀ (fs : List FileL) (k j : Nat), idxFrom p k fs = ((k + j : Nat) : Int) → j < fs.length → dropL (fs.take (j + 1)) p = fs.take j
  | [], _, _, _, h => by simp at h
  | f :: fs, k, j, h, hj => by
    unfold idxFrom at h
    by_cases hf : (f.1 == p) = true
    · rw [if_pos hf] at h
      obtain rfl : j = 0 := by omega
      show dropL [f] p = []
      unfold dropL; simp [hf]
    · rw [if_neg hf] at h
      cases j with
      | zero => 
        exfalso
        have : ∀ (l : List FileL) (k : Nat), idxFrom p (k + 1) l ≠ (k : Int) := by
          intro l
          induction l with
          | nil => intro k; unfold idxFrom; omega
          | cons x l ih =>
            intro k
            unfold idxFrom
            split
            · omega
            · intro e
              have h2 : ∀ (l : List FileL) (m : Nat), idxFrom p m l = -1 ∨ (m : Int) ≤ idxFrom p m l := by
                intro l
                induction l with
                | nil => intro m; exact .inl rfl
                | cons x l ih2 =>
                  intro m
                  unfold idxFrom
                  split
                  · exact .inr (by omega)
                  · rcases ih2 (m + 1) with h | h
                    · exact .inl h
                    · exact .inr (by omega)
              rcases h2 l (k + 1 + 1) with h | h <;> omega
        exact this fs k (by simpa using h)
      | succ j =>
        have := idx_first p fs (k + 1) j (by rw [h]; congr 1; omega) (by simpa using hj)
        unfold dropL at *
        rw [List.take_succ_cons, List.filter_cons, if_pos (by simpa using hf), this]; rfl

theorem Below.keeps' {w W : World} (hW : Below w.heap.size w W) {a : Addr} {v : Value} (h : w.cell? a = some v) : W.cell? a = some v := (hW.cell (World.block_lt_of_cell? w _ h)).trans h
theorem below_cells {B : Nat} {a : World} (b : Nat) (hb : B ≤ b) : ∀ (vs : List Value) (o : Nat) (w : World), Below B a w → Below B a (w.setCells b o vs)
  | [], _, _, h => h
  | v :: vs, o, _, h => below_cells b hb vs (o + 1) _ (h.setCell (p := ⟨b, o, none⟩) hb v)
theorem first_cells {w : World} {base e g n cap i : Nat} {ys : List FileL} (vs : List Value) (h : w.ownsRow base e 2 (.slice (some ⟨g, 0, none⟩) n cap) n (fileCells ys)) (hi : i ≤ ys.length) (hc : ys.length ≤ cap) (hm : cap ≤ 2 ^ 63 - 1) (hg : g < w.heap.size) :
    SliceAt (w.setCells g (i * 2) vs) 2 (.slice (some ⟨g, 0, none⟩) i cap) i (fileCells (ys.take i)) := by
  have hl : (fileCells (ys.take i)).length = i * 2 := by rw [fileCells_len, List.length_take, Nat.min_eq_left hi]
  have hn := own_files h
  refine ⟨hl, _, cap, rfl, by omega, by unfold maxLen; omega, fun h => (by cases h), fun _ => ⟨g, 0, rfl, Nat.lt_of_lt_of_le hg (below_cells (B := 0) g (Nat.zero_le _) vs (i * 2) w (Below.refl 0 w)).size, fun t u hu => ?_⟩⟩
  have ht : t < i * 2 := by
    rcases Nat.lt_or_ge t (fileCells (ys.take i)).length with h | h
    · omega
    · rw [List.getElem?_eq_none h] at hu; cases hu
  rw [World.cell?_setCells_out g vs (i * 2) w ⟨g, 0 + t, none⟩ (fun _ _ => .inl (by show 0 + t < i * 2; omega)), Nat.zero_add, h.cellAt t (by omega)]
  have : fileCells ys = fileCells (ys.take i) ++ fileCells (ys.drop i) := by rw [← fileCells_append, List.take_append_drop]
  rw [this, List.getElem?_append_left (by omega)]
  exact hu
theorem own_file {w : World} {base e g n cap : Nat} {ys : List FileL} (h : w.ownsRow base e 2 (.slice (some ⟨g, 0, none⟩) n cap) n (fileCells ys)) (k : Nat) (hk : k < ys.length) :
    (w.cell? ⟨g, k * 2, none⟩ = some (.string (bs ys[k].1)) ∧ w.cell? ⟨g, k * 2 + 1, none⟩ = some (.string (bs ys[k].2))) ∧ w.frozen? ⟨g, k * 2, none⟩ = false ∧ w.frozen? ⟨g, k * 2 + 1, none⟩ = false := by
  have hn := own_files h
  have hg := fileCells_get ys k hk
  exact ⟨⟨(h.cellAt _ (by omega)).trans hg.1, (h.cellAt _ (by omega)).trans hg.2⟩, h.frozenAt _, h.frozenAt _⟩
theorem own_set {w : World} {base e g n cap : Nat} {ys : List FileL} (h : w.ownsRow base e 2 (.slice (some ⟨g, 0, none⟩) n cap) n (fileCells ys)) (k : Nat) (hk : k < ys.length) (f : FileL) :
    ((w.setCell ⟨g, k * 2, none⟩ (.string (bs f.1))).setCell ⟨g, k * 2 + 1, none⟩ (.string (bs f.2))).ownsRow base e 2 (.slice (some ⟨g, 0, none⟩) n cap) n (fileCells (ys.set k f)) := by
  have h1 := (h.stored (k * 2) (.string (bs f.1))).1
  have h2 := (h1.stored (k * 2 + 1) (.string (bs f.2))).1
  rw [fileCells_set ys f k hk]; exact h2
theorem take_set_succ {ys : List FileL} {i : Nat} (f : FileL) (h : i < ys.length) : (ys.set i f).take (i + 1) = ys.take i ++ [f] := by
  rw [take_at _ i (by simpa using h), List.take_set, List.set_eq_of_length_le (by simp; omega)]
  simp

set_option maxHeartbeats 2000000 in
theorem delete_any (fs : List FileL) (p : List UInt8) (q base : Nat) (v0 : Value) (w : World) (hq : w.cell? ⟨q, 0, none⟩ = some (.string (bs p))) (hqb : q < base) (hown : w.ownsRow base 40 2 v0 fs.length (fileCells fs)) (hlen : fs.length ≤ 1000) (hbase : base ≤ w.heap.size) :
    Calls Tryd.prog 39 #[v0, .func (.func 40) #[] #[.pointer (some ⟨q, 0, none⟩)]] w (DropAt (dropL fs p) base w) := by
  have h0 := SliceAt.of_owns hown (by unfold maxLen; omega)
  have Hi := hid (didx_any fs p q v0 _ w hq (by omega) h0)
  cases hg : getL p fs with
  | none =>
    have hd := hid (drop_none hg)
    have hi := idx_none p fs 0 hg
    rw [hi] at Hi
    have Hown := hid hown
    obtain ⟨-, a0, c0, rfl, hc0, hm0, -⟩ := h0
    clear hg hi hown
    go_enter Tryd.func39, Tryd.ntmps39
    go_wp2_with fail
    refine Hi.out.mono ?_
    rintro e w1 ⟨rfl, hb1⟩
    go_wp2_with fail
    go_ret
    refine ⟨_, rfl, ?_, hb1.mono hbase⟩
    rw [hd.out]
    exact (SliceAt.of_owns (ownsRow_below Hown.out hb1) (by unfold maxLen; omega))
  | some d =>
    obtain ⟨i0, hi0, hi, -⟩ := idx_some p d fs 0 hg
    have hfst := idx_first p fs 0 i0 hi hi0
    rw [hi] at Hi
    have Hfst := hid hfst
    obtain ⟨hl, hc⟩ := hown
    rcases hc with ⟨-, h0'⟩ | ⟨g, cap, cur, rfl, hrest⟩
    · omega
    have Hown : Hid (w.ownsRow base 40 2 (.slice (some ⟨g, 0, none⟩) fs.length cap) fs.length (fileCells fs)) := hid ⟨hl, .inr ⟨g, cap, cur, rfl, hrest⟩⟩
    obtain ⟨hgb, -, hnc, hcm, -⟩ := hrest
    unfold maxLen at hcm
    clear hg hi hfst hl h0
    go_enter Tryd.func39, Tryd.ntmps39
    go_wp2_with fail
    refine Hi.out.mono ?_
    rintro e w1 ⟨rfl, hb1⟩
    have hown1 := ownsRow_below Hown.out hb1
    have hB1 := hb1.mono hbase
    have hq1 := Below.keeps' hb1 hq
    clear hb1
    go_wp2_with fail
    go_loopw [5, 6] (fun a b wr => ∃ (i j : Nat) (ys : List FileL), a = .int .i64 i ∧ b = .int .i64 j ∧ i < j ∧ j ≤ fs.length ∧ ys.length = fs.length ∧ ys.take i = dropL (fs.take j) p ∧ ys.drop j = fs.drop j ∧ wr.ownsRow base 40 2 (.slice (some ⟨g, 0, none⟩) fs.length cap) fs.length (fileCells ys) ∧ wr.cell? ⟨q, 0, none⟩ = some (.string (bs p)) ∧ Below base w wr) (fun _ b _ => fs.length - (intOf b).toNat)
    case atStart => exact ⟨i0, i0 + 1, fs, by simp, by go_num, by omega, by omega, rfl, Hfst.out.symm, rfl, hown1, hq1, hB1⟩
    case round =>
      obtain ⟨i, j, ys, rfl, rfl, hij, hjn, hyl, hti, hdj, hown, hqr, hbw⟩ := hrel
      by_cases hlt : j < fs.length
      · have hyj : ys[j] = fs[j] := by
          have h1 := drop_at ys j (by omega)
          have h2 := drop_at fs j hlt
          rw [h1, h2] at hdj
          exact (List.cons.inj hdj).1
        obtain ⟨⟨e0, e1⟩, -, -⟩ := own_file hown j (by omega)
        rw [hyj] at e0 e1
        have Hy := hid (drop_succ fs p j hlt)
        have Hdr : Hid (ys.drop (j + 1) = fs.drop (j + 1)) := by
          apply hid
          have h1 := drop_at ys j (by omega)
          have h2 := drop_at fs j hlt
          rw [h1, h2] at hdj
          exact (List.cons.inj hdj).2
        have hsz := hbw.size
        obtain ⟨b, hb⟩ : ∃ b, (fs[j].1 == p) = b := ⟨_, rfl⟩
        have Hc := hid (fun W hW hW2 => dclo_any fs[j] p q W hW hW2 b hb)
        rw [hb] at Hy
        rw [← hti] at Hy
        clear hb hyj hdj
        obtain ⟨fp, hfp⟩ : ∃ x, fs[j] = x := ⟨_, rfl⟩
        rw [hfp] at e0 e1 Hc Hy
        clear hfp
        obtain ⟨xp, xd⟩ := fp
        simp only [] at e0 e1
        have hWb : Below base w (wr.alloc (.cells #[.string (bs xp), .string (bs xd)] 40)) := hbw.alloc (by omega) _
        have hq3 : (wr.alloc (.cells #[.string (bs xp), .string (bs xd)] 40)).cell? ⟨q, 0, none⟩ = some (.string (bs p)) := Below.keeps' ((Below.refl _ _).alloc (Nat.le_refl _) _) hqr
        have Hcc := hid (Hc.out _ hq3 (World.block_lt_of_cell? _ _ hq3))
        have hownA := hown.alloc (.cells #[.string (bs xp), .string (bs xd)] 40)
        have hgw : g < wr.heap.size := (hown.lt g rfl).2
        cases b with
        | true =>
          go_wp2_with fail
          refine Hcc.out.mono ?_
          rintro e w2 ⟨rfl, hb2⟩
          have hq4 := Below.keeps' hb2 hq3
          have hown2 := ownsRow_below hownA hb2
          have hB2 := hWb.trans (hb2.mono (by rw [World.size_alloc]; omega))
          clear hownA hWb hb2
          go_wp2_with fail
          have hfin : ys.take i = dropL (fs.take (j + 1)) p := by rw [Hy.out]; simp
          refine ⟨?_, by simp [intOf]; omega⟩
          (repeat apply Exists.intro)
          exact ⟨⟨i, j + 1, ys, rfl, by go_num, by omega, by omega, hyl, hfin, Hdr.out, hown2, hq4, hB2⟩, rfl⟩
        | false =>
          go_wp2_with fail
          refine Hcc.out.mono ?_
          rintro e w2 ⟨rfl, hb2⟩
          have hq4 := Below.keeps' hb2 hq3
          have hown2 := ownsRow_below hownA hb2
          have hB2 := hWb.trans (hb2.mono (by rw [World.size_alloc]; omega))
          have x0 : w2.cell? ⟨wr.heap.size, 0, none⟩ = some (.string (bs xp)) := (hb2.cell (p := ⟨wr.heap.size, 0, none⟩) (by simp)).trans (by rw [World.cell?_alloc_mark]; rfl)
          have x1 : w2.cell? ⟨wr.heap.size, 1, none⟩ = some (.string (bs xd)) := (hb2.cell (p := ⟨wr.heap.size, 1, none⟩) (by simp)).trans (by rw [World.cell?_alloc_mark]; rfl)
          obtain ⟨⟨g0, g1⟩, g2, g3⟩ := own_file hown2 i (by omega)
          have hset := own_set hown2 i (by omega) (xp, xd)
          clear hownA hWb hb2
          go_wp2_with fail
          have f1 : (ys.set i (xp, xd)).take (i + 1) = dropL (fs.take (j + 1)) p := by rw [take_set_succ _ (by omega), Hy.out]; simp
          have f2 : (ys.set i (xp, xd)).drop (j + 1) = fs.drop (j + 1) := by rw [List.drop_set_of_lt (by omega)]; exact Hdr.out
          have hqg : ∀ x : Nat, (⟨g, x, none⟩ : Addr) ≠ ⟨q, 0, none⟩ := fun x e => by have e1 : g = q := congrArg Addr.block e; omega
          have f3 : ((w2.setCell ⟨g, i * 2, none⟩ (.string (bs xp))).setCell ⟨g, i * 2 + 1, none⟩ (.string (bs xd))).cell? ⟨q, 0, none⟩ = some (.string (bs p)) := by
            rw [World.cell?_setCell_other _ _ _ _ (hqg _), World.cell?_setCell_other _ _ _ _ (hqg _)]; exact hq4
          refine ⟨?_, by simp [intOf]; omega⟩
          (repeat apply Exists.intro)
          exact ⟨⟨i + 1, j + 1, ys.set i (xp, xd), by go_num, by go_num, by omega, by omega, by simpa using hyl, f1, f2, hset, f3, (hB2.setCell (p := ⟨g, i * 2, none⟩) hgb _).setCell (p := ⟨g, i * 2 + 1, none⟩) hgb _⟩, rfl⟩
      · obtain rfl : j = fs.length := by omega
        rw [List.take_length] at hti
        have hil : i < ys.length := by omega
        have hlen2 : (dropL fs p).length = i := by rw [← hti]; simp; omega
        have hcl : ∀ ty, (Builtin.clear_ #[22] ty #[.slice (some ⟨g, i * 2, none⟩) (fs.length - i) (cap - i)]).run Tryd.prog wr = .ok (.tuple #[]) (wr.setCells g (i * 2) (List.replicate ((fs.length - i) * 2) (.string ⟨#[]⟩))) := fun ty =>
          run_clear_two wr _ 40 ty (.agg #[.string ⟨#[]⟩, .string ⟨#[]⟩]) _ Tryd.underlying22 (fun _ => by rfl) rfl rfl g (i * 2) _ _ (by omega) (fun t ht => by rw [hown.cellAt _ (by omega)]; simp [fileCells_len]; omega) (fun t _ => hown.frozenAt _)
        go_wp2_with fail
        go_ret
        have hsl := first_cells (i := i) (List.replicate ((fs.length - i) * 2) (.string ⟨#[]⟩)) hown (by omega) (by omega) (by omega) (hown.lt g rfl).2
        refine ⟨_, rfl, ?_, below_cells g hgb _ _ _ hbw⟩
        rw [← hti, show (ys.take i).length = i by simp; omega]
        exact hsl
end Go.Proofs.YtffmjjocjcomnaaDoor
