/- The walks of tree.Get, of the reference's Get and Paths, of the law's texts; the law TreeGets. -/
import Derived.Test.YtffmjjocjcomnaaDoorTreeLaw1
namespace Go.Proofs.YtffmjjocjcomnaaDoor
open Go.RowKit

/-! The file at a path. -/
def idxFrom (p : List UInt8) : Nat → List FileL → Int
  | _, [] => -1
  | k, f :: fs => if (f.1 == p) = true then k else idxFrom p (k + 1) fs
def getL (p : List UInt8) : List FileL → Option (List UInt8)
  | [] => none
  | f :: fs => if (f.1 == p) = true then some f.2 else getL p fs
theorem idx_none (p : List UInt8) : ∀ fs k, getL p fs = none → idxFrom p k fs = -1
  | [], _, _ => rfl
  | f :: fs, k, h => by
    unfold getL at h; unfold idxFrom
    by_cases hf : (f.1 == p) = true
    · rw [if_pos hf] at h; cases h
    · rw [if_neg hf] at h ⊢; exact idx_none p fs _ h
theorem idx_some (p d : List UInt8) : ∀ fs k, getL p fs = some d → ∃ j, ∃ h : j < fs.length, idxFrom p k fs = ((k + j : Nat) : Int) ∧ fs[j] = (p, d)
  | [], _, h => by cases h
  | f :: fs, k, h => by
    unfold getL at h; unfold idxFrom
    by_cases hf : (f.1 == p) = true
    · rw [if_pos hf] at h ⊢
      refine ⟨0, by simp, rfl, ?_⟩
      obtain ⟨a, b⟩ := f
      have h1 : a = p := by simpa using hf
      have h2 : b = d := by simpa using h
      rw [← h1, ← h2]; rfl
    · rw [if_neg hf] at h ⊢
      obtain ⟨j, hj, h1, h2⟩ := idx_some p d fs (k + 1) h
      exact ⟨j + 1, by simpa using hj, by rw [h1]; congr 1; omega, by simpa using h2⟩

theorem clo_any (f : FileL) (p : List UInt8) (q : Nat) (w : World) (hq : w.cell? ⟨q, 0, none⟩ = some (.string (bs p))) (hqs : q < w.heap.size) (b : Bool) (h : (f.1 == p) = b) :
    Calls Tryd.prog 31 #[.agg #[.string (bs f.1), .string (bs f.2)], .pointer (some ⟨q, 0, none⟩)] w fun e w' => e = .returned (.bool b) ∧ Below w.heap.size w w' := by
  have hq2 : ∀ o, (w.alloc o).cell? ⟨q, 0, none⟩ = some (.string (bs p)) := fun o => (((Below.refl w.heap.size w).alloc (Nat.le_refl _) o).cell hqs).trans hq
  clear hq
  go_enter Tryd.func31, Tryd.ntmps31
  go_wp2_with fail
  go_ret
  exact ⟨rfl, (Below.refl _ _).alloc (Nat.le_refl _) _⟩

set_option maxHeartbeats 1000000 in
theorem idx_any (fs : List FileL) (p : List UInt8) (q : Nat) (v0 : Value) (n0 : Nat) (w : World) (hq : w.cell? ⟨q, 0, none⟩ = some (.string (bs p))) (hqs : q < w.heap.size) (h0 : SliceAt w 2 v0 n0 (fileCells fs)) :
    Calls Tryd.prog 30 #[v0, .func (.func 31) #[] #[.pointer (some ⟨q, 0, none⟩)]] w fun e w' => e = .returned (.int .i64 (idxFrom p 0 fs)) ∧ Below w.heap.size w w' := by
  have h00 := h0
  have Hq := hid (fun W (hW : Below w.heap.size w W) => (hW.cell hqs).trans hq)
  clear hq
  obtain ⟨rfl, a0, c0, rfl, hc0, hm0, -⟩ := h0.files
  clear h0
  unfold maxLen at hm0
  go_enter Tryd.func30, Tryd.ntmps30
  go_wp2_with fail
  go_loopw [8] (fun i wr => ∃ (k : Nat), k ≤ fs.length ∧ i = .int .i64 k ∧ idxFrom p 0 fs = idxFrom p k (fs.drop k) ∧ Below w.heap.size w wr) (fun i _ => fs.length - (intOf i).toNat)
  case atStart => exact ⟨0, by omega, rfl, rfl, Below.refl _ _⟩
  case round =>
    obtain ⟨k, hk, rfl, hg, hbw⟩ := hrel
    have hsz := hbw.size
    have Hg := hid hg; clear hg
    by_cases hlt : k < fs.length
    · obtain ⟨-, a1, c1, hv, -, -, hx1⟩ := (h00.below hbw (Nat.le_refl _)).files
      obtain ⟨b0, o0, rfl, hb0, hcl0⟩ := hx1 k hlt
      obtain ⟨rfl, rfl⟩ : a0 = some ⟨b0, o0, none⟩ ∧ c0 = c1 := by simpa using hv
      have e0 := (hcl0 k hlt).1
      have e1 := (hcl0 k hlt).2
      clear hcl0 hx1 hv
      have Hd := hid (drop_at fs k hlt)
      obtain ⟨b, hb⟩ : ∃ b, (fs[k].1 == p) = b := ⟨_, rfl⟩
      have Hc := hid (clo_any fs[k] p q wr (Hq.out wr hbw) (by omega) b hb)
      have Hb := hid hb; clear hb
      go_wp2_with fail
      refine Hc.out.mono ?_
      rintro e w1 ⟨rfl, hb1⟩
      have hb2 := hbw.trans (hb1.mono hsz)
      cases b with
      | true =>
        go_wp2_with fail
        go_ret
        exact ⟨by rw [Hg.out, Hd.out, idxFrom, if_pos Hb.out]; rfl, hb2⟩
      | false =>
        go_wp2_with fail
        refine ⟨⟨k + 1, by omega, by go_num, ?_, hb2⟩, by simp [intOf]; omega⟩
        rw [Hg.out, Hd.out, idxFrom, if_neg (by rw [Hb.out]; decide)]
    · go_wp2_with fail
      go_ret
      exact ⟨by rw [Hg.out, List.drop_eq_nil_of_le (by omega)]; rfl, hbw⟩

def getPair (p : List UInt8) (fs : List FileL) : Value × Value := match getL p fs with | some d => (.string (bs d), .bool true) | none => (.string (bs []), .bool false)

set_option maxHeartbeats 1000000 in
theorem get_any (v0 : Value) (n0 : Nat) (fs : List FileL) (p : List UInt8) (x y : Value) (hxy : getPair p fs = (x, y)) (w : World) (h0 : SliceAt w 2 v0 n0 (fileCells fs)) :
    Calls Tryd.prog 13 #[v0, .string (bs p)] w fun e w' => e = .returned (.tuple #[x, y]) ∧ Below w.heap.size w w' := by
  have h00 := h0
  obtain ⟨rfl, a0, c0, rfl, hc0, hm0, -⟩ := h0.files
  unfold maxLen at hm0
  have hbx : Below w.heap.size w (w.alloc (.cells #[.string (bs p)] 9)) := (Below.refl _ _).alloc (Nat.le_refl _) _
  have Hi := hid (idx_any fs p w.heap.size _ _ (w.alloc (.cells #[.string (bs p)] 9)) (by rw [World.cell?_alloc_mark]; rfl) (by rw [World.size_alloc]; omega) (h0.below hbx (Nat.le_refl _)))
  have Hbx := hid hbx; clear hbx h0
  cases hg : getL p fs with
  | none =>
    rw [getPair, hg] at hxy
    simp only [Prod.mk.injEq] at hxy
    obtain ⟨rfl, rfl⟩ := hxy
    rw [idx_none p fs 0 hg] at Hi
    clear hg
    go_enter Tryd.func13, Tryd.ntmps13
    go_wp2_with fail
    refine Hi.out.mono ?_
    rintro e w1 ⟨rfl, hb1⟩
    rw [World.size_alloc] at hb1
    have hb2 := Hbx.out.trans (hb1.mono (by omega))
    go_wp2_with fail
    go_ret2
    exact ⟨rfl, hb2⟩
  | some d =>
    rw [getPair, hg] at hxy
    simp only [Prod.mk.injEq] at hxy
    obtain ⟨rfl, rfl⟩ := hxy
    obtain ⟨j, hj, h1, h2⟩ := idx_some p d fs 0 hg
    rw [h1, Nat.zero_add] at Hi
    clear hg h1
    go_enter Tryd.func13, Tryd.ntmps13
    go_wp2_with fail
    refine Hi.out.mono ?_
    rintro e w1 ⟨rfl, hb1⟩
    rw [World.size_alloc] at hb1
    have hb2 := Hbx.out.trans (hb1.mono (by omega))
    obtain ⟨-, a1, c1, hv, -, -, hx1⟩ := (h00.below hb2 (Nat.le_refl _)).files
    obtain ⟨b0, o0, rfl, hb0, hcl0⟩ := hx1 j hj
    obtain ⟨rfl, rfl⟩ : a0 = some ⟨b0, o0, none⟩ ∧ c0 = c1 := by simpa using hv
    have e1 := (hcl0 j hj).2
    rw [h2] at e1
    clear hcl0 hx1 hv h2
    go_wp2_with fail
    go_ret2
    exact ⟨rfl, hb2⟩

set_option maxHeartbeats 1000000 in
theorem refGet_any (v0 : Value) (n0 : Nat) (fs : List FileL) (p : List UInt8) (x y : Value) (hxy : getPair p fs = (x, y)) (w : World) (h0 : SliceAt w 2 v0 n0 (fileCells fs)) :
    Calls Tryd.prog 14 #[v0, .string (bs p)] w fun e w' => e = .returned (.tuple #[x, y]) ∧ w = w' := by
  obtain ⟨rfl, a0, c0, rfl, hc0, hm0, hx0⟩ := h0.files
  have Hx := hid hx0; clear hx0 h0
  unfold maxLen at hm0
  have Hxy := hid hxy; clear hxy
  go_enter Tryd.func14, Tryd.ntmps14
  go_wp2_with fail
  go_loop [9] (fun i => ∃ (k : Nat), k ≤ fs.length ∧ i = .int .i64 k ∧ getL p fs = getL p (fs.drop k)) (fun i => fs.length - (intOf i).toNat)
  case atStart => exact ⟨0, by omega, rfl, rfl⟩
  case round =>
    obtain ⟨k, hk, rfl, hg⟩ := hrel
    have Hg := hid hg; clear hg
    by_cases hlt : k < fs.length
    · obtain ⟨b0, o0, rfl, hb0, hcl0⟩ := Hx.out k hlt
      have e0 := (hcl0 k hlt).1
      have e1 := (hcl0 k hlt).2
      clear hcl0
      have Hd := hid (drop_at fs k hlt)
      obtain ⟨b, hb⟩ : ∃ b, (fs[k].1 == p) = b := ⟨_, rfl⟩
      have Hb := hid hb
      cases b with
      | true =>
        have hge : Hid (Value.string (bs fs[k].2) = x ∧ Value.bool true = y) := by
          apply hid
          have := Hxy.out
          rw [getPair, Hg.out, Hd.out, getL, if_pos Hb.out] at this
          simpa using this
        go_wp2_with fail
        go_ret2
        rw [← hge.out.1, ← hge.out.2]
        exact ⟨rfl, rfl⟩
      | false =>
        go_wp2_with fail
        refine ⟨⟨k + 1, by omega, by go_num, ?_⟩, by simp [intOf]; omega⟩
        rw [Hg.out, Hd.out, getL, if_neg (by rw [Hb.out]; decide)]
    · have hge : Hid (Value.string (bs []) = x ∧ Value.bool false = y) := by
        apply hid
        have := Hxy.out
        rw [getPair, Hg.out, List.drop_eq_nil_of_le (by omega), getL] at this
        simpa using this
      go_wp2_with fail
      go_ret2
      rw [← hge.out.1, ← hge.out.2]
      exact ⟨rfl, rfl⟩

theorem checkFrom_bad : ∀ (fs : List FileL) (a : List UInt8) (b : Bool), checkFrom a b fs = 0 → ∀ f ∈ fs, badName f.1 = false ∧ f.2.length ≤ 65536
  | [], _, _, _, f, hf => by cases hf
  | g :: fs, a, b, h, f, hf => by
    unfold checkFrom at h
    by_cases h0 : lookE g a b = 0
    · rw [if_pos h0] at h
      rcases List.mem_cons.1 hf with rfl | hf
      · unfold lookE at h0
        by_cases h1 : badName f.1 = true
        · rw [if_pos h1] at h0; cases h0
        · refine ⟨by simpa using h1, ?_⟩
          rw [if_neg h1] at h0
          by_cases h2 : b = false ∧ (f.1 == a) = true
          · rw [if_pos h2] at h0; cases h0
          · rw [if_neg h2] at h0
            by_cases h3 : b = false ∧ Op.bytesLess f.1 a = true
            · rw [if_pos h3] at h0; cases h0
            · rw [if_neg h3] at h0
              by_cases h4 : 65536 < f.2.length
              · rw [if_pos h4] at h0; cases h0
              · omega
      · exact checkFrom_bad fs _ _ h f hf
    · rw [if_neg h0] at h; exact absurd h h0
theorem check_may {fs : List FileL} (h : checkL fs = 0) : ∀ f ∈ fs, mayB f.1 = true := by
  unfold checkL at h
  by_cases h1 : 1024 < fs.length
  · rw [if_pos h1] at h; cases h
  · rw [if_neg h1] at h
    intro f hf
    have := (checkFrom_bad fs _ _ h f hf).1
    simp only [badName, Bool.or_eq_false_iff, Bool.not_eq_false'] at this
    exact this.1.1

set_option maxHeartbeats 1000000 in
set_option maxRecDepth 100000 in
theorem refPaths_any (v0 : Value) (n0 : Nat) (fs : List FileL) (d : List UInt8) (hd : d.length ≤ 1000000000000) (w : World) (h0 : SliceAt w 2 v0 n0 (fileCells fs)) (hbig : ∀ f ∈ fs, f.1.length ≤ 1000000000000 ∧ f.2.length ≤ 1000000000000) :
    Calls Tryd.prog 17 #[v0, .string (bs d)] w (PathsPost fs d w) := by
  obtain ⟨i0, hi, hz0, hz1, hz2⟩ := info_parts str_info
  have h00 := h0
  have Hck := hid (fun W hW => refCheck_any v0 n0 fs W (h0.below hW (Nat.le_refl _)) hbig)
  obtain ⟨r, hr⟩ : ∃ r, checkL fs = r := ⟨_, rfl⟩
  rw [hr] at Hck
  have Hr := hid hr; clear hr
  have hb0 : Below w.heap.size w (w.alloc (.cells #[] 9)) := (Below.refl _ _).alloc (Nat.le_refl _) _
  by_cases hr0 : r = 0
  · subst hr0
    have hmay := check_may Hr.out
    have hpl : Hid (pathsL fs d = pathsTo fs d fs.length) := by
      apply hid; unfold pathsL pathsTo; rw [if_pos Hr.out, List.take_length]
    have hlen : fs.length ≤ 1024 := by
      rcases Nat.lt_or_ge 1024 fs.length with h | h
      · have := Hr.out; rw [checkL, if_pos h] at this; cases this
      · exact h
    obtain ⟨rfl, a0, c0, rfl, hc0, hm0, -⟩ := h0.files
    clear h0
    unfold maxLen at hm0
    go_enter Tryd.func17, Tryd.ntmps17
    go_wp2_with fail
    refine (Hck.out _ hb0).mono ?_
    rintro e w1 ⟨rfl, hb1'⟩
    rw [World.size_alloc] at hb1'
    have hb1 := hb0.trans (hb1'.mono (by omega))
    have hown0 : w1.ownsRow w.heap.size 9 1 (.slice (some ⟨w.heap.size, 0, none⟩) 0 0) 0 [] :=
      ownsRow_below (w := w.alloc (.cells #[] 9)) ⟨rfl, .inr ⟨_, 0, _, rfl, Nat.le_refl _, heap_alloc_new w _, Nat.le_refl _, by simp [maxLen], by simp, by simp⟩⟩ (by rw [World.size_alloc]; exact hb1')
    clear hb0 hb1'
    go_wp2_with fail
    go_loopw [5, 14] (fun o i wr => ∃ k : Nat, k ≤ fs.length ∧ i = .int .i64 k ∧ wr.ownsRow w.heap.size 9 1 o (pathsTo fs d k).length (strCells (pathsTo fs d k)) ∧ Below w.heap.size w wr) (fun _ i _ => fs.length - (intOf i).toNat)
    case atStart => exact ⟨0, by omega, rfl, hown0, hb1⟩
    case round =>
      obtain ⟨k, hk, rfl, hown, hbw⟩ := hrel
      have hsz := hbw.size
      by_cases hlt : k < fs.length
      · have hsl := h00.below hbw (Nat.le_refl _)
        obtain ⟨-, a1, c1, hv, -, -, hx1⟩ := hsl.files
        obtain ⟨b0, o0, rfl, hb0, hcl0⟩ := hx1 k hlt
        obtain ⟨rfl, rfl⟩ : a0 = some ⟨b0, o0, none⟩ ∧ c0 = c1 := by simpa using hv
        have e0 := (hcl0 k hlt).1
        have hl := (hbig fs[k] (List.getElem_mem hlt)).1
        have Hm := hid (hmay fs[k] (List.getElem_mem hlt))
        clear hcl0 hx1 hv
        have Hs := hid (pathsTo_succ fs d k hlt)
        have hpl2 := pathsTo_len fs d k
        obtain ⟨u, hu⟩ : ∃ u, underB fs[k].1 d = u := ⟨_, rfl⟩
        have Hu := hid (refUnder_is fs[k].1 d hl hd u hu)
        have Huu := hid hu
        rw [hu] at Hs
        clear hu
        by_cases hd0 : d = []
        · have hd1 : (d == []) = true := by simp [hd0]
          have hut : Hid (u = true) := by
            apply hid; rw [← Huu.out, underB, Hm.out, hd0]; rfl
          clear hd0
          go_wp2_with (at_builtin; go_must (refine wpList_append_own _ rfl _ _ 31 rfl w.heap.size 9 i0 (.string ⟨#[]⟩) 1 16 Tryd.underlying31 hi hz0 hz1 hz2 rfl (by decide) _ _ _ rfl (hown.alloc _) ⟨wr.heap.size, 0, none⟩ 1 1 [.string (bs fs[k].1)] rfl rfl ?c1 ?c2 ?c3 ?c4 ?c5 ?_))
          case c1 => exact new_cells _ #[_] _ _
          case c2 => intro u hu; simp at hu; subst hu; rfl
          case c3 => unfold maxLen; omega
          case c4 => omega
          case c5 => simp; omega
          intro v4 w4 hown4 hgrow4 _
          have hb4 : Below w.heap.size w w4 := (hbw.alloc hsz _).grown hgrow4 (by simp; omega) (fun k hk => (hown.lt k hk).1)
          clear hgrow4
          go_wp2_with fail
          refine ⟨⟨k + 1, by omega, by go_num, ?_, hb4⟩, by simp [intOf]; omega⟩
          rw [Hs.out, if_pos hut.out, List.length_append, strCells_append]; exact hown4
        · have hd1 : (d == []) = false := by simpa using hd0
          clear hd0
          go_wp2_with fail
          refine (Hu.out _).mono ?_
          rintro e w2 ⟨rfl, hb2⟩
          have hb3 := hbw.trans (hb2.mono hsz)
          have hs3 := hb3.size
          have hown2 := ownsRow_below hown hb2
          obtain ⟨-, a2, c2, hv2, -, -, hx2⟩ := (hsl.below hb2 (Nat.le_refl _)).files
          obtain ⟨b2, o2, rfl, hb2', hcl2⟩ := hx2 k hlt
          obtain ⟨⟨rfl, rfl⟩, rfl⟩ : (b0 = b2 ∧ o0 = o2) ∧ c0 = c2 := by simpa using hv2
          have e2 := (hcl2 k hlt).1
          clear hb2 hown hcl2 hx2 hv2 hsl
          cases u with
          | false =>
            go_wp2_with fail
            refine ⟨⟨k + 1, by omega, by go_num, ?_, hb3⟩, by simp [intOf]; omega⟩
            rw [Hs.out]; simpa using hown2
          | true =>
            go_wp2_with (at_builtin; go_must (refine wpList_append_own _ rfl _ _ 31 rfl w.heap.size 9 i0 (.string ⟨#[]⟩) 1 16 Tryd.underlying31 hi hz0 hz1 hz2 rfl (by decide) _ _ _ rfl (hown2.alloc _) ⟨w2.heap.size, 0, none⟩ 1 1 [.string (bs fs[k].1)] rfl rfl ?c1 ?c2 ?c3 ?c4 ?c5 ?_))
            case c1 => exact new_cells _ #[_] _ _
            case c2 => intro u hu; simp at hu; subst hu; rfl
            case c3 => unfold maxLen; omega
            case c4 => omega
            case c5 => simp; omega
            intro v4 w4 hown4 hgrow4 _
            have hb4 : Below w.heap.size w w4 := (hb3.alloc hs3 _).grown hgrow4 (by simp; omega) (fun k hk => (hown2.lt k hk).1)
            clear hgrow4 hown2
            go_wp2_with fail
            refine ⟨⟨k + 1, by omega, by go_num, ?_, hb4⟩, by simp [intOf]; omega⟩
            rw [Hs.out, if_pos trivial, List.length_append, strCells_append]; exact hown4
      · go_wp2_with fail
        go_ret
        have hkk : k = fs.length := by omega
        subst hkk
        refine ⟨_, rfl, ?_, hbw⟩
        rw [hpl.out]
        exact SliceAt.of_owns hown (Nat.le_trans (pathsTo_len _ _ _) (by unfold maxLen; omega))
  · have hne : ((r : Int) != 0) = true := neT (by omega)
    have hs0 := SliceAt.fresh w #[] 9 (0, 0) 0 1 rfl (Nat.zero_le _)
    go_enter Tryd.func17, Tryd.ntmps17
    go_wp2_with fail
    refine (Hck.out _ hb0).mono ?_
    rintro e w1 ⟨rfl, hb1⟩
    have hs1 := hs0.below hb1 (Nat.le_refl _)
    rw [World.size_alloc] at hb1
    go_wp2_with fail
    go_ret
    refine ⟨_, rfl, ?_, hb0.trans (hb1.mono (by omega))⟩
    rw [show pathsL fs d = [] from by unfold pathsL; rw [if_neg (by rw [Hr.out]; exact hr0)]]
    exact hs1
end Go.Proofs.YtffmjjocjcomnaaDoor
