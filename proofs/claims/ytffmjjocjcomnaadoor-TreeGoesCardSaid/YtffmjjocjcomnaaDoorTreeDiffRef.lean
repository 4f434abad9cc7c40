/- The walks of the differences: the closure that tells, the reference's Diff. -/
import Derived.Test.YtffmjjocjcomnaaDoorTreeWith
import Derived.RangeFuncBox
namespace Go.Proofs.YtffmjjocjcomnaaDoor
open Go.RowKit

theorem chg_info : (Tryd.prog.info? 37).map (fun i => (i.zero, i.size, i.bytes)) = some (some (.agg #[.string ⟨#[]⟩, .int .i64 0]), 2, 24) := by kernel_rfl
def chgCells (l : List (List UInt8 × Nat)) : List Value := l.flatMap fun f => [.string (bs f.1), .int .i64 f.2]
theorem chgCells_append (a b : List (List UInt8 × Nat)) : chgCells (a ++ b) = chgCells a ++ chgCells b := by simp [chgCells]
theorem chgCells_len (fs : List (List UInt8 × Nat)) : (chgCells fs).length = fs.length * 2 := by
  induction fs with
  | nil => rfl
  | cons f fs ih => simp [chgCells] at ih ⊢; omega

set_option maxHeartbeats 1000000 in
theorem tell_any (p : List UInt8) (n : Nat) (l : List (List UInt8 × Nat)) (hl : l.length ≤ 1000000) (B q : Nat) (v : Value) (w : World) (hb : Boxed w q 34 v) (hB : B ≤ q) (hown : w.ownsRow B 37 2 v l.length (chgCells l)) :
    Calls Tryd.prog 33 #[.string (bs p), .int .i64 n, .pointer (some ⟨q, 0, none⟩)] w fun e w' => e = .returned (.tuple #[]) ∧ ∃ v', Boxed w' q 34 v' ∧ w'.ownsRow B 37 2 v' (l ++ [(p, n)]).length (chgCells (l ++ [(p, n)])) ∧ Below B w w' := by
  obtain ⟨i0, hi, hz0, hz1, hz2⟩ := info_parts chg_info
  have hc := hb.cell
  have hf := hb.frozen
  have hlt := hb.lt
  go_enter Tryd.func33, Tryd.ntmps33
  go_wp2_with (at_builtin; go_must (refine wpList_append_own _ rfl _ _ 34 rfl B 37 i0 (.agg #[.string ⟨#[]⟩, .int .i64 0]) 2 24 Tryd.underlying34 hi hz0 hz1 hz2 rfl (by decide) _ _ _ rfl (hown.alloc _) ⟨w.heap.size, 0, none⟩ 1 1 [.string (bs p), .int .i64 n] rfl rfl ?c1 ?c2 ?c3 ?c4 ?c5 ?_))
  case c1 => exact new_cells _ #[_, _] _ _
  case c2 => intro u hu; simp at hu; rcases hu with rfl | rfl <;> rfl
  case c3 => unfold maxLen; omega
  case c4 => omega
  case c5 => simp; omega
  intro v1 w1 hown1 hgrow1 _
  obtain ⟨k1, k2, k3, k4, k5⟩ := hb.appended (by decide) hown (by omega) hB hown1 hgrow1
  obtain ⟨g1, cap1, rfl⟩ := ownsRow_succ hown1
  have d1 := k1.cell
  have d2 := k1.frozen
  go_wp2_with fail
  refine bodyPost_end (results_none rfl _ _ _) rfl ?_
  exact ⟨rfl, _, k2, by rw [List.length_append, chgCells_append]; exact k3, k5⟩

/-- A slice of files that lies as it came in, or in a row of its own. -/
def Held (B : Nat) (w : World) (v : Value) (fs : List FileL) : Prop :=
  (∃ w0 : World, w0.heap.size = B ∧ SliceAt w0 2 v fs.length (fileCells fs) ∧ Below B w0 w) ∨ (w.ownsRow B 40 2 v fs.length (fileCells fs) ∧ fs.length ≤ 1000000)
theorem Held.files {B : Nat} {w : World} {v : Value} {fs : List FileL} (h : Held B w v fs) : SliceAt w 2 v fs.length (fileCells fs) := by
  rcases h with ⟨w0, hw, hs, hb⟩ | ⟨h, hl⟩
  · exact hs.below hb (by omega)
  · exact SliceAt.of_owns h (by unfold maxLen; omega)
theorem Held.below {B : Nat} {w w' : World} {v : Value} {fs : List FileL} (h : Held B w v fs) (hB : B ≤ w.heap.size) (hb : Below w.heap.size w w') : Held B w' v fs := by
  rcases h with ⟨w0, hw, hs, hb0⟩ | ⟨h, hl⟩
  · exact .inl ⟨w0, hw, hs, hb0.trans (hb.mono hB)⟩
  · exact .inr ⟨ownsRow_below h hb, hl⟩
theorem Held.grown {B : Nat} {w w' : World} {v : Value} {fs : List FileL} (h : Held B w v fs) {o : Value} {n : Nat} {xs : List Value} (hB : B ≤ w.heap.size) (hown : w.ownsRow B 37 2 o n xs) (hg : w.grownBy w' o.ownBlock) : Held B w' v fs := by
  rcases h with ⟨w0, hw, hs, hb0⟩ | ⟨h, hl⟩
  · exact .inl ⟨w0, hw, hs, hb0.grown hg hB (fun k hk => (hown.lt k hk).1)⟩
  · refine .inr ⟨h.kept hg ?_, hl⟩
    rcases h.2 with ⟨rfl, _⟩ | ⟨g, cap, cur, rfl, _, hgb, _⟩
    · exact .inl rfl
    · refine .inr fun e => ?_
      rcases hown.2 with ⟨rfl, _⟩ | ⟨g', cap', cur', rfl, _, hgb', _⟩
      · simp [Value.ownBlock] at e
      · obtain rfl : g = g' := by simpa [Value.ownBlock] using e
        rw [hgb] at hgb'; cases hgb'

def allTo (a b : List FileL) (k : Nat) : List FileL := (b.take k).foldl withL a
theorem allTo_succ (a b : List FileL) (k : Nat) (h : k < b.length) : allTo a b (k + 1) = withL (allTo a b k) b[k] := by
  unfold allTo; rw [take_at b k h, List.foldl_append]; rfl
theorem allTo_len (a b : List FileL) (k : Nat) (h : k ≤ b.length) : (allTo a b k).length ≤ a.length + k := by
  induction k with
  | zero => simp [allTo]
  | succ k ih =>
    rw [allTo_succ a b k (by omega)]
    have := with_len b[k] (allTo a b k) false
    have := ih (by omega)
    unfold withL; omega

def ChgPost (xs : List (List UInt8 × Nat)) (w : World) (e : Ending) (w' : World) : Prop :=
  ∃ v, e = .returned v ∧ SliceAt w' 2 v xs.length (chgCells xs) ∧ Below w.heap.size w w'

set_option maxHeartbeats 4000000 in
set_option maxRecDepth 100000 in
theorem refDiff_any (va vb : Value) (na nb : Nat) (a b : List FileL) (w : World) (ha : SliceAt w 2 va na (fileCells a)) (hb : SliceAt w 2 vb nb (fileCells b)) (bigA : ∀ f ∈ a, f.1.length ≤ 1000000000000 ∧ f.2.length ≤ 1000000000000) (bigB : ∀ f ∈ b, f.1.length ≤ 1000000000000 ∧ f.2.length ≤ 1000000000000) (la : a.length ≤ 2000) (lb : b.length ≤ 2000) (h1 : checkL a = 0) (h2 : checkL b = 0) :
    Calls Tryd.prog 19 #[va, vb] w (ChgPost (refDiffL a b) w) := by
  obtain ⟨i0, hi, hz0, hz1, hz2⟩ := info_parts chg_info
  have hb0 : Below w.heap.size w (w.alloc (.cells #[] 37)) := (Below.refl _ _).alloc (Nat.le_refl _) _
  have Ha := hid (fun W hW => refCheck_any va na a W (ha.below hW (Nat.le_refl _)) bigA)
  have Hb := hid (fun W hW => refCheck_any vb nb b W (hb.below hW (Nat.le_refl _)) bigB)
  have Hkeys := hid (fun p => all_keys b a (check_rises h1) p)
  rw [h1] at Ha
  rw [h2] at Hb
  have hA := ha
  have hB := hb
  have HA := hid (fun W (hW : Below w.heap.size w W) => ha.below hW (Nat.le_refl _))
  have HB := hid (fun W (hW : Below w.heap.size w W) => hb.below hW (Nat.le_refl _))
  obtain ⟨rfl, a0, ca, rfl, hca, hma, -⟩ := ha.files
  obtain ⟨rfl, b0, cb, rfl, hcb, hmb, -⟩ := hb.files
  unfold maxLen at hma hmb
  have hna : a.length = a.length := rfl
  clear ha hb
  go_enter Tryd.func19, Tryd.ntmps19
  go_wp2_with fail
  refine (Ha.out _ hb0).mono ?_
  rintro e w1 ⟨rfl, hb1'⟩
  have hb1 := hb0.trans (hb1'.mono (by rw [World.size_alloc]; omega))
  go_wp2_with fail
  refine (Hb.out _ hb1).mono ?_
  rintro e w2 ⟨rfl, hb2'⟩
  have hb2 := Below.chain hb1 hb2'
  have hown0 : w2.ownsRow w.heap.size 37 2 (.slice (some ⟨w.heap.size, 0, none⟩) 0 0) 0 [] :=
    ownsRow_below (w := w.alloc (.cells #[] 37)) ⟨rfl, .inr ⟨_, 0, _, rfl, Nat.le_refl _, heap_alloc_new w _, Nat.le_refl _, by simp [maxLen], by simp, by simp⟩⟩ (Below.chain hb1' hb2')
  clear hb1' hb2' hb1 hb0
  go_wp2_with fail
  obtain ⟨wo, hwo⟩ : ∃ wo : World, wo = w2 := ⟨_, rfl⟩
  subst hwo
  go_loopw [6, 27] (fun o i wr => ∃ k : Nat, k ≤ b.length ∧ i = .int .i64 k ∧ Held w.heap.size wr o (allTo a b k) ∧ Below wo.heap.size wo wr) (fun _ i _ => b.length - (intOf i).toNat)
  case atStart => exact ⟨0, by omega, rfl, .inl ⟨w, rfl, hA, hb2⟩, Below.refl _ _⟩
  case round =>
    obtain ⟨k, hk, rfl, hh, hbw⟩ := hrel
    have hs := hh.files
    have hbw0 := Below.chain hb2 hbw
    by_cases hlt : k < b.length
    · obtain ⟨-, a1, c1, hv, -, -, hx1⟩ := (HB.out _ hbw0).files
      obtain ⟨q0, o0, rfl, hq0, hcl0⟩ := hx1 k hlt
      obtain ⟨rfl, rfl⟩ : b0 = some ⟨q0, o0, none⟩ ∧ cb = c1 := by simpa using hv
      have e0 := (hcl0 k hlt).1
      have e1 := (hcl0 k hlt).2
      clear hcl0 hx1 hv
      have hal := allTo_len a b k (by omega)
      have hal2 := allTo_len a b (k + 1) (by omega)
      have Hw := hid (with_any _ _ _ b[k] wr hs (by omega))
      rw [← allTo_succ a b k hlt] at Hw
      have hsw := hbw0.size
      go_wp2_with fail
      refine Hw.out.mono ?_
      rintro e w3 ⟨v3, rfl, hs3, hb3⟩
      go_wp2_with fail
      exact ⟨⟨k + 1, by omega, by go_num, .inr ⟨hs3.mono hsw, by omega⟩, Below.chain hbw hb3⟩, by simp [intOf]; omega⟩
    · have hkb : k = b.length := by omega
      subst hkb
      obtain ⟨all, hall⟩ : ∃ all, allTo a b b.length = all := ⟨_, rfl⟩
      have hal := allTo_len a b b.length (by omega)
      rw [hall] at hs hal hh
      have hall2 : all = allL a b := by rw [← hall]; unfold allTo allL; rw [List.take_length]
      have Hall : Hid (refDiffL a b = all.flatMap (oneD a b)) := by
        apply hid; rw [refDiffL, hall2]
      have Hin : Hid (∀ f ∈ all, getL f.1 a = none → getL f.1 b = none → False) := by
        apply hid; intro f hf g1 g2
        rw [hall2] at hf
        rcases (Hkeys.out f.1).1 ⟨f, hf, rfl⟩ with ⟨x, hx, e⟩ | ⟨x, hx, e⟩
        · have := (get_mem (check_rises h1)).2 (show (f.1, x.2) ∈ a by rw [← e]; exact hx)
          rw [this] at g1; cases g1
        · have := (get_mem (check_rises h2)).2 (show (f.1, x.2) ∈ b by rw [← e]; exact hx)
          rw [this] at g2; cases g2
      clear hall hall2
      obtain ⟨-, x0, cx, rfl, hcx, hmx, -⟩ := hs.files
      clear hs
      unfold maxLen at hmx
      have hown1 := ownsRow_below hown0 hbw
      clear hown0
      have hwr := Below.chain hb2 hbw
      obtain ⟨wp, hwp⟩ : ∃ wp : World, wp = wr := ⟨_, rfl⟩
      subst hwp
      clear hbw hb2 hbw0
      go_wp2_with fail
      go_loopw [5, 39] (fun o i wr => ∃ (k : Nat) (out : List (List UInt8 × Nat)), k ≤ all.length ∧ i = .int .i64 k ∧ refDiffL a b = out ++ (all.drop k).flatMap (oneD a b) ∧ out.length ≤ k ∧ wr.ownsRow w.heap.size 37 2 o out.length (chgCells out) ∧ Held w.heap.size wr (.slice x0 all.length cx) all ∧ Below w.heap.size w wr) (fun _ i _ => all.length - (intOf i).toNat)
      case atStart => exact ⟨0, [], by omega, rfl, by rw [Hall.out]; rfl, by simp, hown1, hh, hwr⟩
      case round =>
        clear hh hwr hown1
        obtain ⟨k, out, hk, rfl, hg, hol, hown, hh, hb3⟩ := hrel
        have Hg := hid hg; clear hg
        have hsz := hb3.size
        by_cases hlt : k < all.length
        · obtain ⟨-, a1, c1, hv, -, -, hx1⟩ := hh.files.files
          obtain ⟨q0, o0, rfl, hq0, hcl0⟩ := hx1 k hlt
          obtain ⟨rfl, rfl⟩ : x0 = some ⟨q0, o0, none⟩ ∧ cx = c1 := by simpa using hv
          have e0 := (hcl0 k hlt).1
          clear hcl0 hx1 hv
          have Hd := hid (drop_at all k hlt)
          obtain ⟨f, hf⟩ : ∃ f, all[k] = f := ⟨_, rfl⟩
          have hfin := Hin.out f (by rw [← hf]; exact List.getElem_mem hlt)
          rw [hf] at e0 Hd
          clear hf
          obtain ⟨fp, fd⟩ := f
          simp only at e0 hfin
          have Hra := hid (fun x y h => refGet_any _ _ a fp x y h wr (HA.out _ hb3))
          have Hrb := hid (fun x y h => refGet_any _ _ b fp x y h wr (HB.out _ hb3))
          have Hone : Hid (refDiffL a b = out ++ ((match kindL (getL fp a) (getL fp b) with | none => [] | some k => [(fp, k)]) ++ (all.drop (k + 1)).flatMap (oneD a b))) := by
            apply hid; rw [Hg.out, Hd.out, List.flatMap_cons]; rfl
          clear Hg
          have Hh := hid hh; clear hh
          have Hown := hid hown; clear hown
          cases gA : getL fp a with
          | none =>
            cases gB : getL fp b with
            | none => exact (hfin gA gB).elim
            | some y =>
              have ga : getPair fp a = (.string (bs []), .bool false) := by unfold getPair; rw [gA]
              have gb : getPair fp b = (.string (bs y), .bool true) := by unfold getPair; rw [gB]
              have Hra2 := hid (Hra.out _ _ ga)
              have Hrb2 := hid (Hrb.out _ _ gb)
              rw [gA, gB] at Hone
              clear Hra Hrb ga gb gA gB hfin
              go_wp2_with fail
              refine Hra2.out.mono ?_
              rintro e w4 ⟨rfl, rfl⟩
              go_wp2_with fail
              refine Hrb2.out.mono ?_
              rintro e w4 ⟨rfl, rfl⟩
              go_wp2_with (at_builtin; go_must (refine wpList_append_own _ rfl _ _ 34 rfl w.heap.size 37 i0 (.agg #[.string ⟨#[]⟩, .int .i64 0]) 2 24 Tryd.underlying34 hi hz0 hz1 hz2 rfl (by decide) _ _ _ rfl ((Hown.out.alloc _).alloc _) ⟨_, 0, none⟩ 1 1 [.string (bs fp), .int .i64 ((1 : Nat) : Int)] rfl rfl ?c1 ?c2 ?c3 ?c4 ?c5 ?_))
              case c1 =>
                intro j u hj
                have := new_cells (wr.alloc (.cells #[.string (bs fp), .int .i64 1] 37)) #[.string (bs fp), .int .i64 1] 37 (0, 0) j u hj
                rwa [World.size_alloc] at this
              case c2 => intro u hu; simp at hu; rcases hu with rfl | rfl <;> rfl
              case c3 => unfold maxLen; omega
              case c4 => omega
              case c5 => simp; omega
              intro v5 w5 hown5 hgrow5 _
              have hh5 := ((Hh.out.below hsz ((Below.refl _ _).alloc (Nat.le_refl _) _)).below (by rw [World.size_alloc]; omega) ((Below.refl _ _).alloc (Nat.le_refl _) _)).grown (by rw [World.size_alloc, World.size_alloc]; omega) ((Hown.out.alloc _).alloc _) hgrow5
              have hb5 := ((hb3.alloc hsz _).alloc (by rw [World.size_alloc]; omega) _).grown hgrow5 (by rw [World.size_alloc, World.size_alloc]; omega) (fun k hk => (Hown.out.lt k hk).1)
              clear hgrow5
              go_wp2_with fail
              refine ⟨⟨k + 1, out ++ [(fp, 1)], by omega, by go_num, by rw [Hone.out]; simp [kindL], by simp; omega, ?_, hh5, hb5⟩, by simp [intOf]; omega⟩
              rw [List.length_append, chgCells_append]; exact hown5
          | some x =>
            cases gB : getL fp b with
            | none =>
              have ga : getPair fp a = (.string (bs x), .bool true) := by unfold getPair; rw [gA]
              have gb : getPair fp b = (.string (bs []), .bool false) := by unfold getPair; rw [gB]
              have Hra2 := hid (Hra.out _ _ ga)
              have Hrb2 := hid (Hrb.out _ _ gb)
              rw [gA, gB] at Hone
              clear Hra Hrb ga gb gA gB hfin
              go_wp2_with fail
              refine Hra2.out.mono ?_
              rintro e w4 ⟨rfl, rfl⟩
              go_wp2_with fail
              refine Hrb2.out.mono ?_
              rintro e w4 ⟨rfl, rfl⟩
              go_wp2_with (at_builtin; go_must (refine wpList_append_own _ rfl _ _ 34 rfl w.heap.size 37 i0 (.agg #[.string ⟨#[]⟩, .int .i64 0]) 2 24 Tryd.underlying34 hi hz0 hz1 hz2 rfl (by decide) _ _ _ rfl ((Hown.out.alloc _).alloc _) ⟨_, 0, none⟩ 1 1 [.string (bs fp), .int .i64 ((2 : Nat) : Int)] rfl rfl ?c1 ?c2 ?c3 ?c4 ?c5 ?_))
              case c1 =>
                intro j u hj
                have := new_cells (wr.alloc (.cells #[.string (bs fp), .int .i64 2] 37)) #[.string (bs fp), .int .i64 2] 37 (0, 0) j u hj
                rwa [World.size_alloc] at this
              case c2 => intro u hu; simp at hu; rcases hu with rfl | rfl <;> rfl
              case c3 => unfold maxLen; omega
              case c4 => omega
              case c5 => simp; omega
              intro v5 w5 hown5 hgrow5 _
              have hh5 := ((Hh.out.below hsz ((Below.refl _ _).alloc (Nat.le_refl _) _)).below (by rw [World.size_alloc]; omega) ((Below.refl _ _).alloc (Nat.le_refl _) _)).grown (by rw [World.size_alloc, World.size_alloc]; omega) ((Hown.out.alloc _).alloc _) hgrow5
              have hb5 := ((hb3.alloc hsz _).alloc (by rw [World.size_alloc]; omega) _).grown hgrow5 (by rw [World.size_alloc, World.size_alloc]; omega) (fun k hk => (Hown.out.lt k hk).1)
              clear hgrow5
              go_wp2_with fail
              refine ⟨⟨k + 1, out ++ [(fp, 2)], by omega, by go_num, by rw [Hone.out]; simp [kindL], by simp; omega, ?_, hh5, hb5⟩, by simp [intOf]; omega⟩
              rw [List.length_append, chgCells_append]; exact hown5
            | some y =>
              by_cases hxy : x = y
              · have hxy' := hxy
                have ga : getPair fp a = (.string (bs x), .bool true) := by unfold getPair; rw [gA]
                have gb : getPair fp b = (.string (bs y), .bool true) := by unfold getPair; rw [gB]
                have Hra2 := hid (Hra.out _ _ ga)
                have Hrb2 := hid (Hrb.out _ _ gb)
                rw [gA, gB] at Hone
                clear Hra Hrb ga gb gA gB hfin
                have hxe : (x == y) = true := by simp [hxy]
                clear hxy
                go_wp2_with fail
                refine Hra2.out.mono ?_
                rintro e w4 ⟨rfl, rfl⟩
                go_wp2_with fail
                refine Hrb2.out.mono ?_
                rintro e w4 ⟨rfl, rfl⟩
                go_wp2_with fail
                refine ⟨⟨k + 1, out, by omega, by go_num, by rw [Hone.out]; simp [kindL, hxy'], by omega, Hown.out.alloc _, Hh.out.below hsz ((Below.refl _ _).alloc (Nat.le_refl _) _), hb3.alloc hsz _⟩, by simp [intOf]; omega⟩
              · have hxy' := hxy
                have ga : getPair fp a = (.string (bs x), .bool true) := by unfold getPair; rw [gA]
                have gb : getPair fp b = (.string (bs y), .bool true) := by unfold getPair; rw [gB]
                have Hra2 := hid (Hra.out _ _ ga)
                have Hrb2 := hid (Hrb.out _ _ gb)
                rw [gA, gB] at Hone
                clear Hra Hrb ga gb gA gB hfin
                have hxe : (x == y) = false := by simpa using hxy
                clear hxy
                go_wp2_with fail
                refine Hra2.out.mono ?_
                rintro e w4 ⟨rfl, rfl⟩
                go_wp2_with fail
                refine Hrb2.out.mono ?_
                rintro e w4 ⟨rfl, rfl⟩
                go_wp2_with (at_builtin; go_must (refine wpList_append_own _ rfl _ _ 34 rfl w.heap.size 37 i0 (.agg #[.string ⟨#[]⟩, .int .i64 0]) 2 24 Tryd.underlying34 hi hz0 hz1 hz2 rfl (by decide) _ _ _ rfl ((Hown.out.alloc _).alloc _) ⟨_, 0, none⟩ 1 1 [.string (bs fp), .int .i64 ((3 : Nat) : Int)] rfl rfl ?c1 ?c2 ?c3 ?c4 ?c5 ?_))
                case c1 =>
                  intro j u hj
                  have := new_cells (wr.alloc (.cells #[.string (bs fp), .int .i64 3] 37)) #[.string (bs fp), .int .i64 3] 37 (0, 0) j u hj
                  rwa [World.size_alloc] at this
                case c2 => intro u hu; simp at hu; rcases hu with rfl | rfl <;> rfl
                case c3 => unfold maxLen; omega
                case c4 => omega
                case c5 => simp; omega
                intro v5 w5 hown5 hgrow5 _
                have hh5 := ((Hh.out.below hsz ((Below.refl _ _).alloc (Nat.le_refl _) _)).below (by rw [World.size_alloc]; omega) ((Below.refl _ _).alloc (Nat.le_refl _) _)).grown (by rw [World.size_alloc, World.size_alloc]; omega) ((Hown.out.alloc _).alloc _) hgrow5
                have hb5 := ((hb3.alloc hsz _).alloc (by rw [World.size_alloc]; omega) _).grown hgrow5 (by rw [World.size_alloc, World.size_alloc]; omega) (fun k hk => (Hown.out.lt k hk).1)
                clear hgrow5
                go_wp2_with fail
                refine ⟨⟨k + 1, out ++ [(fp, 3)], by omega, by go_num, by rw [Hone.out]; simp [kindL, hxy'], by simp; omega, ?_, hh5, hb5⟩, by simp [intOf]; omega⟩
                rw [List.length_append, chgCells_append]; exact hown5
        · have hkk : all.drop k = [] := List.drop_eq_nil_of_le (by omega)
          go_wp2_with fail
          go_ret
          refine ⟨_, rfl, ?_, hb3⟩
          rw [Hg.out, hkk]
          simp only [List.flatMap_nil, List.append_nil]
          exact SliceAt.of_owns hown (by unfold maxLen; omega)
end Go.Proofs.YtffmjjocjcomnaaDoor
