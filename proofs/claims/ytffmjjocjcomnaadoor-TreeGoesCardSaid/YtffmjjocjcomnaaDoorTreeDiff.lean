/- The walk of tree.Diff. -/
import Derived.Test.YtffmjjocjcomnaaDoorTreeDiffRef
namespace Go.Proofs.YtffmjjocjcomnaaDoor
open Go.RowKit

def lenV : Value → Nat
  | .slice _ n _ => n
  | _ => 0
theorem SliceAt.tail {w : World} {f : FileL} {fs : List FileL} {b o n c : Nat} (h : SliceAt w 2 (.slice (some ⟨b, o, none⟩) n c) n (fileCells (f :: fs))) : SliceAt w 2 (.slice (if c = 1 then some ⟨b, o, none⟩ else some ⟨b, o + 2, none⟩) fs.length (c - 1)) fs.length (fileCells fs) := by
  obtain ⟨hn, a, c', hv, hc, hm, hno, hx⟩ := h
  rw [fileCells_len, List.length_cons] at hn
  have hn' : n = fs.length + 1 := by omega
  subst hn'
  obtain ⟨rfl, rfl⟩ : a = some ⟨b, o, none⟩ ∧ c = c' := by simpa [eq_comm] using hv
  refine ⟨fileCells_len fs, _, c - 1, rfl, by omega, by omega, fun h => (by split at h <;> cases h), fun hne => ?_⟩
  have hc1 : ¬ c = 1 := by
    intro e
    have : fs.length = 0 := by omega
    have := List.length_eq_zero_iff.1 this
    subst this; exact hne rfl
  rw [if_neg hc1]
  obtain ⟨b', o', he, hb, hcell⟩ := hx (by simp [fileCells])
  obtain ⟨rfl, rfl⟩ : b = b' ∧ o = o' := by simpa using he
  refine ⟨b, o + 2, rfl, hb, fun j u hj => ?_⟩
  have := hcell (j + 2) u (by show (.string (bs f.1) :: .string (bs f.2) :: fileCells fs)[j + 2]? = some u; simpa using hj)
  rw [show o + 2 + j = o + (j + 2) by omega]; exact this
theorem SliceAt.empty {w : World} {x : Option Addr} {c : Nat} (hc : c ≤ maxLen) (hn : x = none → c = 0) : SliceAt w 2 (.slice x 0 c) 0 (fileCells []) :=
  ⟨rfl, x, c, rfl, Nat.zero_le _, hc, hn, fun h => absurd rfl h⟩

set_option maxHeartbeats 4000000 in
set_option maxRecDepth 100000 in
theorem diff_any (va vb : Value) (nA nB : Nat) (a b : List FileL) (w : World) (ha : SliceAt w 2 va nA (fileCells a)) (hb : SliceAt w 2 vb nB (fileCells b)) (bigA : ∀ f ∈ a, f.1.length ≤ 1000000000000 ∧ f.2.length ≤ 1000000000000) (bigB : ∀ f ∈ b, f.1.length ≤ 1000000000000 ∧ f.2.length ≤ 1000000000000) (la : a.length ≤ 2000) (lb : b.length ≤ 2000) (h1 : checkL a = 0) (h2 : checkL b = 0) :
    Calls Tryd.prog 18 #[va, vb] w (ChgPost (diffL a b) w) := by
  have Ha := hid (fun W hW => check_any va nA a W (ha.below hW (Nat.le_refl _)) bigA)
  have Hb := hid (fun W hW => check_any vb nB b W (hb.below hW (Nat.le_refl _)) bigB)
  rw [h1] at Ha
  rw [h2] at Hb
  clear h1 h2
  go_enter Tryd.func18, Tryd.ntmps18
  go_wp2_with fail
  refine (Ha.out _ (Below.refl _ _)).mono ?_
  rintro e w1 ⟨rfl, hb1⟩
  go_wp2_with fail
  refine (Hb.out _ hb1).mono ?_
  rintro e w2 ⟨rfl, hb2'⟩
  have hb2 := Below.chain hb1 hb2'
  clear hb2'
  have hs2 := hb2.size
  have hbx : Boxed (w2.alloc (.cells #[.slice none 0 0] 34)) w2.heap.size 34 (.slice none 0 0) := Boxed.new _ _ _
  have hb3 := hb2.alloc hs2 (.cells #[.slice none 0 0] 34)
  go_wp2_with fail
  go_loopw [0, 1] (fun xa xb wr => ∃ (xs ys : List FileL) (ka kb : Nat) (out : List (List UInt8 × Nat)) (v : Value), SliceAt w 2 xa ka (fileCells xs) ∧ SliceAt w 2 xb kb (fileCells ys) ∧ diffL a b = out ++ diffL xs ys ∧ out.length + xs.length + ys.length ≤ 4000 ∧ Boxed wr w2.heap.size 34 v ∧ wr.ownsRow w.heap.size 37 2 v out.length (chgCells out) ∧ Below w.heap.size w wr) (fun xa xb _ => lenV xa + lenV xb)
  case atStart =>
    refine ⟨a, b, nA, nB, [], .slice none 0 0, ha, hb, rfl, by simp; omega, ?_, ?_, ?_⟩
    · exact hbx
    · exact World.ownsRow_nil _ _ _ _
    · exact hb3
  case round =>
    clear hbx hb3
    obtain ⟨xs, ys, ka, kb, out, v, hsa, hsb, hg, hol, hbx, hown, hbw⟩ := hrel
    have Hg := hid hg; clear hg
    have hsz := hbw.size
    obtain ⟨rfl, a1, ca, rfl, hca, hma, hxa⟩ := hsa.files
    obtain ⟨rfl, b1, cb, rfl, hcb, hmb, hxb⟩ := hsb.files
    have Hsa := hid hsa
    have Hsb := hid hsb
    clear hsa hsb
    unfold maxLen at hma hmb
    cases xs with
    | nil =>
      cases ys with
      | nil =>
        have hc := hbx.cell
        simp only [List.length_nil] at *
        go_wp2_with fail
        go_ret
        refine ⟨_, rfl, ?_, hbw⟩
        rw [Hg.out, diffL, List.append_nil]
        exact SliceAt.of_owns hown (by unfold maxLen; omega)
      | cons g t =>
        obtain ⟨gp, gd⟩ := g
        obtain ⟨q1, p1, rfl, hq1, hcl1⟩ := hxb 0 (by simp)
        have d1 := (hcl1 0 (by simp)).1
        simp only [Nat.zero_mul, Nat.add_zero, List.getElem_cons_zero] at d1
        have f1 := (hbw.cell (by simpa using hq1)).trans d1
        clear hxa hxb hcl1 d1
        have hla : ([] : List FileL).length = 0 := rfl
        generalize ([] : List FileL).length = na at *
        have qa1 : ((na : Int) == 0) = true := eqT (by omega)
        have qa2 : decide ((0 : Int) < na) = false := decide_eq_false (by omega)
        have qa3 : decide (0 < na) = false := decide_eq_false (by omega)
        have qb3 : (((t.length : Int) + 1) == 0) = false := eqF (by omega)
        have Hla := hid hla
        have hla1 : na ≤ 0 := by omega
        clear hla
        have hlb : ((gp, gd) :: t).length = t.length + 1 := rfl
        generalize ((gp, gd) :: t).length = nb at *
        have qb1 : ((nb : Int) == 0) = false := eqF (by omega)
        have qb2 : decide ((0 : Int) < nb) = true := decide_eq_true (by omega)
        have Ht := hid (fun n => tell_any gp 1 out (by omega) w.heap.size w2.heap.size v (wr.drewN n) hbx hs2 hown)
        go_wp2_with fail
        any_goals go_quiet (fail)
        any_goals go_wp2_with fail
        any_goals go_quiet (fail)
        any_goals go_wp2_with fail
        refine (Ht.out _).mono ?_
        rintro e w4 ⟨rfl, v4, hbx4, hown4, hb4'⟩
        have hb4 := hbw.trans ((Drawn.below ⟨_, rfl⟩).trans hb4')
        go_wp2_with fail
        refine ⟨⟨[], t, _, _, out ++ [(gp, 1)], v4, Hsa.out, SliceAt.tail Hsb.out, by rw [Hg.out, diffL]; simp, by simp; omega, hbx4, hown4, hb4⟩, by simp [lenV]; omega⟩
    | cons f s =>
      obtain ⟨fp, fd⟩ := f
      obtain ⟨q0, p0, rfl, hq0, hcl0⟩ := hxa 0 (by simp)
      have d0 := (hcl0 0 (by simp)).1
      have dd0 := (hcl0 0 (by simp)).2
      simp only [Nat.zero_mul, Nat.add_zero, List.getElem_cons_zero] at d0 dd0
      have Hcla : Hid (∀ W, Below w.heap.size w W → W.cell? ⟨q0, p0, none⟩ = some (.string (bs fp)) ∧ W.cell? ⟨q0, p0 + 1, none⟩ = some (.string (bs fd))) := by
        apply hid; intro W hW
        exact ⟨(hW.cell (by simpa using hq0)).trans d0, (hW.cell (by simpa using hq0)).trans dd0⟩
      clear hcl0 hxa d0 dd0
      obtain ⟨e0, e1⟩ := Hcla.out _ hbw
      cases ys with
      | nil =>
        simp only [List.length_nil] at *
        have hla : ((fp, fd) :: s).length = s.length + 1 := rfl
        clear hxb
        generalize ((fp, fd) :: s).length = na at *
        have qa1 : ((na : Int) == 0) = false := eqF (by omega)
        have qa2 : decide ((0 : Int) < na) = true := decide_eq_true (by omega)
        have Ht := hid (fun n => tell_any fp 2 out (by omega) w.heap.size w2.heap.size v (wr.drewN n) hbx hs2 hown)
        go_wp2_with fail
        any_goals go_quiet (fail)
        any_goals go_wp2_with fail
        refine (Ht.out _).mono ?_
        rintro e w4 ⟨rfl, v4, hbx4, hown4, hb4'⟩
        have hb4 := hbw.trans ((Drawn.below ⟨_, rfl⟩).trans hb4')
        go_wp2_with fail
        refine ⟨⟨s, [], _, _, out ++ [(fp, 2)], v4, SliceAt.tail Hsa.out, Hsb.out, by rw [Hg.out, diffL]; simp, by simp; omega, hbx4, hown4, hb4⟩, by simp [lenV]; omega⟩
      | cons g t =>
        obtain ⟨gp, gd⟩ := g
        obtain ⟨q1, p1, rfl, hq1, hcl1⟩ := hxb 0 (by simp)
        have d1 := (hcl1 0 (by simp)).1
        have dd1 := (hcl1 0 (by simp)).2
        simp only [Nat.zero_mul, Nat.add_zero, List.getElem_cons_zero] at d1 dd1
        have Hclb : Hid (∀ W, Below w.heap.size w W → W.cell? ⟨q1, p1, none⟩ = some (.string (bs gp)) ∧ W.cell? ⟨q1, p1 + 1, none⟩ = some (.string (bs gd))) := by
          apply hid; intro W hW
          exact ⟨(hW.cell (by simpa using hq1)).trans d1, (hW.cell (by simpa using hq1)).trans dd1⟩
        clear hcl1 hxb d1 dd1
        obtain ⟨f0, f1⟩ := Hclb.out _ hbw
        have Hdf : Hid (diffL ((fp, fd) :: s) ((gp, gd) :: t) = if less fp gp = true then (fp, 2) :: diffL s ((gp, gd) :: t) else if less gp fp = true then (gp, 1) :: diffL ((fp, fd) :: s) t else (if fd = gd then [] else [(fp, 3)]) ++ diffL s t) := by
          apply hid; rw [diffL]
        have hla : ((fp, fd) :: s).length = s.length + 1 := rfl
        generalize ((fp, fd) :: s).length = na at *
        have qa1 : ((na : Int) == 0) = false := eqF (by omega)
        have qa2 : decide ((0 : Int) < na) = true := decide_eq_true (by omega)
        have hlb : ((gp, gd) :: t).length = t.length + 1 := rfl
        generalize ((gp, gd) :: t).length = nb at *
        have qb1 : ((nb : Int) == 0) = false := eqF (by omega)
        have qb2 : decide ((0 : Int) < nb) = true := decide_eq_true (by omega)
        rcases Bool.eq_false_or_eq_true (Op.bytesLess fp gp) with hl1 | hl1
        · have Hl1 := hid hl1
          have Ht := hid (fun n => tell_any fp 2 out (by omega) w.heap.size w2.heap.size v (wr.drewN n) hbx hs2 hown)
          go_wp2_with fail
          any_goals go_quiet (fail)
          any_goals go_wp2_with fail
          refine (Ht.out _).mono ?_
          rintro e w4 ⟨rfl, v4, hbx4, hown4, hb4'⟩
          have hb4 := hbw.trans ((Drawn.below ⟨_, rfl⟩).trans hb4')
          go_wp2_with fail
          refine ⟨⟨s, (gp, gd) :: t, _, _, out ++ [(fp, 2)], v4, SliceAt.tail Hsa.out, hlb ▸ Hsb.out, by rw [Hg.out, Hdf.out, if_pos Hl1.out]; simp, by simp; omega, hbx4, hown4, hb4⟩, by simp [lenV]; omega⟩
        · rcases Bool.eq_false_or_eq_true (Op.bytesLess gp fp) with hl2 | hl2
          · have Hl1 := hid hl1
            have Hl2 := hid hl2
            have Ht := hid (fun n => tell_any gp 1 out (by omega) w.heap.size w2.heap.size v (wr.drewN n) hbx hs2 hown)
            go_wp2_with fail
            any_goals go_quiet (fail)
            any_goals go_wp2_with fail
            any_goals go_quiet (fail)
            any_goals go_wp2_with fail
            refine (Ht.out _).mono ?_
            rintro e w4 ⟨rfl, v4, hbx4, hown4, hb4'⟩
            have hb4 := hbw.trans ((Drawn.below ⟨_, rfl⟩).trans hb4')
            go_wp2_with fail
            refine ⟨⟨(fp, fd) :: s, t, _, _, out ++ [(gp, 1)], v4, hla ▸ Hsa.out, SliceAt.tail Hsb.out, by rw [Hg.out, Hdf.out, if_neg (by show ¬ Op.bytesLess fp gp = true; rw [Hl1.out]; decide), if_pos Hl2.out]; simp, by simp; omega, hbx4, hown4, hb4⟩, by simp [lenV]; omega⟩
          · have Hl1 := hid hl1
            have Hl2 := hid hl2
            have Hdf2 : Hid (diffL ((fp, fd) :: s) ((gp, gd) :: t) = (if fd = gd then [] else [(fp, 3)]) ++ diffL s t) := by
              apply hid; rw [Hdf.out, if_neg (by show ¬ Op.bytesLess fp gp = true; rw [Hl1.out]; decide), if_neg (by show ¬ Op.bytesLess gp fp = true; rw [Hl2.out]; decide)]
            clear Hdf
            by_cases hdd : fd = gd
            · have Hdd := hid hdd
              have hde : (fd == gd) = true := by simp [hdd]
              clear hdd
              go_wp2_with fail
              any_goals go_quiet (fail)
              any_goals go_wp2_with fail
              any_goals go_quiet (fail)
              any_goals go_wp2_with fail
              any_goals go_quiet (fail)
              any_goals go_wp2_with fail
              any_goals go_quiet (fail)
              any_goals go_wp2_with fail
              refine ⟨⟨s, t, _, _, out, v, SliceAt.tail Hsa.out, SliceAt.tail Hsb.out, by rw [Hg.out, Hdf2.out, if_pos Hdd.out]; simp, by omega, hbx, hown, hbw.trans (((((Drawn.refl wr).drewN _).drewN _).drewN _).drewN _).below⟩, by simp [lenV]; omega⟩
            · have Hdd := hid hdd
              have hde : (fd == gd) = false := by simpa using hdd
              clear hdd
              have Ht := hid (fun n => tell_any fp 3 out (by omega) w.heap.size w2.heap.size v (wr.drewN n) hbx hs2 hown)
              go_wp2_with fail
              any_goals go_quiet (fail)
              any_goals go_wp2_with fail
              any_goals go_quiet (fail)
              any_goals go_wp2_with fail
              any_goals go_quiet (fail)
              any_goals go_wp2_with fail
              refine (Ht.out _).mono ?_
              rintro e w4 ⟨rfl, v4, hbx4, hown4, hb4'⟩
              have hb4 := hbw.trans ((Drawn.below ⟨_, rfl⟩).trans hb4')
              go_wp2_with fail
              any_goals go_quiet (fail)
              any_goals go_wp2_with fail
              refine ⟨⟨s, t, _, _, out ++ [(fp, 3)], v4, SliceAt.tail Hsa.out, SliceAt.tail Hsb.out, by rw [Hg.out, Hdf2.out, if_neg Hdd.out]; simp, by simp; omega, hbx4, hown4, hb4.trans (Drawn.below ⟨_, rfl⟩)⟩, by simp [lenV]; omega⟩
end Go.Proofs.YtffmjjocjcomnaaDoor
