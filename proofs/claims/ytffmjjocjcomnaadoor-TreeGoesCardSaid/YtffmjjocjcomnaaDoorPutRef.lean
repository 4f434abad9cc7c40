/- The walk of the reference's Put. -/
import Derived.Test.YtffmjjocjcomnaaDoorPutSame
import Derived.Test.YtffmjjocjcomnaaDoorTreeRefs
namespace Go.Proofs.YtffmjjocjcomnaaDoor
set_option maxRecDepth 100000
open Go.RowKit

def putT (t : List FileL) (f : FileL) : List FileL := if checkL t = 0 then (if checkL (withL t f) = 0 then withL t f else []) else []
def FilesAt (xs : List FileL) (w : World) (e : Ending) (w' : World) : Prop :=
  ∃ v, e = .returned v ∧ SliceAt w' 2 v xs.length (fileCells xs) ∧ Below w.heap.size w w'
theorem none_at (W : World) (a : Addr) : SliceAt W 2 (.slice (some a) 0 0) 0 (fileCells []) :=
  ⟨rfl, some a, 0, rfl, Nat.le_refl _, Nat.zero_le _, fun h => (by cases h), fun h => absurd rfl h⟩
theorem file_box {w w1 : World} {e e2 : TypeId} {f : FileL} (hb : Below ((w.alloc (.cells #[.string (bs f.1), .string (bs f.2)] e)).alloc (.cells #[] e2)).heap.size ((w.alloc (.cells #[.string (bs f.1), .string (bs f.2)] e)).alloc (.cells #[] e2)) w1) :
    w1.cell? ⟨w.heap.size, 0, none⟩ = some (.string (bs f.1)) ∧ w1.cell? ⟨w.heap.size, 1, none⟩ = some (.string (bs f.2)) ∧ Below w.heap.size w w1 := by
  have hB0 : Below (w.heap.size + 1) (w.alloc (.cells #[.string (bs f.1), .string (bs f.2)] e)) w1 :=
    ((Below.refl _ _).alloc (by rw [World.size_alloc]; omega) _).trans (hb.mono (by simp))
  refine ⟨?_, ?_, ((Below.refl w.heap.size w).alloc (Nat.le_refl _) _).trans (hB0.mono (by omega))⟩
  · rw [hB0.cell (p := ⟨w.heap.size, 0, none⟩) (by simp), World.cell?_alloc_mark]; rfl
  · rw [hB0.cell (p := ⟨w.heap.size, 1, none⟩) (by simp), World.cell?_alloc_mark]; rfl
theorem with_big {t : List FileL} {f : FileL} (hr : RisesF t) (ht : ∀ g ∈ t, g.1.length ≤ 1000000000000 ∧ g.2.length ≤ 1000000000000) (hf : f.1.length ≤ 1000000000000 ∧ f.2.length ≤ 1000000000000) :
    ∀ g ∈ withL t f, g.1.length ≤ 1000000000000 ∧ g.2.length ≤ 1000000000000 := by
  intro g hg
  rcases (with_mem f t hr g).1 hg with rfl | ⟨h, -⟩
  · exact hf
  · exact ht g h

set_option maxHeartbeats 1000000 in
theorem refPut_any (v0 : Value) (n0 : Nat) (fs : List FileL) (f : FileL) (w : World) (h0 : SliceAt w 2 v0 n0 (fileCells fs)) (hlen : fs.length ≤ 1000)
    (hbig : ∀ g ∈ fs, g.1.length ≤ 1000000000000 ∧ g.2.length ≤ 1000000000000) (hf : f.1.length ≤ 1000000000000 ∧ f.2.length ≤ 1000000000000) :
    Calls Tryd.prog 23 #[v0, .agg #[.string (bs f.1), .string (bs f.2)]] w (FilesAt (putT fs f) w) := by
  obtain ⟨c, hc⟩ : ∃ c, checkL fs = c := ⟨_, rfl⟩
  have Hc := hid (fun W (hW : Below w.heap.size w W) => refCheck_any v0 n0 fs W (h0.below hW (Nat.le_refl _)) hbig)
  rw [hc] at Hc
  have Hw := hid (fun W (hW : Below w.heap.size w W) => with_any v0 n0 fs f W (h0.below hW (Nat.le_refl _)) (by omega))
  have hW1 : Below w.heap.size w ((w.alloc (.cells #[.string (bs f.1), .string (bs f.2)] 40)).alloc (.cells #[] 40)) := (file_box (Below.refl _ _)).2.2
  by_cases h1 : c = 0
  · subst h1
    have hr := check_rises hc
    obtain ⟨d, hd⟩ : ∃ d, checkL (withL fs f) = d := ⟨_, rfl⟩
    have hwb := with_big hr hbig hf
    have hwl : (withL fs f).length ≤ fs.length + 1 := with_len f fs false
    have Hput : Hid (putT fs f = if d = 0 then withL fs f else []) := by apply hid; rw [putT, if_pos hc, hd]
    have Hc2 := hid (fun v n W (h : SliceAt W 2 v n (fileCells (withL fs f))) => refCheck_any v n (withL fs f) W h hwb)
    rw [hd] at Hc2
    unfold FilesPost at Hw
    clear hc hd hr hwb
    generalize withL fs f = res at *
    by_cases h2 : d = 0
    · subst h2
      go_enter Tryd.func23, Tryd.ntmps23
      go_wp2_with fail
      refine (Hc.out _ hW1).mono ?_
      rintro e w1 ⟨rfl, hb1⟩
      obtain ⟨k0, k1, hB1⟩ := file_box hb1
      go_wp2_with fail
      refine (Hw.out _ hB1).mono ?_
      rintro e w2 ⟨v2, rfl, hown, hb2⟩
      have hs2 := SliceAt.of_owns hown (by unfold maxLen; omega)
      have hB2 := Below.chain hB1 hb2
      go_wp2_with fail
      refine (Hc2.out _ _ _ hs2).mono ?_
      rintro e w3 ⟨rfl, hb3⟩
      go_wp2_with fail
      go_ret
      exact ⟨_, rfl, by rw [Hput.out, if_pos (by simp)]; exact hs2.below hb3 (Nat.le_refl _), Below.chain hB2 hb3⟩
    · have q0 : ((d : Int) != 0) = true := neT (by omega)
      have H2 := hid h2
      clear h2
      go_enter Tryd.func23, Tryd.ntmps23
      go_wp2_with fail
      refine (Hc.out _ hW1).mono ?_
      rintro e w1 ⟨rfl, hb1⟩
      obtain ⟨k0, k1, hB1⟩ := file_box hb1
      go_wp2_with fail
      refine (Hw.out _ hB1).mono ?_
      rintro e w2 ⟨v2, rfl, hown, hb2⟩
      have hs2 := SliceAt.of_owns hown (by unfold maxLen; omega)
      have hB2 := Below.chain hB1 hb2
      go_wp2_with fail
      refine (Hc2.out _ _ _ hs2).mono ?_
      rintro e w3 ⟨rfl, hb3⟩
      go_wp2_with fail
      go_ret
      exact ⟨_, rfl, by rw [Hput.out, if_neg H2.out]; exact none_at _ _, Below.chain hB2 hb3⟩
  · have Hput : Hid (putT fs f = []) := by apply hid; rw [putT, if_neg (by rw [hc]; exact h1)]
    have q0 : ((c : Int) != 0) = true := neT (by omega)
    clear h1 hc
    go_enter Tryd.func23, Tryd.ntmps23
    go_wp2_with fail
    refine (Hc.out _ hW1).mono ?_
    rintro e w1 ⟨rfl, hb1⟩
    obtain ⟨k0, k1, hB1⟩ := file_box hb1
    go_wp2_with fail
    go_ret
    exact ⟨_, rfl, by rw [Hput.out]; exact none_at _ _, hB1⟩
end Go.Proofs.YtffmjjocjcomnaaDoor
