/- The walks of the reference of labels: Name, Pkg, May, Text, Short. -/
import Derived.Test.YtijgcoedohhlnaaGreatDoorLabelRead
import Derived.Test.YtijgcoedohhlnaaGreatDoorPathRefMay
namespace Go.Proofs.YtijgcoedohhlnaaGreatDoor
open Go.RowKit

set_option maxHeartbeats 400000 in
theorem rName_is (l : List UInt8) (hl : l.length ≤ 1000000000000) (b : Bool) (h : partB l = b) (w : World) :
    Calls Tryz.prog 12 #[.string (bs l)] w fun e w' => e = .returned (.bool b) ∧ w = w' := by
  have Hp := hid (refPart_is l hl b h)
  clear h
  go_enter Tryz.func12, Tryz.ntmps12
  go_wp2_with fail
  refine (Hp.out _).mono ?_
  rintro e w1 ⟨rfl, rfl⟩
  go_wp2_with fail
  go_ret
  exact ⟨rfl, rfl⟩

set_option maxHeartbeats 400000 in
theorem rPkg_is (l : List UInt8) (hl : l.length ≤ 1000000000000) (b : Bool) (h : pkgB l = b) (w : World) :
    Calls Tryz.prog 11 #[.string (bs l)] w fun e w' => e = .returned (.bool b) ∧ Below w.heap.size w w' := by
  obtain ⟨c, hc⟩ : ∃ c, mayB l = c := ⟨_, rfl⟩
  have Hm := hid (refMay_is l hl c hc)
  by_cases h0 : l = []
  · subst h0
    have hb : b = true := by rw [← h]; rfl
    subst hb
    go_enter Tryz.func11, Tryz.ntmps11
    go_wp2_with fail
    go_ret
    exact ⟨rfl, Below.refl _ _⟩
  · have hp : b = c := by rw [← h, pkgB, decide_eq_false h0, hc]; rfl
    subst hp
    have q0 : (l == []) = false := by simpa using h0
    have q1 : l.isEmpty = false := by simpa using h0
    clear h0 hc h
    go_enter Tryz.func11, Tryz.ntmps11
    go_wp2_with fail
    refine (Hm.out _).mono ?_
    rintro e w1 ⟨rfl, hb1⟩
    go_wp2_with fail
    go_ret
    exact ⟨rfl, hb1⟩

set_option maxHeartbeats 400000 in
theorem rlmay_any (p n : List UInt8) (hp : p.length ≤ 1000000000000) (hn : n.length ≤ 1000000000000) (w : World) :
    Calls Tryz.prog 5 #[labV p n] w fun e w' => e = .returned (.bool (labB p n)) ∧ Below w.heap.size w w' := by
  obtain ⟨b, hb⟩ : ∃ b, pkgB p = b := ⟨_, rfl⟩
  obtain ⟨c, hc⟩ : ∃ c, partB n = c := ⟨_, rfl⟩
  have Hb := hid (rPkg_is p hp b hb)
  have Hc := hid (rName_is n hn c hc)
  have Hl : Hid (labB p n = (b && c)) := by apply hid; rw [labB, hb, hc]
  clear hb hc
  cases b with
  | false =>
    go_enter Tryz.func5, Tryz.ntmps5
    go_wp2_with fail
    refine (Hb.out _).mono ?_
    rintro e w1 ⟨rfl, hb1⟩
    go_wp2_with fail
    go_ret
    exact ⟨by rw [Hl.out]; rfl, (box_cells hb1).2.2⟩
  | true =>
    go_enter Tryz.func5, Tryz.ntmps5
    go_wp2_with fail
    refine (Hb.out _).mono ?_
    rintro e w1 ⟨rfl, hb1⟩
    obtain ⟨-, hc1, hbx⟩ := box_cells hb1
    go_wp2_with fail
    refine (Hc.out _).mono ?_
    rintro e w2 ⟨rfl, rfl⟩
    go_wp2_with fail
    go_ret
    exact ⟨by rw [Hl.out]; rfl, hbx⟩
theorem rlmay_is (p n : List UInt8) (hp : p.length ≤ 1000000000000) (hn : n.length ≤ 1000000000000) (b : Bool) (h : labB p n = b) (w : World) :
    Calls Tryz.prog 5 #[labV p n] w fun e w' => e = .returned (.bool b) ∧ Below w.heap.size w w' := by
  subst h; exact rlmay_any p n hp hn w
end Go.Proofs.YtijgcoedohhlnaaGreatDoor
