/- The walks of the reference of labels: Name, Pkg, May, Text, Short. -/
import Derived.Test.YtemfmheimblboaaDoorLabelRead
import Derived.Test.YtemfmheimblboaaDoorPathRefMay
namespace Go.Proofs.YtemfmheimblboaaDoor
open Go.RowKit

set_option maxHeartbeats 400000 in
theorem rName_is (l : List UInt8) (hl : l.length ≤ 1000000000000) (b : Bool) (h : partB l = b) (w : World) :
    Calls Tryd.prog 41 #[.string (bs l)] w fun e w' => e = .returned (.bool b) ∧ w = w' := by
  have Hp := hid (refPart_is l hl b h)
  clear h
  go_enter Tryd.func41, Tryd.ntmps41
  go_wp2_with fail
  refine (Hp.out _).mono ?_
  rintro e w1 ⟨rfl, rfl⟩
  go_wp2_with fail
  go_ret
  exact ⟨rfl, rfl⟩

set_option maxHeartbeats 400000 in
theorem rPkg_is (l : List UInt8) (hl : l.length ≤ 1000000000000) (b : Bool) (h : pkgB l = b) (w : World) :
    Calls Tryd.prog 17 #[.string (bs l)] w fun e w' => e = .returned (.bool b) ∧ Below w.heap.size w w' := by
  obtain ⟨c, hc⟩ : ∃ c, mayB l = c := ⟨_, rfl⟩
  have Hm := hid (refMay_is l hl c hc)
  by_cases h0 : l = []
  · subst h0
    have hb : b = true := by rw [← h]; rfl
    subst hb
    go_enter Tryd.func17, Tryd.ntmps17
    go_wp2_with fail
    go_ret
    exact ⟨rfl, Below.refl _ _⟩
  · have hp : b = c := by rw [← h, pkgB, decide_eq_false h0, hc]; rfl
    subst hp
    have q0 : (l == []) = false := by simpa using h0
    have q1 : l.isEmpty = false := by simpa using h0
    clear h0 hc h
    go_enter Tryd.func17, Tryd.ntmps17
    go_wp2_with fail
    refine (Hm.out _).mono ?_
    rintro e w1 ⟨rfl, hb1⟩
    go_wp2_with fail
    go_ret
    exact ⟨rfl, hb1⟩

set_option maxHeartbeats 400000 in
theorem rlmay_any (p n : List UInt8) (hp : p.length ≤ 1000000000000) (hn : n.length ≤ 1000000000000) (w : World) :
    Calls Tryd.prog 27 #[labV p n] w fun e w' => e = .returned (.bool (labB p n)) ∧ Below w.heap.size w w' := by
  obtain ⟨b, hb⟩ : ∃ b, pkgB p = b := ⟨_, rfl⟩
  obtain ⟨c, hc⟩ : ∃ c, partB n = c := ⟨_, rfl⟩
  have Hb := hid (rPkg_is p hp b hb)
  have Hc := hid (rName_is n hn c hc)
  have Hl : Hid (labB p n = (b && c)) := by apply hid; rw [labB, hb, hc]
  clear hb hc
  cases b with
  | false =>
    go_enter Tryd.func27, Tryd.ntmps27
    go_wp2_with fail
    refine (Hb.out _).mono ?_
    rintro e w1 ⟨rfl, hb1⟩
    go_wp2_with fail
    go_ret
    exact ⟨by rw [Hl.out]; rfl, (box_cells hb1).2.2⟩
  | true =>
    go_enter Tryd.func27, Tryd.ntmps27
    go_wp2_with fail
    refine (Hb.out _).mono ?_
    rintro e w1 ⟨rfl, hb1⟩
    obtain ⟨-, hc1, hbx⟩ := box_cells hb1
    go_wp2_with fail
    refine (Hc.out _).mono ?_
    rintro e w2 ⟨rfl, rfl⟩
    go_wp2_with fail
    go_ret
    exact ⟨by rw [Hl.out]; rfl, hbx⟩
theorem rlmay_is (p n : List UInt8) (hp : p.length ≤ 1000000000000) (hn : n.length ≤ 1000000000000) (b : Bool) (h : labB p n = b) (w : World) :
    Calls Tryd.prog 27 #[labV p n] w fun e w' => e = .returned (.bool b) ∧ Below w.heap.size w w' := by
  subst h; exact rlmay_any p n hp hn w

set_option maxHeartbeats 400000 in
theorem rtext_is (p n : List UInt8) (hp : p.length ≤ 1000000000000) (hn : n.length ≤ 1000000000000) (t : List UInt8) (h : textL p n = t) (w : World) :
    Calls Tryd.prog 12 #[labV p n] w fun e w' => e = .returned (.string (bs t)) ∧ Below w.heap.size w w' := by
  obtain ⟨b, hb⟩ : ∃ b, labB p n = b := ⟨_, rfl⟩
  have Hb := hid (rlmay_is p n hp hn b hb)
  have Ht : Hid (t = if b = true then longL p n else []) := by apply hid; rw [← h, textL, hb]
  clear hb h
  cases b with
  | false =>
    go_enter Tryd.func12, Tryd.ntmps12
    go_wp2_with fail
    refine (Hb.out _).mono ?_
    rintro e w1 ⟨rfl, hb1⟩
    go_wp2_with fail
    go_ret
    exact ⟨by rw [Ht.out]; rfl, (box_cells hb1).2.2⟩
  | true =>
    go_enter Tryd.func12, Tryd.ntmps12
    go_wp2_with fail
    refine (Hb.out _).mono ?_
    rintro e w1 ⟨rfl, hb1⟩
    obtain ⟨hc0, hc1, hbx⟩ := box_cells hb1
    go_wp2_with fail
    go_ret
    exact ⟨by rw [Ht.out]; rfl, hbx⟩

set_option maxHeartbeats 400000 in
theorem rshort_is (p n pkg : List UInt8) (hp : p.length ≤ 1000000000000) (hn : n.length ≤ 1000000000000) (s : List UInt8) (h : shortL p n pkg = s) (w : World) :
    Calls Tryd.prog 13 #[labV p n, .string (bs pkg)] w fun e w' => e = .returned (.string (bs s)) ∧ Below w.heap.size w w' := by
  obtain ⟨b, hb⟩ : ∃ b, labB p n = b := ⟨_, rfl⟩
  obtain ⟨t, ht⟩ : ∃ t, textL p n = t := ⟨_, rfl⟩
  have Hb := hid (rlmay_is p n hp hn b hb)
  have Htx := hid (rtext_is p n hp hn t ht)
  have Ht : Hid (s = if b = true ∧ p = pkg then 58 :: n else t) := by apply hid; rw [← h, shortL, hb, ht]
  clear hb ht h
  cases b with
  | false =>
    go_enter Tryd.func13, Tryd.ntmps13
    go_wp2_with fail
    refine (Hb.out _).mono ?_
    rintro e w1 ⟨rfl, hb1⟩
    obtain ⟨hc0, hc1, hbx⟩ := box_cells hb1
    go_wp2_with fail
    refine (Htx.out _).mono ?_
    rintro e w2 ⟨rfl, hb2⟩
    go_wp2_with fail
    go_ret
    exact ⟨by rw [Ht.out, if_neg (by simp)]; rfl, Below.chain hbx hb2⟩
  | true =>
    by_cases he : p = pkg
    · have q0 : (p != pkg) = false := by simpa using he
      have q1 : (p == pkg) = true := by simpa using he
      have He := hid he; clear he
      go_enter Tryd.func13, Tryd.ntmps13
      go_wp2_with fail
      refine (Hb.out _).mono ?_
      rintro e w1 ⟨rfl, hb1⟩
      obtain ⟨hc0, hc1, hbx⟩ := box_cells hb1
      go_wp2_with fail
      go_ret
      exact ⟨by rw [Ht.out, if_pos ⟨by simp, He.out⟩]; rfl, hbx⟩
    · have q0 : (p != pkg) = true := by simpa using he
      have q1 : (p == pkg) = false := by simpa using he
      have He := hid he; clear he
      go_enter Tryd.func13, Tryd.ntmps13
      go_wp2_with fail
      refine (Hb.out _).mono ?_
      rintro e w1 ⟨rfl, hb1⟩
      obtain ⟨hc0, hc1, hbx⟩ := box_cells hb1
      go_wp2_with fail
      refine (Htx.out _).mono ?_
      rintro e w2 ⟨rfl, hb2⟩
      go_wp2_with fail
      go_ret
      exact ⟨by rw [Ht.out, if_neg (fun h => He.out h.2)]; rfl, Below.chain hbx hb2⟩
end Go.Proofs.YtemfmheimblboaaDoor
