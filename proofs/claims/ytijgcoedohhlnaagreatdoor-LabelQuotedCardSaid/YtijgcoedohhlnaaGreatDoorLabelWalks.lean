/- The walks of package label: a package, a name, a label; Text, Short. -/
import Derived.Test.YtijgcoedohhlnaaGreatDoorPathUnder
import Derived.Test.YtijgcoedohhlnaaGreatDoorLabelPlain
namespace Go.Proofs.YtijgcoedohhlnaaGreatDoor
open Go.RowKit

theorem contains47 (l : List UInt8) : decide (0 ≤ Lib.indexByte l 47) = !decide ((47 : UInt8) ∉ l) := by
  have hg := indexByte_ge l 47
  have e : (0 ≤ Lib.indexByte l 47) ↔ (47 : UInt8) ∈ l := by
    constructor
    · intro h
      rw [← Classical.not_not (a := (47 : UInt8) ∈ l)]
      intro h2
      have := byte_none.2 h2; omega
    · intro h
      have : Lib.indexByte l 47 ≠ -1 := fun e => (byte_none.1 e) h
      omega
  rw [Bool.eq_iff_iff]
  simp [e]

set_option maxHeartbeats 400000 in
theorem isPkg_any (l : List UInt8) (hl : l.length ≤ 1000000000000) (w : World) :
    Calls Tryz.prog 21 #[.string (bs l)] w fun e w' => e = .returned (.bool (pkgB l)) ∧ Below w.heap.size w w' := by
  obtain ⟨b, hb⟩ : ∃ b, mayB l = b := ⟨_, rfl⟩
  have Hm := hid (may_is l hl b hb)
  by_cases h0 : l = []
  · subst h0
    go_enter Tryz.func21, Tryz.ntmps21
    go_wp2_with fail
    go_ret
    exact ⟨rfl, Below.refl _ _⟩
  · have hp : Hid (pkgB l = b) := by apply hid; rw [pkgB, decide_eq_false h0, hb]; rfl
    have q0 : (l == []) = false := by simpa using h0
    have q1 : l.isEmpty = false := by simpa using h0
    clear h0 hb
    go_enter Tryz.func21, Tryz.ntmps21
    go_wp2_with fail
    refine (Hm.out _).mono ?_
    rintro e w1 ⟨rfl, hb1⟩
    go_wp2_with fail
    go_ret
    exact ⟨by rw [hp.out]; rfl, hb1⟩
theorem isPkg_is (l : List UInt8) (hl : l.length ≤ 1000000000000) (b : Bool) (h : pkgB l = b) (w : World) :
    Calls Tryz.prog 21 #[.string (bs l)] w fun e w' => e = .returned (.bool b) ∧ Below w.heap.size w w' := by
  subst h; exact isPkg_any l hl w

set_option maxHeartbeats 400000 in
theorem isName_any (l : List UInt8) (hl : l.length ≤ 1000000000000) (w : World) :
    Calls Tryz.prog 40 #[.string (bs l)] w fun e w' => e = .returned (.bool (partB l)) ∧ Below w.heap.size w w' := by
  obtain ⟨b, hb⟩ : ∃ b, mayB l = b := ⟨_, rfl⟩
  obtain ⟨c, hc⟩ : ∃ c, decide (0 ≤ Lib.indexByte l 47) = c := ⟨_, rfl⟩
  have Hm := hid (may_is l hl b hb)
  have Hn : Hid (partB l = (b && !c)) := by apply hid; rw [name_eq, hb, ← hc, contains47, Bool.not_not]
  have Hc : Hid (∀ w, Calls Tryz.prog 62 #[.string (bs l), .string ⟨#[47]⟩] w fun e w' => e = .returned (.bool c) ∧ w' = w) := by
    apply hid; intro w; rw [← hc]; exact Tryz.strings_Contains_one (bs l) 47 w
  clear hb hc
  cases b with
  | false =>
    go_enter Tryz.func40, Tryz.ntmps40
    go_wp2_with fail
    refine (Hm.out _).mono ?_
    rintro e w1 ⟨rfl, hb1⟩
    go_wp2_with fail
    go_ret
    exact ⟨by rw [Hn.out]; rfl, hb1⟩
  | true =>
    go_enter Tryz.func40, Tryz.ntmps40
    go_wp2_with fail
    refine (Hm.out _).mono ?_
    rintro e w1 ⟨rfl, hb1⟩
    go_wp2_with fail
    refine (Hc.out _).mono ?_
    rintro e w2 ⟨rfl, rfl⟩
    go_wp2_with fail
    go_ret
    exact ⟨by rw [Hn.out]; simp, hb1⟩
theorem isName_is (l : List UInt8) (hl : l.length ≤ 1000000000000) (b : Bool) (h : partB l = b) (w : World) :
    Calls Tryz.prog 40 #[.string (bs l)] w fun e w' => e = .returned (.bool b) ∧ Below w.heap.size w w' := by
  subst h; exact isName_any l hl w

abbrev labV (p n : List UInt8) : Value := .agg #[.string (bs p), .string (bs n)]

theorem box_cells {w w1 : World} {p n : List UInt8} {e : TypeId} {fr : Nat × Nat} (hb1 : Below (w.alloc (.cells #[.string (bs p), .string (bs n)] e fr)).heap.size (w.alloc (.cells #[.string (bs p), .string (bs n)] e fr)) w1) :
    w1.cell? ⟨w.heap.size, 0, none⟩ = some (.string (bs p)) ∧ w1.cell? ⟨w.heap.size, 1, none⟩ = some (.string (bs n)) ∧ Below w.heap.size w w1 :=
  ⟨(hb1.cell (p := ⟨w.heap.size, 0, none⟩) (by simp)).trans (by rw [World.cell?_alloc_mark]; rfl), (hb1.cell (p := ⟨w.heap.size, 1, none⟩) (by simp)).trans (by rw [World.cell?_alloc_mark]; rfl),
    ((Below.refl w.heap.size w).alloc (Nat.le_refl _) _).trans (hb1.mono (by simp))⟩

set_option maxHeartbeats 400000 in
theorem lmay_any (p n : List UInt8) (hp : p.length ≤ 1000000000000) (hn : n.length ≤ 1000000000000) (w : World) :
    Calls Tryz.prog 17 #[labV p n] w fun e w' => e = .returned (.bool (labB p n)) ∧ Below w.heap.size w w' := by
  obtain ⟨b, hb⟩ : ∃ b, pkgB p = b := ⟨_, rfl⟩
  obtain ⟨c, hc⟩ : ∃ c, partB n = c := ⟨_, rfl⟩
  have Hb := hid (isPkg_is p hp b hb)
  have Hc := hid (isName_is n hn c hc)
  have Hl : Hid (labB p n = (b && c)) := by apply hid; rw [labB, hb, hc]
  clear hb hc
  cases b with
  | false =>
    go_enter Tryz.func17, Tryz.ntmps17
    go_wp2_with fail
    refine (Hb.out _).mono ?_
    rintro e w1 ⟨rfl, hb1⟩
    go_wp2_with fail
    go_ret
    exact ⟨by rw [Hl.out]; rfl, (box_cells hb1).2.2⟩
  | true =>
    go_enter Tryz.func17, Tryz.ntmps17
    go_wp2_with fail
    refine (Hb.out _).mono ?_
    rintro e w1 ⟨rfl, hb1⟩
    obtain ⟨-, hc1, hbx⟩ := box_cells hb1
    go_wp2_with fail
    refine (Hc.out _).mono ?_
    rintro e w2 ⟨rfl, hb2⟩
    go_wp2_with fail
    go_ret
    exact ⟨by rw [Hl.out]; rfl, Below.chain hbx hb2⟩
theorem lmay_is (p n : List UInt8) (hp : p.length ≤ 1000000000000) (hn : n.length ≤ 1000000000000) (b : Bool) (h : labB p n = b) (w : World) :
    Calls Tryz.prog 17 #[labV p n] w fun e w' => e = .returned (.bool b) ∧ Below w.heap.size w w' := by
  subst h; exact lmay_any p n hp hn w

set_option maxHeartbeats 400000 in
theorem text_any (p n : List UInt8) (hp : p.length ≤ 1000000000000) (hn : n.length ≤ 1000000000000) (w : World) :
    Calls Tryz.prog 8 #[labV p n] w fun e w' => e = .returned (.string (bs (textL p n))) ∧ Below w.heap.size w w' := by
  obtain ⟨b, hb⟩ : ∃ b, labB p n = b := ⟨_, rfl⟩
  have Hb := hid (lmay_is p n hp hn b hb)
  have Ht : Hid (textL p n = if b = true then longL p n else []) := by apply hid; rw [textL, hb]
  clear hb
  cases b with
  | false =>
    go_enter Tryz.func8, Tryz.ntmps8
    go_wp2_with fail
    refine (Hb.out _).mono ?_
    rintro e w1 ⟨rfl, hb1⟩
    go_wp2_with fail
    go_ret
    exact ⟨by rw [Ht.out]; rfl, (box_cells hb1).2.2⟩
  | true =>
    go_enter Tryz.func8, Tryz.ntmps8
    go_wp2_with fail
    refine (Hb.out _).mono ?_
    rintro e w1 ⟨rfl, hb1⟩
    obtain ⟨hc0, hc1, hbx⟩ := box_cells hb1
    go_wp2_with fail
    go_ret
    exact ⟨by rw [Ht.out]; rfl, hbx⟩
theorem text_is (p n : List UInt8) (hp : p.length ≤ 1000000000000) (hn : n.length ≤ 1000000000000) (t : List UInt8) (h : textL p n = t) (w : World) :
    Calls Tryz.prog 8 #[labV p n] w fun e w' => e = .returned (.string (bs t)) ∧ Below w.heap.size w w' := by
  subst h; exact text_any p n hp hn w

end Go.Proofs.YtijgcoedohhlnaaGreatDoor
