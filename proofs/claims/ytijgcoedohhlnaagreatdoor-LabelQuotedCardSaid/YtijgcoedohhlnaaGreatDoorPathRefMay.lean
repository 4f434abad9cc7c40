/- The walks of the reference of paths: May. -/
import Derived.Test.YtijgcoedohhlnaaGreatDoorPathRef
import Derived.Test.YtijgcoedohhlnaaGreatDoorTreePlain
namespace Go.Proofs.YtijgcoedohhlnaaGreatDoor
open Go.RowKit

theorem refPart_is (l : List UInt8) (hl : l.length ≤ 1000000000000) (b : Bool) (h : partB l = b) (w : World) :
    Calls Tryz.prog 26 #[.string (bs l)] w fun e w' => e = .returned (.bool b) ∧ w = w' := by
  rw [← h]; exact refPart_any l hl w

theorem le_mem {l : List UInt8} {k : Nat} (h : k < (splitL l).length) : (splitL l)[k].length ≤ l.length := splitL_mem l _ (List.getElem_mem h)

set_option maxHeartbeats 1000000 in
set_option maxRecDepth 100000 in
theorem refMay_any (l : List UInt8) (hl : l.length ≤ 1000000000000) (w : World) :
    Calls Tryz.prog 25 #[.string (bs l)] w fun e w' => e = .returned (.bool (mayB l)) ∧ Below w.heap.size w w' := by
  have hmb : mayB l = (decide ((splitL l).length ≤ 16) && (splitL l).all partB) := rfl
  have Hml := hid hmb; clear hmb
  have hmem : ∀ k (h : k < (splitL l).length), (splitL l)[k].length ≤ 1000000000000 := fun k h => Nat.le_trans (le_mem h) hl
  have Hp := hid (parts_any l hl w)
  have hnl := splitL_len l
  unfold PartsPost at Hp
  generalize splitL l = ps at Hp Hml hmem hnl
  go_enter Tryz.func25, Tryz.ntmps25
  go_wp2_with fail
  refine Hp.out.mono ?_
  rintro e w1 ⟨v, rfl, hs, hb1⟩
  have h00 := hs
  obtain ⟨-, a, c, rfl, hc, hm, hx⟩ := hs.str
  have Hx := hid hx; clear hx hs
  unfold maxLen at hm
  go_wp2_with fail
  go_loop [4] (fun i => ∃ k : Nat, k ≤ ps.length ∧ i = .int .i64 k ∧ ps.all partB = (ps.drop k).all partB) (fun i => ps.length - (intOf i).toNat)
  case atStart => exact ⟨0, by omega, rfl, rfl⟩
  case round =>
    obtain ⟨k, hk, rfl, hg⟩ := hrel
    have Hg := hid hg; clear hg
    by_cases hlt : k < ps.length
    · obtain ⟨b0, o0, rfl, hb0, hcl0⟩ := Hx.out k hlt
      have e0 := hcl0 k hlt
      have hlk := hmem k hlt
      have Hd := hid (drop_at ps k hlt)
      clear hcl0
      obtain ⟨r, hr⟩ : ∃ r, partB ps[k] = r := ⟨_, rfl⟩
      have Hr := hid (refPart_is ps[k] hlk r hr)
      have Hre := hid hr; clear hr
      cases r with
      | true =>
        go_wp2_with fail
        refine (Hr.out _).mono ?_
        rintro e w2 ⟨rfl, rfl⟩
        go_wp2_with fail
        exact ⟨⟨k + 1, by omega, by go_num, by rw [Hg.out, Hd.out, List.all_cons, Hre.out, Bool.true_and]⟩, by simp [intOf]; omega⟩
      | false =>
        go_wp2_with fail
        refine (Hr.out _).mono ?_
        rintro e w2 ⟨rfl, rfl⟩
        go_wp2_with fail
        go_ret
        exact ⟨by rw [Hml.out, Hg.out, Hd.out, List.all_cons, Hre.out, Bool.false_and, Bool.and_false]; rfl, hb1⟩
    · have hall : Hid (mayB l = decide (ps.length ≤ 16)) := by
        apply hid; rw [Hml.out, Hg.out, List.drop_eq_nil_of_le (by omega)]; simp
      have hde : decide ((ps.length : Int) ≤ 16) = decide (ps.length ≤ 16) := by
        by_cases h : ps.length ≤ 16
        · rw [decide_eq_true h]; exact decide_eq_true (by omega)
        · rw [decide_eq_false h]; exact decide_eq_false (by omega)
      go_wp2_with fail
      go_ret
      exact ⟨by rw [hall.out]; rfl, hb1⟩

theorem refMay_is (l : List UInt8) (hl : l.length ≤ 1000000000000) (b : Bool) (h : mayB l = b) (w : World) :
    Calls Tryz.prog 25 #[.string (bs l)] w fun e w' => e = .returned (.bool b) ∧ Below w.heap.size w w' := by
  rw [← h]; exact refMay_any l hl w

end Go.Proofs.YtijgcoedohhlnaaGreatDoor
