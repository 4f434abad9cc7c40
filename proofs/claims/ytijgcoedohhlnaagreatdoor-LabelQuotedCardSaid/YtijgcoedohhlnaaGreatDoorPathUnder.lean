/- The walks of path.May in the form that a walk takes, and of path.Under. -/
import Derived.Test.YtijgcoedohhlnaaGreatDoorTreePlain
import Derived.Test.YtijgcoedohhlnaaGreatDoorPathMay
namespace Go.Proofs.YtijgcoedohhlnaaGreatDoor
open Go.RowKit

theorem may_is (s : List UInt8) (hs : s.length ≤ 1000000000000) (b : Bool) (h : mayB s = b) (w : World) :
    Calls Tryz.prog 44 #[.string (bs s)] w fun e w' => e = .returned (.bool b) ∧ Below w.heap.size w w' := by
  subst h; exact may_any s hs w

set_option maxHeartbeats 400000 in
theorem under_any (s d : List UInt8) (hs : s.length ≤ 1000000000000) (hd : d.length ≤ 1000000000000) (w : World) :
    Calls Tryz.prog 50 #[.string (bs s), .string (bs d)] w fun e w' => e = .returned (.bool (underB s d)) ∧ Below w.heap.size w w' := by
  obtain ⟨bm, hbm⟩ : ∃ bm, mayB s = bm := ⟨_, rfl⟩
  obtain ⟨bd, hbd⟩ : ∃ bd, mayB d = bd := ⟨_, rfl⟩
  have Hm := hid (may_is s hs bm hbm)
  have Hd := hid (may_is d hd bd hbd)
  obtain ⟨bp, hbp⟩ : ∃ bp, Lib.hasPrefix s (d ++ [47]) = bp := ⟨_, rfl⟩
  have Hu : Hid (underB s d = (bm && (d.isEmpty || (bd && bp)))) := by apply hid; rw [underB, hbm, hbd, hbp]
  have Hp : Hid (∀ w, Calls Tryz.prog 18 #[.string (bs s), .string (bs (d ++ [47]))] w fun e w' => e = .returned (.bool bp) ∧ w' = w) := by
    apply hid; intro w; rw [← hbp]; exact Tryz.strings_HasPrefix (bs s) (bs (d ++ [47])) w
  clear hbm hbd hbp
  cases bm with
  | false =>
    go_enter Tryz.func50, Tryz.ntmps50
    go_wp2_with fail
    refine (Hm.out _).mono ?_
    rintro e w1 ⟨rfl, hb1⟩
    go_wp2_with fail
    go_ret
    exact ⟨by rw [Hu.out]; rfl, hb1⟩
  | true =>
    by_cases h0 : d = []
    · subst h0
      go_enter Tryz.func50, Tryz.ntmps50
      go_wp2_with fail
      refine (Hm.out _).mono ?_
      rintro e w1 ⟨rfl, hb1⟩
      go_wp2_with fail
      go_ret
      exact ⟨by rw [Hu.out]; rfl, hb1⟩
    · have h0' : d.isEmpty = false := by simpa using h0
      clear h0
      cases bd with
      | false =>
        go_enter Tryz.func50, Tryz.ntmps50
        go_wp2_with fail
        refine (Hm.out _).mono ?_
        rintro e w1 ⟨rfl, hb1⟩
        go_wp2_with fail
        refine (Hd.out _).mono ?_
        rintro e w2 ⟨rfl, hb2⟩
        go_wp2_with fail
        go_ret
        exact ⟨by rw [Hu.out, h0']; rfl, Below.chain hb1 hb2⟩
      | true =>
        go_enter Tryz.func50, Tryz.ntmps50
        go_wp2_with fail
        refine (Hm.out _).mono ?_
        rintro e w1 ⟨rfl, hb1⟩
        go_wp2_with fail
        refine (Hd.out _).mono ?_
        rintro e w2 ⟨rfl, hb2⟩
        go_wp2_with fail
        refine (Hp.out _).mono ?_
        rintro e w3 ⟨rfl, rfl⟩
        go_wp2_with fail
        go_ret
        exact ⟨by rw [Hu.out, h0']; simp, Below.chain hb1 hb2⟩
theorem under_is (s d : List UInt8) (hs : s.length ≤ 1000000000000) (hd : d.length ≤ 1000000000000) (b : Bool) (h : underB s d = b) (w : World) :
    Calls Tryz.prog 50 #[.string (bs s), .string (bs d)] w fun e w' => e = .returned (.bool b) ∧ Below w.heap.size w w' := by
  subst h; exact under_any s d hs hd w

end Go.Proofs.YtijgcoedohhlnaaGreatDoor
