/- The walk of the reference's Texts. -/
import Derived.Test.YtnfjlimecoikpaaGreatDoorMPack
namespace Go.Proofs.YtnfjlimecoikpaaGreatDoor
set_option maxRecDepth 100000
open Go.RowKit
set_option maxHeartbeats 1000000 in
theorem refTexts_any (l : List UInt8) (w : World) (hs : l.length ≤ 1000000000000) :
    Calls Tryz.prog 54 #[.string (bs l)] w (TextsPost l w) := by
  obtain ⟨i0, hi, hz0, hz1, hz2⟩ := info_parts pstr_info
  go_enter Tryz.func54, Tryz.ntmps54
  go_wp2
  go_loopw [4, 5] (fun o at_ wr => ∃ (out : List (List UInt8)) (p : Nat), p ≤ l.length ∧ at_ = .int .i64 p ∧ textsL l = fin out (textsL (l.drop p)) ∧ out.length ≤ p ∧ wr.ownsRow w.heap.size 9 1 o out.length (strCells out) ∧ Below w.heap.size w wr) (fun _ p _ => l.length - (intOf p).toNat)
  case atStart => exact ⟨[], 0, by omega, rfl, (fin_nil l).symm, by simp, ⟨rfl, .inr ⟨_, 0, #[], rfl, Nat.le_refl _, heap_alloc_new w _, Nat.le_refl _, by simp, rfl, rfl⟩⟩, (Below.refl _ _).alloc (Nat.le_refl _) _⟩
  case round =>
    obtain ⟨out, p, hp, rfl, ht, hlen, hown, hbw⟩ := hrel
    have Ht := hid ht; clear ht
    have hsz := hbw.size
    by_cases hr : p < l.length
    · have hne : l.drop p ≠ [] := by intro e; have := congrArg List.length e; simp at this; omega
      go_wp2
      go_loopw [5, 6, 7] (fun at_ n k w2 => ∃ (r q m : Nat), r ≤ l.length ∧ p + q ≤ r ∧ r ≤ p + q ∧ q ≤ 9 ∧ m < 10 ^ q ∧ at_ = .int .i64 r ∧ k = .int .i64 q ∧ n = .int .i64 m ∧ headFrom 0 0 (l.drop p) = headFrom q m (l.drop r) ∧ w2 = wr) (fun at_ _ _ _ => l.length - (intOf at_).toNat)
      case atStart => exact ⟨p, 0, 0, by omega, by omega, by omega, by omega, by omega, rfl, rfl, rfl, rfl, rfl⟩
      case round =>
        obtain ⟨r, q, m, hrl, hr1, hr2, hq9, hm, rfl, rfl, rfl, hh, rfl⟩ := hrel
        have Hh := hid hh; clear hh
        have hm' : m < 1000000000 := Nat.lt_of_lt_of_le hm (by have := Nat.pow_le_pow_right (n := 10) (by omega) hq9; omega)
        have Hm := hid hm; clear hm
        by_cases hrl2 : r < l.length
        · have Hd := hid (drop_at l r hrl2)
          by_cases hd : isDig l[r] = true
          · have hd' := (isDig_iff _).1 hd
            by_cases hbad : q = 9 ∨ (0 < q ∧ m = 0)
            · have hx : Hid (textsL l = ([], 3)) := by
                apply hid; rw [Ht.out, textsL_err (n := 0) (t := []) (c := 3) (by rw [Hh.out, Hd.out]; exact headFrom_bad (by omega) (by omega)) hne (by omega)]; simp [fin]
              have hq0 : 0 < q := by omega
              by_cases hm0 : m = 0
              · have hm1 : ((m : Int) == 0) = true := by simp; omega
                clear hm0 hbad
                go_wp2_with (go_at_call 74; refine (digit_is _ _ hd _).mono ?_; rintro e w' ⟨rfl, rfl⟩)
                go_ret2
                refine ⟨_, by rw [hx.out]; rfl, ?_, hbw⟩
                rw [hx.out]; exact SliceAt.nil _ _
              · have hm1 : ((m : Int) == 0) = false := by simp; omega
                have hq1 : ((q : Int) == 9) = true := by simp; omega
                clear hbad
                go_wp2_with (go_at_call 74; refine (digit_is _ _ hd _).mono ?_; rintro e w' ⟨rfl, rfl⟩)
                go_ret2
                refine ⟨_, by rw [hx.out]; rfl, ?_, hbw⟩
                rw [hx.out]; exact SliceAt.nil _ _
            · have hq1 : ((q : Int) == 9) = false := by simp; omega
              have hgood : ¬ (l[r].toNat < 48 ∨ 57 < l[r].toNat ∨ q = 9 ∨ (0 < q ∧ m = 0)) := by omega
              have Hgood := hid hgood; clear hgood
              by_cases hq0 : 0 < q
              · have hm1 : ((m : Int) == 0) = false := by simp; omega
                clear hbad
                go_wp2_with (go_at_call 74; refine (digit_is _ _ hd _).mono ?_; rintro e w' ⟨rfl, rfl⟩)
                refine ⟨⟨r + 1, q + 1, 10 * m + (l[r].toNat - 48), by omega, by omega, by omega, by have := Hgood.out; omega, ?_, by go_num, by go_num, ?_, ?_, trivial⟩, by simp [intOf]; omega⟩
                · rw [Nat.pow_succ]; have := Hm.out; omega
                · exact congrArg _ (by omega)
                · rw [Hh.out, Hd.out]; exact headFrom_more (by omega) Hgood.out
              · clear hbad
                go_wp2_with (go_at_call 74; refine (digit_is _ _ hd _).mono ?_; rintro e w' ⟨rfl, rfl⟩)
                refine ⟨⟨r + 1, q + 1, 10 * m + (l[r].toNat - 48), by omega, by omega, by omega, by have := Hgood.out; omega, ?_, by go_num, by go_num, ?_, ?_, trivial⟩, by simp [intOf]; omega⟩
                · rw [Nat.pow_succ]; have := Hm.out; omega
                · exact congrArg _ (by omega)
                · rw [Hh.out, Hd.out]; exact headFrom_more (by omega) Hgood.out
          · rw [Bool.not_eq_true] at hd
            have hd' := (isDig_false _).1 hd
            by_cases hq : q = 0
            · have hq' : ((q : Int) == 0) = true := by simp; omega
              have Hq := hid hq; clear hq
              go_wp2_with (go_at_call 74; refine (digit_is _ _ hd _).mono ?_; rintro e w' ⟨rfl, rfl⟩)
              go_ret2
              have hx : textsL l = ([], 3) := by rw [Ht.out, textsL_err (n := 0) (t := []) (c := 3) (by rw [Hh.out, Hd.out]; exact headFrom_bad (by have := Hq.out; omega) (by omega)) hne (by omega)]; simp [fin]
              refine ⟨_, by rw [hx]; rfl, ?_, hbw⟩
              rw [hx]; exact SliceAt.nil _ _
            · have hq' : ((q : Int) == 0) = false := by simp; omega
              by_cases h58 : l[r].toNat = 58
              · have h58' : ((l[r].toNat : Int) != 58) = false := by simp; omega
                have h58'' : ((l[r].toNat : Int) == 58) = true := by simp; omega
                have H58 := hid h58; clear h58
                have hdone : Hid (headFrom 0 0 (l.drop p) = (m, l.drop (r + 1), 0)) := by
                  apply hid; rw [Hh.out, Hd.out]; exact headFrom_done H58.out (by omega)
                by_cases hsh : l.length - (r + 1) < m
                · go_wp2_with (go_at_call 74; refine (digit_is _ _ hd _).mono ?_; rintro e w' ⟨rfl, rfl⟩)
                  go_ret2
                  have hx : textsL l = ([], 4) := by rw [Ht.out, textsL_short hdone.out hne (by rw [List.length_drop]; exact hsh)]; simp [fin]
                  refine ⟨_, by rw [hx]; rfl, ?_, hbw⟩
                  rw [hx]; exact SliceAt.nil _ _
                · have hsh1 : r + 1 + m ≤ l.length := by omega
                  have hsh2 : (m : Int) ≤ l.length - (r + 1) := by omega
                  go_wp2_with first
                    | (go_at_call 74; refine (digit_is _ _ hd _).mono ?_; rintro e w' ⟨rfl, rfl⟩)
                    | (at_builtin; go_must (refine wpList_append_own _ rfl _ _ 23 rfl w.heap.size 9 i0 (.string ⟨#[]⟩) 1 16 Tryz.underlying23 hi hz0 hz1 hz2 rfl (by decide) _ _ _ rfl (hown.alloc _) ⟨wr.heap.size, 0, none⟩ 1 1 [.string (bs (List.take m (List.drop (r + 1) l)))] rfl rfl ?c1 ?c2 ?c3 ?c4 ?c5 ?_))
                  case c1 => exact new_cells _ #[_] _ _
                  case c2 => intro u hu; simp at hu; subst hu; rfl
                  case c3 => unfold maxLen; omega
                  case c4 => omega
                  case c5 => simp; omega
                  intro v1 w1 hown1 hgrow1 _
                  have hb1 : Below w.heap.size w w1 := (hbw.alloc (by omega) _).grown hgrow1 (by simp; omega) (fun k hk => (hown.lt k hk).1)
                  clear hgrow1
                  go_wp2
                  refine ⟨⟨out ++ [(l.drop (r + 1)).take m], r + 1 + m, by omega, by go_num, ?_, ?_, ?_, hb1⟩, ?_⟩
                  · rw [Ht.out, textsL_more hdone.out hne (by rw [List.length_drop]; exact hsh), fin_fin, List.drop_drop]
                  · simp; omega
                  · rw [strCells_append, List.length_append]; exact hown1
                  · simp [intOf]; omega
              · have h58' : ((l[r].toNat : Int) != 58) = true := by simp; omega
                go_wp2_with (go_at_call 74; refine (digit_is _ _ hd _).mono ?_; rintro e w' ⟨rfl, rfl⟩)
                go_ret2
                have hx : textsL l = ([], 3) := by rw [Ht.out, textsL_err (n := 0) (t := []) (c := 3) (by rw [Hh.out, Hd.out]; exact headFrom_bad (by omega) (by omega)) hne (by omega)]; simp [fin]
                refine ⟨_, by rw [hx]; rfl, ?_, hbw⟩
                rw [hx]; exact SliceAt.nil _ _
        · have hre : ((r : Int) == (l.length : Int)) = true := by simp; omega
          go_wp2
          go_ret2
          have hx : textsL l = ([], 4) := by rw [Ht.out, textsL_err (n := 0) (t := []) (c := 4) (by rw [Hh.out, List.drop_eq_nil_of_le (by omega)]; rfl) hne (by omega)]; simp [fin]
          refine ⟨_, by rw [hx]; rfl, ?_, hbw⟩
          rw [hx]; exact SliceAt.nil _ _
    · go_wp2
      go_ret2
      have hx : textsL l = (out, 0) := by rw [Ht.out, List.drop_eq_nil_of_le (by omega), textsL_nil]; simp [fin]
      refine ⟨_, by rw [hx]; rfl, ?_, hbw⟩
      rw [hx]; exact SliceAt.of_owns hown (by show out.length ≤ maxLen; unfold maxLen; omega)
end Go.Proofs.YtnfjlimecoikpaaGreatDoor
