/- The walk of lex.quoted. -/
import Derived.Test.YtijgcoedohhlnaaGreatDoorLexBytes
import Derived.Test.YtijgcoedohhlnaaGreatDoorBytesOwn
namespace Go.Proofs.YtijgcoedohhlnaaGreatDoor
set_option maxRecDepth 100000
open Go.RowKit

def quotedR (s : List UInt8) : List UInt8 × Nat := match qGo (s.drop 1) with | none => ([], 0) | some x => (x.1, x.2 + 1)
def qSh (out : List UInt8) (k : Nat) (x : Option (List UInt8 × Nat)) : Option (List UInt8 × Nat) := x.map fun y => (out ++ y.1, k + y.2)
theorem qSh_zero (x : Option (List UInt8 × Nat)) : x = qSh [] 0 x := by cases x <;> simp [qSh]
theorem qSh_map (out : List UInt8) (k j : Nat) (d : List UInt8) (x : Option (List UInt8 × Nat)) : qSh out k (x.map fun y => (d ++ y.1, y.2 + j)) = qSh (out ++ d) (k + j) x := by
  cases x with
  | none => rfl
  | some y => simp [qSh]; omega
theorem q_end {s out : List UInt8} {k : Nat} (h : k + 1 < s.length) (hc : s[k + 1].toNat = 34) (hq : qGo (s.drop 1) = qSh out k (qGo (s.drop (k + 1)))) : quotedR s = (out, k + 2) := by
  rw [drop_at s (k + 1) h, qGo_cons, if_pos hc] at hq
  unfold quotedR; rw [hq]; simp [qSh]
theorem q_bad {s out : List UInt8} {k : Nat} (h : k + 1 < s.length) (hc : s[k + 1].toNat < 32 ∨ s[k + 1].toNat = 127) (hq : qGo (s.drop 1) = qSh out k (qGo (s.drop (k + 1)))) : quotedR s = ([], 0) := by
  rw [drop_at s (k + 1) h, qGo_cons, if_neg (by omega), if_pos hc] at hq
  unfold quotedR; rw [hq]; rfl
theorem q_over {s out : List UInt8} {k : Nat} (h : s.length ≤ k + 1) (hq : qGo (s.drop 1) = qSh out k (qGo (s.drop (k + 1)))) : quotedR s = ([], 0) := by
  rw [List.drop_eq_nil_of_le h] at hq
  unfold quotedR; rw [hq]; rfl
theorem q_plain {s out : List UInt8} {k : Nat} (h : k + 1 < s.length) (h1 : s[k + 1].toNat ≠ 34) (h2 : ¬ (s[k + 1].toNat < 32 ∨ s[k + 1].toNat = 127)) (h3 : s[k + 1].toNat ≠ 92) (hq : qGo (s.drop 1) = qSh out k (qGo (s.drop (k + 1)))) :
    qGo (s.drop 1) = qSh (out ++ [s[k + 1]]) (k + 1) (qGo (s.drop (k + 1 + 1))) := by
  rw [drop_at s (k + 1) h, qGo_cons, if_neg h1, if_neg h2, if_neg h3] at hq
  rw [hq]; exact qSh_map out k 1 [s[k + 1]] _
theorem q_last {s out : List UInt8} {k : Nat} (h : k + 1 < s.length) (h3 : s[k + 1].toNat = 92) (hl : s.length ≤ k + 2) (hq : qGo (s.drop 1) = qSh out k (qGo (s.drop (k + 1)))) : quotedR s = ([], 0) := by
  rw [drop_at s (k + 1) h, qGo_cons, if_neg (by omega), if_neg (by omega), if_pos h3, List.drop_eq_nil_of_le (show s.length ≤ k + 1 + 1 from hl)] at hq
  unfold quotedR; rw [hq]; rfl
theorem q_esc {s out : List UInt8} {k : Nat} (h : k + 1 < s.length) (h3 : s[k + 1].toNat = 92) (h' : k + 2 < s.length) (d : UInt8) (hd : ((s[k + 2].toNat = 34 ∨ s[k + 2].toNat = 92) ∧ d = s[k + 2]) ∨ (s[k + 2].toNat = 110 ∧ d = 10)) (hq : qGo (s.drop 1) = qSh out k (qGo (s.drop (k + 1)))) :
    qGo (s.drop 1) = qSh (out ++ [d]) (k + 2) (qGo (s.drop (k + 2 + 1))) := by
  rw [drop_at s (k + 1) h, qGo_cons, if_neg (by omega), if_neg (by omega), if_pos h3, show k + 1 + 1 = k + 2 from rfl, drop_at s (k + 2) h'] at hq
  simp only at hq
  rcases hd with ⟨h4, rfl⟩ | ⟨h4, rfl⟩
  · rw [if_pos h4] at hq; rw [hq]; exact qSh_map out k 2 [s[k + 2]] _
  · rw [if_neg (by omega), if_pos h4] at hq; rw [hq]; exact qSh_map out k 2 [10] _
theorem q_none {s out : List UInt8} {k : Nat} (h : k + 1 < s.length) (h3 : s[k + 1].toNat = 92) (h' : k + 2 < s.length) (hd : s[k + 2].toNat ≠ 34 ∧ s[k + 2].toNat ≠ 92 ∧ s[k + 2].toNat ≠ 110) (hq : qGo (s.drop 1) = qSh out k (qGo (s.drop (k + 1)))) : quotedR s = ([], 0) := by
  rw [drop_at s (k + 1) h, qGo_cons, if_neg (by omega), if_neg (by omega), if_pos h3, show k + 1 + 1 = k + 2 from rfl, drop_at s (k + 2) h'] at hq
  simp only at hq
  rw [if_neg (by omega), if_neg (by omega)] at hq
  unfold quotedR; rw [hq]; rfl
theorem index_esc (d : UInt8) : Lib.indexByte [34, 92, 110] d = if d.toNat = 34 then 0 else if d.toNat = 92 then 1 else if d.toNat = 110 then 2 else -1 := by
  have e : ∀ a : UInt8, (a == d) = decide (d.toNat = a.toNat) := fun a => by
    rw [Bool.eq_iff_iff]; simp only [beq_iff_eq, decide_eq_true_eq]
    exact ⟨fun h => by rw [h], fun h => (UInt8.toNat_inj.1 h).symm⟩
  simp only [Lib.indexByte, e]
  have e1 : (34 : UInt8).toNat = 34 := rfl
  have e2 : (92 : UInt8).toNat = 92 := rfl
  have e3 : (110 : UInt8).toNat = 110 := rfl
  rw [e1, e2, e3]
  by_cases h1 : d.toNat = 34
  · simp [h1]
  · by_cases h2 : d.toNat = 92
    · simp [h2]
    · by_cases h3 : d.toNat = 110
      · simp [h3]
      · simp [h1, h2, h3]

theorem u8_of {c d : UInt8} (h : c.toNat = d.toNat) : d = c := (UInt8.toNat_inj.1 h).symm
theorem idx_esc (d : UInt8) (v : Int) (hv : Lib.indexByte [34, 92, 110] d = v) (W : World) :
    Calls Tryz.prog 35 #[.string ⟨#[34, 92, 110]⟩, .int .u8 d.toNat] W fun e w' => e = .returned (.int .i64 v) ∧ W = w' := by
  refine (Tryz.strings_IndexByte ⟨#[34, 92, 110]⟩ d.toNat W).mono ?_
  rintro e w' ⟨rfl, rfl⟩
  have : ((d.toNat : Int).toNat.toUInt8) = d := by simp
  exact ⟨by rw [this]; show Ending.returned (.int .i64 (Lib.indexByte [34, 92, 110] d)) = _; rw [hv], rfl⟩
set_option maxHeartbeats 4000000 in
theorem quoted_any (s : List UInt8) (hs : s.length ≤ 1000000000000) (t : List UInt8) (n : Nat) (ht : quotedR s = (t, n)) (w : World) :
    Calls Tryz.prog 34 #[.string (bs s)] w fun e w' => e = .returned (.tuple #[.string (bs t), .int .i64 n]) ∧ Below w.heap.size w w' := by
  obtain ⟨i0, hi, hz0, hz1, hz2⟩ := info_parts u8_info
  have HT := hid ht
  clear ht
  go_enter Tryz.func34, Tryz.ntmps34
  go_wp2_with fail
  go_loopw [4, 5] (fun v i wr => ∃ (k : Nat) (out : List UInt8), k ≤ s.length ∧ out.length ≤ k ∧ i = .int .i64 (k + 1 : Nat) ∧ wr.ownsRow w.heap.size 5 1 v out.length (Lib.byteCells out) ∧ Hid (qGo (s.drop 1) = qSh out k (qGo (s.drop (k + 1)))) ∧ Below w.heap.size w wr) (fun _ i _ => s.length + 1 - (intOf i).toNat)
  case atStart => exact ⟨0, [], by omega, by simp, rfl, ⟨rfl, .inl ⟨rfl, rfl⟩⟩, hid (qSh_zero _), Below.refl _ _⟩
  case round =>
    obtain ⟨k, out, hk, hol, rfl, hown, HQ, hbw⟩ := hrel
    by_cases hlt : k + 1 < s.length
    · have hcv := run_conv_at (SliceAt.of_owns hown (by unfold maxLen; omega))
      have Hown := hid hown
      have htn : ((k : Int) + 1).toNat = k + 1 := by omega
      have hsz := hbw.size
      by_cases c1 : s[k + 1].toNat = 34
      · have q0 : ((s[k + 1].toNat : Int) == 34) = true := eqT (by omega)
        have e0 := q_end hlt c1 HQ.out
        rw [HT.out] at e0
        obtain ⟨rfl, rfl⟩ := Prod.mk.inj e0
        clear e0 HQ hown c1
        go_wp2_with fail
        go_ret2
        exact ⟨rfl, hbw⟩
      · have q0 : ((s[k + 1].toNat : Int) == 34) = false := eqF (by omega)
        by_cases c2 : s[k + 1].toNat < 32 ∨ s[k + 1].toNat = 127
        · have e0 := q_bad hlt c2 HQ.out
          rw [HT.out] at e0
          obtain ⟨rfl, rfl⟩ := Prod.mk.inj e0
          by_cases c3 : s[k + 1].toNat < 32
          · have c3' : (s[k + 1].toNat : Int) < 32 := by omega
            clear e0 HQ hown c1 c2
            go_wp2_with fail
            go_ret2
            exact ⟨rfl, hbw⟩
          · have c3' : ¬ (s[k + 1].toNat : Int) < 32 := by omega
            have q1 : ((s[k + 1].toNat : Int) == 127) = true := eqT (by omega)
            clear e0 HQ hown c1 c2 c3
            go_wp2_with fail
            go_ret2
            exact ⟨rfl, hbw⟩
        · have c3' : ¬ (s[k + 1].toNat : Int) < 32 := by omega
          have q1 : ((s[k + 1].toNat : Int) == 127) = false := eqF (by omega)
          by_cases c4 : s[k + 1].toNat = 92
          · have q2 : ((s[k + 1].toNat : Int) == 92) = true := eqT (by omega)
            have htn2 : ((k : Int) + 1 + 1).toNat = k + 2 := by omega
            by_cases hl2 : k + 2 < s.length
            · by_cases c5 : s[k + 2].toNat = 34 ∨ s[k + 2].toNat = 92 ∨ s[k + 2].toNat = 110
              · rcases c5 with c5 | c5 | c5
                · have HI := hid (idx_esc s[k + 2] 0 (by rw [index_esc, if_pos c5]))
                  have HN := hid (q_esc hlt c4 hl2 34 (.inl ⟨.inl c5, u8_of c5⟩) HQ.out)
                  clear HQ hown c1 c2 c4 c5
                  go_wp2_with fail
                  refine (HI.out _).mono ?_
                  rintro e wx ⟨rfl, rfl⟩
                  go_wp2_with (at_builtin; go_must (refine wpList_append_src rfl _ _ 84 rfl w.heap.size 5 i0 (.int .u8 0) 1 1 Tryz.underlying84 hi hz0 hz1 hz2 rfl (by decide) _ out.length (Lib.byteCells out) rfl ?a1 _ 1 (Lib.byteCells [34]) rfl ?a2 ?a3 ?a4 ?a5 ?a6 ?_))
                  case a1 => exact Hown.out.alloc _
                  case a2 => exact one_byte _ _
                  case a3 => exact byteCells_one _
                  case a4 => unfold maxLen; omega
                  (try case a5 => omega)
                  (try case a6 => simp; omega)
                  intro v' w' hown' hgrow
                  have hbx := (hbw.alloc hbw.size _).grown hgrow (by simp; omega) (by first | exact fun q hq => ((Hown.out.alloc _).lt q hq).1 | exact fun q hq => (Hown.out.lt q hq).1)
                  have ho2 : w'.ownsRow w.heap.size 5 1 v' (out ++ [34]).length (Lib.byteCells (out ++ [34])) := by rw [byteCells_app, List.length_append]; exact hown'
                  clear hown' hgrow
                  go_wp2_with fail
                  exact ⟨⟨k + 2, out ++ [34], by omega, by simp; omega, by go_num, ho2, HN, hbx⟩, by simp [intOf]; omega⟩
                · have HI := hid (idx_esc s[k + 2] 1 (by rw [index_esc, if_neg (by omega), if_pos c5]))
                  have HN := hid (q_esc hlt c4 hl2 92 (.inl ⟨.inr c5, u8_of c5⟩) HQ.out)
                  clear HQ hown c1 c2 c4 c5
                  go_wp2_with fail
                  refine (HI.out _).mono ?_
                  rintro e wx ⟨rfl, rfl⟩
                  go_wp2_with (at_builtin; go_must (refine wpList_append_src rfl _ _ 84 rfl w.heap.size 5 i0 (.int .u8 0) 1 1 Tryz.underlying84 hi hz0 hz1 hz2 rfl (by decide) _ out.length (Lib.byteCells out) rfl ?b1 _ 1 (Lib.byteCells [92]) rfl ?b2 ?b3 ?b4 ?b5 ?b6 ?_))
                  case b1 => exact Hown.out.alloc _
                  case b2 => exact one_byte _ _
                  case b3 => exact byteCells_one _
                  case b4 => unfold maxLen; omega
                  (try case b5 => omega)
                  (try case b6 => simp; omega)
                  intro v' w' hown' hgrow
                  have hbx := (hbw.alloc hbw.size _).grown hgrow (by simp; omega) (by first | exact fun q hq => ((Hown.out.alloc _).lt q hq).1 | exact fun q hq => (Hown.out.lt q hq).1)
                  have ho2 : w'.ownsRow w.heap.size 5 1 v' (out ++ [92]).length (Lib.byteCells (out ++ [92])) := by rw [byteCells_app, List.length_append]; exact hown'
                  clear hown' hgrow
                  go_wp2_with fail
                  exact ⟨⟨k + 2, out ++ [92], by omega, by simp; omega, by go_num, ho2, HN, hbx⟩, by simp [intOf]; omega⟩
                · have HI := hid (idx_esc s[k + 2] 2 (by rw [index_esc, if_neg (by omega), if_neg (by omega), if_pos c5]))
                  have HN := hid (q_esc hlt c4 hl2 10 (.inr ⟨c5, rfl⟩) HQ.out)
                  clear HQ hown c1 c2 c4 c5
                  go_wp2_with fail
                  refine (HI.out _).mono ?_
                  rintro e wx ⟨rfl, rfl⟩
                  go_wp2_with (at_builtin; go_must (refine wpList_append_src rfl _ _ 84 rfl w.heap.size 5 i0 (.int .u8 0) 1 1 Tryz.underlying84 hi hz0 hz1 hz2 rfl (by decide) _ out.length (Lib.byteCells out) rfl ?c1 _ 1 (Lib.byteCells [10]) rfl ?c2 ?c3 ?c4 ?c5 ?c6 ?_))
                  case c1 => exact Hown.out.alloc _
                  case c2 => exact one_byte _ _
                  case c3 => exact byteCells_one _
                  case c4 => unfold maxLen; omega
                  (try case c5 => omega)
                  (try case c6 => simp; omega)
                  intro v' w' hown' hgrow
                  have hbx := (hbw.alloc hbw.size _).grown hgrow (by simp; omega) (by first | exact fun q hq => ((Hown.out.alloc _).lt q hq).1 | exact fun q hq => (Hown.out.lt q hq).1)
                  have ho2 : w'.ownsRow w.heap.size 5 1 v' (out ++ [10]).length (Lib.byteCells (out ++ [10])) := by rw [byteCells_app, List.length_append]; exact hown'
                  clear hown' hgrow
                  go_wp2_with fail
                  exact ⟨⟨k + 2, out ++ [10], by omega, by simp; omega, by go_num, ho2, HN, hbx⟩, by simp [intOf]; omega⟩
              · have HI := hid (idx_esc s[k + 2] (-1) (by rw [index_esc, if_neg (by omega), if_neg (by omega), if_neg (by omega)]))
                have e0 := q_none hlt c4 hl2 (by omega) HQ.out
                rw [HT.out] at e0
                obtain ⟨rfl, rfl⟩ := Prod.mk.inj e0
                clear e0 HQ hown c1 c2 c4 c5
                go_wp2_with fail
                refine (HI.out _).mono ?_
                rintro e wx ⟨rfl, rfl⟩
                go_wp2_with fail
                go_ret2
                exact ⟨rfl, hbw⟩
            · have e0 := q_last hlt c4 (by omega) HQ.out
              rw [HT.out] at e0
              obtain ⟨rfl, rfl⟩ := Prod.mk.inj e0
              clear e0 HQ hown c1 c2 c4
              go_wp2_with fail
              go_ret2
              exact ⟨rfl, hbw⟩
          · have q2 : ((s[k + 1].toNat : Int) == 92) = false := eqF (by omega)
            have HN := hid (q_plain hlt c1 c2 c4 HQ.out)
            clear HQ hown c1 c2 c4
            go_wp2_with (at_builtin; go_must (refine wpList_append_src rfl _ _ 84 rfl w.heap.size 5 i0 (.int .u8 0) 1 1 Tryz.underlying84 hi hz0 hz1 hz2 rfl (by decide) _ out.length (Lib.byteCells out) rfl ?d1 _ 1 (Lib.byteCells [s[k + 1]]) rfl ?d2 ?d3 ?d4 ?d5 ?d6 ?_))
            case d1 => exact Hown.out.alloc _
            case d2 => exact one_byte _ _
            case d3 => exact byteCells_one _
            case d4 => unfold maxLen; omega
            (try case d5 => omega)
            (try case d6 => simp; omega)
            intro v' w' hown' hgrow
            have hbx := (hbw.alloc hbw.size _).grown hgrow (by simp; omega) (by first | exact fun q hq => ((Hown.out.alloc _).lt q hq).1 | exact fun q hq => (Hown.out.lt q hq).1)
            have ho2 : w'.ownsRow w.heap.size 5 1 v' (out ++ [s[k + 1]]).length (Lib.byteCells (out ++ [s[k + 1]])) := by rw [byteCells_app, List.length_append]; exact hown'
            clear hown' hgrow
            go_wp2_with fail
            exact ⟨⟨k + 1, out ++ [s[k + 1]], by omega, by simp; omega, by go_num, ho2, HN, hbx⟩, by simp [intOf]; omega⟩
    · have e0 := q_over (by omega) HQ.out
      rw [HT.out] at e0
      obtain ⟨rfl, rfl⟩ := Prod.mk.inj e0
      clear e0 HQ hown
      go_wp2_with fail
      go_ret2
      exact ⟨rfl, hbw⟩
end Go.Proofs.YtijgcoedohhlnaaGreatDoor
