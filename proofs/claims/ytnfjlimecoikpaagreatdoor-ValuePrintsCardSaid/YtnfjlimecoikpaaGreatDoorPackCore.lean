/- The walks of package pack and of its reference: rows of texts. -/
import Derived.Test.YtnfjlimecoikpaaGreatDoorPackPlain
import Derived.Test.YtnfjlimecoikpaaGreatDoorBuilder
namespace Go.Proofs.YtnfjlimecoikpaaGreatDoor
open Go.RowKit

def HeadPost (l : List UInt8) (w : World) (e : Ending) (w' : World) : Prop :=
  ∃ (n : Nat) (t : List UInt8) (c : Nat), e = .returned (.tuple #[.int .i64 n, .string (bs t), .int .i64 c]) ∧ headFrom 0 0 l = (n, t, c) ∧ n < 1000000000 ∧ Drawn w w'

set_option maxHeartbeats 400000 in
theorem head_any (l : List UInt8) (w : World) (hs : l.length ≤ maxLen) :
    Calls Tryz.prog 72 #[.string (bs l)] w (HeadPost l w) := by
  unfold maxLen at hs
  go_enter Tryz.func72, Tryz.ntmps72
  go_wp2
  go_loop [5, 10] (fun n i => ∃ (k m : Nat), k ≤ l.length ∧ k ≤ 9 ∧ m < 10 ^ k ∧ i = .int .i64 k ∧ n = .int .i64 m ∧ headFrom 0 0 l = headFrom k m (l.drop k)) (fun _ i => l.length - (intOf i).toNat)
  case atStart => exact ⟨0, 0, by omega, by omega, by omega, rfl, rfl, rfl⟩
  case round =>
    obtain ⟨k, m, hk, hk9, hm, rfl, rfl, hh⟩ := hrel
    have Hh := hid hh; clear hh
    have hm' : m < 1000000000 := Nat.lt_of_lt_of_le hm (by have := Nat.pow_le_pow_right (n := 10) (by omega) hk9; omega)
    have Hm := hid hm; clear hm
    by_cases hlt : k < l.length
    · have Hd := hid (drop_at l k hlt)
      go_wp2
      any_goals go_quiet (fail)
      any_goals go_wp2
      any_goals go_ret3
      all_goals (try simp only [beq_iff_eq, beq_eq_false_iff_ne] at *)
      all_goals first
        | (refine ⟨0, [], 3, rfl, ?_, by omega, by first | exact Drawn.refl _ | exact ⟨_, rfl⟩⟩
           rw [Hh.out, Hd.out]
           exact headFrom_bad (by omega) (by omega))
        | (refine ⟨m, List.take (l.length - (k + 1)) (List.drop (k + 1) l), 0, rfl, ?_, by omega, ⟨_, rfl⟩⟩
           rw [Hh.out, Hd.out, headFrom_done (by omega) (by omega), List.take_of_length_le (by rw [List.length_drop]; exact Nat.le_refl _)])
        | (refine ⟨⟨k + 1, 10 * m + (l[k].toNat - 48), by omega, by omega, ?_, by go_num, ?_, ?_⟩, by simp [intOf]; omega⟩
           · rw [Nat.pow_succ]; have := Hm.out; omega
           · exact congrArg _ (by omega)
           · rw [Hh.out, Hd.out]; exact headFrom_more (by omega) (by omega))
        | go_goals
    · go_wp2
      go_ret3
      refine ⟨0, [], 4, rfl, ?_, by omega, Drawn.refl _⟩
      rw [Hh.out, List.drop_eq_nil_of_le (by omega)]; rfl

set_option maxHeartbeats 400000 in
theorem digits_small (n : Nat) (w : World) (hn : n < 10) :
    Calls Tryz.prog 71 #[.int .i64 n] w fun e w' => e = .returned (.string (bs (dig n))) ∧ Below w.heap.size w w' := by
  go_enter Tryz.func71, Tryz.ntmps71
  have hcv := run_conv_one 68 9 5 5 Tryz.underlying68 Tryz.underlying5 Tryz.underlying9
  go_wp2
  go_ret
  exact ⟨by rw [dig_lt hn]; rfl, (Below.refl _ _).alloc (Nat.le_refl _) _⟩
set_option maxHeartbeats 400000 in
theorem digits_any (k : Nat) : ∀ (n : Int) (w : World), n ≤ k → 0 ≤ n → n ≤ 9223372036854775807 →
    Calls Tryz.prog 71 #[.int .i64 n] w fun e w' => e = .returned (.string (bs (dig n.toNat))) ∧ Below w.heap.size w w' := by
  induction k with
  | zero =>
    intro n w hk h0 hm
    obtain rfl : n = 0 := by omega
    exact digits_small 0 w (by omega)
  | succ k ih =>
    intro n w hk h0 hm
    by_cases hn : n < 10
    · obtain ⟨m, rfl⟩ := Int.eq_ofNat_of_zero_le h0
      exact digits_small m w (by omega)
    · have Ih := hid ih; clear ih
      go_enter Tryz.func71, Tryz.ntmps71
      go_wp2_with (go_at_call 71; refine (Ih.out _ _ (by omega) (by omega) (by omega)).mono ?_; rintro e w' ⟨rfl, hb⟩)
      · have h1 := dig_len (n / 10).toNat
        have h2 := dig_len (n % 10).toNat
        omega
      · go_ret
        refine ⟨?_, ?_⟩
        · rw [show n.toNat = n.toNat from rfl, dig_ge' (n := n.toNat) (by omega), show (n / 10).toNat = n.toNat / 10 by omega, show (n % 10).toNat = n.toNat % 10 by omega]; rfl
        · exact Below.chain (by assumption) (by assumption)

set_option maxHeartbeats 400000 in
theorem refRow_any (v0 : Value) (n0 : Nat) (ss : List (List UInt8)) (w : World) (h0 : SliceAt w 1 v0 n0 (strCells ss)) (hbig : (rowL ss).length ≤ 4611686018427387904) :
    Calls Tryz.prog 51 #[v0] w fun e w' => e = .returned (.string (bs (rowL ss))) ∧ Below w.heap.size w w' := by
  have h00 := h0
  obtain ⟨rfl, a0, c0, rfl, hc0, hm0, hx0⟩ := h0.str
  clear h0
  unfold maxLen at hm0
  go_enter Tryz.func51, Tryz.ntmps51
  go_wp2
  go_loopw [3, 8] (fun o i wr => ∃ k : Nat, k ≤ ss.length ∧ i = .int .i64 k ∧ o = .string (bs (rowL (ss.take k))) ∧ Below w.heap.size w wr) (fun _ i _ => ss.length - (intOf i).toNat)
  case atStart => exact ⟨0, by omega, rfl, rfl, Below.refl _ _⟩
  case round =>
    obtain ⟨k, hk, rfl, rfl, hbw⟩ := hrel
    obtain ⟨-, a1, c1, hv, -, -, hx1⟩ := (h00.below hbw (Nat.le_refl _)).str
    by_cases hlt : k < ss.length
    · obtain ⟨b0, o0, rfl, hb0, hcl0⟩ := hx1 k hlt
      have e0 := hcl0 k hlt
      obtain ⟨rfl, rfl⟩ : a0 = some ⟨b0, o0, none⟩ ∧ c0 = c1 := by simpa using hv
      clear hcl0 hx1 hx0 hv
      have hr1 : (rowL (ss.take (k + 1))).length ≤ (rowL ss).length := rowL_take_le _ _
      have Hr := hid (rowL_take_succ ss k hlt)
      have hr2 : (rowL (ss.take k)).length + ((dig ss[k].length).length + 1 + ss[k].length) ≤ (rowL ss).length := by rw [Hr.out] at hr1; simp at hr1; omega
      go_wp2_with (go_at_call 71; refine (digits_any ss[k].length _ _ (Int.le_refl _) (by omega) (by omega)).mono ?_; rintro e w' ⟨rfl, hb⟩)
      exact ⟨⟨k + 1, by omega, by go_num, by rw [Hr.out], hbw.trans (hb.mono hbw.size)⟩, by simp [intOf]; omega⟩
    · go_wp2
      go_ret
      exact ⟨by rw [List.take_of_length_le (by omega)]; rfl, hbw⟩

theorem pstr_info : (Tryz.prog.info? 9).map (fun i => (i.zero, i.size, i.bytes)) = some (some (.string ⟨#[]⟩), 1, 16) := by kernel_rfl

def TextsPost (l : List UInt8) (w : World) (e : Ending) (w' : World) : Prop :=
  ∃ v, e = .returned (.tuple #[v, .int .i64 (textsL l).2]) ∧ SliceAt w' 1 v (textsL l).1.length (strCells (textsL l).1) ∧ Below w.heap.size w w'

def strSize : Value → Nat | .string s => s.size | _ => 0


set_option maxHeartbeats 400000 in
theorem texts_any (l : List UInt8) (w : World) (hs : l.length ≤ 1000000000000) :
    Calls Tryz.prog 52 #[.string (bs l)] w (TextsPost l w) := by
  obtain ⟨i0, hi, hz0, hz1, hz2⟩ := info_parts pstr_info
  go_enter Tryz.func52, Tryz.ntmps52
  go_wp2
  go_loopw [0, 4] (fun s o wr => ∃ (out : List (List UInt8)) (rest : List UInt8), s = .string (bs rest) ∧ textsL l = fin out (textsL rest) ∧ out.length + rest.length ≤ l.length ∧ wr.ownsRow w.heap.size 9 1 o out.length (strCells out) ∧ Below w.heap.size w wr) (fun s _ _ => strSize s)
  case atStart => exact ⟨[], l, rfl, (fin_nil l).symm, by simp, World.ownsRow_nil _ _ _ _, Below.refl _ _⟩
  case round =>
    obtain ⟨out, rest, rfl, ht, hlen, hown, hbw⟩ := hrel
    have Ht := hid ht; clear ht
    have hsz := hbw.size
    by_cases hr : rest = []
    · subst hr
      go_wp2
      go_ret2
      have hx : textsL l = (out, 0) := by rw [Ht.out, textsL_nil]; simp [fin]
      refine ⟨_, by rw [hx]; rfl, ?_, hbw⟩
      rw [hx]; exact SliceAt.of_owns hown (by show out.length ≤ maxLen; unfold maxLen; omega)
    · have hr' : rest.isEmpty = false := by simpa using hr
      have hmax : rest.length ≤ maxLen := by unfold maxLen; omega
      obtain ⟨n, t, c, hh⟩ : ∃ n t c, headFrom 0 0 rest = (n, t, c) := ⟨_, _, _, rfl⟩
      have Hh := hid hh; clear hh
      by_cases hc : c = 0
      · subst hc
        have htl : t.length < rest.length := by have := headFrom_len rest 0 0 (by rw [Hh.out]); rw [Hh.out] at this; exact this
        by_cases hlt : t.length < n
        · go_wp2_with (go_at_call 72; refine (head_any _ _ hmax).mono ?_; rintro e w' ⟨n', t', c', rfl, hh', hn, d, rfl⟩; obtain ⟨rfl, rfl, rfl⟩ : n = n' ∧ t = t' ∧ 0 = c' := by (rw [Hh.out] at hh'; simpa using hh'))
          go_ret2
          refine ⟨_, by rw [Ht.out, textsL_short Hh.out hr hlt]; rfl, ?_, hbw.trans (Drawn.below ⟨_, rfl⟩)⟩
          rw [Ht.out, textsL_short Hh.out hr hlt]; exact SliceAt.nil _ _
        · have hnt : n ≤ t.length := by omega
          go_wp2_with first
            | (go_at_call 72; refine (head_any _ _ hmax).mono ?_; rintro e w' ⟨n', t', c', rfl, hh', hn, d, rfl⟩; obtain ⟨rfl, rfl, rfl⟩ : n = n' ∧ t = t' ∧ 0 = c' := by (rw [Hh.out] at hh'; simpa using hh'))
            | (at_builtin; go_must (refine wpList_append_own _ rfl _ _ 23 rfl w.heap.size 9 i0 (.string ⟨#[]⟩) 1 16 Tryz.underlying23 hi hz0 hz1 hz2 rfl (by decide) _ _ _ rfl ((ownsRow_drewN hown d).alloc _) ⟨wr.heap.size, 0, none⟩ 1 1 [.string (bs (t.take n))] rfl rfl ?c1 ?c2 ?c3 ?c4 ?c5 ?_))
          case c1 => exact new_cells _ #[_] _ _
          case c2 => intro u hu; simp at hu; subst hu; rfl
          case c3 => unfold maxLen; omega
          case c4 => omega
          case c5 => simp; omega
          intro v1 w1 hown1 hgrow1 _
          have hb1 : Below w.heap.size w w1 := ((hbw.trans (Drawn.below ⟨d, rfl⟩)).alloc (by simp; omega) _).grown hgrow1 (by simp; omega) (fun k hk => (hown.lt k hk).1)
          clear hgrow1
          go_wp2
          refine ⟨⟨out ++ [t.take n], List.drop n t, ?_, ?_, ?_, ?_, hb1⟩, ?_⟩
          · exact congrArg (fun x => Value.string (bs x)) (List.take_of_length_le (by simp))
          · rw [Ht.out, textsL_more Hh.out hr hlt, fin_fin]
          · simp; omega
          · rw [strCells_append, List.length_append]; exact hown1
          · simp [strSize, bs_size]; omega
      · have hc' : ((c : Int) != 0) = true := by simp; omega
        go_wp2_with (go_at_call 72; refine (head_any _ _ hmax).mono ?_; rintro e w' ⟨n', t', c', rfl, hh', hn, d, rfl⟩; obtain ⟨rfl, rfl, rfl⟩ : n = n' ∧ t = t' ∧ c = c' := by (rw [Hh.out] at hh'; simpa using hh'))
        go_ret2
        have hx : textsL l = ([], c) := by rw [Ht.out, textsL_err Hh.out hr hc]; simp [fin, hc]
        refine ⟨_, by rw [hx]; rfl, ?_, hbw.trans (Drawn.below ⟨_, rfl⟩)⟩
        rw [hx]; exact SliceAt.nil _ _

set_option maxHeartbeats 400000 in
theorem digit_any (c : UInt8) (w : World) : Calls Tryz.prog 74 #[.int .u8 c.toNat] w fun e w' => e = .returned (.bool (isDig c)) ∧ w = w' := by
  go_enter Tryz.func74, Tryz.ntmps74
  go_wp2
  · go_ret
    exact ⟨by rw [show isDig c = decide ((c.toNat : Int) ≤ 57) from by rw [Bool.eq_iff_iff]; simp [isDig]; omega]; rfl, rfl⟩
  · go_ret
    exact ⟨by rw [show isDig c = false from by simp [isDig]; omega]; rfl, rfl⟩

theorem digit_is (c : UInt8) (b : Bool) (h : isDig c = b) (w : World) : Calls Tryz.prog 74 #[.int .u8 c.toNat] w fun e w' => e = .returned (.bool b) ∧ w = w' := by
  subst h; exact digit_any c w

theorem isDig_iff (c : UInt8) : isDig c = true ↔ ¬ (c.toNat < 48 ∨ 57 < c.toNat) := by simp [isDig]
theorem isDig_false (c : UInt8) : isDig c = false ↔ (c.toNat < 48 ∨ 57 < c.toNat) := by rw [← Bool.not_eq_true, isDig_iff]; omega
end Go.Proofs.YtnfjlimecoikpaaGreatDoor
