/- Several texts of one claim, laid as one. -/
import Derived.Test.YtnfjlimecoikpaaGreatDoorMPlain
import Derived.Test.YtnfjlimecoikpaaGreatDoorBuilder
import Derived.Shelf.Strconv.ErrVarParseInt
import Derived.Lib.ItoaLen
/- The walks of package pack and of its reference: rows of texts. -/
namespace Go.Proofs.YtnfjlimecoikpaaGreatDoor
open Go.RowKit

def HeadPost (l : List UInt8) (w : World) (e : Ending) (w' : World) : Prop :=
  ∃ (n : Nat) (t : List UInt8) (c : Nat), e = .returned (.tuple #[.int .i64 n, .string (bs t), .int .i64 c]) ∧ headFrom 0 0 l = (n, t, c) ∧ n < 1000000000 ∧ Drawn w w'

set_option maxHeartbeats 400000 in
theorem head_any (l : List UInt8) (w : World) (hs : l.length ≤ maxLen) :
    Calls Tryz.prog 72 #[.string (bs l)] w (HeadPost l w) := by
  unfold maxLen at hs
  go_enter Tryz.func72, Tryz.ntmps72
  go_wp2
  go_loop [5, 10] (fun n i => ∃ (k m : Nat), k ≤ l.length ∧ k ≤ 9 ∧ m < 10 ^ k ∧ i = .int .i64 k ∧ n = .int .i64 m ∧ headFrom 0 0 l = headFrom k m (l.drop k)) (fun _ i => l.length - (intOf i).toNat)
  case atStart => exact ⟨0, 0, by omega, by omega, by omega, rfl, rfl, rfl⟩
  case round =>
    obtain ⟨k, m, hk, hk9, hm, rfl, rfl, hh⟩ := hrel
    have Hh := hid hh; clear hh
    have hm' : m < 1000000000 := Nat.lt_of_lt_of_le hm (by have := Nat.pow_le_pow_right (n := 10) (by omega) hk9; omega)
    have Hm := hid hm; clear hm
    by_cases hlt : k < l.length
    · have Hd := hid (drop_at l k hlt)
      go_wp2
      any_goals go_quiet (fail)
      any_goals go_wp2
      any_goals go_ret3
      all_goals (try simp only [beq_iff_eq, beq_eq_false_iff_ne] at *)
      all_goals first
        | (refine ⟨0, [], 3, rfl, ?_, by omega, by first | exact Drawn.refl _ | exact ⟨_, rfl⟩⟩
           rw [Hh.out, Hd.out]
           exact headFrom_bad (by omega) (by omega))
        | (refine ⟨m, List.take (l.length - (k + 1)) (List.drop (k + 1) l), 0, rfl, ?_, by omega, ⟨_, rfl⟩⟩
           rw [Hh.out, Hd.out, headFrom_done (by omega) (by omega), List.take_of_length_le (by rw [List.length_drop]; exact Nat.le_refl _)])
        | (refine ⟨⟨k + 1, 10 * m + (l[k].toNat - 48), by omega, by omega, ?_, by go_num, ?_, ?_⟩, by simp [intOf]; omega⟩
           · rw [Nat.pow_succ]; have := Hm.out; omega
           · exact congrArg _ (by omega)
           · rw [Hh.out, Hd.out]; exact headFrom_more (by omega) (by omega))
        | go_goals
    · go_wp2
      go_ret3
      refine ⟨0, [], 4, rfl, ?_, by omega, Drawn.refl _⟩
      rw [Hh.out, List.drop_eq_nil_of_le (by omega)]; rfl

set_option maxHeartbeats 400000 in
theorem digits_small (n : Nat) (w : World) (hn : n < 10) :
    Calls Tryz.prog 71 #[.int .i64 n] w fun e w' => e = .returned (.string (bs (dig n))) ∧ Below w.heap.size w w' := by
  go_enter Tryz.func71, Tryz.ntmps71
  have hcv := run_conv_one 68 9 5 5 Tryz.underlying68 Tryz.underlying5 Tryz.underlying9
  go_wp2
  go_ret
  exact ⟨by rw [dig_lt hn]; rfl, (Below.refl _ _).alloc (Nat.le_refl _) _⟩
set_option maxHeartbeats 400000 in
theorem digits_any (k : Nat) : ∀ (n : Int) (w : World), n ≤ k → 0 ≤ n → n ≤ 9223372036854775807 →
    Calls Tryz.prog 71 #[.int .i64 n] w fun e w' => e = .returned (.string (bs (dig n.toNat))) ∧ Below w.heap.size w w' := by
  induction k with
  | zero =>
    intro n w hk h0 hm
    obtain rfl : n = 0 := by omega
    exact digits_small 0 w (by omega)
  | succ k ih =>
    intro n w hk h0 hm
    by_cases hn : n < 10
    · obtain ⟨m, rfl⟩ := Int.eq_ofNat_of_zero_le h0
      exact digits_small m w (by omega)
    · have Ih := hid ih; clear ih
      go_enter Tryz.func71, Tryz.ntmps71
      go_wp2_with (go_at_call 71; refine (Ih.out _ _ (by omega) (by omega) (by omega)).mono ?_; rintro e w' ⟨rfl, hb⟩)
      · have h1 := dig_len (n / 10).toNat
        have h2 := dig_len (n % 10).toNat
        omega
      · go_ret
        refine ⟨?_, ?_⟩
        · rw [show n.toNat = n.toNat from rfl, dig_ge' (n := n.toNat) (by omega), show (n / 10).toNat = n.toNat / 10 by omega, show (n % 10).toNat = n.toNat % 10 by omega]; rfl
        · exact Below.chain (by assumption) (by assumption)

set_option maxHeartbeats 400000 in
theorem refRow_any (v0 : Value) (n0 : Nat) (ss : List (List UInt8)) (w : World) (h0 : SliceAt w 1 v0 n0 (strCells ss)) (hbig : (rowL ss).length ≤ 4611686018427387904) :
    Calls Tryz.prog 51 #[v0] w fun e w' => e = .returned (.string (bs (rowL ss))) ∧ Below w.heap.size w w' := by
  have h00 := h0
  obtain ⟨rfl, a0, c0, rfl, hc0, hm0, hx0⟩ := h0.str
  clear h0
  unfold maxLen at hm0
  go_enter Tryz.func51, Tryz.ntmps51
  go_wp2
  go_loopw [3, 8] (fun o i wr => ∃ k : Nat, k ≤ ss.length ∧ i = .int .i64 k ∧ o = .string (bs (rowL (ss.take k))) ∧ Below w.heap.size w wr) (fun _ i _ => ss.length - (intOf i).toNat)
  case atStart => exact ⟨0, by omega, rfl, rfl, Below.refl _ _⟩
  case round =>
    obtain ⟨k, hk, rfl, rfl, hbw⟩ := hrel
    obtain ⟨-, a1, c1, hv, -, -, hx1⟩ := (h00.below hbw (Nat.le_refl _)).str
    by_cases hlt : k < ss.length
    · obtain ⟨b0, o0, rfl, hb0, hcl0⟩ := hx1 k hlt
      have e0 := hcl0 k hlt
      obtain ⟨rfl, rfl⟩ : a0 = some ⟨b0, o0, none⟩ ∧ c0 = c1 := by simpa using hv
      clear hcl0 hx1 hx0 hv
      have hr1 : (rowL (ss.take (k + 1))).length ≤ (rowL ss).length := rowL_take_le _ _
      have Hr := hid (rowL_take_succ ss k hlt)
      have hr2 : (rowL (ss.take k)).length + ((dig ss[k].length).length + 1 + ss[k].length) ≤ (rowL ss).length := by rw [Hr.out] at hr1; simp at hr1; omega
      go_wp2_with (go_at_call 71; refine (digits_any ss[k].length _ _ (Int.le_refl _) (by omega) (by omega)).mono ?_; rintro e w' ⟨rfl, hb⟩)
      exact ⟨⟨k + 1, by omega, by go_num, by rw [Hr.out], hbw.trans (hb.mono hbw.size)⟩, by simp [intOf]; omega⟩
    · go_wp2
      go_ret
      exact ⟨by rw [List.take_of_length_le (by omega)]; rfl, hbw⟩

theorem pstr_info : (Tryz.prog.info? 9).map (fun i => (i.zero, i.size, i.bytes)) = some (some (.string ⟨#[]⟩), 1, 16) := by kernel_rfl

def TextsPost (l : List UInt8) (w : World) (e : Ending) (w' : World) : Prop :=
  ∃ v, e = .returned (.tuple #[v, .int .i64 (textsL l).2]) ∧ SliceAt w' 1 v (textsL l).1.length (strCells (textsL l).1) ∧ Below w.heap.size w w'

def strSize : Value → Nat | .string s => s.size | _ => 0


set_option maxHeartbeats 400000 in
theorem texts_any (l : List UInt8) (w : World) (hs : l.length ≤ 1000000000000) :
    Calls Tryz.prog 52 #[.string (bs l)] w (TextsPost l w) := by
  obtain ⟨i0, hi, hz0, hz1, hz2⟩ := info_parts pstr_info
  go_enter Tryz.func52, Tryz.ntmps52
  go_wp2
  go_loopw [0, 4] (fun s o wr => ∃ (out : List (List UInt8)) (rest : List UInt8), s = .string (bs rest) ∧ textsL l = fin out (textsL rest) ∧ out.length + rest.length ≤ l.length ∧ wr.ownsRow w.heap.size 9 1 o out.length (strCells out) ∧ Below w.heap.size w wr) (fun s _ _ => strSize s)
  case atStart => exact ⟨[], l, rfl, (fin_nil l).symm, by simp, World.ownsRow_nil _ _ _ _, Below.refl _ _⟩
  case round =>
    obtain ⟨out, rest, rfl, ht, hlen, hown, hbw⟩ := hrel
    have Ht := hid ht; clear ht
    have hsz := hbw.size
    by_cases hr : rest = []
    · subst hr
      go_wp2
      go_ret2
      have hx : textsL l = (out, 0) := by rw [Ht.out, textsL_nil]; simp [fin]
      refine ⟨_, by rw [hx]; rfl, ?_, hbw⟩
      rw [hx]; exact SliceAt.of_owns hown (by show out.length ≤ maxLen; unfold maxLen; omega)
    · have hr' : rest.isEmpty = false := by simpa using hr
      have hmax : rest.length ≤ maxLen := by unfold maxLen; omega
      obtain ⟨n, t, c, hh⟩ : ∃ n t c, headFrom 0 0 rest = (n, t, c) := ⟨_, _, _, rfl⟩
      have Hh := hid hh; clear hh
      by_cases hc : c = 0
      · subst hc
        have htl : t.length < rest.length := by have := headFrom_len rest 0 0 (by rw [Hh.out]); rw [Hh.out] at this; exact this
        by_cases hlt : t.length < n
        · go_wp2_with (go_at_call 72; refine (head_any _ _ hmax).mono ?_; rintro e w' ⟨n', t', c', rfl, hh', hn, d, rfl⟩; obtain ⟨rfl, rfl, rfl⟩ : n = n' ∧ t = t' ∧ 0 = c' := by (rw [Hh.out] at hh'; simpa using hh'))
          go_ret2
          refine ⟨_, by rw [Ht.out, textsL_short Hh.out hr hlt]; rfl, ?_, hbw.trans (Drawn.below ⟨_, rfl⟩)⟩
          rw [Ht.out, textsL_short Hh.out hr hlt]; exact SliceAt.nil _ _
        · have hnt : n ≤ t.length := by omega
          go_wp2_with first
            | (go_at_call 72; refine (head_any _ _ hmax).mono ?_; rintro e w' ⟨n', t', c', rfl, hh', hn, d, rfl⟩; obtain ⟨rfl, rfl, rfl⟩ : n = n' ∧ t = t' ∧ 0 = c' := by (rw [Hh.out] at hh'; simpa using hh'))
            | (at_builtin; go_must (refine wpList_append_own _ rfl _ _ 23 rfl w.heap.size 9 i0 (.string ⟨#[]⟩) 1 16 Tryz.underlying23 hi hz0 hz1 hz2 rfl (by decide) _ _ _ rfl ((ownsRow_drewN hown d).alloc _) ⟨wr.heap.size, 0, none⟩ 1 1 [.string (bs (t.take n))] rfl rfl ?c1 ?c2 ?c3 ?c4 ?c5 ?_))
          case c1 => exact new_cells _ #[_] _ _
          case c2 => intro u hu; simp at hu; subst hu; rfl
          case c3 => unfold maxLen; omega
          case c4 => omega
          case c5 => simp; omega
          intro v1 w1 hown1 hgrow1 _
          have hb1 : Below w.heap.size w w1 := ((hbw.trans (Drawn.below ⟨d, rfl⟩)).alloc (by simp; omega) _).grown hgrow1 (by simp; omega) (fun k hk => (hown.lt k hk).1)
          clear hgrow1
          go_wp2
          refine ⟨⟨out ++ [t.take n], List.drop n t, ?_, ?_, ?_, ?_, hb1⟩, ?_⟩
          · exact congrArg (fun x => Value.string (bs x)) (List.take_of_length_le (by simp))
          · rw [Ht.out, textsL_more Hh.out hr hlt, fin_fin]
          · simp; omega
          · rw [strCells_append, List.length_append]; exact hown1
          · simp [strSize, bs_size]; omega
      · have hc' : ((c : Int) != 0) = true := by simp; omega
        go_wp2_with (go_at_call 72; refine (head_any _ _ hmax).mono ?_; rintro e w' ⟨n', t', c', rfl, hh', hn, d, rfl⟩; obtain ⟨rfl, rfl, rfl⟩ : n = n' ∧ t = t' ∧ c = c' := by (rw [Hh.out] at hh'; simpa using hh'))
        go_ret2
        have hx : textsL l = ([], c) := by rw [Ht.out, textsL_err Hh.out hr hc]; simp [fin, hc]
        refine ⟨_, by rw [hx]; rfl, ?_, hbw.trans (Drawn.below ⟨_, rfl⟩)⟩
        rw [hx]; exact SliceAt.nil _ _

set_option maxHeartbeats 400000 in
theorem digit_any (c : UInt8) (w : World) : Calls Tryz.prog 74 #[.int .u8 c.toNat] w fun e w' => e = .returned (.bool (isDig c)) ∧ w = w' := by
  go_enter Tryz.func74, Tryz.ntmps74
  go_wp2
  · go_ret
    exact ⟨by rw [show isDig c = decide ((c.toNat : Int) ≤ 57) from by rw [Bool.eq_iff_iff]; simp [isDig]; omega]; rfl, rfl⟩
  · go_ret
    exact ⟨by rw [show isDig c = false from by simp [isDig]; omega]; rfl, rfl⟩

theorem digit_is (c : UInt8) (b : Bool) (h : isDig c = b) (w : World) : Calls Tryz.prog 74 #[.int .u8 c.toNat] w fun e w' => e = .returned (.bool b) ∧ w = w' := by
  subst h; exact digit_any c w

theorem isDig_iff (c : UInt8) : isDig c = true ↔ ¬ (c.toNat < 48 ∨ 57 < c.toNat) := by simp [isDig]
theorem isDig_false (c : UInt8) : isDig c = false ↔ (c.toNat < 48 ∨ 57 < c.toNat) := by rw [← Bool.not_eq_true, isDig_iff]; omega
end Go.Proofs.YtnfjlimecoikpaaGreatDoor
/- The walk of pack.Row. -/
namespace Go.Proofs.YtnfjlimecoikpaaGreatDoor
open Go.RowKit

theorem itoa_any (n : Nat) (w : World) (hn : n ≤ 9223372036854775807) (ht : PowTab w) :
    Calls Tryz.prog 65 #[.int .i64 n] w fun e w' => e = .returned (.string (bs (dig n))) ∧ Below w.heap.size w w' := by
  refine (Tryz.strconv_Itoa n (by omega) (by omega) w ht).mono ?_
  rintro e w' ⟨rfl, k, os, rfl⟩
  exact ⟨by rw [itoa_nat]; rfl, grow_below w k os⟩

set_option maxHeartbeats 400000 in
theorem row_any (v0 : Value) (n0 : Nat) (ss : List (List UInt8)) (w : World) (h0 : SliceAt w 1 v0 n0 (strCells ss)) (ht : PowTab w) (hbig : (rowL ss).length ≤ 1000000000000) :
    Calls Tryz.prog 45 #[v0] w fun e w' => e = .returned (.string (bs (rowL ss))) ∧ Below w.heap.size w w' := by
  have h00 := h0
  obtain ⟨rfl, a0, c0, rfl, hc0, hm0, hx0⟩ := h0.str
  clear h0 hx0
  unfold maxLen at hm0
  go_enter Tryz.func45, Tryz.ntmps45
  go_wp2
  go_loopw [8] (fun i wr => ∃ k : Nat, k ≤ ss.length ∧ i = .int .i64 k ∧ Lib.IsBuilderF 70 5 w.heap.size w.heap.size (Lib.byteCells (rowL (ss.take k))) wr ∧ Below w.heap.size w wr) (fun i _ => ss.length - (intOf i).toNat)
  case atStart => exact ⟨0, by omega, rfl, isBuilder_fresh w _ (Nat.le_refl _), (Below.refl _ _).alloc (Nat.le_refl _) _⟩
  case round =>
    obtain ⟨k, hk, rfl, hbd, hbw⟩ := hrel
    obtain ⟨-, a1, c1, hv, -, -, hx1⟩ := (h00.below hbw (Nat.le_refl _)).str
    have hsz := hbw.size
    by_cases hlt : k < ss.length
    · obtain ⟨b0, o0, rfl, hb0, hcl0⟩ := hx1 k hlt
      have e0 := hcl0 k hlt
      obtain ⟨rfl, rfl⟩ : a0 = some ⟨b0, o0, none⟩ ∧ c0 = c1 := by simpa using hv
      clear hcl0 hx1 hv
      have hr1 : (rowL (ss.take (k + 1))).length ≤ (rowL ss).length := rowL_take_le _ _
      have Hr := hid (rowL_take_succ ss k hlt)
      have hr2 : (rowL (ss.take k)).length + ((dig ss[k].length).length + 1 + ss[k].length) ≤ (rowL ss).length := by rw [Hr.out] at hr1; simp at hr1; omega
      go_wp2_with (go_at_call 65; refine (itoa_any _ _ (by omega) (ht.below hbw)).mono ?_; rintro e w1 ⟨rfl, hb1⟩)
      have s1 := hb1.size
      refine (writeString_l _ _ _ _ _ (isBuilder_below hbd hb1) (by omega) (by omega)).mono ?_
      rintro e w2 ⟨rfl, hd2, hb2, -⟩
      have s2 := hb2.size
      go_wp2_with fail
      refine (writeByte_l _ _ _ 58 _ hd2 (by simp; omega) (by omega)).mono ?_
      rintro e w3 ⟨rfl, hd3, hb3, -⟩
      have s3 := hb3.size
      go_wp2_with fail
      refine (writeString_l _ _ _ _ _ hd3 (by simp; omega) (by omega)).mono ?_
      rintro e w4 ⟨rfl, hd4, hb4, -⟩
      go_wp2
      refine ⟨⟨k + 1, by omega, by go_num, ?_, ((hbw.trans (hb1.mono hsz)).trans hb2).trans (hb3.trans hb4)⟩, by simp [intOf]; omega⟩
      rw [Hr.out]; simpa using hd4
    · go_wp2_with fail
      refine (string_l _ _ _ _ hbd hsz).mono ?_
      rintro e w1 ⟨rfl, -, hb1⟩
      go_wp2
      go_ret
      exact ⟨by rw [List.take_of_length_le (by omega)]; rfl, hbw.trans hb1⟩
end Go.Proofs.YtnfjlimecoikpaaGreatDoor
/- The walks of numbers: a number's text, the number of a text; the program's, and the document's. -/
namespace Go.Proofs.YtnfjlimecoikpaaGreatDoor
set_option maxRecDepth 100000
open Go.RowKit

theorem num_any (n : Int) (h0 : -9223372036854775808 ≤ n) (h1 : n ≤ 9223372036854775807) (w : World) (ht : PowTab w) :
    Calls Tryz.prog 38 #[.int .i64 n] w fun e w' => e = .returned (.string (bs (Lib.itoa n))) ∧ Below w.heap.size w w' := by
  have Hc : Calls Tryz.prog 58 #[.int .i64 n, .int .i64 10] w fun e w' => e = .returned (.string (bs (Lib.itoa n))) ∧ Below w.heap.size w w' := by
    refine (Tryz.strconv_FormatInt_10 n h0 h1 w ht).mono ?_
    rintro e w' ⟨rfl, k, os, rfl⟩
    exact ⟨rfl, grow_below w k os⟩
  go_enter Tryz.func38, Tryz.ntmps38
  go_wp2_with fail
  refine Hc.mono ?_
  rintro e w1 ⟨rfl, hb1⟩
  go_wp2_with fail
  go_ret
  exact ⟨rfl, hb1⟩

/-- The two errors of strconv, as they lie. -/
def ErrsAt (w : World) : Prop := (∃ t p, w.var? Tryz.prog "strconv.ErrSyntax" = some #[.iface t p]) ∧ ∃ t p, w.var? Tryz.prog "strconv.ErrRange" = some #[.iface t p]
theorem ErrsAt.below {w w' : World} (h : ErrsAt w) (hb : Below w.heap.size w w') : ErrsAt w' := by
  obtain ⟨⟨t, p, h1⟩, t2, p2, h2⟩ := h
  exact ⟨⟨t, p, var?_kept h1 hb⟩, t2, p2, var?_kept h2 hb⟩
def BadNum (w : World) (e : Ending) (w' : World) : Prop := ∃ n t p, e = .returned (.tuple #[.int .i64 n, .iface t p]) ∧ Below w.heap.size w w'
theorem parse_bad (l : List UInt8) (hl : l.length ≤ 281474976710656) (w : World) (he : ErrsAt w) (h : ∀ v, Lib.parseIntB 64 l ≠ .ok v) :
    Calls Tryz.prog 73 #[.string (bs l), .int .i64 10, .int .i64 64] w (BadNum w) := by
  obtain ⟨⟨t, p, h1⟩, t2, p2, h2⟩ := he
  cases e : Lib.parseIntB 64 l with
  | ok v => exact absurd e (h v)
  | range =>
    refine (Any.strconv_ParseInt_10_at64_range_var Tryz.laysC174 (bs l) hl e t2 p2 w h2).mono ?_
    rintro e w' ⟨N, rfl, -, -, hb⟩
    exact ⟨_, _, _, rfl, hb⟩
  | _ =>
    refine (Any.strconv_ParseInt_10_at64_syntax_var Tryz.laysC174 (bs l) hl e t p w h1).mono ?_
    rintro e w' ⟨N, rfl, -, -, hb⟩
    exact ⟨_, _, _, rfl, hb⟩

set_option maxHeartbeats 400000 in
theorem int_any (l : List UInt8) (hl : l.length ≤ 281474976710656) (v : Int) (b : Bool) (h : intL l = (v, b)) (w : World) (ht : PowTab w) (he : ErrsAt w) :
    Calls Tryz.prog 53 #[.string (bs l)] w fun e w' => e = .returned (.tuple #[.int .i64 v, .bool b]) ∧ Below w.heap.size w w' := by
  by_cases hv : ∃ v0, Lib.parseIntB 64 l = .ok v0
  · obtain ⟨v0, hv⟩ := hv
    have hb := parse_bounds hv
    have Hc : Calls Tryz.prog 73 #[.string (bs l), .int .i64 10, .int .i64 64] w fun e w' => e = .returned (.tuple #[.int .i64 v0, .nilIface]) ∧ Below w.heap.size w w' := by
      refine (Tryz.strconv_ParseInt_10_at64_ok (bs l) (by rw [bs_size]; omega) v0 hv w).mono ?_
      rintro e w' ⟨rfl, rfl | ⟨t, rfl⟩⟩
      · exact ⟨rfl, Below.refl _ _⟩
      · exact ⟨rfl, Lib.bytesWorld_below _ _ _⟩
    have HC := hid Hc
    have Hn := hid (fun W hW => num_any v0 hb.1 hb.2 W (ht.below hW))
    have hl2 : (Lib.itoa v0).length ≤ 100 := by
      have := Lib.itoa_length_le v0 hb.1 hb.2; omega
    unfold intL at h
    rw [hv] at h
    simp only at h
    clear Hc hv
    cases q : (Lib.itoa v0 == l) with
    | true =>
      have hq : Lib.itoa v0 = l := by simpa using q
      rw [if_pos hq] at h
      obtain ⟨rfl, rfl⟩ := Prod.mk.inj h
      clear h hq
      go_enter Tryz.func53, Tryz.ntmps53
      go_wp2_with fail
      refine HC.out.mono ?_
      rintro e w1 ⟨rfl, hb1⟩
      go_wp2_with fail
      refine (Hn.out _ hb1).mono ?_
      rintro e w2 ⟨rfl, hb2⟩
      go_wp2_with fail
      go_ret2
      exact ⟨rfl, Below.chain hb1 hb2⟩
    | false =>
      have hq : ¬ Lib.itoa v0 = l := by simpa using q
      rw [if_neg hq] at h
      obtain ⟨rfl, rfl⟩ := Prod.mk.inj h
      clear h hq
      go_enter Tryz.func53, Tryz.ntmps53
      go_wp2_with fail
      refine HC.out.mono ?_
      rintro e w1 ⟨rfl, hb1⟩
      go_wp2_with fail
      refine (Hn.out _ hb1).mono ?_
      rintro e w2 ⟨rfl, hb2⟩
      go_wp2_with fail
      go_ret2
      exact ⟨rfl, Below.chain hb1 hb2⟩
  · have hn : ∀ v, Lib.parseIntB 64 l ≠ .ok v := fun v e => hv ⟨v, e⟩
    have HC := hid (parse_bad l hl w he hn)
    have e0 : intL l = (0, false) := by
      unfold intL
      cases e : Lib.parseIntB 64 l with
      | ok v => exact absurd e (hn v)
      | _ => rfl
    rw [e0] at h
    obtain ⟨rfl, rfl⟩ := Prod.mk.inj h
    clear h hv hn e0
    go_enter Tryz.func53, Tryz.ntmps53
    go_wp2_with fail
    refine HC.out.mono ?_
    rintro e w1 ⟨n, t, p, rfl, hb1⟩
    go_wp2_with fail
    go_ret2
    exact ⟨rfl, hb1⟩

set_option maxHeartbeats 400000 in
theorem refNum_small (n : Nat) (w : World) (hn : n < 10) :
    Calls Tryz.prog 42 #[.int .i64 n] w fun e w' => e = .returned (.string (bs (Lib.itoa n))) ∧ Below w.heap.size w w' := by
  have hcv := run_conv_one 68 9 5 5 Tryz.underlying68 Tryz.underlying5 Tryz.underlying9
  have he := hid (itoa_nat n)
  go_enter Tryz.func42, Tryz.ntmps42
  go_wp2_with fail
  go_ret
  exact ⟨by rw [he.out, dig_lt hn]; rfl, (Below.refl _ _).alloc (Nat.le_refl _) _⟩
set_option maxHeartbeats 1000000 in
theorem refNum_any (k : Nat) : ∀ (n : Int) (w : World), n.natAbs ≤ k → -9223372036854775808 ≤ n → n ≤ 9223372036854775807 →
    Calls Tryz.prog 42 #[.int .i64 n] w fun e w' => e = .returned (.string (bs (Lib.itoa n))) ∧ Below w.heap.size w w' := by
  induction k with
  | zero =>
    intro n w hk h0 hm
    obtain rfl : n = 0 := by omega
    exact refNum_small 0 w (by omega)
  | succ k ih =>
    intro n w hk h0 hm
    rcases Int.lt_or_le n 0 with hneg | hpos
    · obtain ⟨u, hu, rfl⟩ : ∃ u : Nat, 1 ≤ u ∧ n = -(u : Int) := ⟨n.natAbs, by omega, by omega⟩
      by_cases h10 : u < 10
      · have H := hid (fun W => refNum_small u W h10)
        have he := hid (itoa_neg' u hu)
        rw [itoa_nat u] at H
        have hl1 := dig_len20 (n := u) (by omega)
        clear ih
        have t1 : ¬ (0 : Int) ≤ -(u : Int) := by omega
        have t2 : -10 < -(u : Int) := by omega
        go_enter Tryz.func42, Tryz.ntmps42
        go_wp2_with fail
        refine (H.out _).mono ?_
        rintro e w1 ⟨rfl, hb1⟩
        go_wp2_with fail
        go_ret
        exact ⟨by rw [he.out]; rfl, hb1⟩
      · have Ih := hid ih; clear ih
        have t1 : ¬ (0 : Int) ≤ -(u : Int) := by omega
        have t2 : ¬ -10 < -(u : Int) := by omega
        have H1 := hid (fun W => Ih.out (-((u : Int) / 10)) W (by omega) (by omega) (by omega))
        have e1 := hid (itoa_neg' u hu)
        have e2 : Lib.itoa (-((u : Int) / 10)) = 45 :: dig (u / 10) := itoa_neg' (u / 10) (by omega)
        have e4 := hid (dig_ge' h10)
        have hl1 := dig_len20 (n := u / 10) (by omega)
        have hl2 := dig_len20 (n := u % 10) (by omega)
        rw [e2] at H1
        clear e2
        by_cases hz : u % 10 = 0
        · have t3 : ¬ (0 : Int) < (u : Int) % 10 := by omega
          have H2 := hid (fun W => Ih.out (-((u : Int) % 10)) W (by omega) (by omega) (by omega))
          have e3 : Lib.itoa (-((u : Int) % 10)) = dig (u % 10) := by
            have : -((u : Int) % 10) = ((u % 10 : Nat) : Int) := by omega
            rw [this, itoa_nat]
          rw [e3] at H2
          clear e3 hz Ih
          go_enter Tryz.func42, Tryz.ntmps42
          go_wp2_with fail
          refine (H1.out _).mono ?_
          rintro e w1 ⟨rfl, hb1⟩
          go_wp2_with fail
          refine (H2.out _).mono ?_
          rintro e w2 ⟨rfl, hb2⟩
          go_wp2_with fail
          go_ret
          exact ⟨by rw [e1.out, e4.out]; rfl, Below.chain hb1 hb2⟩
        · have t3 : (0 : Int) < (u : Int) % 10 := by omega
          have H2 := hid (fun W => Ih.out ((u : Int) % 10) W (by omega) (by omega) (by omega))
          have e3 : Lib.itoa ((u : Int) % 10) = dig (u % 10) := by
            have : (u : Int) % 10 = ((u % 10 : Nat) : Int) := by omega
            rw [this, itoa_nat]
          rw [e3] at H2
          clear e3 hz Ih
          go_enter Tryz.func42, Tryz.ntmps42
          go_wp2_with fail
          refine (H1.out _).mono ?_
          rintro e w1 ⟨rfl, hb1⟩
          go_wp2_with fail
          refine (H2.out _).mono ?_
          rintro e w2 ⟨rfl, hb2⟩
          go_wp2_with fail
          go_ret
          exact ⟨by rw [e1.out, e4.out]; rfl, Below.chain hb1 hb2⟩
    · obtain ⟨u, rfl⟩ := Int.eq_ofNat_of_zero_le hpos
      by_cases h10 : u < 10
      · exact refNum_small u w h10
      · have Ih := hid ih; clear ih
        have t1 : ¬ (u : Int) < 10 := by omega
        have H1 := hid (fun W => Ih.out ((u : Int) / 10) W (by omega) (by omega) (by omega))
        have H2 := hid (fun W => Ih.out ((u : Int) % 10) W (by omega) (by omega) (by omega))
        have e1 := hid (itoa_nat u)
        have e2 : Lib.itoa ((u : Int) / 10) = dig (u / 10) := itoa_nat (u / 10)
        have e3 : Lib.itoa ((u : Int) % 10) = dig (u % 10) := itoa_nat (u % 10)
        have e4 := hid (dig_ge' h10)
        have hl1 := dig_len20 (n := u / 10) (by omega)
        have hl2 := dig_len20 (n := u % 10) (by omega)
        rw [e2] at H1
        rw [e3] at H2
        clear e2 e3 Ih
        go_enter Tryz.func42, Tryz.ntmps42
        go_wp2_with fail
        refine (H1.out _).mono ?_
        rintro e w1 ⟨rfl, hb1⟩
        go_wp2_with fail
        refine (H2.out _).mono ?_
        rintro e w2 ⟨rfl, hb2⟩
        go_wp2_with fail
        go_ret
        exact ⟨by rw [e1.out, e4.out]; rfl, Below.chain hb1 hb2⟩
end Go.Proofs.YtnfjlimecoikpaaGreatDoor
/- The walk of the document's number of a text. -/
namespace Go.Proofs.YtnfjlimecoikpaaGreatDoor
set_option maxRecDepth 100000
open Go.RowKit

def stepR (m : Bool) (a : Int) (c : UInt8) : Int := if m = true then wrap64 (wrap64 (a * 10) - ((c.toNat : Int) - 48)) else wrap64 (wrap64 (a * 10) + ((c.toNat : Int) - 48))
def loopR (m : Bool) : Int → List UInt8 → Option Int
  | a, [] => some a
  | a, c :: r => if isDig c = true then loopR m (stepR m a c) r else none
def refIntR (m : Bool) (rest s : List UInt8) : Int × Bool :=
  if rest = [] ∨ 19 < rest.length then (0, false)
  else match loopR m 0 rest with
    | none => (0, false)
    | some n => if Lib.itoa n = s then (n, true) else (0, false)
theorem isDig_is {c : UInt8} (h : isDig c = true) : 48 ≤ c.toNat ∧ c.toNat ≤ 57 := by simpa [isDig] using h
theorem wrap64_in (a : Int) : -9223372036854775808 ≤ wrap64 a ∧ wrap64 a ≤ 9223372036854775807 := by unfold wrap64; omega
theorem stepR_in (m : Bool) (a : Int) (c : UInt8) : -9223372036854775808 ≤ stepR m a c ∧ stepR m a c ≤ 9223372036854775807 := by
  unfold stepR; split <;> exact wrap64_in _

set_option maxHeartbeats 1000000 in
theorem refInt_minus (r : List UInt8) (w : World) (v : Int) (b : Bool) (hv : refIntR true r (45 :: r) = (v, b)) :
    Calls Tryz.prog 55 #[.string (bs (45 :: r))] w fun e w' => e = .returned (.tuple #[.int .i64 v, .bool b]) ∧ Below w.heap.size w w' := by
  by_cases h0 : r = []
  · have e0 : (v, b) = (0, false) := by rw [← hv, refIntR, if_pos (.inl h0)]
    obtain ⟨rfl, rfl⟩ := Prod.mk.inj e0
    subst h0
    clear e0 hv
    go_enter Tryz.func55, Tryz.ntmps55
    go_wp2_with fail
    go_ret2
    exact ⟨rfl, Below.refl _ _⟩
  · by_cases h19 : 19 < (r).length
    · have e0 : (v, b) = (0, false) := by rw [← hv, refIntR, if_pos (.inr h19)]
      obtain ⟨rfl, rfl⟩ := Prod.mk.inj e0
      have hne : r.isEmpty = false := by cases hr : r <;> simp_all
      have h19' : (19 : Int) < (((r).length : Nat) : Int) := by omega
      have hpos : 0 < (r).length := List.length_pos_iff.2 h0
      have hz : ((((r).length : Nat) : Int) == 0) = false := eqF (by omega)
      clear e0 hv h0
      go_enter Tryz.func55, Tryz.ntmps55
      go_wp2_with fail
      go_ret2
      exact ⟨rfl, Below.refl _ _⟩
    · have hne : r.isEmpty = false := by cases hr : r <;> simp_all
      have h19' : (((r).length : Nat) : Int) ≤ 19 := by omega
      have hpos : 0 < (r).length := List.length_pos_iff.2 h0
      have hz : ((((r).length : Nat) : Int) == 0) = false := eqF (by omega)
      rw [refIntR, if_neg (by intro h; rcases h with h | h; exact h0 h; exact h19 h)] at hv
      have HV := hid hv
      clear hv h0 h19
      go_enter Tryz.func55, Tryz.ntmps55
      go_wp2_with fail
      go_loop [6, 7] (fun n i => ∃ (k : Nat) (a : Int), k ≤ (r).length ∧ i = .int .i64 k ∧ n = .int .i64 a ∧ Hid (loopR true 0 r = loopR true a ((r).drop k)) ∧ -9223372036854775808 ≤ a ∧ a ≤ 9223372036854775807) (fun _ i => (r).length - (intOf i).toNat)
      case atStart => exact ⟨0, 0, by omega, rfl, rfl, hid rfl, by omega, by omega⟩
      case round =>
        obtain ⟨k, a, hk, rfl, rfl, HL, ha0, ha1⟩ := hrel
        by_cases hlt : k < (r).length
        · have Hd := hid (drop_at r k hlt)
          cases hd : isDig (r)[k] with
          | true =>
            have hcd := isDig_is hd
            have HD := hid (fun W => digit_is (r)[k] true hd W)
            have HN : Hid (loopR true 0 r = loopR true (stepR true a (r)[k]) ((r).drop (k + 1))) := hid (by rw [HL.out, Hd.out, loopR, if_pos hd])
            have hb := stepR_in true a (r)[k]
            clear hd HL Hd
            go_wp2_with fail
            refine (HD.out _).mono ?_
            rintro e w1 ⟨rfl, rfl⟩
            go_wp2_with fail
            go_round
            case rel => exact ⟨k + 1, stepR true a (r)[k], by omega, by go_num, rfl, HN, hb.1, hb.2⟩
            case measure => simp [intOf]; omega
          | false =>
            have HD := hid (fun W => digit_is (r)[k] false hd W)
            have e0 := HV.out
            rw [HL.out, Hd.out, loopR, if_neg (by rw [hd]; simp)] at e0
            obtain ⟨rfl, rfl⟩ := Prod.mk.inj e0
            clear e0 hd HL Hd HV
            go_wp2_with fail
            refine (HD.out _).mono ?_
            rintro e w1 ⟨rfl, rfl⟩
            go_wp2_with fail
            go_ret2
            exact ⟨rfl, Below.refl _ _⟩
        · have e0 := HV.out
          rw [HL.out, List.drop_eq_nil_of_le (by omega), loopR] at e0
          simp only at e0
          have HNum := hid (fun W => refNum_any a.natAbs a W (Nat.le_refl _) ha0 ha1)
          have hl2 : (Lib.itoa a).length ≤ 100 := by have := Lib.itoa_length_le a ha0 ha1; omega
          clear HV HL
          cases q : (Lib.itoa a == 45 :: r) with
          | true =>
            rw [if_pos (by simpa using q)] at e0
            obtain ⟨rfl, rfl⟩ := Prod.mk.inj e0
            clear e0
            go_wp2_with fail
            refine (HNum.out _).mono ?_
            rintro e w1 ⟨rfl, hb1⟩
            go_wp2_with fail
            go_ret2
            exact ⟨rfl, hb1⟩
          | false =>
            rw [if_neg (by simpa using q)] at e0
            obtain ⟨rfl, rfl⟩ := Prod.mk.inj e0
            clear e0
            go_wp2_with fail
            refine (HNum.out _).mono ?_
            rintro e w1 ⟨rfl, hb1⟩
            go_wp2_with fail
            go_ret2
            exact ⟨rfl, hb1⟩

set_option maxHeartbeats 1000000 in
theorem refInt_plain (l : List UInt8) (hp : 0 < l.length) (hc : l[0].toNat ≠ 45) (w : World) (v : Int) (b : Bool) (hv : refIntR false l (l) = (v, b)) :
    Calls Tryz.prog 55 #[.string (bs (l))] w fun e w' => e = .returned (.tuple #[.int .i64 v, .bool b]) ∧ Below w.heap.size w w' := by
  have q45 : ((l[0].toNat : Int) == 45) = false := eqF (by omega)
  by_cases h0 : l = []
  · subst h0; simp at hp
  · by_cases h19 : 19 < (l).length
    · have e0 : (v, b) = (0, false) := by rw [← hv, refIntR, if_pos (.inr h19)]
      obtain ⟨rfl, rfl⟩ := Prod.mk.inj e0
      have hne : l.isEmpty = false := by cases hr : l <;> simp_all
      have h19' : (19 : Int) < (((l).length : Nat) : Int) := by omega
      have hpos : 0 < (l).length := List.length_pos_iff.2 h0
      have hz : ((((l).length : Nat) : Int) == 0) = false := eqF (by omega)
      clear e0 hv h0
      go_enter Tryz.func55, Tryz.ntmps55
      go_wp2_with fail
      go_ret2
      exact ⟨rfl, Below.refl _ _⟩
    · have hne : l.isEmpty = false := by cases hr : l <;> simp_all
      have h19' : (((l).length : Nat) : Int) ≤ 19 := by omega
      have hpos : 0 < (l).length := List.length_pos_iff.2 h0
      have hz : ((((l).length : Nat) : Int) == 0) = false := eqF (by omega)
      rw [refIntR, if_neg (by intro h; rcases h with h | h; exact h0 h; exact h19 h)] at hv
      have HV := hid hv
      clear hv h0 h19
      go_enter Tryz.func55, Tryz.ntmps55
      go_wp2_with fail
      go_loop [6, 7] (fun n i => ∃ (k : Nat) (a : Int), k ≤ (l).length ∧ i = .int .i64 k ∧ n = .int .i64 a ∧ Hid (loopR false 0 l = loopR false a ((l).drop k)) ∧ -9223372036854775808 ≤ a ∧ a ≤ 9223372036854775807) (fun _ i => (l).length - (intOf i).toNat)
      case atStart => exact ⟨0, 0, by omega, rfl, rfl, hid rfl, by omega, by omega⟩
      case round =>
        obtain ⟨k, a, hk, rfl, rfl, HL, ha0, ha1⟩ := hrel
        by_cases hlt : k < (l).length
        · have Hd := hid (drop_at l k hlt)
          cases hd : isDig (l)[k] with
          | true =>
            have hcd := isDig_is hd
            have HD := hid (fun W => digit_is (l)[k] true hd W)
            have HN : Hid (loopR false 0 l = loopR false (stepR false a (l)[k]) ((l).drop (k + 1))) := hid (by rw [HL.out, Hd.out, loopR, if_pos hd])
            have hb := stepR_in false a (l)[k]
            clear hd HL Hd
            go_wp2_with fail
            refine (HD.out _).mono ?_
            rintro e w1 ⟨rfl, rfl⟩
            go_wp2_with fail
            go_round
            case rel => exact ⟨k + 1, stepR false a (l)[k], by omega, by go_num, rfl, HN, hb.1, hb.2⟩
            case measure => simp [intOf]; omega
          | false =>
            have HD := hid (fun W => digit_is (l)[k] false hd W)
            have e0 := HV.out
            rw [HL.out, Hd.out, loopR, if_neg (by rw [hd]; simp)] at e0
            obtain ⟨rfl, rfl⟩ := Prod.mk.inj e0
            clear e0 hd HL Hd HV
            go_wp2_with fail
            refine (HD.out _).mono ?_
            rintro e w1 ⟨rfl, rfl⟩
            go_wp2_with fail
            go_ret2
            exact ⟨rfl, Below.refl _ _⟩
        · have e0 := HV.out
          rw [HL.out, List.drop_eq_nil_of_le (by omega), loopR] at e0
          simp only at e0
          have HNum := hid (fun W => refNum_any a.natAbs a W (Nat.le_refl _) ha0 ha1)
          have hl2 : (Lib.itoa a).length ≤ 100 := by have := Lib.itoa_length_le a ha0 ha1; omega
          clear HV HL
          cases q : (Lib.itoa a == l) with
          | true =>
            rw [if_pos (by simpa using q)] at e0
            obtain ⟨rfl, rfl⟩ := Prod.mk.inj e0
            clear e0
            go_wp2_with fail
            refine (HNum.out _).mono ?_
            rintro e w1 ⟨rfl, hb1⟩
            go_wp2_with fail
            go_ret2
            exact ⟨rfl, hb1⟩
          | false =>
            rw [if_neg (by simpa using q)] at e0
            obtain ⟨rfl, rfl⟩ := Prod.mk.inj e0
            clear e0
            go_wp2_with fail
            refine (HNum.out _).mono ?_
            rintro e w1 ⟨rfl, hb1⟩
            go_wp2_with fail
            go_ret2
            exact ⟨rfl, hb1⟩
end Go.Proofs.YtnfjlimecoikpaaGreatDoor
/- The document's numbers of texts, plain. -/
namespace Go.Proofs.YtnfjlimecoikpaaGreatDoor
set_option maxRecDepth 100000
open Go.RowKit

def sgn (m : Bool) (a : Nat) : Int := if m = true then -(a : Int) else a
def topN (m : Bool) : Nat := if m = true then 9223372036854775808 else 9223372036854775807
theorem step_sgn (m : Bool) (a : Nat) (c : UInt8) (hc : isDig c = true) (h : 10 * a + (c.toNat - 48) ≤ topN m) : stepR m (sgn m a) c = sgn m (10 * a + (c.toNat - 48)) := by
  have hcd := isDig_is hc
  unfold stepR sgn
  unfold topN at h
  cases m with
  | true =>
    simp only [if_true] at h ⊢
    unfold wrap64; omega
  | false =>
    simp only [Bool.false_eq_true, if_false] at h ⊢
    unfold wrap64; omega
theorem loop_dig (m : Bool) : ∀ (l : List UInt8) (a : Nat), allDig l = true → valD a l ≤ topN m → loopR m (sgn m a) l = some (sgn m (valD a l))
  | [], a, _, _ => rfl
  | c :: r, a, h, hv => by
    have hc : isDig c = true := by unfold allDig at h; simp only [List.all_cons, Bool.and_eq_true] at h; exact h.1
    have hr : allDig r = true := by unfold allDig at *; simp only [List.all_cons, Bool.and_eq_true] at h; exact h.2
    have hv' : valD (10 * a + (c.toNat - 48)) r ≤ topN m := hv
    have hle := valD_le r (10 * a + (c.toNat - 48))
    rw [loopR, if_pos hc, step_sgn m a c hc (by omega)]
    exact loop_dig m r _ hr hv'
theorem loop_in (m : Bool) : ∀ (l : List UInt8) (a n : Int), -9223372036854775808 ≤ a → a ≤ 9223372036854775807 → loopR m a l = some n → -9223372036854775808 ≤ n ∧ n ≤ 9223372036854775807
  | [], a, n, h0, h1, h => by simp only [loopR, Option.some.injEq] at h; omega
  | c :: r, a, n, h0, h1, h => by
    unfold loopR at h
    split at h
    · have hb := stepR_in m a c
      exact loop_in m r _ n hb.1 hb.2 h
    · cases h
theorem refIntR_none {m : Bool} {rest s : List UInt8} (h : ∀ v, -9223372036854775808 ≤ v → v ≤ 9223372036854775807 → Lib.itoa v ≠ s) : refIntR m rest s = (0, false) := by
  unfold refIntR
  split
  · rfl
  · cases e : loopR m 0 rest with
    | none => rfl
    | some n =>
      have hb := loop_in m rest 0 n (by omega) (by omega) e
      simp only
      rw [if_neg (h n hb.1 hb.2)]
theorem refIntR_num (m : Bool) (u : Nat) (hu : u ≤ topN m) (s : List UInt8) (hs : Lib.itoa (sgn m u) = s) : refIntR m (dig u) s = (sgn m u, true) := by
  have hl : (dig u).length ≤ 19 := dig_len_le 18 u (by unfold topN at hu; split at hu <;> omega)
  have hlp := loop_dig m (dig u) 0 (dig_all u u (Nat.le_refl _)) (by rw [dig_val u u (Nat.le_refl _)]; exact hu)
  rw [dig_val u u (Nat.le_refl _)] at hlp
  have h0 : sgn m 0 = 0 := by unfold sgn; split <;> rfl
  rw [h0] at hlp
  unfold refIntR
  rw [if_neg (by intro h; rcases h with h | h; exact dig_ne u h; omega), hlp]
  simp only
  rw [if_pos hs]
theorem refInt_minus_eq (r : List UInt8) : refIntR true r (45 :: r) = intL (45 :: r) := by
  by_cases hex : ∃ v, -9223372036854775808 ≤ v ∧ v ≤ 9223372036854775807 ∧ Lib.itoa v = 45 :: r
  · obtain ⟨v, h0, h1, hv⟩ := hex
    rcases itoa_cases v with ⟨u, rfl, e⟩ | ⟨u, hu, rfl, e⟩
    · rw [e] at hv
      have := dig_all u u (Nat.le_refl _)
      rw [hv] at this; simp [allDig, isDig] at this
    · rw [e] at hv
      have hr : r = dig u := (List.cons.inj hv).2.symm
      subst hr
      rw [← e, intL_itoa h0 h1]
      exact refIntR_num true u (by unfold topN; simp; omega) _ rfl
  · have hn : ∀ v, -9223372036854775808 ≤ v → v ≤ 9223372036854775807 → Lib.itoa v ≠ 45 :: r := fun v h0 h1 h => hex ⟨v, h0, h1, h⟩
    rw [intL_none hn, refIntR_none hn]
theorem refInt_plain_eq (l : List UInt8) (hp : 0 < l.length) (hc : l[0].toNat ≠ 45) : refIntR false l l = intL l := by
  by_cases hex : ∃ v, -9223372036854775808 ≤ v ∧ v ≤ 9223372036854775807 ∧ Lib.itoa v = l
  · obtain ⟨v, h0, h1, hv⟩ := hex
    rcases itoa_cases v with ⟨u, rfl, e⟩ | ⟨u, hu, rfl, e⟩
    · rw [e] at hv
      subst hv
      have := intL_itoa h0 h1
      rw [e] at this
      rw [this]
      exact refIntR_num false u (by unfold topN; simp; omega) _ e
    · rw [e] at hv
      subst hv
      exact absurd rfl hc
  · have hn : ∀ v, -9223372036854775808 ≤ v → v ≤ 9223372036854775807 → Lib.itoa v ≠ l := fun v h0 h1 h => hex ⟨v, h0, h1, h⟩
    rw [intL_none hn, refIntR_none hn]

theorem refInt_any (l : List UInt8) (hl : l.length ≤ 281474976710656) (v : Int) (b : Bool) (h : intL l = (v, b)) (w : World) :
    Calls Tryz.prog 55 #[.string (bs l)] w fun e w' => e = .returned (.tuple #[.int .i64 v, .bool b]) ∧ Below w.heap.size w w' := by
  cases l with
  | nil =>
    obtain ⟨rfl, rfl⟩ := Prod.mk.inj h
    clear h
    go_enter Tryz.func55, Tryz.ntmps55
    go_wp2_with fail
    go_ret2
    exact ⟨rfl, Below.refl _ _⟩
  | cons c r =>
    by_cases hc : c.toNat = 45
    · obtain rfl : c = 45 := UInt8.toNat_inj.1 hc
      exact refInt_minus r w v b (by rw [refInt_minus_eq, h])
    · exact refInt_plain (c :: r) (by simp) hc w v b (by rw [refInt_plain_eq (c :: r) (by simp) hc, h])
end Go.Proofs.YtnfjlimecoikpaaGreatDoor
