/- The walks of what tree.Put calls: compare, the search for the place, the copy. -/
import Derived.Test.YtffmjjocjcomnaaDoorPutPlain
import Derived.Test.YtffmjjocjcomnaaDoorTreeWith
namespace Go.Proofs.YtffmjjocjcomnaaDoor
set_option maxRecDepth 100000
open Go.RowKit

theorem cmpB_neg : ∀ x y : List UInt8, decide (Lib.compareBytes x y < 0) = less x y
  | [], [] => rfl
  | [], _ :: _ => rfl
  | _ :: _, [] => rfl
  | a :: x, b :: y => by
    rw [Lib.compareBytes, less_cons]
    by_cases h1 : a < b
    · rw [if_pos h1, decide_eq_true h1]; rfl
    · rw [if_neg h1, decide_eq_false h1, Bool.false_or]
      by_cases h2 : b < a
      · rw [if_pos h2]
        have : (a == b) = false := by rw [beq_eq_false_iff_ne]; rintro rfl; exact h1 h2
        rw [this]; rfl
      · rw [if_neg h2]
        have : a = b := UInt8.le_antisymm (UInt8.not_lt.1 h2) (UInt8.not_lt.1 h1)
        rw [cmpB_neg x y, this]; simp
theorem cmpB_zero : ∀ x y : List UInt8, (Lib.compareBytes x y == 0) = (x == y)
  | [], [] => rfl
  | [], _ :: _ => rfl
  | _ :: _, [] => rfl
  | a :: x, b :: y => by
    rw [Lib.compareBytes]
    by_cases h1 : a < b
    · rw [if_pos h1]
      have : (a == b) = false := by rw [beq_eq_false_iff_ne]; rintro rfl; exact UInt8.lt_irrefl _ h1
      simp [this]
    · rw [if_neg h1]
      by_cases h2 : b < a
      · rw [if_pos h2]
        have : (a == b) = false := by rw [beq_eq_false_iff_ne]; rintro rfl; exact h1 h2
        simp [this]
      · rw [if_neg h2]
        have : a = b := UInt8.le_antisymm (UInt8.not_lt.1 h2) (UInt8.not_lt.1 h1)
        rw [cmpB_zero x y, this]; simp

set_option maxHeartbeats 400000 in
theorem compare_any (f : FileL) (p : List UInt8) (c : Int) (h : Lib.compareBytes f.1 p = c) (w : World) :
    Calls Tryd.prog 37 #[.agg #[.string (bs f.1), .string (bs f.2)], .string (bs p)] w fun e w' => e = .returned (.int .i64 c) ∧ Below w.heap.size w w' := by
  have Hc := hid (Tryd.strings_Compare (bs f.1) (bs p))
  rw [list_bs, list_bs, h] at Hc
  go_enter Tryd.func37, Tryd.ntmps37
  go_wp2_with fail
  refine (Hc.out _).mono ?_
  rintro e w1 ⟨rfl, rfl⟩
  go_wp2_with fail
  go_ret
  exact ⟨rfl, (Below.refl _ _).alloc (Nat.le_refl _) _⟩

theorem there_at {p : List UInt8} {fs : List FileL} (h : lowL p fs < fs.length) : thereB p fs = (fs[lowL p fs].1 == p) := by
  unfold thereB; rw [List.getElem?_eq_getElem h]; rfl
theorem there_end {p : List UInt8} {fs : List FileL} (h : ¬ lowL p fs < fs.length) : thereB p fs = false := by
  unfold thereB; rw [List.getElem?_eq_none (by omega)]; rfl

set_option maxHeartbeats 1000000 in
theorem search_any (fs : List FileL) (hr : RisesF fs) (p : List UInt8) (v0 : Value) (n0 : Nat) (w : World) (h0 : SliceAt w 2 v0 n0 (fileCells fs)) :
    Calls Tryd.prog 36 #[v0, .string (bs p), .func (.func 37) #[] #[]] w fun e w' => e = .returned (.tuple #[.int .i64 (lowL p fs), .bool (thereB p fs)]) ∧ Below w.heap.size w w' := by
  have H00 := hid h0
  obtain ⟨rfl, a0, c0, rfl, hc0, hm0, -⟩ := h0.files
  clear h0
  unfold maxLen at hm0
  have hsp := low_spec p fs hr
  have hln := low_le p fs
  have Hta := hid (there_at (p := p) (fs := fs))
  have Hte := hid (there_end (p := p) (fs := fs))
  have Hsp : Hid (∀ k (h : k < fs.length), (Lib.compareBytes fs[k].1 p < 0 → k < lowL p fs) ∧ (¬ Lib.compareBytes fs[k].1 p < 0 → lowL p fs ≤ k)) := by
    apply hid
    intro k h
    have hn := cmpB_neg fs[k].1 p
    refine ⟨fun hc => ?_, fun hc => ?_⟩
    · rw [decide_eq_true hc] at hn
      rcases Nat.lt_or_ge k (lowL p fs) with h' | h'
      · exact h'
      · have := hsp.2 k h h'; rw [← hn] at this; cases this
    · rw [decide_eq_false hc] at hn
      rcases Nat.lt_or_ge k (lowL p fs) with h' | h'
      · have := hsp.1 k h h'; rw [← hn] at this; cases this
      · exact h'
  clear hsp
  generalize lowL p fs = L at *
  generalize thereB p fs = T at *
  go_enter Tryd.func36, Tryd.ntmps36
  go_wp2_with fail
  go_loopw [9, 10] (fun i j wr => ∃ (a b : Nat), i = .int .i64 a ∧ j = .int .i64 b ∧ a ≤ L ∧ L ≤ b ∧ b ≤ fs.length ∧ Below w.heap.size w wr) (fun i j _ => (intOf j).toNat - (intOf i).toNat)
  case atStart => exact ⟨0, fs.length, rfl, rfl, by omega, hln, Nat.le_refl _, Below.refl _ _⟩
  case round =>
    obtain ⟨a, b, rfl, rfl, haL, hLb, hbn, hbw⟩ := hrel
    by_cases hlt : a < b
    · have hmid : wrap64 (IntKind.u64.wrap (wrap64 ((a : Int) + (b : Int))) / 2) = (((a + b) / 2 : Nat) : Int) := by
        simp only [wrap64, IntKind.wrap_u64]; omega
      obtain ⟨m, hm⟩ : ∃ m, (a + b) / 2 = m := ⟨_, rfl⟩
      rw [hm] at hmid
      have ham : a ≤ m := by omega
      have hmb : m < b := by omega
      have hmn : m < fs.length := by omega
      clear hm
      obtain ⟨-, a1, c1, hv, -, -, hx1⟩ := (H00.out.below hbw (Nat.le_refl _)).files
      obtain ⟨b0, o0, rfl, hb0, hcl0⟩ := hx1 m hmn
      obtain ⟨rfl, rfl⟩ : a0 = some ⟨b0, o0, none⟩ ∧ c0 = c1 := by simpa using hv
      have e0 := (hcl0 m hmn).1
      have e1 := (hcl0 m hmn).2
      clear hcl0 hx1 hv
      have hs := Hsp.out m hmn
      obtain ⟨c, hc⟩ : ∃ c, Lib.compareBytes fs[m].1 p = c := ⟨_, rfl⟩
      have Hc := hid (compare_any fs[m] p c hc wr)
      rw [hc] at hs
      clear hc
      by_cases hneg : c < 0
      · have hmL := hs.1 hneg
        clear hs
        go_wp2_with fail
        refine Hc.out.mono ?_
        rintro e w1 ⟨rfl, hb1⟩
        have hb2 := Below.chain hbw hb1
        go_wp2_with fail
        exact ⟨⟨m + 1, b, by go_num, rfl, by omega, hLb, hbn, hb2⟩, by simp [intOf]; omega⟩
      · have hmL := hs.2 (by omega)
        clear hs
        go_wp2_with fail
        refine Hc.out.mono ?_
        rintro e w1 ⟨rfl, hb1⟩
        have hb2 := Below.chain hbw hb1
        go_wp2_with fail
        exact ⟨⟨a, m, rfl, rfl, haL, hmL, by omega, hb2⟩, by simp [intOf]; omega⟩
    · obtain rfl : a = b := by omega
      obtain rfl : L = a := by omega
      by_cases hln2 : L < fs.length
      · obtain ⟨-, a1, c1, hv, -, -, hx1⟩ := (H00.out.below hbw (Nat.le_refl _)).files
        obtain ⟨b0, o0, rfl, hb0, hcl0⟩ := hx1 L hln2
        obtain ⟨rfl, rfl⟩ : a0 = some ⟨b0, o0, none⟩ ∧ c0 = c1 := by simpa using hv
        have e0 := (hcl0 L hln2).1
        have e1 := (hcl0 L hln2).2
        clear hcl0 hx1 hv
        have hT := Hta.out hln2
        rw [← cmpB_zero] at hT
        obtain ⟨c, hc⟩ : ∃ c, Lib.compareBytes fs[L].1 p = c := ⟨_, rfl⟩
        have Hc := hid (compare_any fs[L] p c hc wr)
        rw [hc] at hT
        have HT := hid hT
        clear hc hT
        go_wp2_with fail
        refine Hc.out.mono ?_
        rintro e w1 ⟨rfl, hb1⟩
        have hb2 := Below.chain hbw hb1
        go_wp2_with fail
        go_ret2
        exact ⟨by rw [HT.out]; rfl, hb2⟩
      · have hT := hid (Hte.out hln2)
        go_wp2_with fail
        go_ret2
        exact ⟨by rw [hT.out]; rfl, hbw⟩
end Go.Proofs.YtffmjjocjcomnaaDoor
