/- The order of labels: label.Less and the reference's. -/
import Derived.Test.YtemfmheimblboaaDoorLabelTexts
namespace Go.Proofs.YtemfmheimblboaaDoor
open Go.RowKit

def cmpL (x y : List UInt8) : Int := if less x y = true then -1 else if less y x = true then 1 else 0
def lessLab (p n q m : List UInt8) : Bool := less p q || (p == q && less n m)
theorem cmp_zero {x y : List UInt8} : cmpL x y = 0 ↔ x = y := by
  unfold cmpL
  by_cases h1 : less x y = true
  · rw [if_pos h1]; exact ⟨fun h => (by cases h), fun h => absurd h (less_ne h1)⟩
  · rw [if_neg h1]
    by_cases h2 : less y x = true
    · rw [if_pos h2]; exact ⟨fun h => (by cases h), fun h => absurd h.symm (less_ne h2)⟩
    · rw [if_neg h2]; exact ⟨fun _ => less_total (by simpa using h1) (by simpa using h2), fun _ => rfl⟩
theorem cmp_neg {x y : List UInt8} : decide (cmpL x y < 0) = less x y := by
  unfold cmpL
  by_cases h1 : less x y = true
  · rw [if_pos h1, h1]; rfl
  · rw [if_neg h1]
    have h1' : less x y = false := by simpa using h1
    rw [h1']
    by_cases h2 : less y x = true
    · rw [if_pos h2]; rfl
    · rw [if_neg h2]; rfl

set_option maxHeartbeats 400000 in
theorem nan_any (x : List UInt8) (w : World) : Calls Tryd.prog 55 #[.string (bs x)] w fun e w' => e = .returned (.bool false) ∧ w = w' := by
  go_enter Tryd.func55, Tryd.ntmps55
  go_wp2_with fail
  go_ret
  exact ⟨rfl, rfl⟩
set_option maxHeartbeats 400000 in
theorem cmp_any (x y : List UInt8) (w : World) : Calls Tryd.prog 36 #[.string (bs x), .string (bs y)] w fun e w' => e = .returned (.int .i64 (cmpL x y)) ∧ w = w' := by
  have Hn := hid nan_any
  have Hc : Hid (cmpL x y = if less x y = true then -1 else if less y x = true then 1 else 0) := hid rfl
  cases h1 : Op.bytesLess x y with
  | true =>
    go_enter Tryd.func36, Tryd.ntmps36
    go_wp2_with (go_at_call 55; refine (Hn.out _ _).mono ?_; rintro e w1 ⟨rfl, rfl⟩)
    go_ret
    exact ⟨by rw [Hc.out, if_pos h1]; rfl, rfl⟩
  | false =>
    by_cases he : x = y
    · have q0 : (x == y) = true := by simpa using he
      have h2 : less y x = false := by rw [he]; exact less_irrefl y
      have H2 := hid h2
      clear h2 he
      go_enter Tryd.func36, Tryd.ntmps36
      go_wp2_with (go_at_call 55; refine (Hn.out _ _).mono ?_; rintro e w1 ⟨rfl, rfl⟩)
      go_ret
      exact ⟨by rw [Hc.out, if_neg (by simp [less, h1]), if_neg (by simp [H2.out])]; rfl, rfl⟩
    · have q0 : (x == y) = false := by simpa using he
      have h2 : less y x = true := by rw [← Bool.not_eq_false]; intro h; exact he (less_total h1 h)
      have H2 := hid h2
      clear h2 he
      go_enter Tryd.func36, Tryd.ntmps36
      go_wp2_with (go_at_call 55; refine (Hn.out _ _).mono ?_; rintro e w1 ⟨rfl, rfl⟩)
      go_ret
      exact ⟨by rw [Hc.out, if_neg (by simp [less, h1]), if_pos H2.out]; rfl, rfl⟩
theorem cmp_is (x y : List UInt8) (c : Int) (h : cmpL x y = c) (w : World) : Calls Tryd.prog 36 #[.string (bs x), .string (bs y)] w fun e w' => e = .returned (.int .i64 c) ∧ w = w' := by
  subst h; exact cmp_any x y w

set_option maxHeartbeats 1000000 in
theorem or_any (c d : Int) (b : Nat) (w : World) (h0 : w.cell? ⟨b, 0, none⟩ = some (.int .i64 c)) (h1 : w.cell? ⟨b, 1, none⟩ = some (.int .i64 d)) :
    Calls Tryd.prog 35 #[.slice (some ⟨b, 0, none⟩) 2 2] w fun e w' => e = .returned (.int .i64 (if c = 0 then d else c)) ∧ w = w' := by
  go_enter Tryd.func35, Tryd.ntmps35
  go_wp2_with fail
  go_loop [8] (fun i => ∃ k : Nat, k ≤ 2 ∧ i = .int .i64 k ∧ (1 ≤ k → c = 0) ∧ (2 ≤ k → d = 0)) (fun i => 2 - (intOf i).toNat)
  case atStart => exact ⟨0, by omega, rfl, by omega, by omega⟩
  case round =>
    obtain ⟨k, hk, rfl, hc, hd⟩ := hrel
    have Hc := hid hc
    have Hd := hid hd
    clear hc hd
    match k, hk with
    | 0, _ =>
      by_cases h : c = 0
      · subst h
        go_wp2_with fail
        exact ⟨⟨1, by omega, by go_num, by simp, by omega⟩, by simp [intOf]⟩
      · have q0 : (c != 0) = true := neT h
        have H := hid h
        clear h
        go_wp2_with fail
        go_ret
        exact ⟨rfl, rfl⟩
    | 1, _ =>
      have h := Hc.out (Nat.le_refl _)
      subst h
      by_cases h : d = 0
      · subst h
        go_wp2_with fail
        exact ⟨⟨2, by omega, by go_num, by simp, by simp⟩, by simp [intOf]⟩
      · have q0 : (d != 0) = true := neT h
        clear h
        go_wp2_with fail
        go_ret
        exact ⟨rfl, rfl⟩
    | 2, _ =>
      have h := Hc.out (by omega)
      have h' := Hd.out (Nat.le_refl _)
      subst h h'
      go_wp2_with fail
      go_ret
      exact ⟨rfl, rfl⟩

theorem or_new (c d : Int) (w0 w : World) (e : TypeId) (h : w = (w0.alloc (.cells #[.int .i64 c, .int .i64 d] e)).drew) :
    Calls Tryd.prog 35 #[.slice (some ⟨w0.heap.size, 0, none⟩) 2 2] w fun e w' => e = .returned (.int .i64 (if c = 0 then d else c)) ∧ w = w' := by
  refine or_any c d w0.heap.size w ?_ ?_
  · rw [h]; show (w0.alloc _).cell? _ = _; rw [World.cell?_alloc_mark]; rfl
  · rw [h]; show (w0.alloc _).cell? _ = _; rw [World.cell?_alloc_mark]; rfl
theorem lab_less {p n q m : List UInt8} : decide ((if cmpL p q = 0 then cmpL n m else cmpL p q) < 0) = lessLab p n q m := by
  unfold lessLab
  by_cases h : cmpL p q = 0
  · have he := cmp_zero.1 h
    rw [if_pos h, cmp_neg, he, less_irrefl]; simp
  · have he : (p == q) = false := by rw [beq_eq_false_iff_ne]; exact fun e => h (cmp_zero.2 e)
    rw [if_neg h, cmp_neg, he]; simp

theorem two_new {w : World} {e : TypeId} {p n q m : List UInt8} : ∃ W, W = (w.alloc (.cells #[.string (bs p), .string (bs n)] e)).alloc (.cells #[.string (bs q), .string (bs m)] e) ∧
    W.cell? ⟨w.heap.size, 0, none⟩ = some (.string (bs p)) ∧ W.cell? ⟨w.heap.size, 1, none⟩ = some (.string (bs n)) ∧ W.cell? ⟨w.heap.size + 1, 0, none⟩ = some (.string (bs q)) ∧ W.cell? ⟨w.heap.size + 1, 1, none⟩ = some (.string (bs m)) ∧ Below w.heap.size w W :=
  ⟨_, rfl, two_boxes (Below.refl _ _)⟩

set_option maxHeartbeats 1000000 in
theorem less_any (p n q m : List UInt8) (w : World) : Calls Tryd.prog 20 #[labV p n, labV q m] w fun e w' => e = .returned (.bool (lessLab p n q m)) ∧ Below w.heap.size w w' := by
  obtain ⟨c, hc⟩ : ∃ c, cmpL p q = c := ⟨_, rfl⟩
  obtain ⟨d, hd⟩ : ∃ d, cmpL n m = d := ⟨_, rfl⟩
  have Hc := hid (cmp_is p q c hc)
  have Hd := hid (cmp_is n m d hd)
  have Hl : Hid (lessLab p n q m = decide ((if c = 0 then d else c) < 0)) := by apply hid; rw [← lab_less, hc, hd]
  clear hc hd
  have Hor := hid (or_new c d)
  obtain ⟨o, ho⟩ : ∃ o, (if c = 0 then d else c) = o := ⟨_, rfl⟩
  rw [ho] at Hor Hl
  clear ho
  obtain ⟨W0, hW0, x0, x1, x2, x3, hB⟩ := two_new (w := w) (e := 24) (p := p) (n := n) (q := q) (m := m)
  go_enter Tryd.func20, Tryd.ntmps20
  go_wp2_with fail
  rw [← hW0]
  clear hW0
  go_region_held3 (fun W => W.cell? ⟨w.heap.size, 0, none⟩ = some (.string (bs p)) ∧ W.cell? ⟨w.heap.size, 1, none⟩ = some (.string (bs n)) ∧ W.cell? ⟨w.heap.size + 1, 0, none⟩ = some (.string (bs q)) ∧ W.cell? ⟨w.heap.size + 1, 1, none⟩ = some (.string (bs m)) ∧ Below W0.heap.size W0 W)
    (first
      | exact keep_of x0 x1 x2 x3 (keep_drew W0)
      | exact keep_of x0 x1 x2 x3 (keep_ad W0 _)
      | assumption
      | (refine keep_alloc ?_; assumption))
    (first | (go_at_call_of 36 (Value.string (bs p)); refine (Hc.out _).mono ?_; rintro e w6 ⟨rfl, rfl⟩) | (go_at_call_of 36 (Value.string (bs n)); refine (Hd.out _).mono ?_; rintro e w6 ⟨rfl, rfl⟩) | (go_at_call 35; refine (Hor.out _ _ _ rfl).mono ?_; rintro e w6 ⟨rfl, rfl⟩))
  go_wp2_with fail
  go_ret
  exact ⟨by rw [Hl.out]; rfl, Below.chain hB (keep_ad W0 _)⟩
theorem less_is (p n q m : List UInt8) (b : Bool) (h : lessLab p n q m = b) (w : World) : Calls Tryd.prog 20 #[labV p n, labV q m] w fun e w' => e = .returned (.bool b) ∧ Below w.heap.size w w' := by
  subst h; exact less_any p n q m w

set_option maxHeartbeats 1000000 in
theorem rless_any (p n q m : List UInt8) (w : World) : Calls Tryd.prog 21 #[labV p n, labV q m] w fun e w' => e = .returned (.bool (lessLab p n q m)) ∧ Below w.heap.size w w' := by
  have Hl : Hid (lessLab p n q m = (less p q || (p == q && less n m))) := hid rfl
  obtain ⟨W0, hW0, x0, x1, x2, x3, hB⟩ := two_new (w := w) (e := 24) (p := p) (n := n) (q := q) (m := m)
  cases h1 : Op.bytesLess p q with
  | true =>
    go_enter Tryd.func21, Tryd.ntmps21
    go_wp2_with fail
    go_ret
    exact ⟨by rw [Hl.out, less, h1]; rfl, hW0 ▸ hB⟩
  | false =>
    cases h2 : (p == q) with
    | false =>
      go_enter Tryd.func21, Tryd.ntmps21
      go_wp2_with fail
      go_ret
      exact ⟨by rw [Hl.out, less, h1, h2]; rfl, hW0 ▸ hB⟩
    | true =>
      go_enter Tryd.func21, Tryd.ntmps21
      go_wp2_with fail
      go_ret
      exact ⟨by rw [Hl.out, less, h1, h2]; rfl, hW0 ▸ hB⟩
theorem rless_is (p n q m : List UInt8) (b : Bool) (h : lessLab p n q m = b) (w : World) : Calls Tryd.prog 21 #[labV p n, labV q m] w fun e w' => e = .returned (.bool b) ∧ Below w.heap.size w w' := by
  subst h; exact rless_any p n q m w

theorem lab_asymm {p n q m : List UInt8} (h : lessLab p n q m = true) : lessLab q m p n = false := by
  unfold lessLab at *
  simp only [Bool.or_eq_true, Bool.and_eq_true, beq_iff_eq] at h
  rcases h with h | ⟨rfl, h⟩
  · have hne := less_ne h
    have : (q == p) = false := by rw [beq_eq_false_iff_ne]; exact fun e => hne e.symm
    rw [less_asymm h, this]; rfl
  · rw [less_irrefl, less_asymm h]; simp
theorem lab_total {p n q m : List UInt8} (h1 : lessLab p n q m = false) (h2 : lessLab q m p n = false) : p = q ∧ n = m := by
  unfold lessLab at *
  simp only [Bool.or_eq_false_iff, Bool.and_eq_false_iff, beq_eq_false_iff_ne] at h1 h2
  have he := less_total h1.1 h2.1
  subst he
  rcases h1.2 with h | h
  · exact absurd rfl h
  · rcases h2.2 with h' | h'
    · exact absurd rfl h'
    · exact ⟨rfl, less_total h h'⟩
theorem lab_irrefl {p n : List UInt8} : lessLab p n p n = false := by
  unfold lessLab; rw [less_irrefl, less_irrefl]; simp
theorem lab_trans {p n q m r o : List UInt8} (h1 : lessLab p n q m = true) (h2 : lessLab q m r o = true) : lessLab p n r o = true := by
  unfold lessLab at *
  simp only [Bool.or_eq_true, Bool.and_eq_true, beq_iff_eq] at *
  rcases h1 with h1 | ⟨rfl, h1⟩
  · rcases h2 with h2 | ⟨rfl, h2⟩
    · exact .inl (less_trans h1 h2)
    · exact .inl h1
  · rcases h2 with h2 | ⟨rfl, h2⟩
    · exact .inl h2
    · exact .inr ⟨rfl, less_trans h1 h2⟩
end Go.Proofs.YtemfmheimblboaaDoor
