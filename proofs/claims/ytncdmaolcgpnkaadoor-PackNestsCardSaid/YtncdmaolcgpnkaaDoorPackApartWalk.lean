/- The walk of the law PackApart. -/
import Derived.Test.YtncdmaolcgpnkaaDoorPackRowsWalk
namespace Go.Proofs.YtncdmaolcgpnkaaDoor
open Go.RowKit

theorem sumLen_count (ss : List (List UInt8)) : ss.length ≤ sumLen ss := by
  induction ss with
  | nil => simp [sumLen]
  | cons t ss ih =>
    have e : sumLen (t :: ss) = (t.length + 1) + sumLen ss := by simp [sumLen]
    rw [e, List.length_cons]; omega

set_option maxHeartbeats 400000 in
theorem law_apart_long (v0 v1 : Value) (cut : Int) (a b : List (List UInt8)) (w : World) (h0 : SliceAt w 1 v0 a.length (strCells a)) (h1 : SliceAt w 1 v1 b.length (strCells b))
    (hba : ∀ s ∈ a, s.length ≤ reachBytes) (hbb : ∀ s ∈ b, s.length ≤ reachBytes) (ht : PowTab w) (hl : longB a = true ∨ longB b = true) :
    Calls Tryd.prog 5 #[v0, v1, .int .u16 cut] w fun e w' => e = .returned (.bool true) ∧ Below w.heap.size w w' := by
  have hlong : ∀ W, Below w.heap.size w W → Calls Tryd.prog 9 #[v0] W fun e w' => e = .returned (.bool (longB a)) ∧ W = w' :=
    fun W hb => long_any v0 _ a W (h0.below hb (Nat.le_refl _)) (fun s hs => by have := hba s hs; simp only [reachBytes] at this; omega)
  have hlong1 : ∀ W, Below w.heap.size w W → Calls Tryd.prog 9 #[v1] W fun e w' => e = .returned (.bool (longB b)) ∧ W = w' :=
    fun W hb => long_any v1 _ b W (h1.below hb (Nat.le_refl _)) (fun s hs => by have := hbb s hs; simp only [reachBytes] at this; omega)
  clear hba hbb
  by_cases hla : longB a = true
  · rw [hla] at hlong
    clear hl
    go_enter Tryd.func5, Tryd.ntmps5
    go_wp2_with fail
    refine (alive_any _ ht).mono ?_
    rintro e w1 ⟨rfl, hb1⟩
    go_wp2_with fail
    refine (hlong w1 hb1).mono ?_
    rintro e w2 ⟨rfl, rfl⟩
    go_wp2
    go_ret
    exact ⟨rfl, hb1⟩
  · have hlb : longB b = true := by rcases hl with h | h; exact absurd h hla; exact h
    rw [Bool.not_eq_true] at hla
    rw [hla] at hlong
    rw [hlb] at hlong1
    clear hl
    go_enter Tryd.func5, Tryd.ntmps5
    go_wp2_with fail
    refine (alive_any _ ht).mono ?_
    rintro e w1 ⟨rfl, hb1⟩
    go_wp2_with fail
    refine (hlong w1 hb1).mono ?_
    rintro e w2 ⟨rfl, rfl⟩
    go_wp2_with fail
    refine (hlong1 w1 hb1).mono ?_
    rintro e w2 ⟨rfl, rfl⟩
    go_wp2
    go_ret
    exact ⟨rfl, hb1⟩

set_option maxHeartbeats 800000 in
theorem law_apart_short (v0 v1 : Value) (cut : Int) (hc0 : 0 ≤ cut) (hc1 : cut ≤ 65535) (a b : List (List UInt8)) (w : World) (h0 : SliceAt w 1 v0 a.length (strCells a)) (h1 : SliceAt w 1 v1 b.length (strCells b))
    (ht : PowTab w) (hla : longB a = false) (hlb : longB b = false) :
    Calls Tryd.prog 5 #[v0, v1, .int .u16 cut] w fun e w' => e = .returned (.bool true) ∧ Below w.heap.size w w' := by
  obtain ⟨-, x0, y0, hv0, -⟩ := h0.str
  subst hv0
  have hsa : sumLen a ≤ 5000 := by have := of_decide_eq_false hla; omega
  have hsb : sumLen b ≤ 5000 := by have := of_decide_eq_false hlb; omega
  have hma : ∀ s ∈ a, s.length < 1000000000 := fun s hs => by have := sumLen_ge a s hs; omega
  have hmb : ∀ s ∈ b, s.length < 1000000000 := fun s hs => by have := sumLen_ge b s hs; omega
  have hlong : ∀ W, Below w.heap.size w W → Calls Tryd.prog 9 #[.slice x0 a.length y0] W fun e w' => e = .returned (.bool false) ∧ W = w' := by
    rw [← hla]; exact fun W hb => long_any _ _ a W (h0.below hb (Nat.le_refl _)) (fun s hs => by have := hma s hs; omega)
  have hlong1 : ∀ W, Below w.heap.size w W → Calls Tryd.prog 9 #[v1] W fun e w' => e = .returned (.bool false) ∧ W = w' := by
    rw [← hlb]; exact fun W hb => long_any v1 _ b W (h1.below hb (Nat.le_refl _)) (fun s hs => by have := hmb s hs; omega)
  clear hla hlb
  have hra := rowL_len a hma
  have hrb := rowL_len b hmb
  have hca := sumLen_count a
  have hcb := sumLen_count b
  obtain ⟨same, hsame⟩ : ∃ same, decide (a = b) = same := ⟨_, rfl⟩
  have hrow : (rowL a == rowL b) = same := by
    rw [← hsame]
    by_cases h : a = b
    · subst h; simp
    · rw [decide_eq_false h, beq_eq_false_iff_ne]; exact fun h' => h (row_inj hma hmb h')
  have Hsame := hid hsame; clear hsame
  have Hnil := hid (fun h : (rowL a).length = 0 => row_nil h)
  have Hcut := hid (cut_row a hma)
  have Hab := hid (rowL_append a b)
  clear hma hmb
  obtain ⟨i0, hi, hz0, hz1, hz2⟩ := info_parts str_info
  go_enter Tryd.func5, Tryd.ntmps5
  go_wp2_with fail
  refine (alive_any _ ht).mono ?_
  rintro e w1 ⟨rfl, hb1⟩
  go_wp2_with fail
  refine (hlong w1 hb1).mono ?_
  rintro e w2 ⟨rfl, rfl⟩
  go_wp2_with fail
  refine (hlong1 w1 hb1).mono ?_
  rintro e w2 ⟨rfl, rfl⟩
  clear hlong hlong1
  go_wp2_with fail
  refine (row_any _ _ a _ (h0.below hb1 (Nat.le_refl _)) (ht.below hb1) (by omega)).mono ?_
  rintro e w2 ⟨rfl, hb2⟩
  have hb12 := hb1.trans (hb2.mono hb1.size)
  go_wp2_with fail
  refine (row_any v1 _ b _ (h1.below hb12 (Nat.le_refl _)) (ht.below hb12) (by omega)).mono ?_
  rintro e w3 ⟨rfl, hb3⟩
  have hb13 := hb12.trans (hb3.mono hb12.size)
  have hs3 := hb13.size
  have hown0 : (w3.alloc (.cells #[] 9)).ownsRow w3.heap.size 9 1 (.slice (some ⟨w3.heap.size, 0, none⟩) 0 0) 0 [] := ⟨rfl, .inr ⟨_, 0, #[], rfl, Nat.le_refl _, heap_alloc_new w3 _, Nat.le_refl _, by simp, rfl, rfl⟩⟩
  have hb3a : Below w3.heap.size w3 (w3.alloc (.cells #[] 9)) := (Below.refl _ _).alloc (Nat.le_refl _) _
  have hb4 := hb13.alloc hs3 (.cells #[] 9)
  go_wp2_with (at_builtin; go_must (refine wpList_append_src rfl _ _ 22 rfl w3.heap.size 9 i0 (.string ⟨#[]⟩) 1 16 Tryd.underlying22 hi hz0 hz1 hz2 rfl (by decide) _ _ _ rfl hown0 _ a.length (strCells a) rfl (h0.below hb4 (Nat.le_refl _)) (strCells_one a) ?c1 ?c2 ?c3 ?_))
  case c1 => unfold maxLen; omega
  case c2 => omega
  case c3 => simp
  intro v4 w4 hown4 hg4
  have hb34 : Below w3.heap.size w3 w4 := hb3a.grown hg4 (by simp) (fun k hk => (hown0.lt k hk).1)
  clear hg4 hown0 hb3a hb4
  have hb14 := hb13.trans (hb34.mono hs3)
  have hs4 := hb34.size
  go_wp2_with (at_builtin; go_must (refine wpList_append_src rfl _ _ 22 rfl w3.heap.size 9 i0 (.string ⟨#[]⟩) 1 16 Tryd.underlying22 hi hz0 hz1 hz2 rfl (by decide) _ _ _ rfl hown4 v1 b.length (strCells b) rfl (h1.below hb14 (Nat.le_refl _)) (strCells_one b) ?c4 ?c5 ?c6 ?_))
  case c4 => unfold maxLen; omega
  case c5 => omega
  case c6 => exact hs4
  intro v5 w5 hown5 hg5
  have hb35 : Below w3.heap.size w3 w5 := hb34.grown hg5 hs4 (fun k hk => (hown4.lt k hk).1)
  clear hg5 hown4 hb34
  have hb15 := hb13.trans (hb35.mono hs3)
  have hv5 : SliceAt w5 1 v5 (a ++ b).length (strCells (a ++ b)) := by
    have := SliceAt.of_owns hown5 (by unfold maxLen; omega)
    rw [strCells_append, List.length_append]; simpa using this
  clear hown5
  go_wp2_with fail
  refine (same_any _ v1 _ _ a b _ (h0.below hb15 (Nat.le_refl _)) (h1.below hb15 (Nat.le_refl _))).mono ?_
  rintro e w6 ⟨rfl, hd6⟩
  rw [Hsame.out]
  have hb16 := hb15.trans (hd6.below (B := w.heap.size))
  go_wp2_with fail
  refine (row_any v5 _ (a ++ b) _ (hv5.below (hd6.below (B := w5.heap.size)) (Nat.le_refl _)) (ht.below hb16) (by rw [Hab.out, List.length_append]; omega)).mono ?_
  rintro e w7 ⟨rfl, hb7⟩
  rw [Hab.out]
  have hb17 := hb16.trans (hb7.mono hb16.size)
  clear hv5
  by_cases hz : (rowL a).length = 0
  · have hzb : (((rowL a).length : Int) == 0) = true := eqT (by omega)
    have ha0 : ((a.length : Int) == 0) = true := eqT (by rw [Hnil.out hz]; rfl)
    clear hz
    go_wp2
    go_ret
    exact ⟨rfl, hb17⟩
  · have hzb : (((rowL a).length : Int) == 0) = false := eqF (by omega)
    have hpos : 0 < (rowL a).length := by omega
    clear hz
    obtain ⟨n, rfl⟩ := Int.eq_ofNat_of_zero_le hc0
    have hk := Nat.mod_lt n hpos
    have hk' : (n : Int) % ((rowL a).length : Int) < (rowL a).length := Int.emod_lt_of_pos _ (by omega)
    have hk0 : 0 ≤ (n : Int) % ((rowL a).length : Int) := Int.emod_nonneg _ (by omega)
    go_wp2_with fail
    refine (texts_any (List.take (n % (rowL a).length) (rowL a)) _ (by rw [List.length_take]; omega)).mono ?_
    rintro e w8 ⟨v8, rfl, hv8, hb8⟩
    have hb18 := hb17.trans (hb8.mono hb17.size)
    rcases Hcut.out _ hk with h | ⟨j, hj, h⟩
    · rw [h] at hv8 ⊢
      obtain ⟨-, a8, c8, rfl, -, -, -⟩ := hv8.str
      clear h hv8
      go_wp2
      go_ret
      exact ⟨rfl, hb18⟩
    · rw [h] at hv8 ⊢
      obtain ⟨-, a8, c8, rfl, -, -, -⟩ := hv8.str
      have hlt : (a.take j).length < a.length := by rw [List.length_take]; omega
      have hj' : min j a.length < a.length := by omega
      clear h hv8
      go_wp2
      go_ret
      exact ⟨rfl, hb18⟩

theorem law_apart (v0 v1 : Value) (cut : Int) (hc0 : 0 ≤ cut) (hc1 : cut ≤ 65535) (a b : List (List UInt8)) (w : World) (h0 : SliceAt w 1 v0 a.length (strCells a)) (h1 : SliceAt w 1 v1 b.length (strCells b))
    (hba : ∀ s ∈ a, s.length ≤ reachBytes) (hbb : ∀ s ∈ b, s.length ≤ reachBytes) (ht : PowTab w) :
    Calls Tryd.prog 5 #[v0, v1, .int .u16 cut] w fun e w' => e = .returned (.bool true) ∧ Below w.heap.size w w' := by
  by_cases h : longB a = true ∨ longB b = true
  · exact law_apart_long v0 v1 cut a b w h0 h1 hba hbb ht h
  · simp only [not_or, Bool.not_eq_true] at h
    exact law_apart_short v0 v1 cut hc0 hc1 a b w h0 h1 ht h.1 h.2
end Go.Proofs.YtncdmaolcgpnkaaDoor
