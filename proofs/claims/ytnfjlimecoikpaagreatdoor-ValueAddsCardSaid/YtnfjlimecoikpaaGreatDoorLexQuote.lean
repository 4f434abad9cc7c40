/- The walks of strings.Replacer's Replace and of lex.Quote. -/
import Derived.Test.YtnfjlimecoikpaaGreatDoorReplRun
namespace Go.Proofs.YtnfjlimecoikpaaGreatDoor
set_option maxRecDepth 100000
open Go.RowKit

set_option maxHeartbeats 1000000 in
theorem repl_any (s : List UInt8) (hs : s.length ≤ 1000000000) (b : Nat) (w : World) (hu : Unbuilt w b) :
    Calls Tryz.prog 60 #[.pointer (some ⟨b, 0, none⟩), .string (bs s)] w fun e w' => e = .returned (.string (bs (s.flatMap escB))) ∧ Below b w w' := by
  obtain ⟨v, w1, hr, hsl, hw1, hb1⟩ := hu
  obtain ⟨b1, o1, c1, rfl, _, _, h6⟩ := six_open hsl
  have hne : b1 ≠ b := by have := h6.lt; omega
  have H6 := hid (h6.past hb1 hw1)
  have Hr := hid hr
  have hlt : b < w.heap.size := World.block_lt_of_cell? w _ hr.c0
  clear hr h6 hsl hb1
  have hmeth : ∀ (n r : Nat) (W : World), (method (n + 1) 147 (.pointer (some ⟨r, 0, none⟩)) "Replace").run Tryz.prog W = .ok (172, .pointer (some ⟨r, 0, none⟩)) W := fun n r W => by kernel_rfl
  have hmeth' := hmeth 290
  go_enter Tryz.func60, Tryz.ntmps60
  go_wp2_with (first
    | (go_at_call 76; refine (do_any b b1 o1 c1 _ _ Hr.out H6.out hne).mono ?_; rintro e w2 ⟨rfl, ⟨r, hR, lo, hlo, hB⟩, hb2⟩; have q3 := hR.c3; have HB := hid hB; clear hB)
    | (go_at_call 172; refine (run_any s hs lo r _ HB.out).mono ?_; rintro e w3 ⟨rfl, hb3⟩))
  go_ret
  exact ⟨rfl, hb2.trans (hb3.mono (Nat.le_trans (Nat.le_of_lt hlt) hb2.size))⟩

theorem six_new (w : World) : SliceAt (w.alloc (.cells #[.string ⟨#[34]⟩, .string ⟨#[92, 34]⟩, .string ⟨#[92]⟩, .string ⟨#[92, 92]⟩, .string ⟨#[10]⟩, .string ⟨#[92, 110]⟩] 9)) 1 (.slice (some ⟨w.heap.size, 0, none⟩) 6 6) 6 (strCells sixT) :=
  ⟨rfl, some ⟨w.heap.size, 0, none⟩, 6, rfl, Nat.le_refl _, by decide, fun e => (by cases e), fun _ => ⟨w.heap.size, 0, rfl, by simp, fun j u hj => by
    have := new_cells w #[.string ⟨#[34]⟩, .string ⟨#[92, 34]⟩, .string ⟨#[92]⟩, .string ⟨#[92, 92]⟩, .string ⟨#[10]⟩, .string ⟨#[92, 110]⟩] 9 (0, 0) j u hj
    have hadd : (⟨w.heap.size, 0, none⟩ : Addr).add j = ⟨w.heap.size, 0 + j, none⟩ := by unfold Addr.add; split <;> simp_all
    rwa [hadd] at this⟩⟩
set_option maxHeartbeats 2000000 in
theorem quote_any (s : List UInt8) (hs : s.length ≤ 1000000000) (q : List UInt8) (hq : quoteL s = q) (w : World) :
    Calls Tryz.prog 39 #[.string (bs s)] w fun e w' => e = .returned (.string (bs q)) ∧ Below w.heap.size w w' := by
  have HQ := hid hq
  clear hq
  go_enter Tryz.func39, Tryz.ntmps39
  go_wp2_with fail
  go_loop [6] (fun i => ∃ k : Nat, k ≤ s.length ∧ i = .int .i64 k ∧ Hid ((s.take k).any badQ = false)) (fun i => s.length - (intOf i).toNat)
  case atStart => exact ⟨0, by omega, rfl, hid (by simp)⟩
  case round =>
    obtain ⟨k, hk, rfl, HA⟩ := hrel
    by_cases hlt : k < s.length
    · have HS : Hid (badQ s[k] = false → (s.take (k + 1)).any badQ = false) := hid (fun h => by rw [take_at s k hlt, List.any_append, HA.out, Bool.false_or]; simp [h])
      by_cases c1 : s[k].toNat < 32
      · have c1' : (s[k].toNat : Int) < 32 := by omega
        by_cases c2 : s[k].toNat = 10
        · have q2 : ((s[k].toNat : Int) != 10) = false := neF (by omega)
          have q3 : ((s[k].toNat : Int) == 127) = false := eqF (by omega)
          have HN := hid (HS.out (bad_ten c2))
          clear c1 c2
          go_wp2_with fail
          go_round
          case rel => exact ⟨k + 1, by omega, by go_num, HN⟩
          case measure => simp [intOf]; omega
        · have q2 : ((s[k].toNat : Int) != 10) = true := neT (by omega)
          have HE : Hid (q = []) := hid (by rw [← HQ.out, quote_bad hlt (bad_yes c2 (.inl c1))])
          clear c1 c2
          go_wp2_with fail
          go_ret
          exact ⟨by rw [HE.out]; rfl, Below.refl _ _⟩
      · have c1' : ¬ (s[k].toNat : Int) < 32 := by omega
        by_cases c2 : s[k].toNat = 127
        · have q3 : ((s[k].toNat : Int) == 127) = true := eqT (by omega)
          have HE : Hid (q = []) := hid (by rw [← HQ.out, quote_bad hlt (bad_yes (by omega) (.inr c2))])
          clear c1 c2
          go_wp2_with fail
          go_ret
          exact ⟨by rw [HE.out]; rfl, Below.refl _ _⟩
        · have q3 : ((s[k].toNat : Int) == 127) = false := eqF (by omega)
          have HN := hid (HS.out (bad_not (fun h => h.elim c1 c2)))
          clear c1 c2
          go_wp2_with fail
          go_round
          case rel => exact ⟨k + 1, by omega, by go_num, HN⟩
          case measure => simp [intOf]; omega
    · obtain rfl : k = s.length := by omega
      have hno := HA.out
      rw [List.take_length] at hno
      have HE : Hid (q = 34 :: (s.flatMap escB ++ [34])) := hid (by rw [← HQ.out, quote_flat hno])
      have hNl : (s.flatMap escB).length ≤ 2 * s.length := by have := sizeB_le s s.length; rwa [sizeB_end] at this
      obtain ⟨t, ht⟩ : ∃ t, s.flatMap escB = t := ⟨_, rfl⟩
      have hrep := fun b w => repl_any s hs b w
      rw [ht] at HE hNl hrep
      clear hno HA ht
      go_wp2_with (first
        | (go_at_call 59; refine (new_any _ _ (six_new w)).mono ?_; rintro e w1 ⟨b, rfl, hun, hb0, hbl, hb1⟩)
        | (go_at_call 60; refine (hrep b _ hun).mono ?_; rintro e w2 ⟨rfl, hb2⟩))
      go_ret
      refine ⟨by rw [HE.out]; rfl, (((Below.refl w.heap.size w).alloc (Nat.le_refl _) _).trans (hb1.mono (by simp))).trans (hb2.mono ?_)⟩
      simpa using Nat.le_trans (Nat.le_succ _) (by simpa using hb0)
end Go.Proofs.YtnfjlimecoikpaaGreatDoor
