/- Plain: two values, one behind the other. -/
import Derived.Test.YtnfjlimecoikpaaGreatDoorValOfPlain
import Derived.Test.YtnfjlimecoikpaaGreatDoorValMem
namespace Go.Proofs.YtnfjlimecoikpaaGreatDoor
set_option maxRecDepth 100000
open Go.RowKit

/-- What a value holds. -/
def VM.l : VM → List VM | .mk _ _ _ _ _ l _ => l
def plusV (a b : VM) : VM × Nat :=
  if a.k ≠ b.k then (noneV, 9)
  else if a.k = 2 then (if -9223372036854775808 ≤ a.n + b.n ∧ a.n + b.n ≤ 9223372036854775807 then (.mk 2 (a.n + b.n) [] nilS nilS [] [], 0) else (noneV, 2))
  else if a.k = 3 then (if 65536 < a.s.length + b.s.length then (noneV, 6) else (.mk 3 0 (a.s ++ b.s) nilS nilS [] [], 0))
  else if a.k = 4 then (if 1000 < a.l.length + b.l.length then (noneV, 6) else if okB (.mk 4 0 [] nilS nilS (a.l ++ b.l) []) = true then (.mk 4 0 [] nilS nilS (a.l ++ b.l) [], 0) else (noneV, 6))
  else (noneV, 9)
def opV (a b : VM) : VM × Nat := if okB a = true ∧ okB b = true then plusV a b else (noneV, 1)
mutual
theorem same_fits : ∀ a b : VM, sameB a b = true → fitB a = fitB b
  | .mk k n s lv kv l ks, .mk k' n' s' lv' kv' l' ks', h => by
    rw [same_mk] at h
    simp only [Bool.and_eq_true, decide_eq_true_eq] at h
    obtain ⟨⟨⟨⟨rfl, rfl⟩, rfl⟩, rfl⟩, hl⟩ := h
    simp [fitB, same_fitsL l l' hl]
theorem same_fitsL : ∀ a b : List VM, sameL a b = true → fitL a = fitL b
  | [], [], _ => rfl
  | v :: r, v' :: r', h => by
    have e1 : sameB v v' = true ∧ sameL r r' = true := by simpa [sameL] using h
    simp [fitL, same_fits v v' e1.1, same_fitsL r r' e1.2]
  | [], _ :: _, h => by simp [sameL] at h
  | _ :: _, [], h => by simp [sameL] at h
end
theorem same_parts {a b : VM} (h : sameB a b = true) : a.k = b.k ∧ a.n = b.n ∧ a.s = b.s ∧ sameL a.l b.l = true := by
  cases a; cases b
  rw [same_mk] at h
  simp only [Bool.and_eq_true, decide_eq_true_eq] at h
  exact ⟨h.1.1.1.1, h.1.1.1.2, h.1.1.2, h.2⟩
theorem sameL_appL : ∀ {a a' b b' : List VM}, sameL a a' = true → sameL b b' = true → sameL (a ++ b) (a' ++ b') = true
  | [], [], _, _, _, h => h
  | v :: r, v' :: r', b, b', h, h2 => by
    have e1 : sameB v v' = true ∧ sameL r r' = true := by simpa [sameL] using h
    show sameL (v :: (r ++ b)) (v' :: (r' ++ b')) = true
    unfold sameL
    rw [e1.1, sameL_appL e1.2 h2]; rfl
  | [], _ :: _, _, _, h, _ => by simp [sameL] at h
  | _ :: _, [], _, _, h, _ => by simp [sameL] at h
/-- What a sum that is answered is. -/
theorem op_zero {a b : VM} (h : (opV a b).2 = 0) : a.k = b.k ∧ ((a.k = 2 ∧ (opV a b).1 = .mk 2 (a.n + b.n) [] nilS nilS [] []) ∨ (a.k = 3 ∧ (opV a b).1 = .mk 3 0 (a.s ++ b.s) nilS nilS [] []) ∨ (a.k = 4 ∧ (opV a b).1 = .mk 4 0 [] nilS nilS (a.l ++ b.l) [])) := by
  unfold opV at h ⊢
  by_cases ho : okB a = true ∧ okB b = true
  · rw [if_pos ho] at h ⊢
    unfold plusV at h ⊢
    by_cases hk : a.k ≠ b.k
    · rw [if_pos hk] at h; cases h
    · rw [if_neg hk] at h ⊢
      refine ⟨by simpa using hk, ?_⟩
      by_cases h2 : a.k = 2
      · rw [if_pos h2] at h ⊢
        by_cases hr : -9223372036854775808 ≤ a.n + b.n ∧ a.n + b.n ≤ 9223372036854775807
        · rw [if_pos hr]; exact .inl ⟨h2, rfl⟩
        · rw [if_neg hr] at h; cases h
      · rw [if_neg h2] at h ⊢
        by_cases h3 : a.k = 3
        · rw [if_pos h3] at h ⊢
          by_cases hr : 65536 < a.s.length + b.s.length
          · rw [if_pos hr] at h; cases h
          · rw [if_neg hr]; exact .inr (.inl ⟨h3, rfl⟩)
        · rw [if_neg h3] at h ⊢
          by_cases h4 : a.k = 4
          · rw [if_pos h4] at h ⊢
            by_cases hr : 1000 < a.l.length + b.l.length
            · rw [if_pos hr] at h; cases h
            · rw [if_neg hr] at h ⊢
              by_cases hq : okB (.mk 4 0 [] nilS nilS (a.l ++ b.l) []) = true
              · rw [if_pos hq]; exact .inr (.inr ⟨h4, rfl⟩)
              · rw [if_neg hq] at h; cases h
          · rw [if_neg h4] at h; cases h
  · rw [if_neg ho] at h; cases h
theorem op_assoc {a b c x y u v : VM} (hx : sameB x (opV a b).1 = true) (hy : sameB y (opV b c).1 = true) (hu : sameB u (opV x c).1 = true) (hv : sameB v (opV a y).1 = true)
    (e1 : (opV a b).2 = 0) (e2 : (opV b c).2 = 0) (e3 : (opV x c).2 = 0) (e4 : (opV a y).2 = 0) : sameB u v = true := by
  obtain ⟨k1, h1⟩ := op_zero e1
  obtain ⟨k2, h2⟩ := op_zero e2
  obtain ⟨k3, h3⟩ := op_zero e3
  obtain ⟨k4, h4⟩ := op_zero e4
  suffices hg : sameB (opV x c).1 (opV a y).1 = true from same_trans _ _ _ hu (same_trans _ _ _ hg (by rw [same_comm]; exact hv))
  obtain ⟨px1, px2, px3, px4⟩ := same_parts hx
  obtain ⟨py1, py2, py3, py4⟩ := same_parts hy
  rcases h1 with ⟨c1, d1⟩ | ⟨c1, d1⟩ | ⟨c1, d1⟩ <;> rw [d1] at px1 px2 px3 px4
  · have hxk : x.k = 2 := px1
    rcases h2 with ⟨c2, d2⟩ | ⟨c2, d2⟩ | ⟨c2, d2⟩
    rotate_left
    · omega
    · omega
    rw [d2] at py1 py2 py3 py4
    rcases h3 with ⟨c3, d3⟩ | ⟨c3, d3⟩ | ⟨c3, d3⟩
    rotate_left
    · omega
    · omega
    rcases h4 with ⟨c4, d4⟩ | ⟨c4, d4⟩ | ⟨c4, d4⟩
    rotate_left
    · omega
    · omega
    rw [d3, d4, same_mk]
    have e1 : x.n = a.n + b.n := px2
    have e2 : y.n = b.n + c.n := py2
    rw [e1, e2, Int.add_assoc]
    simp [sameL]
  · have hxk : x.k = 3 := px1
    rcases h2 with ⟨c2, d2⟩ | ⟨c2, d2⟩ | ⟨c2, d2⟩
    · omega
    rotate_left
    · omega
    rw [d2] at py1 py2 py3 py4
    rcases h3 with ⟨c3, d3⟩ | ⟨c3, d3⟩ | ⟨c3, d3⟩
    · omega
    rotate_left
    · omega
    rcases h4 with ⟨c4, d4⟩ | ⟨c4, d4⟩ | ⟨c4, d4⟩
    · omega
    rotate_left
    · omega
    rw [d3, d4, same_mk]
    have e1 : x.s = a.s ++ b.s := px3
    have e2 : y.s = b.s ++ c.s := py3
    rw [e1, e2, List.append_assoc]
    simp [sameL]
  · have hxk : x.k = 4 := px1
    rcases h2 with ⟨c2, d2⟩ | ⟨c2, d2⟩ | ⟨c2, d2⟩
    · omega
    · omega
    rw [d2] at py1 py2 py3 py4
    rcases h3 with ⟨c3, d3⟩ | ⟨c3, d3⟩ | ⟨c3, d3⟩
    · omega
    · omega
    rcases h4 with ⟨c4, d4⟩ | ⟨c4, d4⟩ | ⟨c4, d4⟩
    · omega
    · omega
    rw [d3, d4, same_mk]
    have e1 : sameL x.l (a.l ++ b.l) = true := px4
    have e2 : sameL y.l (b.l ++ c.l) = true := py4
    have q1 := sameL_appL e1 (same_reflL c.l)
    have q2 := sameL_appL (same_reflL a.l) e2
    have q3 : sameL (x.l ++ c.l) (a.l ++ y.l) = true := same_transL _ _ _ q1 (by rw [List.append_assoc, same_commL]; exact q2)
    simp [q3]
theorem plus_ne {a b : VM} (h : a.k ≠ b.k) : plusV a b = (noneV, 9) := by unfold plusV; rw [if_pos h]
theorem plus_eq {a b : VM} (h : a.k = b.k) : plusV a b = if a.k = 2 then (if -9223372036854775808 ≤ a.n + b.n ∧ a.n + b.n ≤ 9223372036854775807 then (.mk 2 (a.n + b.n) [] nilS nilS [] [], 0) else (noneV, 2))
  else if a.k = 3 then (if 65536 < a.s.length + b.s.length then (noneV, 6) else (.mk 3 0 (a.s ++ b.s) nilS nilS [] [], 0))
  else if a.k = 4 then (if 1000 < a.l.length + b.l.length then (noneV, 6) else if okB (.mk 4 0 [] nilS nilS (a.l ++ b.l) []) = true then (.mk 4 0 [] nilS nilS (a.l ++ b.l) [], 0) else (noneV, 6))
  else (noneV, 9) := by unfold plusV; rw [if_neg (fun e => e h)]
theorem plus_2 {a b : VM} (h : a.k = b.k) (h2 : a.k = 2) : plusV a b = if -9223372036854775808 ≤ a.n + b.n ∧ a.n + b.n ≤ 9223372036854775807 then (.mk 2 (a.n + b.n) [] nilS nilS [] [], 0) else (noneV, 2) := by rw [plus_eq h, if_pos h2]
theorem plus_3 {a b : VM} (h : a.k = b.k) (h3 : a.k = 3) : plusV a b = if 65536 < a.s.length + b.s.length then (noneV, 6) else (.mk 3 0 (a.s ++ b.s) nilS nilS [] [], 0) := by rw [plus_eq h, if_neg (by rw [h3]; decide), if_pos h3]
theorem plus_4 {a b : VM} (h : a.k = b.k) (h4 : a.k = 4) : plusV a b = if 1000 < a.l.length + b.l.length then (noneV, 6) else if okB (.mk 4 0 [] nilS nilS (a.l ++ b.l) []) = true then (.mk 4 0 [] nilS nilS (a.l ++ b.l) [], 0) else (noneV, 6) := by
  rw [plus_eq h, if_neg (by rw [h4]; decide), if_neg (by rw [h4]; decide), if_pos h4]
theorem plus_no {a b : VM} (h : a.k = b.k) (h2 : ¬ a.k = 2) (h3 : ¬ a.k = 3) (h4 : ¬ a.k = 4) : plusV a b = (noneV, 9) := by rw [plus_eq h, if_neg h2, if_neg h3, if_neg h4]
theorem op_turn {a b : VM} (ha : a.k = 2) (hb : b.k = 2) : (opV a b).2 = (opV b a).2 ∧ (opV a b).1 = (opV b a).1 := by
  unfold opV
  by_cases ho : okB a = true ∧ okB b = true
  · rw [if_pos ho, if_pos ho.symm]
    have e1 : plusV a b = if -9223372036854775808 ≤ a.n + b.n ∧ a.n + b.n ≤ 9223372036854775807 then (.mk 2 (a.n + b.n) [] nilS nilS [] [], 0) else (noneV, 2) := by
      unfold plusV; rw [if_neg (by rw [ha, hb]; decide), if_pos ha]
    have e2 : plusV b a = if -9223372036854775808 ≤ b.n + a.n ∧ b.n + a.n ≤ 9223372036854775807 then (.mk 2 (b.n + a.n) [] nilS nilS [] [], 0) else (noneV, 2) := by
      unfold plusV; rw [if_neg (by rw [ha, hb]; decide), if_pos hb]
    rw [e1, e2, Int.add_comm b.n a.n]
    exact ⟨rfl, rfl⟩
  · rw [if_neg ho, if_neg (fun h => ho h.symm)]
    exact ⟨rfl, rfl⟩
theorem op_fit {a b : VM} (ha : fitB a = true) (hb : fitB b = true) : fitB (opV a b).1 = true := by
  have fl : ∀ {x : VM}, fitB x = true → fitL x.l = true := fun {x} h => by cases x; simp [fitB] at h; exact h.2
  have fapp : ∀ {x y : List VM}, fitL x = true → fitL y = true → fitL (x ++ y) = true := fun {x} => by
    induction x with
    | nil => intro y _ h; exact h
    | cons v r ih =>
      intro y h h2
      have e : fitB v = true ∧ fitL r = true := by simpa [fitL] using h
      show fitL (v :: (r ++ y)) = true
      simp [fitL, e.1, ih e.2 h2]
  unfold opV
  split
  · unfold plusV
    split
    · rfl
    split
    · split
      · rename_i h; simp [fitB, fitL]; omega
      · rfl
    split
    · split
      · rfl
      · rfl
    split
    · split
      · rfl
      split
      · simp [fitB, fapp (fl ha) (fl hb)]
      · rfl
    · rfl
  · rfl
end Go.Proofs.YtnfjlimecoikpaaGreatDoor
