/- The walks of the reference of paths: May, Dir, Under. -/
import Derived.Test.YtilkneajohpgiaaDoorPathRef
import Derived.Test.YtilkneajohpgiaaDoorTreePlain
namespace Go.Proofs.YtilkneajohpgiaaDoor
open Go.RowKit

theorem refPart_is (l : List UInt8) (hl : l.length ≤ 1000000000000) (b : Bool) (h : partB l = b) (w : World) :
    Calls Tryd.prog 37 #[.string (bs l)] w fun e w' => e = .returned (.bool b) ∧ w = w' := by
  rw [← h]; exact refPart_any l hl w

theorem le_mem {l : List UInt8} {k : Nat} (h : k < (splitL l).length) : (splitL l)[k].length ≤ l.length := splitL_mem l _ (List.getElem_mem h)

set_option maxHeartbeats 1000000 in
set_option maxRecDepth 100000 in
theorem refMay_any (l : List UInt8) (hl : l.length ≤ 1000000000000) (w : World) :
    Calls Tryd.prog 25 #[.string (bs l)] w fun e w' => e = .returned (.bool (mayB l)) ∧ Below w.heap.size w w' := by
  have hmb : mayB l = (decide ((splitL l).length ≤ 16) && (splitL l).all partB) := rfl
  have Hml := hid hmb; clear hmb
  have hmem : ∀ k (h : k < (splitL l).length), (splitL l)[k].length ≤ 1000000000000 := fun k h => Nat.le_trans (le_mem h) hl
  have Hp := hid (parts_any l hl w)
  have hnl := splitL_len l
  unfold PartsPost at Hp
  generalize splitL l = ps at Hp Hml hmem hnl
  go_enter Tryd.func25, Tryd.ntmps25
  go_wp2_with fail
  refine Hp.out.mono ?_
  rintro e w1 ⟨v, rfl, hs, hb1⟩
  have h00 := hs
  obtain ⟨-, a, c, rfl, hc, hm, hx⟩ := hs.str
  have Hx := hid hx; clear hx hs
  unfold maxLen at hm
  go_wp2_with fail
  go_loop [4] (fun i => ∃ k : Nat, k ≤ ps.length ∧ i = .int .i64 k ∧ ps.all partB = (ps.drop k).all partB) (fun i => ps.length - (intOf i).toNat)
  case atStart => exact ⟨0, by omega, rfl, rfl⟩
  case round =>
    obtain ⟨k, hk, rfl, hg⟩ := hrel
    have Hg := hid hg; clear hg
    by_cases hlt : k < ps.length
    · obtain ⟨b0, o0, rfl, hb0, hcl0⟩ := Hx.out k hlt
      have e0 := hcl0 k hlt
      have hlk := hmem k hlt
      have Hd := hid (drop_at ps k hlt)
      clear hcl0
      obtain ⟨r, hr⟩ : ∃ r, partB ps[k] = r := ⟨_, rfl⟩
      have Hr := hid (refPart_is ps[k] hlk r hr)
      have Hre := hid hr; clear hr
      cases r with
      | true =>
        go_wp2_with fail
        refine (Hr.out _).mono ?_
        rintro e w2 ⟨rfl, rfl⟩
        go_wp2_with fail
        exact ⟨⟨k + 1, by omega, by go_num, by rw [Hg.out, Hd.out, List.all_cons, Hre.out, Bool.true_and]⟩, by simp [intOf]; omega⟩
      | false =>
        go_wp2_with fail
        refine (Hr.out _).mono ?_
        rintro e w2 ⟨rfl, rfl⟩
        go_wp2_with fail
        go_ret
        exact ⟨by rw [Hml.out, Hg.out, Hd.out, List.all_cons, Hre.out, Bool.false_and, Bool.and_false]; rfl, hb1⟩
    · have hall : Hid (mayB l = decide (ps.length ≤ 16)) := by
        apply hid; rw [Hml.out, Hg.out, List.drop_eq_nil_of_le (by omega)]; simp
      have hde : decide ((ps.length : Int) ≤ 16) = decide (ps.length ≤ 16) := by
        by_cases h : ps.length ≤ 16
        · rw [decide_eq_true h]; exact decide_eq_true (by omega)
        · rw [decide_eq_false h]; exact decide_eq_false (by omega)
      go_wp2_with fail
      go_ret
      exact ⟨by rw [hall.out]; rfl, hb1⟩

theorem refMay_is (l : List UInt8) (hl : l.length ≤ 1000000000000) (b : Bool) (h : mayB l = b) (w : World) :
    Calls Tryd.prog 25 #[.string (bs l)] w fun e w' => e = .returned (.bool b) ∧ Below w.heap.size w w' := by
  rw [← h]; exact refMay_any l hl w

theorem joinL_take (q : List (List UInt8)) (k : Nat) (hk : 0 < k) (h : k < q.length) : joinL (q.take (k + 1)) = joinL (q.take k) ++ 47 :: q[k] := by
  rw [take_at q k h, joinL_snoc]
  intro e
  have h2 : (q.take k).length = k := by rw [List.length_take]; omega
  rw [e] at h2; simp at h2; omega
theorem joinL_take_len (l : List UInt8) (k : Nat) : (joinL ((splitL l).take k)).length ≤ l.length := by
  have h : ∀ q : List (List UInt8), ∀ k, (joinL (q.take k)).length ≤ (joinL q).length := by
    intro q
    induction q with
    | nil => intro k; simp [joinL]
    | cons p q ih =>
      intro k
      cases k with
      | zero => simp [joinL]
      | succ k =>
        cases q with
        | nil => simp [joinL]
        | cons p2 q =>
          cases k with
          | zero => simp [joinL]
          | succ k =>
            have := ih (k + 1)
            simp only [List.take_succ_cons, joinL, List.length_append, List.length_cons] at this ⊢
            omega
  have := h (splitL l) k
  rw [joinL_splitL] at this; exact this

set_option maxHeartbeats 1000000 in
set_option maxRecDepth 100000 in
theorem refDir_any (l : List UInt8) (hl : l.length ≤ 1000000000000) (w : World) :
    Calls Tryd.prog 38 #[.string (bs l)] w fun e w' => e = .returned (.string (bs (dirL l))) ∧ Below w.heap.size w w' := by
  have Hdd : Hid (dirL l = if mayB l = true ∧ (splitL l).length ≠ 1 then joinL (splitL l).dropLast else []) := hid rfl
  have hmem : ∀ k (h : k < (splitL l).length), (splitL l)[k].length ≤ 1000000000000 := fun k h => Nat.le_trans (le_mem h) hl
  have Hp := hid (parts_any l hl w)
  have hnl := splitL_len l
  have hjl := joinL_take_len l
  have hne := List.length_pos_iff.2 (splitL_ne l)
  unfold PartsPost at Hp
  obtain ⟨m, hmy⟩ : ∃ m, mayB l = m := ⟨_, rfl⟩
  have Hm := hid (refMay_is l hl m hmy)
  rw [hmy] at Hdd
  clear hmy
  generalize splitL l = ps at Hp Hdd hmem hnl hjl hne
  go_enter Tryd.func38, Tryd.ntmps38
  go_wp2_with fail
  refine Hp.out.mono ?_
  rintro e w1 ⟨v, rfl, hs, hb1⟩
  obtain ⟨-, a, c, hv, -⟩ := hs.str
  subst hv
  go_wp2_with fail
  refine (Hm.out _).mono ?_
  rintro e w2 ⟨rfl, hb2'⟩
  have hs2 := hs.below hb2' (Nat.le_refl _)
  have hb2 := Below.chain hb1 hb2'
  clear hb2' hb1 hs
  obtain ⟨-, a', c', hv, hc, hmx, hx⟩ := hs2.str
  obtain ⟨rfl, rfl⟩ : a = a' ∧ c = c' := by simpa using hv
  have Hx := hid hx; clear hx hv hs2
  unfold maxLen at hmx
  cases m with
  | false =>
    go_wp2_with fail
    go_ret
    exact ⟨by rw [Hdd.out, if_neg (by simp)]; rfl, hb2⟩
  | true =>
    by_cases h1 : ps.length = 1
    · have q1 : ((ps.length : Int) == 1) = true := eqT (by omega)
      go_wp2_with fail
      go_ret
      exact ⟨by rw [Hdd.out, if_neg (by simp [h1])]; rfl, hb2⟩
    · have q1 : ((ps.length : Int) == 1) = false := eqF (by omega)
      have Hd2 : Hid (dirL l = joinL (ps.take (ps.length - 1))) := by
        apply hid; rw [Hdd.out, if_pos ⟨rfl, h1⟩, List.dropLast_eq_take]
      obtain ⟨b0, o0, rfl, hb0, hcl0⟩ := Hx.out 0 hne
      have e0 := hcl0 0 hne
      rw [Nat.add_zero] at e0
      have Hx2 := hid hcl0
      clear hcl0 Hx
      go_wp2_with fail
      go_loop [4, 5] (fun o i => ∃ k : Nat, 1 ≤ k ∧ k ≤ ps.length - 1 ∧ i = .int .i64 k ∧ o = .string (bs (joinL (ps.take k)))) (fun _ i => ps.length - (intOf i).toNat)
      case atStart =>
        refine ⟨1, by omega, by omega, rfl, ?_⟩
        have : ps.take 1 = [ps[0]] := by
          have := take_at ps 0 hne
          simpa using this
        rw [this]; rfl
      case round =>
        obtain ⟨k, hk1, hk, rfl, rfl⟩ := hrel
        have hjk := hjl k
        by_cases hlt : k < ps.length - 1
        · have hlt' : k < ps.length := by omega
          have ek := Hx2.out k hlt'
          have hlk := hmem k hlt'
          have Hj := hid (joinL_take ps k (by omega) hlt')
          go_wp2_with fail
          refine ⟨⟨k + 1, by omega, by omega, by go_num, ?_⟩, by simp [intOf]; omega⟩
          rw [Hj.out]
        · have hkk : k = ps.length - 1 := by omega
          subst hkk
          go_wp2_with fail
          go_ret
          exact ⟨by rw [Hd2.out]; rfl, hb2⟩

theorem under_any_eq (s d : List UInt8) : underB s d = if d = [] then mayB s else (mayB s && mayB d && Lib.hasPrefix s (d ++ [47])) := by
  unfold underB
  cases d with
  | nil => simp
  | cons c d => simp [Bool.and_assoc]

set_option maxHeartbeats 1000000 in
set_option maxRecDepth 100000 in
theorem refUnder_any (d : List UInt8) (hd : d.length ≤ 1000000000000) (n : Nat) : ∀ (s : List UInt8), s.length = n → s.length ≤ 1000000000000 → ∀ (b : Bool), underB s d = b → ∀ (w : World),
    Calls Tryd.prog 26 #[.string (bs s), .string (bs d)] w fun e w' => e = .returned (.bool b) ∧ Below w.heap.size w w' := by
  induction n using Nat.strongRecOn with
  | ind n ih =>
  intro s hn hs b hb w
  have Hb := hid hb
  clear hb
  have Hdir := hid (refDir_any s hs)
  have Hlt := hid (dir_lt s)
  obtain ⟨m, hmy⟩ : ∃ m, mayB s = m := ⟨_, rfl⟩
  have Hm := hid (refMay_is s hs m hmy)
  have Hmy := hid hmy; clear hmy
  cases m with
  | false =>
    go_enter Tryd.func26, Tryd.ntmps26
    go_wp2_with fail
    refine (Hm.out _).mono ?_
    rintro e w1 ⟨rfl, hb1⟩
    go_wp2_with fail
    go_ret
    exact ⟨by rw [← Hb.out, underB, Hmy.out]; rfl, hb1⟩
  | true =>
    by_cases hd0 : d = []
    · subst hd0
      go_enter Tryd.func26, Tryd.ntmps26
      go_wp2_with fail
      refine (Hm.out _).mono ?_
      rintro e w1 ⟨rfl, hb1⟩
      go_wp2_with fail
      go_ret
      exact ⟨by rw [← Hb.out, underB, Hmy.out]; rfl, hb1⟩
    · have Hst : Hid (b = (!decide (dirL s = []) && (decide (dirL s = d) || underB (dirL s) d))) := by
        apply hid
        rw [← Hb.out, under_any_eq, under_any_eq, if_neg hd0, if_neg hd0, under_step s d hd0, Hmy.out]
        rfl
      generalize dirL s = up at Hdir Hst Hlt
      have q0 : (d == []) = false := by simpa using hd0
      have Hd0 := hid hd0; clear hd0
      by_cases hu0 : up = []
      · subst hu0
        go_enter Tryd.func26, Tryd.ntmps26
        go_wp2_with fail
        refine (Hm.out _).mono ?_
        rintro e w1 ⟨rfl, hb1⟩
        go_wp2_with fail
        refine (Hdir.out _).mono ?_
        rintro e w2 ⟨rfl, hb2⟩
        go_wp2_with fail
        go_ret
        exact ⟨by rw [Hst.out]; rfl, Below.chain hb1 hb2⟩
      · have hlt := Hlt.out hu0
        have q1 : (up == []) = false := by simpa using hu0
        have q2 : (up != []) = true := by simpa using hu0
        have Hu0 := hid hu0; clear hu0
        by_cases hud : up = d
        · subst hud
          go_enter Tryd.func26, Tryd.ntmps26
          go_wp2_with fail
          refine (Hm.out _).mono ?_
          rintro e w1 ⟨rfl, hb1⟩
          go_wp2_with fail
          refine (Hdir.out _).mono ?_
          rintro e w2 ⟨rfl, hb2⟩
          go_wp2_with fail
          go_ret
          have hbt : b = true := by rw [Hst.out, decide_eq_false Hu0.out]; simp
          exact ⟨by rw [hbt]; rfl, Below.chain hb1 hb2⟩
        · have q3 : (up == d) = false := by simpa using hud
          have Hud := hid hud; clear hud
          obtain ⟨u, hu⟩ : ∃ u, underB up d = u := ⟨_, rfl⟩
          have Hi := hid (ih up.length (by omega) up rfl (by omega) u hu)
          have Hu := hid hu; clear hu
          go_enter Tryd.func26, Tryd.ntmps26
          go_wp2_with fail
          refine (Hm.out _).mono ?_
          rintro e w1 ⟨rfl, hb1⟩
          go_wp2_with fail
          refine (Hdir.out _).mono ?_
          rintro e w2 ⟨rfl, hb2⟩
          go_wp2_with fail
          refine (Hi.out _).mono ?_
          rintro e w3 ⟨rfl, hb3⟩
          go_wp2_with fail
          go_ret
          exact ⟨by rw [Hst.out, decide_eq_false Hu0.out, decide_eq_false Hud.out, Hu.out]; cases u <;> rfl, Below.chain (Below.chain hb1 hb2) hb3⟩
theorem refUnder_is (s d : List UInt8) (hs : s.length ≤ 1000000000000) (hd : d.length ≤ 1000000000000) (b : Bool) (h : underB s d = b) (w : World) :
    Calls Tryd.prog 26 #[.string (bs s), .string (bs d)] w fun e w' => e = .returned (.bool b) ∧ Below w.heap.size w w' := refUnder_any d hd s.length s rfl hs b h w
end Go.Proofs.YtilkneajohpgiaaDoor
