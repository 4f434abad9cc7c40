/- Plain words of paths: signs, parts, what may be a path. -/
import Derived.Test.YtilkneajohpgiaaDoorBase
import Derived.Lib.Bytealg
import Derived.Shelf.GgClosure.StringsIndexFunc
namespace Go.Proofs.YtilkneajohpgiaaDoor
open Go.RowKit

/-- May a part have this sign? (as a number: a rune, or a byte) -/
def signN (c : Nat) : Bool := (97 ≤ c && c ≤ 122) || (65 ≤ c && c ≤ 90) || (48 ≤ c && c ≤ 57) || c == 95 || c == 46 || c == 45 || c == 43
theorem signN_small {c : Nat} (h : signN c = true) : c < 128 := by
  simp only [signN, Bool.or_eq_true, Bool.and_eq_true, decide_eq_true_eq, beq_iff_eq] at h
  omega
def partB (l : List UInt8) : Bool := !l.isEmpty && decide (l.length ≤ 64) && !(l == [46]) && !(l == [46, 46]) && l.all fun b => signN b.toNat
/-- What stands between strokes. -/
def consHead (c : UInt8) : List (List UInt8) → List (List UInt8)
  | [] => [[c]]
  | p :: ps => (c :: p) :: ps
def splitL : List UInt8 → List (List UInt8)
  | [] => [[]]
  | c :: r => if c = 47 then [] :: splitL r else consHead c (splitL r)
theorem splitL_ne (l : List UInt8) : splitL l ≠ [] := by
  cases l with
  | nil => simp [splitL]
  | cons c r =>
    unfold splitL
    split
    · simp
    · cases splitL r <;> simp [consHead]
def mayB (l : List UInt8) : Bool := decide ((splitL l).length ≤ 16) && (splitL l).all partB

theorem indexByte_ge (l : List UInt8) (c : UInt8) : -1 ≤ Lib.indexByte l c := by
  induction l with
  | nil => simp [Lib.indexByte]
  | cons b l ih =>
    unfold Lib.indexByte
    split
    · omega
    · split <;> omega
theorem split_none (l : List UInt8) (h : Lib.indexByte l 47 < 0) : splitL l = [l] := by
  induction l with
  | nil => rfl
  | cons b l ih =>
    have hg := indexByte_ge l 47
    unfold Lib.indexByte at h
    by_cases hb : (b == 47) = true
    · rw [if_pos hb] at h; omega
    · rw [if_neg hb] at h
      have hi : Lib.indexByte l 47 < 0 := by
        by_cases h1 : (Lib.indexByte l 47 == -1) = true
        · have := eq_of_beq h1; omega
        · rw [if_neg h1] at h; omega
      unfold splitL
      rw [if_neg (by intro e; rw [e] at hb; simp at hb), ih hi]; rfl
theorem split_some (l : List UInt8) : ∀ i : Nat, Lib.indexByte l 47 = i → splitL l = l.take i :: splitL (l.drop (i + 1)) ∧ i < l.length := by
  induction l with
  | nil => intro i h; simp [Lib.indexByte] at h
  | cons b l ih =>
    intro i h
    have hg := indexByte_ge l 47
    unfold Lib.indexByte at h
    by_cases hb : (b == 47) = true
    · rw [if_pos hb] at h
      obtain rfl : i = 0 := by omega
      rw [eq_of_beq hb]
      refine ⟨?_, by simp⟩
      rw [splitL, if_pos rfl]; rfl
    · rw [if_neg hb] at h
      by_cases h1 : (Lib.indexByte l 47 == -1) = true
      · rw [if_pos h1] at h; omega
      · rw [if_neg h1] at h
        obtain ⟨j, hj⟩ : ∃ j : Nat, Lib.indexByte l 47 = j := by
          have : Lib.indexByte l 47 ≠ -1 := fun e => h1 (by rw [e]; rfl)
          exact ⟨(Lib.indexByte l 47).toNat, by omega⟩
        obtain ⟨h2, h3⟩ := ih j hj
        obtain rfl : i = j + 1 := by omega
        refine ⟨?_, by simp; omega⟩
        rw [splitL, if_neg (by intro e; rw [e] at hb; simp at hb), h2]; rfl

/-- The library's walk over runes meets no sign that may not be just if every byte is one that may. -/
theorem decode_small (s : ByteArray) (i : Nat) (h : (s.get! i).toNat < 128) : Utf8.decode s i = ((s.get! i).toNat, 1) := by
  unfold Utf8.decode; simp [h]
theorem decode_great (s : ByteArray) (i : Nat) (h : ¬ (s.get! i).toNat < 128) : 128 ≤ (Utf8.decode s i).1 := by
  unfold Utf8.decode
  simp only [Nat.add_zero]
  rw [if_neg h]
  split
  · split
    · simp; omega
    · simp [Utf8.runeError]
  · split
    · split
      · rename_i _ hc; simp at hc ⊢; omega
      · simp [Utf8.runeError]
    · split
      · split
        · rename_i _ hc; simp at hc ⊢; omega
        · simp [Utf8.runeError]
      · simp [Utf8.runeError]

theorem bs_get! (l : List UInt8) (k : Nat) (h : k < l.length) : (bs l).get! k = l[k] := by
  show (bs l).data[k]! = l[k]
  simp [bs, h]
theorem idx_sign (f : Nat) : ∀ (l : List UInt8) (pos : Nat), l.length ≤ pos + f → (0 ≤ Lib.idxFuncFrom (fun x => !signN x) true (bs l) f pos ↔ (l.drop pos).all (fun b => signN b.toNat) = false) := by
  induction f with
  | zero =>
    intro l pos h
    rw [List.drop_eq_nil_of_le (by omega)]
    simp [Lib.idxFuncFrom]
  | succ f ih =>
    intro l pos h
    unfold Lib.idxFuncFrom
    by_cases hp : pos < l.length
    · rw [if_pos (id hp : pos < (bs l).size), drop_at l pos hp, List.all_cons]
      have hg := bs_get! l pos hp
      by_cases hs : l[pos].toNat < 128
      · rw [decode_small _ _ (by rw [hg]; exact hs), hg]
        by_cases hsg : signN l[pos].toNat = true
        · rw [if_neg (by show ¬ (!signN l[pos].toNat) = true; rw [hsg]; simp), hsg, Bool.true_and]
          exact ih l (pos + 1) (by omega)
        · rw [Bool.not_eq_true] at hsg
          rw [if_pos (by rw [hsg]; rfl), hsg]
          simp
      · have hd := decode_great (bs l) pos (by rw [hg]; exact hs)
        have h1 : signN (Utf8.decode (bs l) pos).1 = false := by
          rw [← Bool.not_eq_true]; intro e; have := signN_small e; omega
        have h2 : signN l[pos].toNat = false := by
          rw [← Bool.not_eq_true]; intro e; have := signN_small e; omega
        rw [if_pos (by rw [h1]; rfl), h2]
        simp
    · rw [if_neg (id hp : ¬ pos < (bs l).size), List.drop_eq_nil_of_le (by omega)]; simp
theorem contains_sign (l : List UInt8) : decide (0 ≤ Lib.idxFunc (fun x => !signN x) true (bs l)) = !(l.all fun b => signN b.toNat) := by
  have h := idx_sign l.length l 0 (by omega)
  rw [List.drop_zero] at h
  unfold Lib.idxFunc
  rw [show (bs l).size = l.length from rfl]
  by_cases hb : (l.all fun b => signN b.toNat) = false
  · rw [hb, decide_eq_true (h.2 hb)]; rfl
  · rw [Bool.not_eq_false] at hb
    rw [hb, decide_eq_false (fun h' => by have := h.1 h'; rw [hb] at this; cases this)]; rfl

theorem splitL_snoc_sep (l : List UInt8) : splitL (l ++ [47]) = splitL l ++ [[]] := by
  induction l with
  | nil => rfl
  | cons c l ih =>
    show splitL (c :: (l ++ [47])) = _
    unfold splitL
    by_cases h : c = 47
    · rw [if_pos h, if_pos h, ih]; rfl
    · rw [if_neg h, if_neg h, ih]
      cases hs : splitL l with
      | nil => exact absurd hs (splitL_ne l)
      | cons p ps => rfl
theorem splitL_snoc (l : List UInt8) (c : UInt8) (hc : c ≠ 47) : ∃ init last, splitL l = init ++ [last] ∧ splitL (l ++ [c]) = init ++ [last ++ [c]] := by
  induction l with
  | nil => exact ⟨[], [], rfl, by show splitL [c] = _; unfold splitL; rw [if_neg hc]; rfl⟩
  | cons d l ih =>
    obtain ⟨init, last, h1, h2⟩ := ih
    show ∃ init last, splitL (d :: l) = init ++ [last] ∧ splitL (d :: (l ++ [c])) = init ++ [last ++ [c]]
    unfold splitL
    by_cases h : d = 47
    · exact ⟨[] :: init, last, by rw [if_pos h, h1]; rfl, by rw [if_pos h, h2]; rfl⟩
    · rw [if_neg h, if_neg h, h1, h2]
      cases init with
      | nil => exact ⟨[], d :: last, rfl, rfl⟩
      | cons p ps => exact ⟨(d :: p) :: ps, last, rfl, rfl⟩
theorem splitL_len (l : List UInt8) : (splitL l).length ≤ l.length + 1 := by
  induction l with
  | nil => simp [splitL]
  | cons c l ih =>
    unfold splitL
    split
    · simp; omega
    · cases hs : splitL l with
      | nil => simp [consHead]
      | cons p ps => rw [hs] at ih; simp [consHead] at ih ⊢; omega
theorem splitL_mem (l : List UInt8) : ∀ p ∈ splitL l, p.length ≤ l.length := by
  induction l with
  | nil => intro p hp; simp [splitL] at hp; subst hp; simp
  | cons c l ih =>
    intro p hp
    unfold splitL at hp
    split at hp
    · rcases List.mem_cons.1 hp with rfl | hp
      · simp
      · have := ih p hp; simp; omega
    · cases hs : splitL l with
      | nil => rw [hs] at hp; simp [consHead] at hp; subst hp; simp
      | cons q qs =>
        rw [hs] at hp ih
        simp only [consHead] at hp
        rcases List.mem_cons.1 hp with rfl | hp
        · have := ih q (by simp); simp; omega
        · have := ih p (by simp [hp]); simp; omega

/-! Joined again; directories; what is under which. -/
def joinL : List (List UInt8) → List UInt8
  | [] => []
  | [p] => p
  | p :: q :: r => p ++ 47 :: joinL (q :: r)
theorem joinL_snoc (q : List (List UInt8)) (x : List UInt8) (h : q ≠ []) : joinL (q ++ [x]) = joinL q ++ 47 :: x := by
  induction q with
  | nil => exact absurd rfl h
  | cons p q ih =>
    cases q with
    | nil => rfl
    | cons p2 q =>
      have := ih (by simp)
      show p ++ 47 :: joinL (p2 :: q ++ [x]) = (p ++ 47 :: joinL (p2 :: q)) ++ 47 :: x
      rw [this]; simp
theorem List.mem_of_mem_dropLast' {α} {a : α} {l : List α} (h : a ∈ l.dropLast) : a ∈ l := List.dropLast_sublist l |>.subset h
theorem splitL_cons (c : UInt8) (l : List UInt8) : splitL (c :: l) = if c = 47 then [] :: splitL l else consHead c (splitL l) := rfl
theorem splitL_app (a r : List UInt8) : splitL (a ++ 47 :: r) = splitL a ++ splitL r := by
  induction a with
  | nil => show splitL (47 :: r) = _; rw [splitL_cons, if_pos rfl]; rfl
  | cons c a ih =>
    show splitL (c :: (a ++ 47 :: r)) = _
    rw [splitL_cons c (a ++ 47 :: r), splitL_cons c a]
    by_cases h : c = 47
    · rw [if_pos h, if_pos h, ih]; rfl
    · rw [if_neg h, if_neg h, ih]
      cases hs : splitL a with
      | nil => exact absurd hs (splitL_ne a)
      | cons p ps => rfl
theorem joinL_splitL (l : List UInt8) : joinL (splitL l) = l := by
  induction l with
  | nil => rfl
  | cons c l ih =>
    unfold splitL
    by_cases h : c = 47
    · rw [if_pos h]
      cases hs : splitL l with
      | nil => exact absurd hs (splitL_ne l)
      | cons p ps => rw [hs] at ih; show [] ++ 47 :: joinL (p :: ps) = _; rw [ih, h]; rfl
    · rw [if_neg h]
      cases hs : splitL l with
      | nil => exact absurd hs (splitL_ne l)
      | cons p ps =>
        rw [hs] at ih
        cases ps with
        | nil => show c :: p = _; have : p = l := ih; rw [this]
        | cons q qs => show (c :: p) ++ 47 :: joinL (q :: qs) = _; have : p ++ 47 :: joinL (q :: qs) = l := ih; rw [← this]; rfl
theorem splitL_free (l : List UInt8) : ∀ p ∈ splitL l, (47 : UInt8) ∉ p := by
  induction l with
  | nil => intro p hp; simp [splitL] at hp; subst hp; simp
  | cons c l ih =>
    intro p hp
    unfold splitL at hp
    by_cases h : c = 47
    · rw [if_pos h] at hp
      rcases List.mem_cons.1 hp with rfl | hp
      · simp
      · exact ih p hp
    · rw [if_neg h] at hp
      cases hs : splitL l with
      | nil => exact absurd hs (splitL_ne l)
      | cons q qs =>
        rw [hs] at hp ih
        rcases List.mem_cons.1 hp with rfl | hp
        · have := ih q (by simp)
          simp only [List.mem_cons, not_or]
          exact ⟨fun e => h e.symm, this⟩
        · exact ih p (by simp [hp])
theorem splitL_one {p : List UInt8} (h : (47 : UInt8) ∉ p) : splitL p = [p] := by
  induction p with
  | nil => rfl
  | cons c p ih =>
    simp only [List.mem_cons, not_or] at h
    unfold splitL
    rw [if_neg (fun e => h.1 e.symm), ih h.2]; rfl
theorem splitL_joinL (q : List (List UInt8)) (h : q ≠ []) (hf : ∀ p ∈ q, (47 : UInt8) ∉ p) : splitL (joinL q) = q := by
  induction q with
  | nil => exact absurd rfl h
  | cons p q ih =>
    cases q with
    | nil => exact splitL_one (hf p (by simp))
    | cons p2 q =>
      show splitL (p ++ 47 :: joinL (p2 :: q)) = _
      rw [splitL_app, splitL_one (hf p (by simp)), ih (by simp) (fun x hx => hf x (by simp [hx]))]; rfl

/-- A path's directory. -/
def dirL (s : List UInt8) : List UInt8 := if mayB s = true ∧ (splitL s).length ≠ 1 then joinL (splitL s).dropLast else []
theorem dropLast_cut {q : List (List UInt8)} (h : q ≠ []) : q = q.dropLast ++ [q.getLast h] := (List.dropLast_concat_getLast h).symm
theorem dir_cut {s : List UInt8} (hm : mayB s = true) (h : (splitL s).length ≠ 1) : s = dirL s ++ 47 :: (splitL s).getLast (splitL_ne s) ∧ mayB (dirL s) = true ∧ (47 : UInt8) ∉ (splitL s).getLast (splitL_ne s) ∧ dirL s ≠ [] ∧ splitL (dirL s) = (splitL s).dropLast := by
  have hd : dirL s = joinL (splitL s).dropLast := by unfold dirL; rw [if_pos ⟨hm, h⟩]
  have hne := splitL_ne s
  have hpos : 0 < (splitL s).length := List.length_pos_iff.2 hne
  have hdl : (splitL s).dropLast ≠ [] := by intro e; have := congrArg List.length e; simp at this; omega
  have hfree := splitL_free s
  have hsp : splitL (dirL s) = (splitL s).dropLast := by
    rw [hd]; exact splitL_joinL _ hdl (fun p hp => hfree p (List.mem_of_mem_dropLast' hp))
  unfold mayB at hm
  simp only [Bool.and_eq_true, decide_eq_true_eq, List.all_eq_true] at hm
  refine ⟨?_, ?_, hfree _ (List.getLast_mem _), ?_, hsp⟩
  · conv => lhs; rw [← joinL_splitL s, dropLast_cut hne]
    rw [joinL_snoc _ _ hdl, hd]
  · unfold mayB
    rw [hsp]
    simp only [Bool.and_eq_true, decide_eq_true_eq, List.all_eq_true]
    exact ⟨by rw [List.length_dropLast]; omega, fun p hp => hm.2 p (List.mem_of_mem_dropLast' hp)⟩
  · intro e
    rw [e] at hsp
    have h1 : ([] : List UInt8) ∈ (splitL s).dropLast := by rw [← hsp]; simp [splitL]
    have := hm.2 [] (List.mem_of_mem_dropLast' h1)
    simp [partB] at this
theorem dir_none {s : List UInt8} (h : ¬ (mayB s = true ∧ (splitL s).length ≠ 1)) : dirL s = [] := by unfold dirL; rw [if_neg h]
theorem dir_lt (s : List UInt8) (h : dirL s ≠ []) : (dirL s).length < s.length := by
  by_cases hm : mayB s = true ∧ (splitL s).length ≠ 1
  · have := (dir_cut hm.1 hm.2).1
    have h2 := congrArg List.length this
    simp at h2; omega
  · exact absurd (dir_none hm) h

theorem prefix_iff (s p : List UInt8) : Lib.hasPrefix s p = true ↔ ∃ r, s = p ++ r := by
  rw [Lib.hasPrefix]
  simp
  exact ⟨fun ⟨r, h⟩ => ⟨r, h.symm⟩, fun ⟨r, h⟩ => ⟨r, h.symm⟩⟩
theorem path_of {s : List UInt8} (h : mayB s = true) : s ≠ [] := by
  intro e; subst e; simp [mayB, splitL, partB] at h
/-- What may be below a directory is so, if its directory is it, or is below it. -/
theorem under_step (s d : List UInt8) (hd : d ≠ []) : (mayB s && mayB d && Lib.hasPrefix s (d ++ [47])) = (mayB s && !decide (dirL s = []) && (decide (dirL s = d) || (mayB (dirL s) && mayB d && Lib.hasPrefix (dirL s) (d ++ [47])))) := by
  by_cases hm : mayB s = true
  · by_cases h1 : (splitL s).length ≠ 1
    · obtain ⟨hs, hmu, hfree, hne, -⟩ := dir_cut hm h1
      generalize (splitL s).getLast (splitL_ne s) = last at hs hfree
      generalize dirL s = up at hs hmu hne
      rw [hm, hmu, decide_eq_false hne]
      simp only [Bool.true_and, Bool.not_false]
      by_cases hud : up = d
      · subst hud
        rw [hmu, decide_eq_true rfl, (prefix_iff s (up ++ [47])).2 ⟨last, by rw [hs]; simp⟩]; rfl
      · rw [decide_eq_false hud, Bool.false_or]
        congr 1
        rw [Bool.eq_iff_iff, prefix_iff, prefix_iff]
        constructor
        · rintro ⟨r, hr⟩
          rw [hs] at hr
          have hr' : up ++ 47 :: last = d ++ 47 :: r := by rw [hr]; simp
          rcases List.append_eq_append_iff.1 hr' with ⟨c, h3, h4⟩ | ⟨c, h3, h4⟩
          · cases c with
            | nil => exact absurd (by simpa using h3.symm) hud
            | cons c0 c =>
              simp at h4
              exact absurd (by rw [h4.2]; simp) hfree
          · cases c with
            | nil => exact absurd (by simpa using h3) hud
            | cons c0 c =>
              simp at h4
              exact ⟨c, by rw [h3, ← h4.1]; simp⟩
        · rintro ⟨r, hr⟩
          exact ⟨r ++ 47 :: last, by rw [hs, hr]; simp⟩
    · have hdn := dir_none (s := s) (fun h => h1 h.2)
      rw [hdn, decide_eq_true rfl]
      simp only [Bool.not_true, Bool.and_false, Bool.false_and]
      cases hp : Lib.hasPrefix s (d ++ [47]) with
      | false => simp
      | true =>
        obtain ⟨r, hr⟩ := (prefix_iff _ _).1 hp
        have e : s = d ++ 47 :: r := by rw [hr]; simp
        have := congrArg List.length (splitL_app d r)
        rw [← e, List.length_append] at this
        have h3 := List.length_pos_iff.2 (splitL_ne d)
        have h4 := List.length_pos_iff.2 (splitL_ne r)
        omega
  · rw [Bool.eq_false_iff.2 hm]; rfl
end Go.Proofs.YtilkneajohpgiaaDoor
