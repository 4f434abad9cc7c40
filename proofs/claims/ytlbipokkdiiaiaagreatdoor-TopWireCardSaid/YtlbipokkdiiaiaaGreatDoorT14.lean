/- Lemmas for TopWire: PathPlain, TreePlain, Range. -/
import Derived.Test.YtlbipokkdiiaiaaGreatDoorT11
import Derived.Lib.Bytealg
import Derived.Shelf.GgClosure.StringsIndexFunc
import Derived.Lib.Strings
import Derived.RangeFuncNested
import Derived.RangeFuncBound
import Derived.RangeFuncCalls
import Derived.RangeFuncLeaves
import Derived.RangeFuncFrom
import Derived.Shelf.Abstract
import Derived.Shelf.RegionOpen
import Derived.OwnWalkIn
import Derived.TacticsInMore
import Derived.LoopNIn
import Derived.LoopIn
/- Plain words of paths: signs, parts, what may be a path. -/
namespace Go.Proofs.YtlbipokkdiiaiaaGreatDoor
open Go.RowKit
/-- May a part have this sign? (as a number: a rune, or a byte) -/
def signN (c : Nat) : Bool := (97 ≤ c && c ≤ 122) || (65 ≤ c && c ≤ 90) || (48 ≤ c && c ≤ 57) || c == 95 || c == 46 || c == 45 || c == 43
theorem signN_small {c : Nat} (h : signN c = true) : c < 128 := by
  simp only [signN, Bool.or_eq_true, Bool.and_eq_true, decide_eq_true_eq, beq_iff_eq] at h
  omega
def partB (l : List UInt8) : Bool := !l.isEmpty && decide (l.length ≤ 64) && !(l == [46]) && !(l == [46, 46]) && l.all fun b => signN b.toNat
/-- What stands between strokes. -/
def consHead (c : UInt8) : List (List UInt8) → List (List UInt8)
  | [] => [[c]]
  | p :: ps => (c :: p) :: ps
def splitL : List UInt8 → List (List UInt8)
  | [] => [[]]
  | c :: r => if c = 47 then [] :: splitL r else consHead c (splitL r)
theorem splitL_ne (l : List UInt8) : splitL l ≠ [] := by
  cases l with
  | nil => simp [splitL]
  | cons c r =>
    unfold splitL
    split
    · simp
    · cases splitL r <;> simp [consHead]
def mayB (l : List UInt8) : Bool := decide ((splitL l).length ≤ 16) && (splitL l).all partB
theorem indexByte_ge (l : List UInt8) (c : UInt8) : -1 ≤ Lib.indexByte l c := by
  induction l with
  | nil => simp [Lib.indexByte]
  | cons b l ih =>
    unfold Lib.indexByte
    split
    · omega
    · split <;> omega
theorem split_none (l : List UInt8) (h : Lib.indexByte l 47 < 0) : splitL l = [l] := by
  induction l with
  | nil => rfl
  | cons b l ih =>
    have hg := indexByte_ge l 47
    unfold Lib.indexByte at h
    by_cases hb : (b == 47) = true
    · rw [if_pos hb] at h; omega
    · rw [if_neg hb] at h
      have hi : Lib.indexByte l 47 < 0 := by
        by_cases h1 : (Lib.indexByte l 47 == -1) = true
        · have := eq_of_beq h1; omega
        · rw [if_neg h1] at h; omega
      unfold splitL
      rw [if_neg (by intro e; rw [e] at hb; simp at hb), ih hi]; rfl
theorem split_some (l : List UInt8) : ∀ i : Nat, Lib.indexByte l 47 = i → splitL l = l.take i :: splitL (l.drop (i + 1)) ∧ i < l.length := by
  induction l with
  | nil => intro i h; simp [Lib.indexByte] at h
  | cons b l ih =>
    intro i h
    have hg := indexByte_ge l 47
    unfold Lib.indexByte at h
    by_cases hb : (b == 47) = true
    · rw [if_pos hb] at h
      obtain rfl : i = 0 := by omega
      rw [eq_of_beq hb]
      refine ⟨?_, by simp⟩
      rw [splitL, if_pos rfl]; rfl
    · rw [if_neg hb] at h
      by_cases h1 : (Lib.indexByte l 47 == -1) = true
      · rw [if_pos h1] at h; omega
      · rw [if_neg h1] at h
        obtain ⟨j, hj⟩ : ∃ j : Nat, Lib.indexByte l 47 = j := by
          have : Lib.indexByte l 47 ≠ -1 := fun e => h1 (by rw [e]; rfl)
          exact ⟨(Lib.indexByte l 47).toNat, by omega⟩
        obtain ⟨h2, h3⟩ := ih j hj
        obtain rfl : i = j + 1 := by omega
        refine ⟨?_, by simp; omega⟩
        rw [splitL, if_neg (by intro e; rw [e] at hb; simp at hb), h2]; rfl
/-- The library's walk over runes meets no sign that may not be just if every byte is one that may. -/
theorem decode_small (s : ByteArray) (i : Nat) (h : (s.get! i).toNat < 128) : Utf8.decode s i = ((s.get! i).toNat, 1) := by
  unfold Utf8.decode; simp [h]
theorem decode_great (s : ByteArray) (i : Nat) (h : ¬ (s.get! i).toNat < 128) : 128 ≤ (Utf8.decode s i).1 := by
  unfold Utf8.decode
  simp only [Nat.add_zero]
  rw [if_neg h]
  split
  · split
    · simp; omega
    · simp [Utf8.runeError]
  · split
    · split
      · rename_i _ hc; simp at hc ⊢; omega
      · simp [Utf8.runeError]
    · split
      · split
        · rename_i _ hc; simp at hc ⊢; omega
        · simp [Utf8.runeError]
      · simp [Utf8.runeError]
theorem bs_get! (l : List UInt8) (k : Nat) (h : k < l.length) : (bs l).get! k = l[k] := by
  show (bs l).data[k]! = l[k]
  simp [bs, h]
theorem idx_sign (f : Nat) : ∀ (l : List UInt8) (pos : Nat), l.length ≤ pos + f → (0 ≤ Lib.idxFuncFrom (fun x => !signN x) true (bs l) f pos ↔ (l.drop pos).all (fun b => signN b.toNat) = false) := by
  induction f with
  | zero =>
    intro l pos h
    rw [List.drop_eq_nil_of_le (by omega)]
    simp [Lib.idxFuncFrom]
  | succ f ih =>
    intro l pos h
    unfold Lib.idxFuncFrom
    by_cases hp : pos < l.length
    · rw [if_pos (id hp : pos < (bs l).size), drop_at l pos hp, List.all_cons]
      have hg := bs_get! l pos hp
      by_cases hs : l[pos].toNat < 128
      · rw [decode_small _ _ (by rw [hg]; exact hs), hg]
        by_cases hsg : signN l[pos].toNat = true
        · rw [if_neg (by show ¬ (!signN l[pos].toNat) = true; rw [hsg]; simp), hsg, Bool.true_and]
          exact ih l (pos + 1) (by omega)
        · rw [Bool.not_eq_true] at hsg
          rw [if_pos (by rw [hsg]; rfl), hsg]
          simp
      · have hd := decode_great (bs l) pos (by rw [hg]; exact hs)
        have h1 : signN (Utf8.decode (bs l) pos).1 = false := by
          rw [← Bool.not_eq_true]; intro e; have := signN_small e; omega
        have h2 : signN l[pos].toNat = false := by
          rw [← Bool.not_eq_true]; intro e; have := signN_small e; omega
        rw [if_pos (by rw [h1]; rfl), h2]
        simp
    · rw [if_neg (id hp : ¬ pos < (bs l).size), List.drop_eq_nil_of_le (by omega)]; simp
theorem contains_sign (l : List UInt8) : decide (0 ≤ Lib.idxFunc (fun x => !signN x) true (bs l)) = !(l.all fun b => signN b.toNat) := by
  have h := idx_sign l.length l 0 (by omega)
  rw [List.drop_zero] at h
  unfold Lib.idxFunc
  rw [show (bs l).size = l.length from rfl]
  by_cases hb : (l.all fun b => signN b.toNat) = false
  · rw [hb, decide_eq_true (h.2 hb)]; rfl
  · rw [Bool.not_eq_false] at hb
    rw [hb, decide_eq_false (fun h' => by have := h.1 h'; rw [hb] at this; cases this)]; rfl
theorem splitL_snoc_sep (l : List UInt8) : splitL (l ++ [47]) = splitL l ++ [[]] := by
  induction l with
  | nil => rfl
  | cons c l ih =>
    show splitL (c :: (l ++ [47])) = _
    unfold splitL
    by_cases h : c = 47
    · rw [if_pos h, if_pos h, ih]; rfl
    · rw [if_neg h, if_neg h, ih]
      cases hs : splitL l with
      | nil => exact absurd hs (splitL_ne l)
      | cons p ps => rfl
theorem splitL_snoc (l : List UInt8) (c : UInt8) (hc : c ≠ 47) : ∃ init last, splitL l = init ++ [last] ∧ splitL (l ++ [c]) = init ++ [last ++ [c]] := by
  induction l with
  | nil => exact ⟨[], [], rfl, by show splitL [c] = _; unfold splitL; rw [if_neg hc]; rfl⟩
  | cons d l ih =>
    obtain ⟨init, last, h1, h2⟩ := ih
    show ∃ init last, splitL (d :: l) = init ++ [last] ∧ splitL (d :: (l ++ [c])) = init ++ [last ++ [c]]
    unfold splitL
    by_cases h : d = 47
    · exact ⟨[] :: init, last, by rw [if_pos h, h1]; rfl, by rw [if_pos h, h2]; rfl⟩
    · rw [if_neg h, if_neg h, h1, h2]
      cases init with
      | nil => exact ⟨[], d :: last, rfl, rfl⟩
      | cons p ps => exact ⟨(d :: p) :: ps, last, rfl, rfl⟩
theorem splitL_len (l : List UInt8) : (splitL l).length ≤ l.length + 1 := by
  induction l with
  | nil => simp [splitL]
  | cons c l ih =>
    unfold splitL
    split
    · simp; omega
    · cases hs : splitL l with
      | nil => simp [consHead]
      | cons p ps => rw [hs] at ih; simp [consHead] at ih ⊢; omega
theorem splitL_mem (l : List UInt8) : ∀ p ∈ splitL l, p.length ≤ l.length := by
  induction l with
  | nil => intro p hp; simp [splitL] at hp; subst hp; simp
  | cons c l ih =>
    intro p hp
    unfold splitL at hp
    split at hp
    · rcases List.mem_cons.1 hp with rfl | hp
      · simp
      · have := ih p hp; simp; omega
    · cases hs : splitL l with
      | nil => rw [hs] at hp; simp [consHead] at hp; subst hp; simp
      | cons q qs =>
        rw [hs] at hp ih
        simp only [consHead] at hp
        rcases List.mem_cons.1 hp with rfl | hp
        · have := ih q (by simp); simp; omega
        · have := ih p (by simp [hp]); simp; omega
/-! Joined again; directories; what is under which. -/
def joinL : List (List UInt8) → List UInt8
  | [] => []
  | [p] => p
  | p :: q :: r => p ++ 47 :: joinL (q :: r)
theorem joinL_snoc (q : List (List UInt8)) (x : List UInt8) (h : q ≠ []) : joinL (q ++ [x]) = joinL q ++ 47 :: x := by
  induction q with
  | nil => exact absurd rfl h
  | cons p q ih =>
    cases q with
    | nil => rfl
    | cons p2 q =>
      have := ih (by simp)
      show p ++ 47 :: joinL (p2 :: q ++ [x]) = (p ++ 47 :: joinL (p2 :: q)) ++ 47 :: x
      rw [this]; simp
theorem List.mem_of_mem_dropLast' {α} {a : α} {l : List α} (h : a ∈ l.dropLast) : a ∈ l := List.dropLast_sublist l |>.subset h
theorem splitL_cons (c : UInt8) (l : List UInt8) : splitL (c :: l) = if c = 47 then [] :: splitL l else consHead c (splitL l) := rfl
theorem splitL_app (a r : List UInt8) : splitL (a ++ 47 :: r) = splitL a ++ splitL r := by
  induction a with
  | nil => show splitL (47 :: r) = _; rw [splitL_cons, if_pos rfl]; rfl
  | cons c a ih =>
    show splitL (c :: (a ++ 47 :: r)) = _
    rw [splitL_cons c (a ++ 47 :: r), splitL_cons c a]
    by_cases h : c = 47
    · rw [if_pos h, if_pos h, ih]; rfl
    · rw [if_neg h, if_neg h, ih]
      cases hs : splitL a with
      | nil => exact absurd hs (splitL_ne a)
      | cons p ps => rfl
theorem joinL_splitL (l : List UInt8) : joinL (splitL l) = l := by
  induction l with
  | nil => rfl
  | cons c l ih =>
    unfold splitL
    by_cases h : c = 47
    · rw [if_pos h]
      cases hs : splitL l with
      | nil => exact absurd hs (splitL_ne l)
      | cons p ps => rw [hs] at ih; show [] ++ 47 :: joinL (p :: ps) = _; rw [ih, h]; rfl
    · rw [if_neg h]
      cases hs : splitL l with
      | nil => exact absurd hs (splitL_ne l)
      | cons p ps =>
        rw [hs] at ih
        cases ps with
        | nil => show c :: p = _; have : p = l := ih; rw [this]
        | cons q qs => show (c :: p) ++ 47 :: joinL (q :: qs) = _; have : p ++ 47 :: joinL (q :: qs) = l := ih; rw [← this]; rfl
theorem splitL_free (l : List UInt8) : ∀ p ∈ splitL l, (47 : UInt8) ∉ p := by
  induction l with
  | nil => intro p hp; simp [splitL] at hp; subst hp; simp
  | cons c l ih =>
    intro p hp
    unfold splitL at hp
    by_cases h : c = 47
    · rw [if_pos h] at hp
      rcases List.mem_cons.1 hp with rfl | hp
      · simp
      · exact ih p hp
    · rw [if_neg h] at hp
      cases hs : splitL l with
      | nil => exact absurd hs (splitL_ne l)
      | cons q qs =>
        rw [hs] at hp ih
        rcases List.mem_cons.1 hp with rfl | hp
        · have := ih q (by simp)
          simp only [List.mem_cons, not_or]
          exact ⟨fun e => h e.symm, this⟩
        · exact ih p (by simp [hp])
theorem splitL_one {p : List UInt8} (h : (47 : UInt8) ∉ p) : splitL p = [p] := by
  induction p with
  | nil => rfl
  | cons c p ih =>
    simp only [List.mem_cons, not_or] at h
    unfold splitL
    rw [if_neg (fun e => h.1 e.symm), ih h.2]; rfl
theorem splitL_joinL (q : List (List UInt8)) (h : q ≠ []) (hf : ∀ p ∈ q, (47 : UInt8) ∉ p) : splitL (joinL q) = q := by
  induction q with
  | nil => exact absurd rfl h
  | cons p q ih =>
    cases q with
    | nil => exact splitL_one (hf p (by simp))
    | cons p2 q =>
      show splitL (p ++ 47 :: joinL (p2 :: q)) = _
      rw [splitL_app, splitL_one (hf p (by simp)), ih (by simp) (fun x hx => hf x (by simp [hx]))]; rfl
/-- A path's directory. -/
def dirL (s : List UInt8) : List UInt8 := if mayB s = true ∧ (splitL s).length ≠ 1 then joinL (splitL s).dropLast else []
theorem dropLast_cut {q : List (List UInt8)} (h : q ≠ []) : q = q.dropLast ++ [q.getLast h] := (List.dropLast_concat_getLast h).symm
theorem dir_cut {s : List UInt8} (hm : mayB s = true) (h : (splitL s).length ≠ 1) : s = dirL s ++ 47 :: (splitL s).getLast (splitL_ne s) ∧ mayB (dirL s) = true ∧ (47 : UInt8) ∉ (splitL s).getLast (splitL_ne s) ∧ dirL s ≠ [] ∧ splitL (dirL s) = (splitL s).dropLast := by
  have hd : dirL s = joinL (splitL s).dropLast := by unfold dirL; rw [if_pos ⟨hm, h⟩]
  have hne := splitL_ne s
  have hpos : 0 < (splitL s).length := List.length_pos_iff.2 hne
  have hdl : (splitL s).dropLast ≠ [] := by intro e; have := congrArg List.length e; simp at this; omega
  have hfree := splitL_free s
  have hsp : splitL (dirL s) = (splitL s).dropLast := by
    rw [hd]; exact splitL_joinL _ hdl (fun p hp => hfree p (List.mem_of_mem_dropLast' hp))
  unfold mayB at hm
  simp only [Bool.and_eq_true, decide_eq_true_eq, List.all_eq_true] at hm
  refine ⟨?_, ?_, hfree _ (List.getLast_mem _), ?_, hsp⟩
  · conv => lhs; rw [← joinL_splitL s, dropLast_cut hne]
    rw [joinL_snoc _ _ hdl, hd]
  · unfold mayB
    rw [hsp]
    simp only [Bool.and_eq_true, decide_eq_true_eq, List.all_eq_true]
    exact ⟨by rw [List.length_dropLast]; omega, fun p hp => hm.2 p (List.mem_of_mem_dropLast' hp)⟩
  · intro e
    rw [e] at hsp
    have h1 : ([] : List UInt8) ∈ (splitL s).dropLast := by rw [← hsp]; simp [splitL]
    have := hm.2 [] (List.mem_of_mem_dropLast' h1)
    simp [partB] at this
theorem dir_none {s : List UInt8} (h : ¬ (mayB s = true ∧ (splitL s).length ≠ 1)) : dirL s = [] := by unfold dirL; rw [if_neg h]
theorem dir_lt (s : List UInt8) (h : dirL s ≠ []) : (dirL s).length < s.length := by
  by_cases hm : mayB s = true ∧ (splitL s).length ≠ 1
  · have := (dir_cut hm.1 hm.2).1
    have h2 := congrArg List.length this
    simp at h2; omega
  · exact absurd (dir_none hm) h
theorem prefix_iff (s p : List UInt8) : Lib.hasPrefix s p = true ↔ ∃ r, s = p ++ r := by
  rw [Lib.hasPrefix]
  simp
  exact ⟨fun ⟨r, h⟩ => ⟨r, h.symm⟩, fun ⟨r, h⟩ => ⟨r, h.symm⟩⟩
theorem path_of {s : List UInt8} (h : mayB s = true) : s ≠ [] := by
  intro e; subst e; simp [mayB, splitL, partB] at h
/-- What may be below a directory is so, if its directory is it, or is below it. -/
theorem under_step (s d : List UInt8) (hd : d ≠ []) : (mayB s && mayB d && Lib.hasPrefix s (d ++ [47])) = (mayB s && !decide (dirL s = []) && (decide (dirL s = d) || (mayB (dirL s) && mayB d && Lib.hasPrefix (dirL s) (d ++ [47])))) := by
  by_cases hm : mayB s = true
  · by_cases h1 : (splitL s).length ≠ 1
    · obtain ⟨hs, hmu, hfree, hne, -⟩ := dir_cut hm h1
      generalize (splitL s).getLast (splitL_ne s) = last at hs hfree
      generalize dirL s = up at hs hmu hne
      rw [hm, hmu, decide_eq_false hne]
      simp only [Bool.true_and, Bool.not_false]
      by_cases hud : up = d
      · subst hud
        rw [hmu, decide_eq_true rfl, (prefix_iff s (up ++ [47])).2 ⟨last, by rw [hs]; simp⟩]; rfl
      · rw [decide_eq_false hud, Bool.false_or]
        congr 1
        rw [Bool.eq_iff_iff, prefix_iff, prefix_iff]
        constructor
        · rintro ⟨r, hr⟩
          rw [hs] at hr
          have hr' : up ++ 47 :: last = d ++ 47 :: r := by rw [hr]; simp
          rcases List.append_eq_append_iff.1 hr' with ⟨c, h3, h4⟩ | ⟨c, h3, h4⟩
          · cases c with
            | nil => exact absurd (by simpa using h3.symm) hud
            | cons c0 c =>
              simp at h4
              exact absurd (by rw [h4.2]; simp) hfree
          · cases c with
            | nil => exact absurd (by simpa using h3) hud
            | cons c0 c =>
              simp at h4
              exact ⟨c, by rw [h3, ← h4.1]; simp⟩
        · rintro ⟨r, hr⟩
          exact ⟨r ++ 47 :: last, by rw [hs, hr]; simp⟩
    · have hdn := dir_none (s := s) (fun h => h1 h.2)
      rw [hdn, decide_eq_true rfl]
      simp only [Bool.not_true, Bool.and_false, Bool.false_and]
      cases hp : Lib.hasPrefix s (d ++ [47]) with
      | false => simp
      | true =>
        obtain ⟨r, hr⟩ := (prefix_iff _ _).1 hp
        have e : s = d ++ 47 :: r := by rw [hr]; simp
        have := congrArg List.length (splitL_app d r)
        rw [← e, List.length_append] at this
        have h3 := List.length_pos_iff.2 (splitL_ne d)
        have h4 := List.length_pos_iff.2 (splitL_ne r)
        omega
  · rw [Bool.eq_false_iff.2 hm]; rfl
end Go.Proofs.YtlbipokkdiiaiaaGreatDoor
/- Plain words of trees: files, why they are none. -/
namespace Go.Proofs.YtlbipokkdiiaiaaGreatDoor
open Go.RowKit
abbrev FileL := List UInt8 × List UInt8
def fileCells (fs : List FileL) : List Value := fs.flatMap fun f => [.string (bs f.1), .string (bs f.2)]
theorem fileCells_len (fs : List FileL) : (fileCells fs).length = fs.length * 2 := by
  induction fs with
  | nil => rfl
  | cons f fs ih => simp [fileCells] at ih ⊢; omega
theorem fileCells_get (fs : List FileL) : ∀ k (h : k < fs.length), (fileCells fs)[k * 2]? = some (.string (bs fs[k].1)) ∧ (fileCells fs)[k * 2 + 1]? = some (.string (bs fs[k].2)) := by
  induction fs with
  | nil => intro k h; simp at h
  | cons f fs ih =>
    intro k h
    have e : fileCells (f :: fs) = .string (bs f.1) :: .string (bs f.2) :: fileCells fs := rfl
    cases k with
    | zero => rw [e]; exact ⟨rfl, rfl⟩
    | succ k =>
      have := ih k (by simpa using h)
      rw [e, show (k + 1) * 2 = k * 2 + 1 + 1 by omega]
      simpa using this
theorem fileCells_append (a b : List FileL) : fileCells (a ++ b) = fileCells a ++ fileCells b := by simp [fileCells]
theorem fileCells_one (fs : List FileL) : ∀ u ∈ fileCells fs, u.oneCell' = true := by
  intro u hu
  simp only [fileCells, List.mem_flatMap] at hu
  obtain ⟨f, _, hu⟩ := hu
  simp at hu
  rcases hu with rfl | rfl <;> rfl
theorem SliceAt.files {w : World} {v : Value} {n : Nat} {fs : List FileL} (h : SliceAt w 2 v n (fileCells fs)) : n = fs.length ∧ ∃ a c, v = .slice a fs.length c ∧ fs.length ≤ c ∧ c ≤ maxLen ∧
    (∀ k, k < fs.length → ∃ b off, a = some ⟨b, off, none⟩ ∧ b < w.heap.size ∧ ∀ j (hj : j < fs.length), w.cell? ⟨b, off + j * 2, none⟩ = some (.string (bs fs[j].1)) ∧ w.cell? ⟨b, off + j * 2 + 1, none⟩ = some (.string (bs fs[j].2))) := by
  obtain ⟨hl, a, c, rfl, hc, hm, -, hx⟩ := h
  have hn : n = fs.length := by rw [fileCells_len] at hl; omega
  subst hn
  refine ⟨rfl, a, c, rfl, hc, hm, fun k hk => ?_⟩
  obtain ⟨b, off, rfl, hlt, hcell⟩ := hx (by intro e; have := fileCells_len fs; rw [e] at this; simp at this; omega)
  refine ⟨b, off, rfl, hlt, fun j hj => ?_⟩
  have hg := fileCells_get fs j hj
  exact ⟨hcell _ _ hg.1, by rw [Nat.add_assoc]; exact hcell _ _ hg.2⟩
/-- 'out' -/
def outL : List UInt8 := [111, 117, 116]
def underB (s dir : List UInt8) : Bool := mayB s && (dir.isEmpty || (mayB dir && Lib.hasPrefix s (dir ++ [47])))
def badName (p : List UInt8) : Bool := !mayB p || p == outL || underB p outL
def lookE (f : FileL) (ahead : List UInt8) (first : Bool) : Nat :=
  if badName f.1 = true then 7
  else if first = false ∧ (f.1 == ahead) = true then 8
  else if first = false ∧ Op.bytesLess f.1 ahead = true then 2
  else if 65536 < f.2.length then 6 else 0
def checkFrom (ahead : List UInt8) (first : Bool) : List FileL → Nat
  | [] => 0
  | f :: fs => if lookE f ahead first = 0 then checkFrom f.1 false fs else lookE f ahead first
def checkL (fs : List FileL) : Nat := if 1024 < fs.length then 6 else checkFrom [] true fs
def greatB (fs : List FileL) : Bool := decide (60 < fs.length) || fs.any fun f => decide (300 < f.1.length) || decide (300 < f.2.length)
theorem great_no {fs : List FileL} (h : greatB fs = false) : fs.length ≤ 60 ∧ ∀ f ∈ fs, f.1.length ≤ 300 ∧ f.2.length ≤ 300 := by
  simp only [greatB, Bool.or_eq_false_iff, decide_eq_false_iff_not, List.any_eq_false, Bool.or_eq_true, decide_eq_true_eq, not_or] at h
  exact ⟨by omega, fun f hf => by have := h.2 f hf; omega⟩
end Go.Proofs.YtlbipokkdiiaiaaGreatDoor
/- A range over a function whose iterator keeps its state in a captured cell (strings.SplitSeq): the law for the statement. Turned from the worked laws on iterators that read memory (RangeFuncFrom): here the loop's own invariant abides a store into the one block that is the iterator's state. -/
namespace Go.Proofs.YtlbipokkdiiaiaaGreatDoor
open Go.RowKit
variable {F : Fence} {n : Nat} {P : Program}
/-- The blocks from lo up to hi stand as they stood. -/
structure KeepsBlk (lo hi : Nat) (W W' : World) : Prop where
  size : W.heap.size ≤ W'.heap.size
  block : ∀ k, lo ≤ k → k < hi → W'.heap[k]? = W.heap[k]?
theorem KeepsBlk.refl (lo hi : Nat) (W : World) : KeepsBlk lo hi W W := ⟨Nat.le_refl _, fun _ _ _ => rfl⟩
theorem KeepsBlk.trans {lo hi : Nat} {A B C : World} (h : KeepsBlk lo hi A B) (k : KeepsBlk lo hi B C) : KeepsBlk lo hi A C :=
  ⟨Nat.le_trans h.size k.size, fun i a b => (k.block i a b).trans (h.block i a b)⟩
theorem KeepsBlk.below {lo hi B : Nat} {W W' : World} (h : Below B W W') (hB : hi ≤ B) : KeepsBlk lo hi W W' := ⟨h.size, fun k _ hk => h.block k (by omega)⟩
theorem KeepsBlk.setCell {lo hi : Nat} (W : World) (a : Addr) (v : Value) (h : a.block < lo ∨ hi ≤ a.block) : KeepsBlk lo hi W (W.setCell a v) :=
  ⟨by simp [World.setCell], fun k h1 h2 => Below.heap_setCell W a v k (by omega)⟩
theorem KeepsBlk.putObj {lo hi : Nat} (W : World) (l : Nat) (o : Obj) (h : hi ≤ l) : KeepsBlk lo hi W (W.putObj l o) :=
  ⟨by simp, fun _ _ h2 => World.putObj_heap_other (by omega)⟩
theorem KeepsBlk.cell {lo hi : Nat} {W W' : World} (h : KeepsBlk lo hi W W') {p : Addr} (h1 : lo ≤ p.block) (h2 : p.block < hi) : W'.cell? p = W.cell? p := World.cell?_of_block (w := W) (h.block _ h1 h2)
theorem KeepsBlk.frozen {lo hi : Nat} {W W' : World} (h : KeepsBlk lo hi W W') {p : Addr} (h1 : lo ≤ p.block) (h2 : p.block < hi) : W'.frozen? p = W.frozen? p := World.frozen?_of_block (w := W) (h.block _ h1 h2)
theorem keepsOthers_of_below {W W' : World} (h : Below W.heap.size W W') : KeepsOthers W W' :=
  ⟨h.size, fun k _ hk _ => (h.block k (Array.getElem?_eq_some_iff.1 hk).1).trans hk⟩
/-- what is said abides a store into block b. -/
def AbidesAt {β : Type} (b : Nat) (J : β → World → Prop) : Prop := ∀ s W v, J s W → J s (W.setCell ⟨b, 0, none⟩ v)
/-- THE ITERATOR's WORD: its state lies in block b. -/
def SeqSt {α : Type} (F : Fence) (n : Nat) (P : Program) (g : Nat) (lb : Array Value) (encs : α → Array Value) (Kp : World → World → Prop) (b : Nat) (S Sp : List α → Prop) (w : World) : Prop :=
  ∀ (l : Nat) (J Jx : List α → World → Prop) (W : World), Kp w W → AbidesFrom W.heap.size J → AbidesFrom W.heap.size Jx → AbidesAt b J → AbidesAt b Jx →
    (∀ pre x W1, J pre W1 → YieldAt F (n - 1) P l (encs x) W1 fun e W' =>
      (e = .returned (.bool true) ∧ J (pre ++ [x]) W' ∧ Kp W1 W') ∨ (e = .returned (.bool false) ∧ Jx (pre ++ [x]) W')) →
    J [] W →
    CallsIn F n P g (#[.func (.yield l) #[] #[]] ++ lb) W fun e W' => (∃ v, e = .returned v) ∧ ((∃ xs, S xs ∧ J xs W') ∨ (∃ pre, Sp pre ∧ Jx pre W'))
theorem wpIn_rangeFunc_st {α : Type} {g : Operand} {ps : Array Tmp} {assign body : Code} {Q : Exit → Act → World → Prop} {a : Act} {w : World}
    (hro : F.round = none) (h1 : 1 ≤ n) {gf : Nat} {lb : Array Value} (hg : a.eval g = .func (.func gf) #[] lb) (hFg : F.fn gf) (eg : ∀ args w, (callFunc gf args).run P w = .ok (.enter gf args) w)
    {encs : α → Array Value} {lo hi b : Nat} {S Sp : List α → Prop} (hseq : SeqSt F (n - 1) P gf lb encs (KeepsBlk lo hi) b S Sp w)
    (hhi : hi ≤ w.heap.size) (hb : b < w.heap.size) (hps : ∀ x, (encs x).size = ps.size)
    (I : List α → World → Prop) (Ix : Code → List α → World → Prop) (hI : OwnFrom w.heap.size I) (hIx : ∀ c, OwnFrom w.heap.size (Ix c)) (hIb : AbidesAt b I) (hIxb : ∀ c, AbidesAt b (Ix c)) (h0 : I [] w) (a₁ : α → Act)
    (hassign : ∀ (l : Nat) (x : α) (W : World) (K : Act → World → Prop), K (a₁ x) W →
      assign.wpIn (F.inRound l) (n - 1 - 1) P (Exit.then K (fun _ _ _ => False)) { tmps := (ps.zip (encs x)).foldl (fun t (p, v) => t.setIfInBounds p v) a.tmps, defers := [] } W)
    (hbody : ∀ (l : Nat) (pre : List α) (x : α) (W : World), I pre W → body.wpIn (F.inRound l) (n - 1 - 1) P (ownPostK (KeepsBlk lo hi) I Ix (pre ++ [x]) W) (a₁ x) W)
    (hdone : ∀ (D : Nat) (xs : List α) (W : World), w.heap.size ≤ D → S xs → I xs W → W.heap[D]? = some (.deferred (some [])) → Q .normal { a with defers := { target := .collected D, args := #[] } :: a.defers } W)
    (hstop : ∀ (D : Nat) (c : Code) (pre : List α) (W : World), w.heap.size ≤ D → Sp pre → Ix c pre W → W.heap[D]? = some (.deferred (some [])) → c.wpIn F n P Q { a with defers := { target := .collected D, args := #[] } :: a.defers } W) :
    (Code.rangeFunc g ps assign body).wpIn F n P Q a w := by
  refine wpIn_rangeFunc fun fn hfn => ?_
  rw [hro]
  -- the loop's record, in its states; the world behind the statement's own two blocks
  obtain ⟨rec, hrec⟩ : ∃ rec : LoopState → Option Code → Loop, rec = fun st pe => { state := st, pending := pe, fn, tmps := a.tmps, params := ps, assign, body, defers := w.heap.size } := ⟨_, rfl⟩
  obtain ⟨W1, hW1⟩ : ∃ W1, (w.alloc (.deferred (some []))).alloc (.loop (rec .ready none)) = W1 := ⟨_, rfl⟩
  have hbelow : Below w.heap.size w W1 := by rw [← hW1]; exact ((Below.refl _ w).alloc (Nat.le_refl _) _).alloc (by simp) _
  have hL1 : W1.heap[w.heap.size + 1]? = some (.loop (rec .ready none)) := by
    have := World.alloc_heap_new (w.alloc (.deferred (some []))) (.loop (rec .ready none))
    rw [World.size_alloc] at this
    rw [← hW1]; exact this
  have hD1 : W1.heap[w.heap.size]? = some (.deferred (some [])) := by
    rw [← hW1]; exact (Below.heap_alloc _ _ _ (by simp)).trans (World.alloc_heap_new w _)
  have hI1 : I [] W1 := by rw [← hW1]; exact hI.alloc _ (hI.alloc _ h0)
  have hsize1 : w.heap.size + 2 ≤ W1.heap.size := by rw [← hW1]; simp
  refine ⟨w.heap.size + 1, [{ target := .collected w.heap.size, args := #[] }], W1, { target := .fn (.func gf) lb, args := #[.func (.yield (w.heap.size + 1)) #[] #[]] }, W1, gf,
    #[.func (.yield (w.heap.size + 1)) #[] #[]] ++ lb, W1, ?_, ?_, ?_, ?_, fun _ => h1, ?_⟩
  · rw [← hW1, hrec]; exact run_enterLoop_outer _ _ _ _ _
  · simp only [resolve, hg]; simp [go_sem]
  · intro f' hf'; simp [Target.leads] at hf'; subst hf'; exact hFg
  · simp [invoke, go_sem, eg]
  have far : ∀ {A : World} {row : Option Nat}, (∀ r, row = some r → W1.heap.size ≤ r ∧ ∃ o : Obj, A.heap[r]? = some o ∧ o.isWalk = true) → ∀ r, row = some r → w.heap.size ≤ r ∧ ∃ o : Obj, A.heap[r]? = some o ∧ o.isCells = false :=
    fun hr r e => by obtain ⟨hB, o, ho, hw⟩ := hr r e; exact ⟨by omega, o, ho, Obj.not_cells_of_walk hw⟩
  have kept : ∀ {A B : World} {row : Option Nat} {k : Nat} {o : Obj}, A.grownBy B row → (∀ r, row = some r → W1.heap.size ≤ r ∧ ∃ o : Obj, A.heap[r]? = some o ∧ o.isWalk = true) → A.heap[k]? = some o → o.isWalk = false → B.heap[k]? = some o :=
    fun hg' hr hk ho => (grownBy_keeps hg' (fun r e => (hr r e).2) hk ho).trans hk
  have put : ∀ (W : World) (l : Nat) (o' : Obj), w.heap.size ≤ l → KeepsBlk lo hi W (W.putObj l o') := fun W l o' hl => KeepsBlk.putObj W l o' (by omega)
  refine (hseq (w.heap.size + 1)
    (fun pre W => I pre W ∧ W.heap[w.heap.size + 1]? = some (.loop (rec .ready none)) ∧ W.heap[w.heap.size]? = some (.deferred (some [])))
    (fun pre W => ∃ c, Ix c pre W ∧ W.heap[w.heap.size + 1]? = some (.loop (rec .done (some c))) ∧ W.heap[w.heap.size]? = some (.deferred (some [])))
    W1 (KeepsBlk.below hbelow hhi)
    (fun s A B row hs hg' hr => ⟨hI s A B row hs.1 hg' (far hr), kept hg' hr hs.2.1 rfl, kept hg' hr hs.2.2 rfl⟩)
    (fun s A B row hs hg' hr => by obtain ⟨c, hc, hl, hk⟩ := hs; exact ⟨c, hIx c s A B row hc hg' (far hr), kept hg' hr hl rfl, kept hg' hr hk rfl⟩)
    (fun s W v hs => ⟨hIb s W v hs.1, (Below.heap_setCell W _ v _ (by show _ ≠ b; omega)).trans hs.2.1, (Below.heap_setCell W _ v _ (by show _ ≠ b; omega)).trans hs.2.2⟩)
    (fun s W v hs => by obtain ⟨c, hc, hl, hk⟩ := hs; exact ⟨c, hIxb c s W v hc, (Below.heap_setCell W _ v _ (by show _ ≠ b; omega)).trans hl, (Below.heap_setCell W _ v _ (by show _ ≠ b; omega)).trans hk⟩)
    ?_ ⟨hI1, hL1, hD1⟩).mono ?_
  · -- one round
    rintro pre x W ⟨hi', hl, hk⟩
    have hlt : w.heap.size + 1 < W.heap.size := (Array.getElem?_eq_some_iff.1 hl).1
    have hy := run_yield (P := P) (args := encs x) hl (by rw [hrec]; exact hps x)
    rw [hrec] at hy
    refine ⟨fn, _, assign, body, hy, roundIn_of_wpIn hfn (hassign _ x W _ ⟨_, run_beginRound hl (by rw [hrec]), ?_⟩)⟩
    have hl2 : (W.putObj (w.heap.size + 1) (.loop { rec .ready none with state := .busy })).heap[w.heap.size + 1]? = some (.loop { rec .ready none with state := .busy }) := World.putObj_heap_same hlt
    have hk2 : (W.putObj (w.heap.size + 1) (.loop { rec .ready none with state := .busy })).heap[w.heap.size]? = some (.deferred (some [])) := (World.putObj_heap_other (by omega)).trans hk
    refine wpIn_mono (hbody _ pre x _ (hI.putObj _ hi' (by omega) hl rfl)) ?_
    -- how a round's end is booked
    have fin : ∀ (jump : Option Code) (W3 : World), KeepsOthers (W.putObj (w.heap.size + 1) (.loop { rec .ready none with state := .busy })) W3 →
        (Instr.endRound (w.heap.size + 1) jump).run P W3 = .ok (.bool jump.isNone) (W3.putObj (w.heap.size + 1) (.loop (rec (if jump.isNone then .ready else .done) jump))) ∧
        W3.heap[w.heap.size + 1]? = some (.loop { rec .ready none with state := .busy }) ∧
        (W3.putObj (w.heap.size + 1) (.loop (rec (if jump.isNone then .ready else .done) jump))).heap[w.heap.size + 1]? = some (.loop (rec (if jump.isNone then .ready else .done) jump)) ∧
        (W3.putObj (w.heap.size + 1) (.loop (rec (if jump.isNone then .ready else .done) jump))).heap[w.heap.size]? = some (.deferred (some [])) := by
      intro jump W3 hk3
      have hl3 := hk3.same _ _ hl2 rfl
      have hend := run_endRound (P := P) jump hl3
      rw [hrec] at hend ⊢
      exact ⟨hend, by rw [hrec] at hl3; exact hl3, World.putObj_heap_same (Array.getElem?_eq_some_iff.1 hl3).1, (World.putObj_heap_other (by omega)).trans (hk3.same _ _ hk2 rfl)⟩
    have leave : ∀ (c : Code) (W3 : World), KeepsOthers (W.putObj (w.heap.size + 1) (.loop { rec .ready none with state := .busy })) W3 → Ix c (pre ++ [x]) W3 →
        (Instr.endRound (w.heap.size + 1) (some c)).run P W3 = .ok (.bool false) (W3.putObj (w.heap.size + 1) (.loop (rec .done (some c)))) ∧
        (∃ c', Ix c' (pre ++ [x]) (W3.putObj (w.heap.size + 1) (.loop (rec .done (some c)))) ∧ (W3.putObj (w.heap.size + 1) (.loop (rec .done (some c)))).heap[w.heap.size + 1]? = some (.loop (rec .done (some c'))) ∧
          (W3.putObj (w.heap.size + 1) (.loop (rec .done (some c)))).heap[w.heap.size]? = some (.deferred (some []))) := by
      intro c W3 hk3 hx3
      obtain ⟨hr, hl3, hl4, hk4⟩ := fin (some c) W3 hk3
      exact ⟨hr, c, (hIx c).putObj _ hx3 (by omega) hl3 rfl, hl4, hk4⟩
    rintro e a3 W3 hp
    cases e with
    | normal =>
      obtain ⟨hk3, hkp3, hi3⟩ := hp
      obtain ⟨hr, hl3, hl4, hk4⟩ := fin none W3 hk3
      exact ⟨_, _, hr, .inl ⟨rfl, ⟨hI.putObj _ hi3 (by omega) hl3 rfl, hl4, hk4⟩, ((put W _ _ (by omega)).trans hkp3).trans (put W3 _ _ (by omega))⟩⟩
    | ret => obtain ⟨hr, hx⟩ := leave .ret W3 hp.1 hp.2; exact ⟨_, _, hr, .inr ⟨rfl, hx⟩⟩
    | exit id => obtain ⟨hr, hx⟩ := leave (.exit id) W3 hp.1 hp.2; exact ⟨_, _, hr, .inr ⟨rfl, hx⟩⟩
    | goto t => obtain ⟨hr, hx⟩ := leave (.goto t) W3 hp.1 hp.2; exact ⟨_, _, hr, .inr ⟨rfl, hx⟩⟩
    | panic ch => exact hp.elim
    | outgrown => exact hp.elim
  · -- behind the iterator
    rintro e W2 ⟨⟨v, rfl⟩, (⟨xs, hS, hi', hl, hk⟩ | ⟨pre, hSp, c, hi', hl, hk⟩)⟩
    · have hend := run_endLoop (P := P) hl (by rw [hrec]; simp)
      rw [hrec] at hend
      exact ⟨none, _, hend, hdone _ xs _ (Nat.le_refl _) hS (hI.putObj _ hi' (by omega) hl rfl) ((World.putObj_heap_other (by omega)).trans hk)⟩
    · have hend := run_endLoop (P := P) hl (by rw [hrec]; simp)
      rw [hrec] at hend
      exact ⟨some c, _, hend, hstop _ c pre _ (Nat.le_refl _) hSp ((hIx c).putObj _ hi' (by omega) hl rfl) ((World.putObj_heap_other (by omega)).trans hk)⟩
end Go.Proofs.YtlbipokkdiiaiaaGreatDoor
