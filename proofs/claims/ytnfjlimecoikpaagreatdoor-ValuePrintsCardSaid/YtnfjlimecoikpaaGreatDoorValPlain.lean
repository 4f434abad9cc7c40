/- Plain words of values: how many there are, how deep, what may be, texts, bytes. -/
import Derived.Test.YtnfjlimecoikpaaGreatDoorLess
import Derived.Test.YtnfjlimecoikpaaGreatDoorPackPlain
import Derived.Test.YtnfjlimecoikpaaGreatDoorNumPlain
import Derived.Test.YtnfjlimecoikpaaGreatDoorLexPlain
namespace Go.Proofs.YtnfjlimecoikpaaGreatDoor
open Go.RowKit

/-- A value in memory: its kind, number, text, its two slices' heads, what they hold. -/
inductive VM where
  | mk (k n : Int) (s : List UInt8) (lv kv : Value) (l : List VM) (ks : List (List UInt8))
def VM.cells : VM → List Value
  | .mk k n s lv kv _ _ => [.int .i64 k, .int .i64 n, .string (bs s), lv, kv]
theorem VM.cells_len (v : VM) : v.cells.length = 5 := by cases v; rfl
def vmCells (l : List VM) : List Value := l.flatMap VM.cells
theorem vmCells_len (l : List VM) : (vmCells l).length = l.length * 5 := by
  induction l with
  | nil => rfl
  | cons v l ih =>
    show (v.cells ++ vmCells l).length = _
    rw [List.length_append, v.cells_len, ih, List.length_cons]; omega
mutual
/-- How many values. -/
def cnt : VM → Nat
  | .mk _ _ _ _ _ l _ => 1 + cntL l
def cntL : List VM → Nat
  | [] => 0
  | v :: r => cnt v + cntL r
end
mutual
/-- How deep. -/
def dep : VM → Nat
  | .mk _ _ _ _ _ l _ => 1 + depL l
def depL : List VM → Nat
  | [] => 0
  | v :: r => max (dep v) (depL r)
end
/-- Keys that rise, none too long. -/
def riseB : List (List UInt8) → Bool
  | [] => true
  | [a] => decide (a.length ≤ 65536)
  | a :: b :: r => decide (a.length ≤ 65536) && less a b && riseB (b :: r)
/-- May a value be, but for what is in it? -/
def nodeB (k n : Int) (s : List UInt8) (m : Nat) (ks : List (List UInt8)) : Bool :=
  if k = 0 then decide (n = 0) && s.isEmpty && m == 0 && ks.isEmpty
  else if k = 1 then (decide (n = 0) || decide (n = 1)) && s.isEmpty && m == 0 && ks.isEmpty
  else if k = 2 then s.isEmpty && m == 0 && ks.isEmpty
  else if k = 3 then decide (n = 0) && decide (s.length ≤ 65536) && m == 0 && ks.isEmpty
  else if k = 4 then decide (n = 0) && s.isEmpty && decide (m ≤ 1000) && ks.isEmpty
  else if k = 5 then decide (n = 0) && s.isEmpty && decide (m ≤ 1000) && (m == ks.length && riseB ks)
  else false
mutual
def nodesB : VM → Bool
  | .mk k n s _ _ l ks => nodesL l && nodeB k n s l.length ks
def nodesL : List VM → Bool
  | [] => true
  | v :: r => nodesB v && nodesL r
end
/-- May a value be? -/
def okB (v : VM) : Bool := decide (cnt v ≤ 20000) && decide (dep v ≤ 60) && nodesB v
theorem cnt_pos (v : VM) : 1 ≤ cnt v := by cases v; simp [cnt]
theorem dep_pos (v : VM) : 1 ≤ dep v := by cases v; simp [dep]
mutual
/-- The program's way: so deep, so many left; how many are left behind it. -/
def mayR : VM → Nat → Nat → Option Nat
  | .mk k n s _ _ l ks, d, m => if 60 < d ∨ m = 0 then none else if nodeB k n s l.length ks = false then none else mayL l (d + 1) (m - 1)
def mayL : List VM → Nat → Nat → Option Nat
  | [], _, m => some m
  | v :: r, d, m => match mayR v d m with
    | none => none
    | some m' => mayL r d m'
end
mutual
theorem mayR_is : ∀ (v : VM) (d m : Nat), mayR v d m = if dep v + d ≤ 61 ∧ cnt v ≤ m ∧ nodesB v = true then some (m - cnt v) else none
  | .mk k n s lv kv l ks, d, m => by
    unfold mayR
    by_cases h0 : 60 < d ∨ m = 0
    · rw [if_pos h0, if_neg]
      have h1 := dep_pos (.mk k n s lv kv l ks)
      have h2 := cnt_pos (.mk k n s lv kv l ks)
      omega
    · rw [if_neg h0]
      cases hb : nodeB k n s l.length ks with
      | false =>
        rw [if_pos rfl, if_neg]
        intro h
        have := h.2.2
        unfold nodesB at this
        rw [hb] at this; simp at this
      | true =>
        rw [if_neg (by simp), mayL_is l (d + 1) (m - 1)]
        have hn : nodesB (.mk k n s lv kv l ks) = nodesL l := by unfold nodesB; rw [hb, Bool.and_true]
        have hd : dep (.mk k n s lv kv l ks) = 1 + depL l := by simp [dep]
        have hc : cnt (.mk k n s lv kv l ks) = 1 + cntL l := by simp [cnt]
        rw [hn, hd, hc]
        by_cases h : (l = [] ∨ depL l + (d + 1) ≤ 61) ∧ cntL l ≤ m - 1 ∧ nodesL l = true
        · rw [if_pos h]
          have h3 : 1 + depL l + d ≤ 61 := by
            rcases h.1 with rfl | h1
            · simp [depL]; omega
            · omega
          rw [if_pos ⟨h3, by omega, h.2.2⟩]
          congr 1; omega
        · rw [if_neg h, if_neg]
          rintro ⟨h1, h2, h3⟩
          exact h ⟨.inr (by omega), by omega, h3⟩
theorem mayL_is : ∀ (l : List VM) (d m : Nat), mayL l d m = if (l = [] ∨ depL l + d ≤ 61) ∧ cntL l ≤ m ∧ nodesL l = true then some (m - cntL l) else none
  | [], d, m => by simp [mayL, cntL, nodesL]
  | v :: r, d, m => by
    unfold mayL
    rw [mayR_is v d m]
    have hdv := dep_pos v
    by_cases h : dep v + d ≤ 61 ∧ cnt v ≤ m ∧ nodesB v = true
    · rw [if_pos h]
      simp only
      rw [mayL_is r d (m - cnt v)]
      have hn : nodesL (v :: r) = nodesL r := by simp [nodesL, h.2.2]
      have hc : cntL (v :: r) = cnt v + cntL r := by simp [cntL]
      have hd : depL (v :: r) = max (dep v) (depL r) := by simp [depL]
      rw [hn, hc, hd]
      by_cases h2 : (r = [] ∨ depL r + d ≤ 61) ∧ cntL r ≤ m - cnt v ∧ nodesL r = true
      · rw [if_pos h2]
        have h4 : depL r + d ≤ 61 := by
          rcases h2.1 with rfl | h1
          · simp [depL]; omega
          · exact h1
        rw [if_pos ⟨.inr (by omega), by omega, h2.2.2⟩]
        congr 1; omega
      · rw [if_neg h2, if_neg]
        rintro ⟨h1, h3, h4⟩
        refine h2 ⟨.inr ?_, by omega, h4⟩
        rcases h1 with h1 | h1
        · cases h1
        · omega
    · rw [if_neg h, if_neg]
      rintro ⟨h1, h2, h3⟩
      have hn : nodesL (v :: r) = (nodesB v && nodesL r) := by simp [nodesL]
      have hc : cntL (v :: r) = cnt v + cntL r := by simp [cntL]
      have hd : depL (v :: r) = max (dep v) (depL r) := by simp [depL]
      rw [hn, Bool.and_eq_true] at h3
      rw [hc] at h2
      rw [hd] at h1
      refine h ⟨?_, by omega, h3.1⟩
      rcases h1 with h1 | h1
      · cases h1
      · omega
end
theorem may_ok (v : VM) : (mayR v 1 20000).isSome = okB v := by
  rw [mayR_is]
  unfold okB
  by_cases h : dep v + 1 ≤ 61 ∧ cnt v ≤ 20000 ∧ nodesB v = true
  · rw [if_pos h]
    simp only [Option.isSome_some, h.2.2, Bool.and_true]
    rw [decide_eq_true h.2.1, decide_eq_true (by omega : dep v ≤ 60)]; rfl
  · rw [if_neg h]
    simp only [Option.isSome_none]
    symm
    rw [← Bool.not_eq_true]
    intro h2
    simp only [Bool.and_eq_true, decide_eq_true_eq] at h2
    exact h ⟨by omega, h2.1.1, h2.2⟩

/-! The same values. -/
mutual
def sameB : VM → VM → Bool
  | .mk k n s _ _ l ks, .mk k' n' s' _ _ l' ks' => decide (k = k') && decide (n = n') && decide (s = s') && decide (ks = ks') && sameL l l'
def sameL : List VM → List VM → Bool
  | [], [] => true
  | v :: r, v' :: r' => sameB v v' && sameL r r'
  | [], _ :: _ => false
  | _ :: _, [] => false
end

/-! Texts. -/
def joinC : List (List UInt8) → List UInt8
  | [] => []
  | [a] => a
  | a :: b :: r => a ++ 44 :: 32 :: joinC (b :: r)
def entries : List (List UInt8) → List (List UInt8) → List (List UInt8)
  | a :: r, b :: t => (quoteL a ++ 58 :: 32 :: b) :: entries r t
  | _, _ => []
mutual
def textV : VM → List UInt8
  | .mk k n s _ _ l ks =>
    if k = 1 then (if n = 1 then [116, 114, 117, 101] else [102, 97, 108, 115, 101])
    else if k = 2 then Lib.itoa n
    else if k = 3 then quoteL s
    else if k = 4 then 91 :: (joinC (textL' l) ++ [93])
    else if k = 5 then 123 :: (joinC (entries ks (textL' l)) ++ [125])
    else [110, 111, 110, 101]
def textL' : List VM → List (List UInt8)
  | [] => []
  | v :: r => textV v :: textL' r
end
def printV (v : VM) : List UInt8 := if okB v = true then textV v else []
end Go.Proofs.YtnfjlimecoikpaaGreatDoor
