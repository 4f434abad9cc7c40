/- Copies of elements of two cells; where a splice in the middle lands. -/
import Derived.Test.YtffmjjocjcomnaaDoorBase
import Derived.Lib.SliceRun
import Derived.Laws.IdiomCopy
import Derived.Laws.CopyRow
import Derived.Laws.CopyOwn
import Derived.Lib.Overlaps
import Derived.Lib.AppendZerosOnto
namespace Go.Proofs.YtffmjjocjcomnaaDoor
open Go.RowKit

theorem run_copy_two {P : Program} (w : World) (dT sT ty elem : TypeId) (g o dLen dCap : Nat) (a : Addr) (sLen sCap : Nat) (cur : Array Value) (t : TypeId) (cs : List Value) (m : Nat)
    (hu : P.underlying dT = some (.slice elem)) (hs : (P.info? elem).map (·.size) = some 2)
    (hg : w.heap[g]? = some (.cells cur t (0, 0))) (hm : Nat.min sLen dLen = m) (hn : cs.length = m * 2)
    (hsrc : ∀ j v, cs[j]? = some v → w.cell? (a.add j) = some v) (hfit : o + cs.length ≤ cur.size) (h1 : ∀ v ∈ cs, v.oneCell' = true) :
    (Builtin.copy_ #[dT, sT] ty #[.slice (some ⟨g, o, none⟩) dLen dCap, .slice (some a) sLen sCap]).run P w =
      .ok (goInt m) (w.setRow g (cur.toList.take o ++ cs ++ cur.toList.drop (o + cs.length)).toArray) := by
  have hl := run_loadCells_list (P := P) w a cs hsrc
  have hst := run_storeCells_at P g o t cs 0 cur w hg (by simpa using hfit) h1
  cases hq : P.info? elem with
  | none => simp [hq] at hs
  | some i =>
    have hi : i.size = 2 := by simpa [hq] using hs
    simp [Builtin.copy_, run_underlying hu, Builtin.lenOf, Builtin.firstCells, sizeOf, typeInfo, hq, hi, hm, ← hn, hl, hst]

theorem mid_shift {α : Type} (L X D F : List α) (k m : Nat) (hX : L.take k = X) (hk : k + m + D.length ≤ L.length) :
    (L.take (k + m) ++ D ++ L.drop (k + m + D.length)).take k ++ F ++ (L.take (k + m) ++ D ++ L.drop (k + m + D.length)).drop (k + m) = X ++ F ++ D ++ L.drop (k + m + D.length) := by
  have e1 : (L.take (k + m)).length = k + m := by rw [List.length_take]; omega
  rw [List.append_assoc (L.take (k + m)), List.take_append_of_le_length (by omega), List.take_take, Nat.min_eq_left (by omega), hX, List.drop_left' e1, ← List.append_assoc]
theorem mid_grow {α : Type} (Z X D F : List α) (k m : Nat) (hk : X.length = k) (hm : F.length = m) :
    ((X ++ Z).take k ++ F ++ (X ++ Z).drop (k + m)).take (k + m) ++ D ++ ((X ++ Z).take k ++ F ++ (X ++ Z).drop (k + m)).drop (k + m + D.length) = X ++ F ++ D ++ Z.drop (m + D.length) := by
  have e0 : (X ++ Z).take k = X := List.take_left' hk
  have e2 : (X ++ Z).drop (k + m) = Z.drop m := by rw [← hk, List.drop_append, List.drop_eq_nil_of_le (by omega)]; simp
  have e3 : (X ++ F).length = k + m := by simp [hk, hm]
  rw [e0, e2, List.take_left' e3, List.drop_append, List.drop_eq_nil_of_le (by omega), e3]
  simp [List.drop_drop]

/-- A row of the call's own, whole: what it says of its block. -/
theorem own_of_block {w : World} {base g n cap e size : Nat} {xs : List Value} {L : List Value} (hb : base ≤ g) (hg : w.heap[g]? = some (.cells L.toArray e (0, 0))) (hc : n ≤ cap) (hm : cap ≤ maxLen) (hL : L.length = cap * size) (hx : xs.length = n * size) (ht : L.take (n * size) = xs) :
    w.ownsRow base e size (.slice (some ⟨g, 0, none⟩) n cap) n xs :=
  ⟨hx, .inr ⟨g, cap, L.toArray, rfl, hb, hg, hc, hm, by simpa using hL, by simpa using ht⟩⟩
theorem splice_len {α : Type} (L F : List α) (k : Nat) (h : k + F.length ≤ L.length) : (L.take k ++ F ++ L.drop (k + F.length)).length = L.length := by
  simp; omega
end Go.Proofs.YtffmjjocjcomnaaDoor
