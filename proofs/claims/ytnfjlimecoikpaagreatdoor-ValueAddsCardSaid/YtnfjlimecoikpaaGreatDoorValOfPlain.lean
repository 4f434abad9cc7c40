/- Plain: the value of bytes. -/
import Derived.Test.YtnfjlimecoikpaaGreatDoorMSame
import Derived.Test.YtnfjlimecoikpaaGreatDoorMPack
namespace Go.Proofs.YtnfjlimecoikpaaGreatDoor
set_option maxRecDepth 100000
open Go.RowKit

def nilS : Value := .slice none 0 0
def noneV : VM := .mk 0 0 [] nilS nilS [] []
def ofL (f : List UInt8 → Option VM) : List (List UInt8) → Option (List VM)
  | [] => some []
  | a :: r => match f a with
    | none => none
    | some v => match ofL f r with
      | none => none
      | some l => some (v :: l)
def evens : List (List UInt8) → List (List UInt8)
  | a :: _ :: r => a :: evens r
  | _ => []
def odds : List (List UInt8) → List (List UInt8)
  | _ :: b :: r => b :: odds r
  | _ => []
def wNone : List UInt8 := [110, 111, 110, 101]
def wBool : List UInt8 := [98, 111, 111, 108]
def wInt : List UInt8 := [105, 110, 116]
def wText : List UInt8 := [116, 101, 120, 116]
def wList : List UInt8 := [108, 105, 115, 116]
def wDict : List UInt8 := [100, 105, 99, 116]
/-- The value of a number's text. -/
def ofNum (k : Int) (r : List (List UInt8)) : Option VM := match r with
  | [x] => if (intL x).2 = true then some (.mk k (intL x).1 [] nilS nilS [] []) else none
  | _ => none
theorem ofNum_one (k : Int) (x : List UInt8) : ofNum k [x] = if (intL x).2 = true then some (.mk k (intL x).1 [] nilS nilS [] []) else none := rfl
def ofText (r : List (List UInt8)) : Option VM := match r with
  | [x] => some (.mk 3 0 x nilS nilS [] [])
  | _ => none
def ofList (f : List UInt8 → Option VM) (r : List (List UInt8)) : Option VM := (ofL f r).map fun l => .mk 4 0 [] nilS nilS l []
def ofDict (f : List UInt8 → Option VM) (r : List (List UInt8)) : Option VM := if r.length % 2 = 0 then (ofL f (odds r)).map fun l => .mk 5 0 [] nilS nilS l (evens r) else none
def ofW (f : List UInt8 → Option VM) (t : List UInt8) (r : List (List UInt8)) : Option VM :=
  if t = wNone then (if r = [] then some noneV else none)
  else if t = wBool then ofNum 1 r
  else if t = wInt then ofNum 2 r
  else if t = wText then ofText r
  else if t = wDict then ofDict f r
  else if t = wList then ofList f r
  else none
def ofP (f : List UInt8 → Option VM) (b : List UInt8) : Option VM :=
  if (textsL b).2 ≠ 0 then none else
  match (textsL b).1 with
  | [] => none
  | t :: r => ofW f t r
theorem ofW_None (f : List UInt8 → Option VM) (r : List (List UInt8)) : ofW f wNone r = if r = [] then some noneV else none := by unfold ofW; rw [if_pos rfl]
theorem ofW_Bool (f : List UInt8 → Option VM) (r : List (List UInt8)) : ofW f wBool r = ofNum 1 r := by unfold ofW; rw [if_neg (by decide), if_pos rfl]
theorem ofW_Int (f : List UInt8 → Option VM) (r : List (List UInt8)) : ofW f wInt r = ofNum 2 r := by unfold ofW; rw [if_neg (by decide), if_neg (by decide), if_pos rfl]
theorem ofW_Text (f : List UInt8 → Option VM) (r : List (List UInt8)) : ofW f wText r = ofText r := by unfold ofW; rw [if_neg (by decide), if_neg (by decide), if_neg (by decide), if_pos rfl]
theorem ofW_Dict (f : List UInt8 → Option VM) (r : List (List UInt8)) : ofW f wDict r = ofDict f r := by unfold ofW; rw [if_neg (by decide), if_neg (by decide), if_neg (by decide), if_neg (by decide), if_pos rfl]
theorem ofW_List (f : List UInt8 → Option VM) (r : List (List UInt8)) : ofW f wList r = ofList f r := by unfold ofW; rw [if_neg (by decide), if_neg (by decide), if_neg (by decide), if_neg (by decide), if_neg (by decide), if_pos rfl]
theorem ofW_else {f : List UInt8 → Option VM} {t : List UInt8} {r : List (List UInt8)} (h0 : ¬ t = wNone) (h1 : ¬ t = wBool) (h2 : ¬ t = wInt) (h3 : ¬ t = wText) (h4 : ¬ t = wDict) (h5 : ¬ t = wList) : ofW f t r = none := by
  unfold ofW; rw [if_neg h0, if_neg h1, if_neg h2, if_neg h3, if_neg h4, if_neg h5]
theorem odds_mem : ∀ (r : List (List UInt8)), ∀ x ∈ odds r, x ∈ r
  | [], x, h => by cases h
  | [a], x, h => by cases h
  | a :: b :: r, x, h => by
    have h' : x = b ∨ x ∈ odds r := by simpa [odds] using h
    rcases h' with rfl | h
    · simp
    · exact List.mem_cons_of_mem _ (List.mem_cons_of_mem _ (odds_mem r x h))
/-- The value of bytes, so deep at most. -/
def ofV : Nat → List UInt8 → Option VM
  | 0, _ => none
  | m + 1, b => ofP (ofV m) b
theorem ofL_app (f : List UInt8 → Option VM) : ∀ (a b : List (List UInt8)), ofL f (a ++ b) = match ofL f a with | none => none | some l => (ofL f b).map (l ++ ·)
  | [], b => by cases h : ofL f b <;> simp [ofL, h]
  | x :: r, b => by
    simp only [List.cons_append, ofL]
    cases f x with
    | none => rfl
    | some v =>
      simp only [ofL_app f r b]
      cases ofL f r with
      | none => rfl
      | some l => cases ofL f b <;> rfl
theorem ofL_some {f : List UInt8 → Option VM} {ts : List (List UInt8)} {j : Nat} {l : List VM} {v : VM} (hj : j < ts.length) (h : ofL f (ts.take j) = some l) (hv : f ts[j] = some v) : ofL f (ts.take (j + 1)) = some (l ++ [v]) := by
  rw [take_at ts j hj, ofL_app, h]
  simp [ofL, hv]
theorem ofL_none {f : List UInt8 → Option VM} {ts : List (List UInt8)} {j : Nat} {l : List VM} (hj : j < ts.length) (h : ofL f (ts.take j) = some l) (hv : f ts[j] = none) : ofL f ts = none := by
  have : ts = ts.take j ++ (ts[j] :: ts.drop (j + 1)) := by rw [← drop_at ts j hj, List.take_append_drop]
  rw [this, ofL_app, h]
  simp [ofL, hv]
theorem ofL_len {f : List UInt8 → Option VM} : ∀ {ts : List (List UInt8)} {l : List VM}, ofL f ts = some l → l.length = ts.length
  | [], l, h => by simp [ofL] at h; subst h; rfl
  | a :: r, l, h => by
    simp only [ofL] at h
    cases hv : f a with
    | none => rw [hv] at h; cases h
    | some v =>
      rw [hv] at h
      cases hl : ofL f r with
      | none => rw [hl] at h; cases h
      | some l' =>
        rw [hl] at h
        have := ofL_len hl
        obtain rfl := Option.some.inj h
        simp [this]
theorem ofL_rows {f : List UInt8 → Option VM} (hf : ∀ a v, f a = some v → rowV v = a) : ∀ {ts : List (List UInt8)} {l : List VM}, ofL f ts = some l → rowsV l = ts
  | [], l, h => by simp [ofL] at h; subst h; rfl
  | a :: r, l, h => by
    simp only [ofL] at h
    cases hv : f a with
    | none => rw [hv] at h; cases h
    | some v =>
      rw [hv] at h
      cases hl : ofL f r with
      | none => rw [hl] at h; cases h
      | some l' =>
        rw [hl] at h
        have := ofL_rows hf hl
        obtain rfl := Option.some.inj h
        have e : rowsV (v :: l') = rowV v :: rowsV l' := by simp [rowsV]
        rw [e, this, hf a v hv]
theorem ofL_fit {f : List UInt8 → Option VM} (hf : ∀ a v, f a = some v → fitB v = true) : ∀ {ts : List (List UInt8)} {l : List VM}, ofL f ts = some l → fitL l = true
  | [], l, h => by simp [ofL] at h; subst h; rfl
  | a :: r, l, h => by
    simp only [ofL] at h
    cases hv : f a with
    | none => rw [hv] at h; cases h
    | some v =>
      rw [hv] at h
      cases hl : ofL f r with
      | none => rw [hl] at h; cases h
      | some l' =>
        rw [hl] at h
        have := ofL_fit hf hl
        obtain rfl := Option.some.inj h
        simp [fitL, this, hf a v hv]
theorem weave_eo : ∀ (r : List (List UInt8)), r.length % 2 = 0 → weave (evens r) (odds r) = r
  | [], _ => rfl
  | [a], h => by simp at h
  | a :: b :: r, h => by
    have := weave_eo r (by simp only [List.length_cons] at h; omega)
    simp [evens, odds, weave, this]
theorem evens_weave : ∀ (ks ts : List (List UInt8)), ks.length = ts.length → evens (weave ks ts) = ks ∧ odds (weave ks ts) = ts ∧ (weave ks ts).length % 2 = 0
  | [], [], _ => ⟨rfl, rfl, rfl⟩
  | a :: r, b :: t, h => by
    obtain ⟨h1, h2, h3⟩ := evens_weave r t (by simpa using h)
    refine ⟨by simp [weave, evens, h1], by simp [weave, odds, h2], ?_⟩
    simp only [weave, List.length_cons]; omega
  | [], _ :: _, h => by simp at h
  | _ :: _, [], h => by simp at h
theorem evens_len : ∀ (r : List (List UInt8)), (evens r).length = r.length / 2 ∧ (odds r).length = r.length / 2
  | [] => ⟨rfl, rfl⟩
  | [a] => by simp [evens, odds]
  | a :: b :: r => by
    obtain ⟨h1, h2⟩ := evens_len r
    simp only [evens, odds, List.length_cons]
    omega
theorem evens_get : ∀ (r : List (List UInt8)) (j : Nat) (h : j < (evens r).length) (h2 : 2 * j < r.length), (evens r)[j] = r[2 * j]
  | [], j, h, _ => by simp [evens] at h
  | [a], j, h, _ => by simp [evens] at h
  | a :: b :: r, 0, _, _ => rfl
  | a :: b :: r, j + 1, h, h2 => by
    have := evens_get r j (by simpa [evens] using h) (by simp at h2; omega)
    show (evens r)[j]'(by simpa [evens] using h) = _
    rw [this]
    simp [show 2 * (j + 1) = 2 * j + 1 + 1 by omega]
theorem odds_get : ∀ (r : List (List UInt8)) (j : Nat) (h : j < (odds r).length) (h2 : 2 * j + 1 < r.length), (odds r)[j] = r[2 * j + 1]
  | [], j, h, _ => by simp [odds] at h
  | [a], j, h, _ => by simp [odds] at h
  | a :: b :: r, 0, _, _ => rfl
  | a :: b :: r, j + 1, h, h2 => by
    have := odds_get r j (by simpa [odds] using h) (by simp at h2; omega)
    show (odds r)[j]'(by simpa [odds] using h) = _
    rw [this]
    simp [show 2 * (j + 1) + 1 = 2 * j + 1 + 1 + 1 by omega]
theorem row_k (k n : Int) (s : List UInt8) (l : List VM) (ks : List (List UInt8)) : rowV (.mk k n s nilS nilS l ks) = rowL (partsOf k n s (rowsV l) ks) := rowV_parts ..
theorem ofNum_row {k : Int} {r : List (List UInt8)} {v : VM} (h : ofNum k r = some v) : ∃ x, r = [x] ∧ v = .mk k (intL x).1 [] nilS nilS [] [] ∧ Lib.itoa (intL x).1 = x ∧ -9223372036854775808 ≤ (intL x).1 ∧ (intL x).1 ≤ 9223372036854775807 := by
  match r, h with
  | [], h => cases h
  | [x], h =>
    unfold ofNum at h
    cases hx : (intL x).2 with
    | false => simp [hx] at h
    | true =>
      simp [hx] at h
      obtain ⟨h1, h2, h3⟩ := intL_true hx
      exact ⟨x, rfl, h.symm, h1, h2, h3⟩
  | _ :: _ :: _, h => cases h
theorem ofW_row {f : List UInt8 → Option VM} (hf : ∀ a v, f a = some v → rowV v = a) {t : List UInt8} {r : List (List UInt8)} {v : VM} (h : ofW f t r = some v) : rowV v = rowL (t :: r) := by
  unfold ofW at h
  by_cases h0 : t = wNone
  · rw [if_pos h0] at h
    by_cases hr : r = []
    · rw [if_pos hr] at h
      obtain rfl := Option.some.inj h
      subst h0 hr
      unfold noneV; rw [row_k]; rfl
    · rw [if_neg hr] at h; cases h
  rw [if_neg h0] at h
  by_cases h1 : t = wBool
  · rw [if_pos h1] at h
    obtain ⟨x, rfl, rfl, e, -, -⟩ := ofNum_row h
    subst h1
    rw [row_k]; unfold partsOf; rw [if_pos rfl, e]; rfl
  rw [if_neg h1] at h
  by_cases h2 : t = wInt
  · rw [if_pos h2] at h
    obtain ⟨x, rfl, rfl, e, -, -⟩ := ofNum_row h
    subst h2
    rw [row_k]; unfold partsOf; rw [if_neg (by decide), if_pos rfl, e]; rfl
  rw [if_neg h2] at h
  by_cases h3 : t = wText
  · rw [if_pos h3] at h
    match r, h with
    | [], h => cases h
    | [x], h =>
      obtain rfl := Option.some.inj h
      subst h3
      rw [row_k]; unfold partsOf; rw [if_neg (by decide), if_neg (by decide), if_pos rfl]; rfl
    | _ :: _ :: _, h => cases h
  rw [if_neg h3] at h
  by_cases h4 : t = wDict
  · rw [if_pos h4] at h
    unfold ofDict at h
    by_cases he : r.length % 2 = 0
    · rw [if_pos he] at h
      cases hl : ofL f (odds r) with
      | none => rw [hl] at h; cases h
      | some l =>
        rw [hl] at h
        obtain rfl := Option.some.inj h
        subst h4
        show rowV (.mk 5 0 [] nilS nilS l (evens r)) = _
        rw [row_k, ofL_rows hf hl]; unfold partsOf
        rw [if_neg (by decide), if_neg (by decide), if_neg (by decide), if_neg (by decide), if_pos rfl, weave_eo r he]; rfl
    · rw [if_neg he] at h; cases h
  rw [if_neg h4] at h
  by_cases h5 : t = wList
  · rw [if_pos h5] at h
    unfold ofList at h
    cases hl : ofL f r with
    | none => rw [hl] at h; cases h
    | some l =>
      rw [hl] at h
      obtain rfl := Option.some.inj h
      subst h5
      show rowV (.mk 4 0 [] nilS nilS l []) = _
      rw [row_k, ofL_rows hf hl]; unfold partsOf
      rw [if_neg (by decide), if_neg (by decide), if_neg (by decide), if_pos rfl]; rfl
  rw [if_neg h5] at h; cases h
theorem ofP_some {f : List UInt8 → Option VM} {b : List UInt8} {v : VM} (h : ofP f b = some v) : (textsL b).2 = 0 ∧ ∃ t r, (textsL b).1 = t :: r ∧ ofW f t r = some v := by
  unfold ofP at h
  by_cases he : (textsL b).2 ≠ 0
  · rw [if_pos he] at h; cases h
  · rw [if_neg he] at h
    refine ⟨by simpa using he, ?_⟩
    cases ht : (textsL b).1 with
    | nil => rw [ht] at h; cases h
    | cons t r => rw [ht] at h; exact ⟨t, r, rfl, h⟩
theorem of_row : ∀ (m : Nat) (b : List UInt8) (v : VM), ofV m b = some v → rowV v = b
  | 0, b, v, h => by cases h
  | m + 1, b, v, h => by
    obtain ⟨h0, t, r, ht, hw⟩ := ofP_some h
    rw [ofW_row (of_row m) hw, ← ht]
    exact row_texts' h0
theorem ofW_fit {f : List UInt8 → Option VM} (hf : ∀ a v, f a = some v → fitB v = true) {t : List UInt8} {r : List (List UInt8)} {v : VM} (h : ofW f t r = some v) : fitB v = true := by
  have hk : ∀ (k n : Int) (s : List UInt8) (l : List VM) (ks : List (List UInt8)), -9223372036854775808 ≤ k ∧ k ≤ 9223372036854775807 ∧ -9223372036854775808 ≤ n ∧ n ≤ 9223372036854775807 → fitL l = true → fitB (.mk k n s nilS nilS l ks) = true := fun k n s l ks h1 h2 => by simp [fitB, h2]; omega
  unfold ofW at h
  split at h
  · split at h
    · obtain rfl := Option.some.inj h; rfl
    · cases h
  split at h
  · obtain ⟨x, -, rfl, -, h1, h2⟩ := ofNum_row h
    exact hk _ _ _ _ _ ⟨by omega, by omega, h1, h2⟩ rfl
  split at h
  · obtain ⟨x, -, rfl, -, h1, h2⟩ := ofNum_row h
    exact hk _ _ _ _ _ ⟨by omega, by omega, h1, h2⟩ rfl
  split at h
  · match r, h with
    | [], h => cases h
    | [x], h => obtain rfl := Option.some.inj h; rfl
    | _ :: _ :: _, h => cases h
  split at h
  · unfold ofDict at h
    split at h
    · cases hl : ofL f (odds r) with
      | none => rw [hl] at h; cases h
      | some l => rw [hl] at h; obtain rfl := Option.some.inj h; exact hk _ _ _ _ _ (by omega) (ofL_fit hf hl)
    · cases h
  split at h
  · unfold ofList at h
    cases hl : ofL f r with
    | none => rw [hl] at h; cases h
    | some l => rw [hl] at h; obtain rfl := Option.some.inj h; exact hk _ _ _ _ _ (by omega) (ofL_fit hf hl)
  · cases h
theorem of_fit : ∀ (m : Nat) (b : List UInt8) (v : VM), ofV m b = some v → fitB v = true
  | 0, b, v, h => by cases h
  | m + 1, b, v, h => by
    obtain ⟨h0, t, r, ht, hw⟩ := ofP_some h
    exact ofW_fit (of_fit m) hw
theorem same_nil (k n : Int) (s : List UInt8) (lv kv : Value) (l l' : List VM) (ks : List (List UInt8)) (h : sameL l l' = true) : sameB (.mk k n s nilS nilS l ks) (.mk k n s lv kv l' ks) = true := by
  rw [same_mk, h]; simp
theorem of_texts {ss : List (List UInt8)} (h : ∀ s ∈ ss, s.length < 1000000000) {t : List UInt8} {r : List (List UInt8)} (e : ss = t :: r) (f : List UInt8 → Option VM) : ofP f (rowL ss) = ofW f t r := by
  unfold ofP
  rw [texts_row ss h]
  simp only [ne_eq, not_true_eq_false, if_false]
  rw [e]
mutual
/-- A value that may be is that of its bytes. -/
theorem row_of : ∀ (v : VM) (m : Nat), dep v ≤ m → nodesB v = true → fitB v = true → cnt v ≤ 2000 → ∃ v', ofV m (rowV v) = some v' ∧ sameB v' v = true
  | .mk k n s lv kv l ks, m, hd, h, hf, hc0 => by
    have hn : nodesL l = true ∧ nodeB k n s l.length ks = true := by simpa [nodesB] using h
    have hfl : (-9223372036854775808 ≤ k ∧ k ≤ 9223372036854775807 ∧ -9223372036854775808 ≤ n ∧ n ≤ 9223372036854775807) ∧ fitL l = true := by simpa [fitB] using hf
    have hc : cnt (.mk k n s lv kv l ks) = 1 + cntL l := by simp [cnt]
    have hdp : dep (.mk k n s lv kv l ks) = 1 + depL l := by simp [dep]
    obtain ⟨m, rfl⟩ : ∃ m', m = m' + 1 := ⟨m - 1, by omega⟩
    obtain ⟨l', hl1, hl2⟩ := rows_of l m (by omega) hn.1 hfl.2 (by omega)
    have hp := parts_lt hn.1 hn.2 hfl.2 hfl.1.2.2 (by omega)
    rw [rowV_parts]
    show ∃ v', ofP (ofV m) _ = some v' ∧ _
    have hw : ∀ (t : List UInt8) (r : List (List UInt8)), partsOf k n s (rowsV l) ks = t :: r → ofP (ofV m) (rowL (partsOf k n s (rowsV l) ks)) = ofW (ofV m) t r := fun t r e => of_texts hp e _
    have hi := intL_itoa hfl.1.2.2.1 hfl.1.2.2.2
    rcases node_cases hn.2 with ⟨rfl, rfl, rfl, c3, rfl⟩ | ⟨rfl, rfl, c3, rfl⟩ | ⟨rfl, rfl, c3, rfl⟩ | ⟨rfl, rfl, -, c3, rfl⟩ | ⟨rfl, rfl, rfl, -, rfl⟩ | ⟨rfl, rfl, rfl, -, c3, -⟩
    · obtain rfl := empty_of c3
      rw [hw wNone [] rfl]
      exact ⟨noneV, rfl, by unfold noneV; exact same_nil _ _ _ _ _ _ _ _ rfl⟩
    · obtain rfl := empty_of c3
      rw [hw wBool [Lib.itoa n] rfl]
      refine ⟨.mk 1 n [] nilS nilS [] [], ?_, same_nil _ _ _ _ _ _ _ _ rfl⟩
      unfold ofW; rw [if_neg (by decide), if_pos rfl]
      unfold ofNum; simp only [hi]; rfl
    · obtain rfl := empty_of c3
      rw [hw wInt [Lib.itoa n] rfl]
      refine ⟨.mk 2 n [] nilS nilS [] [], ?_, same_nil _ _ _ _ _ _ _ _ rfl⟩
      unfold ofW; rw [if_neg (by decide), if_neg (by decide), if_pos rfl]
      unfold ofNum; simp only [hi]; rfl
    · obtain rfl := empty_of c3
      rw [hw wText [s] rfl]
      exact ⟨.mk 3 0 s nilS nilS [] [], rfl, same_nil _ _ _ _ _ _ _ _ rfl⟩
    · rw [hw wList (rowsV l) rfl]
      refine ⟨.mk 4 0 [] nilS nilS l' [], ?_, same_nil _ _ _ _ _ _ _ _ hl2⟩
      unfold ofW; rw [if_neg (by decide), if_neg (by decide), if_neg (by decide), if_neg (by decide), if_neg (by decide), if_pos rfl]
      unfold ofList; rw [hl1]; rfl
    · obtain ⟨e1, e2, e3⟩ := evens_weave ks (rowsV l) (by rw [rowsV_len]; exact c3.symm)
      rw [hw wDict (weave ks (rowsV l)) rfl]
      refine ⟨.mk 5 0 [] nilS nilS l' ks, ?_, same_nil _ _ _ _ _ _ _ _ hl2⟩
      unfold ofW; rw [if_neg (by decide), if_neg (by decide), if_neg (by decide), if_neg (by decide), if_pos rfl]
      unfold ofDict; rw [if_pos e3, e1, e2, hl1]; rfl
theorem rows_of : ∀ (l : List VM) (m : Nat), depL l ≤ m → nodesL l = true → fitL l = true → cntL l ≤ 2000 → ∃ l', ofL (ofV m) (rowsV l) = some l' ∧ sameL l' l = true
  | [], m, _, _, _, _ => ⟨[], rfl, by simp [sameL]⟩
  | v :: r, m, hd, h, hf, hc0 => by
    have hn : nodesB v = true ∧ nodesL r = true := by simpa [nodesL] using h
    have hfl : fitB v = true ∧ fitL r = true := by simpa [fitL] using hf
    have hc : cntL (v :: r) = cnt v + cntL r := by simp [cntL]
    have hdp : depL (v :: r) = max (dep v) (depL r) := by simp [depL]
    obtain ⟨v', h1, h2⟩ := row_of v m (by omega) hn.1 hfl.1 (by omega)
    obtain ⟨r', h3, h4⟩ := rows_of r m (by omega) hn.2 hfl.2 (by omega)
    have e : rowsV (v :: r) = rowV v :: rowsV r := by simp [rowsV]
    refine ⟨v' :: r', ?_, by unfold sameL; rw [h2, h4]; rfl⟩
    rw [e, ofL, h1, h3]
end
mutual
theorem same_trans : ∀ a b c : VM, sameB a b = true → sameB b c = true → sameB a c = true
  | .mk k n s lv kv l ks, .mk k' n' s' lv' kv' l' ks', .mk k'' n'' s'' lv'' kv'' l'' ks'', h1, h2 => by
    rw [same_mk] at h1 h2 ⊢
    simp only [Bool.and_eq_true, decide_eq_true_eq] at h1 h2 ⊢
    obtain ⟨⟨⟨⟨rfl, rfl⟩, rfl⟩, rfl⟩, e1⟩ := h1
    obtain ⟨⟨⟨⟨rfl, rfl⟩, rfl⟩, rfl⟩, e2⟩ := h2
    exact ⟨⟨⟨⟨rfl, rfl⟩, rfl⟩, rfl⟩, same_transL l l' l'' e1 e2⟩
theorem same_transL : ∀ a b c : List VM, sameL a b = true → sameL b c = true → sameL a c = true
  | [], [], [], _, _ => by simp [sameL]
  | v :: r, v' :: r', v'' :: r'', h1, h2 => by
    have e1 : sameB v v' = true ∧ sameL r r' = true := by simpa [sameL] using h1
    have e2 : sameB v' v'' = true ∧ sameL r' r'' = true := by simpa [sameL] using h2
    unfold sameL
    rw [same_trans v v' v'' e1.1 e2.1, same_transL r r' r'' e1.2 e2.2]; rfl
  | [], _ :: _, _, h, _ => by simp [sameL] at h
  | _ :: _, [], _, h, _ => by simp [sameL] at h
  | [], [], _ :: _, _, h => by simp [sameL] at h
  | _ :: _, _ :: _, [], _, h => by simp [sameL] at h
end
mutual
theorem same_all : ∀ a b : VM, sameB a b = true → cnt a = cnt b ∧ dep a = dep b ∧ nodesB a = nodesB b
  | .mk k n s lv kv l ks, .mk k' n' s' lv' kv' l' ks', h => by
    rw [same_mk] at h
    simp only [Bool.and_eq_true, decide_eq_true_eq] at h
    obtain ⟨⟨⟨⟨rfl, rfl⟩, rfl⟩, rfl⟩, hl⟩ := h
    obtain ⟨h1, h2, h3⟩ := same_allL l l' hl
    have h4 : l.length = l'.length := Decidable.byContradiction fun e => by rw [sameL_len e] at hl; cases hl
    exact ⟨by simp [cnt, h1], by simp [dep, h2], by simp [nodesB, h3, h4]⟩
theorem same_allL : ∀ a b : List VM, sameL a b = true → cntL a = cntL b ∧ depL a = depL b ∧ nodesL a = nodesL b
  | [], [], _ => ⟨rfl, rfl, rfl⟩
  | v :: r, v' :: r', h => by
    have e1 : sameB v v' = true ∧ sameL r r' = true := by simpa [sameL] using h
    obtain ⟨h1, h2, h3⟩ := same_all v v' e1.1
    obtain ⟨h4, h5, h6⟩ := same_allL r r' e1.2
    exact ⟨by simp [cntL, h1, h4], by simp [depL, h2, h5], by simp [nodesL, h3, h6]⟩
  | [], _ :: _, h => by simp [sameL] at h
  | _ :: _, [], h => by simp [sameL] at h
end
theorem same_ok {a b : VM} (h : sameB a b = true) : okB a = okB b := by
  obtain ⟨h1, h2, h3⟩ := same_all a b h
  unfold okB; rw [h1, h2, h3]
theorem sameL_app : ∀ {a b : List VM} (x y : VM), sameL a b = true → sameB x y = true → sameL (a ++ [x]) (b ++ [y]) = true
  | [], [], x, y, _, h => by simp [sameL, h]
  | v :: r, v' :: r', x, y, h, h2 => by
    have e1 : sameB v v' = true ∧ sameL r r' = true := by simpa [sameL] using h
    show sameL (v :: (r ++ [x])) (v' :: (r' ++ [y])) = true
    unfold sameL
    rw [e1.1, sameL_app x y e1.2 h2]; rfl
  | [], _ :: _, _, _, h, _ => by simp [sameL] at h
  | _ :: _, [], _, _, h, _ => by simp [sameL] at h
/-- The value of bytes, and the error's number. -/
def topOf (b : List UInt8) : VM × Nat := match ofV 60 b with
  | some v => if okB v = true then (v, 0) else (noneV, 3)
  | none => (noneV, 3)
theorem textsL_each (k : Nat) : ∀ b : List UInt8, b.length ≤ k → ∀ t ∈ (textsL b).1, t.length ≤ b.length := by
  induction k with
  | zero => intro b hb t ht
            have : b = [] := List.length_eq_zero_iff.1 (by omega)
            subst this; rw [textsL_nil] at ht; cases ht
  | succ k ih =>
    intro b hb t ht
    by_cases h0 : b = []
    · subst h0; rw [textsL_nil] at ht; cases ht
    obtain ⟨n, r, c, hh⟩ : ∃ n r c, headFrom 0 0 b = (n, r, c) := ⟨_, _, _, rfl⟩
    by_cases hc : c = 0
    · subst hc
      have hl := headFrom_len b 0 0 (by rw [hh])
      rw [hh] at hl
      have hl' : r.length < b.length := hl
      by_cases hs : r.length < n
      · rw [textsL_short hh h0 hs] at ht; cases ht
      · rw [textsL_more hh h0 hs] at ht
        unfold fin at ht
        split at ht
        · rcases List.mem_append.1 ht with ht | ht
          · obtain rfl := List.mem_singleton.1 ht
            rw [List.length_take]; omega
          · have := ih (r.drop n) (by rw [List.length_drop]; omega) t ht
            rw [List.length_drop] at this; omega
        · cases ht
    · rw [textsL_err hh h0 hc] at ht; cases ht
theorem textsL_count (k : Nat) : ∀ b : List UInt8, b.length ≤ k → (textsL b).1.length ≤ b.length := by
  induction k with
  | zero => intro b hb
            have : b = [] := List.length_eq_zero_iff.1 (by omega)
            subst this; rw [textsL_nil]; simp
  | succ k ih =>
    intro b hb
    by_cases h0 : b = []
    · subst h0; rw [textsL_nil]; simp
    obtain ⟨n, r, c, hh⟩ : ∃ n r c, headFrom 0 0 b = (n, r, c) := ⟨_, _, _, rfl⟩
    by_cases hc : c = 0
    · subst hc
      have hl := headFrom_len b 0 0 (by rw [hh])
      rw [hh] at hl
      have hl' : r.length < b.length := hl
      by_cases hs : r.length < n
      · rw [textsL_short hh h0 hs]; simp
      · rw [textsL_more hh h0 hs]
        unfold fin
        split
        · have := ih (r.drop n) (by rw [List.length_drop]; omega)
          rw [List.length_drop] at this
          simp only [List.length_append, List.length_cons, List.length_nil]; omega
        · simp
    · rw [textsL_err hh h0 hc]; simp
end Go.Proofs.YtnfjlimecoikpaaGreatDoor
