/- The program's walk over values: texts, small laws. -/
import Derived.Test.YtnfjlimecoikpaaGreatDoorValAll
import Derived.Test.YtnfjlimecoikpaaGreatDoorMPack
import Derived.Test.YtnfjlimecoikpaaGreatDoorLexQuote
namespace Go.Proofs.YtnfjlimecoikpaaGreatDoor
set_option maxRecDepth 100000
open Go.RowKit

/-- A row of texts in a block that may be written. -/
structure Rw (w : World) (g : Nat) (ts : List (List UInt8)) : Prop where
  c : ∀ j (h : j < ts.length), w.cell? ⟨g, j, none⟩ = some (.string (bs ts[j]))
  f : ∀ j, w.frozen? ⟨g, j, none⟩ = false
  lt : g < w.heap.size
theorem Rw.keep {w w' : World} {g : Nat} {ts : List (List UInt8)} (h : Rw w g ts) (hb : Below w.heap.size w w') : Rw w' g ts :=
  ⟨fun j hj => keeps_of hb (h.c j hj), fun j => (hb.frozen (p := ⟨g, j, none⟩) h.lt).trans (h.f j), Nat.lt_of_lt_of_le h.lt hb.size⟩
theorem Rw.drew {w : World} {g : Nat} {ts : List (List UInt8)} (h : Rw w g ts) : Rw w.drew g ts := ⟨h.c, h.f, h.lt⟩
theorem Rw.set {w : World} {g : Nat} {ts : List (List UInt8)} (h : Rw w g ts) (k : Nat) (hk : k < ts.length) (t : List UInt8) : Rw (w.setCell ⟨g, k, none⟩ (.string (bs t))) g (ts.set k t) := by
  refine ⟨fun j hj => ?_, fun j => by rw [World.frozen?_setCell]; exact h.f j, by simp [World.setCell]; exact h.lt⟩
  rw [List.length_set] at hj
  by_cases e : j = k
  · subst e
    rw [World.cell?_setCell_same' _ _ _ (by rw [h.c j hk]; rfl)]; simp
  · rw [World.cell?_setCell_other _ _ _ _ (by intro e2; injection e2 with _ e3; exact e e3.symm), h.c j hj, List.getElem_set_ne (by omega)]
theorem own_rw {w : World} {base : Nat} {v : Value} {n : Nat} {ts : List (List UInt8)} (h : w.ownsRow base 9 1 v n (strCells ts)) (hn : n = ts.length) (hm : n ≤ maxLen) (h0 : 0 < n) : ∃ g cap, v = .slice (some ⟨g, 0, none⟩) n cap ∧ base ≤ g ∧ n ≤ cap ∧ cap ≤ maxLen ∧ Rw w g ts := by
  have hs := SliceAt.of_owns h hm
  obtain ⟨hl, h⟩ := h
  rcases h with ⟨rfl, rfl⟩ | ⟨g, cap, cur, rfl, hb, hg, hc, hm2, hsz, ht⟩
  · omega
  · refine ⟨g, cap, rfl, hb, hc, hm2, fun j hj => ?_, fun j => ?_, (Array.getElem?_eq_some_iff.1 hg).1⟩
    · obtain ⟨-, a, c, e, -, -, hx⟩ := hs.str
      obtain ⟨b, o, ha, -, hcell⟩ := hx j hj
      simp only [Value.slice.injEq] at e
      rw [ha] at e
      have e1 := e.1
      simp only [Option.some.injEq, Addr.mk.injEq] at e1
      obtain ⟨rfl, rfl, -⟩ := e1
      have := hcell j hj
      rwa [Nat.zero_add] at this
    · unfold World.frozen?
      simp only [hg]
      simp
theorem entries_len : ∀ (ks ts : List (List UInt8)), ks.length = ts.length → (entries ks ts).length = ts.length
  | [], [], _ => rfl
  | a :: r, b :: t, h => by
    have := entries_len r t (by simpa using h)
    simp [entries, this]
  | [], _ :: _, h => by simp at h
  | _ :: _, [], h => by simp at h
theorem entries_get : ∀ (ks ts : List (List UInt8)) (h : ks.length = ts.length) (j : Nat) (hj : j < ts.length), (entries ks ts)[j]'(by rw [entries_len ks ts h]; exact hj) = quoteL (ks[j]'(by omega)) ++ 58 :: 32 :: ts[j]
  | a :: r, b :: t, h, 0, _ => rfl
  | a :: r, b :: t, h, j + 1, hj => entries_get r t (by simpa using h) j (by simpa using hj)
  | [], [], _, j, hj => by simp at hj
  | [], _ :: _, h, _, _ => by simp at h
  | _ :: _, [], h, _, _ => by simp at h
def mix (e ts : List (List UInt8)) (j : Nat) : List (List UInt8) := e.take j ++ ts.drop j
theorem mix_len {e ts : List (List UInt8)} (h : e.length = ts.length) (j : Nat) (hj : j ≤ ts.length) : (mix e ts j).length = ts.length := by unfold mix; simp; omega
theorem mix_get {e ts : List (List UInt8)} (h : e.length = ts.length) (j : Nat) (hj : j < ts.length) : (mix e ts j)[j]'(by rw [mix_len h j (by omega)]; exact hj) = ts[j] := by
  unfold mix
  rw [List.getElem_append_right (by simp; omega)]
  simp [Nat.min_eq_left (by omega : j ≤ e.length)]
theorem mix_set {e ts : List (List UInt8)} (h : e.length = ts.length) (j : Nat) (hj : j < ts.length) : (mix e ts j).set j (e[j]'(by omega)) = mix e ts (j + 1) := by
  unfold mix
  rw [List.set_append_right _ _ (by simp; omega)]
  have e1 : j - (e.take j).length = 0 := by simp; omega
  rw [e1, drop_at ts j hj, List.set_cons_zero, take_at e j (by omega), List.append_assoc]; rfl
theorem mix_step {ks ts E : List (List UInt8)} (hE : entries ks ts = E) (h : ks.length = ts.length) : ∀ j (hj : j < ts.length) (hjk : j < ks.length), ∃ hm : j < (mix E ts j).length, (mix E ts j)[j] = ts[j] ∧ (mix E ts j).set j (quoteL ks[j] ++ 58 :: 32 :: ts[j]) = mix E ts (j + 1) := by
  subst hE
  intro j hj hjk
  have hel := entries_len ks ts h
  have hg := entries_get ks ts h j hj
  have hs := mix_set hel j hj
  rw [hg] at hs
  exact ⟨by rw [mix_len hel j (by omega)]; exact hj, mix_get hel j hj, hs⟩
theorem mix_ends {ks ts E : List (List UInt8)} (hE : entries ks ts = E) (h : ks.length = ts.length) : mix E ts 0 = ts ∧ mix E ts ts.length = E ∧ E.length = ts.length := by
  subst hE
  have hel := entries_len ks ts h
  refine ⟨by unfold mix; simp, ?_, hel⟩
  unfold mix
  rw [List.take_of_length_le (by omega), List.drop_of_length_le (Nat.le_refl _), List.append_nil]
theorem tot_get : ∀ {ts : List (List UInt8)} (j : Nat) (h : j < ts.length), ts[j].length ≤ tot ts
  | a :: r, 0, _ => by rw [tot_cons]; show a.length ≤ _; omega
  | a :: r, j + 1, h => by
    have hj : j < r.length := by simpa using h
    have := tot_get (ts := r) j hj
    rw [tot_cons]; show (r[j]'hj).length ≤ _; omega
  | [], j, h => by simp at h
theorem text_k1 (n : Int) (s : List UInt8) (lv kv : Value) (l : List VM) (ks : List (List UInt8)) : textV (.mk 1 n s lv kv l ks) = if n = 1 then [116, 114, 117, 101] else [102, 97, 108, 115, 101] := by unfold textV; rw [if_pos rfl]
theorem text_k2 (n : Int) (s : List UInt8) (lv kv : Value) (l : List VM) (ks : List (List UInt8)) : textV (.mk 2 n s lv kv l ks) = Lib.itoa n := by unfold textV; rw [if_neg (by decide), if_pos rfl]
theorem text_k3 (n : Int) (s : List UInt8) (lv kv : Value) (l : List VM) (ks : List (List UInt8)) : textV (.mk 3 n s lv kv l ks) = quoteL s := by unfold textV; rw [if_neg (by decide), if_neg (by decide), if_pos rfl]
theorem text_k4 (n : Int) (s : List UInt8) (lv kv : Value) (l : List VM) (ks : List (List UInt8)) : textV (.mk 4 n s lv kv l ks) = 91 :: (joinC (textL' l) ++ [93]) := by unfold textV; rw [if_neg (by decide), if_neg (by decide), if_neg (by decide), if_pos rfl]
theorem text_k5 (n : Int) (s : List UInt8) (lv kv : Value) (l : List VM) (ks : List (List UInt8)) : textV (.mk 5 n s lv kv l ks) = 123 :: (joinC (entries ks (textL' l)) ++ [125]) := by unfold textV; rw [if_neg (by decide), if_neg (by decide), if_neg (by decide), if_neg (by decide), if_pos rfl]
theorem text_k0 {k : Int} (h : k ≠ 1 ∧ k ≠ 2 ∧ k ≠ 3 ∧ k ≠ 4 ∧ k ≠ 5) (n : Int) (s : List UInt8) (lv kv : Value) (l : List VM) (ks : List (List UInt8)) : textV (.mk k n s lv kv l ks) = [110, 111, 110, 101] := by
  unfold textV; rw [if_neg h.1, if_neg h.2.1, if_neg h.2.2.1, if_neg h.2.2.2.1, if_neg h.2.2.2.2]
def TextC (N : Nat) : Prop := ∀ (k n : Int) (s : List UInt8) (lv kv : Value) (l : List VM) (ks : List (List UInt8)), dep (.mk k n s lv kv l ks) ≤ N → nodesB (.mk k n s lv kv l ks) = true → fitB (.mk k n s lv kv l ks) = true → cnt (.mk k n s lv kv l ks) ≤ 20000 → ∀ w, Held w (.mk k n s lv kv l ks) → PowTab w →
    Calls Tryz.prog 23 #[valA k n s lv kv] w fun e w' => e = .returned (.string (bs (textV (.mk k n s lv kv l ks)))) ∧ Below w.heap.size w w'
theorem nodesL_get : ∀ {l : List VM}, nodesL l = true → ∀ j (h : j < l.length), nodesB l[j] = true
  | [], _, j, h => by simp at h
  | v :: r, hl, j, h => by
    have hn : nodesB v = true ∧ nodesL r = true := by simpa [nodesL] using hl
    cases j with
    | zero => exact hn.1
    | succ j => exact nodesL_get hn.2 j (by simpa using h)
theorem fitL_get : ∀ {l : List VM}, fitL l = true → ∀ j (h : j < l.length), fitB l[j] = true
  | [], _, j, h => by simp at h
  | v :: r, hl, j, h => by
    have hn : fitB v = true ∧ fitL r = true := by simpa [fitL] using hl
    cases j with
    | zero => exact hn.1
    | succ j => exact fitL_get hn.2 j (by simpa using h)
theorem cntL_get : ∀ {l : List VM} {m : Nat}, cntL l ≤ m → ∀ j (h : j < l.length), cnt l[j] ≤ m
  | [], _, _, j, h => by simp at h
  | v :: r, m, hl, j, h => by
    have hn : cntL (v :: r) = cnt v + cntL r := by simp [cntL]
    cases j with
    | zero => show cnt v ≤ m; omega
    | succ j => exact cntL_get (l := r) (by omega) j (by simpa using h)
theorem len_cntL : ∀ l : List VM, l.length ≤ cntL l
  | [] => by simp
  | v :: r => by
    have := len_cntL r
    have := cnt_pos v
    have hn : cntL (v :: r) = cnt v + cntL r := by simp [cntL]
    simp only [List.length_cons]; omega
/-- The elements of a value whose text is made. -/
theorem all_texts (N : Nat) (IH : TextC N) (l : List VM) (lv : Value) (hd : depL l ≤ N) (hn : nodesL l = true) (hf : fitL l = true) (hc : cntL l ≤ 20000) (w : World) (hl : SliceAt w 5 lv l.length (vmCells l)) (hH : HeldL w l) (ht : PowTab w) :
    Calls Tryz.prog 41 #[lv, .func (.func 23) #[] #[]] w (RowRet (textL' l) w) := by
  rw [textL_map]
  refine all_text textV l lv w hl hH (by have := len_cntL l; omega) (fun j hj W hW => ?_)
  have h1 := heldL_get (HeldL.below hW (Nat.le_refl _) hH) j hj
  have h2 := dep_get hd j hj
  have h3 := nodesL_get hn j hj
  have h4 := fitL_get hf j hj
  have h5 := cntL_get hc j hj
  generalize l[j] = x at *
  cases x with
  | mk a b c d e f g => exact IH a b c d e f g h2 h3 h4 h5 W h1 (ht.below hW)
end Go.Proofs.YtnfjlimecoikpaaGreatDoor
