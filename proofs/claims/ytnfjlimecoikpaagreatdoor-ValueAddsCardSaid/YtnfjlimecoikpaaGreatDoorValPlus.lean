/- plus and Op, of values. -/
import Derived.Test.YtnfjlimecoikpaaGreatDoorValAddPlain
import Derived.Test.YtnfjlimecoikpaaGreatDoorValConcat
import Derived.Test.YtnfjlimecoikpaaGreatDoorValSame
namespace Go.Proofs.YtnfjlimecoikpaaGreatDoor
set_option maxRecDepth 100000
open Go.RowKit

/-- What a sum is answered as. -/
def SumRet (r : VM × Nat) (w : World) (e : Ending) (w' : World) : Prop :=
  ∃ (k n : Int) (s : List UInt8) (lv kv : Value) (l : List VM) (ks : List (List UInt8)), e = .returned (.tuple #[valA k n s lv kv, .int .i64 r.2]) ∧ Held w' (.mk k n s lv kv l ks) ∧ sameB (.mk k n s lv kv l ks) r.1 = true ∧ Below w.heap.size w w'
theorem slice_upon {w w' : World} {size n : Nat} {v : Value} {xs : List Value} (h : SliceAt w size v n xs) (hs : w.heap.size ≤ w'.heap.size) (hb : ∀ i, i < w.heap.size → w'.heap[i]? = w.heap[i]?) : SliceAt w' size v n xs := by
  obtain ⟨hl, a, c, rfl, hc, hm, hn, hx⟩ := h
  refine ⟨hl, a, c, rfl, hc, hm, hn, fun hne => ?_⟩
  obtain ⟨b, off, rfl, hlt, hcell⟩ := hx hne
  refine ⟨b, off, rfl, Nat.lt_of_lt_of_le hlt hs, fun j u hu => ?_⟩
  rw [← hcell j u hu]
  exact World.cell?_of_block (w := w) (hb b hlt)
mutual
theorem held_upon {w w' : World} (hs : w.heap.size ≤ w'.heap.size) (hb : ∀ i, i < w.heap.size → w'.heap[i]? = w.heap[i]?) : ∀ {v : VM}, Held w v → Held w' v
  | .mk k n s lv kv l ks, h => by
    unfold Held at h ⊢
    exact ⟨slice_upon h.1 hs hb, slice_upon h.2.1 hs hb, heldL_upon hs hb h.2.2⟩
theorem heldL_upon {w w' : World} (hs : w.heap.size ≤ w'.heap.size) (hb : ∀ i, i < w.heap.size → w'.heap[i]? = w.heap[i]?) : ∀ {l : List VM}, HeldL w l → HeldL w' l
  | [], _ => by unfold HeldL; trivial
  | v :: r, h => by
    unfold HeldL at h ⊢
    exact ⟨held_upon hs hb h.1, heldL_upon hs hb h.2⟩
end
theorem ok_bounds {v : VM} (h : okB v = true) : v.s.length ≤ 65536 ∧ v.l.length ≤ 20000 := by
  cases v with
  | mk k n s lv kv l ks =>
    unfold okB at h
    simp only [Bool.and_eq_true, decide_eq_true_eq] at h
    have hn : nodesL l = true ∧ nodeB k n s l.length ks = true := by simpa [nodesB] using h.2
    have hc : cnt (.mk k n s lv kv l ks) = 1 + cntL l := by simp [cnt]
    have := len_cntL l
    exact ⟨(node_text hn.2).1, by show l.length ≤ 20000; omega⟩
/-- What plus answers: of what lay there before B, and of memory of its own. -/
def PlusRet (B : Nat) (r : VM × Nat) (w : World) (e : Ending) (w' : World) : Prop :=
  ∃ (k n : Int) (s : List UInt8) (a1 : Option Addr) (n1 c1 : Nat) (a2 : Option Addr) (n2 c2 : Nat) (l : List VM) (ks : List (List UInt8)), e = .returned (.tuple #[valA k n s (.slice a1 n1 c1) (.slice a2 n2 c2), .int .i64 r.2]) ∧
    Dep 0 (fun i => B ≤ i ∧ i < w.heap.size) w' (fun W => Held W (.mk k n s (.slice a1 n1 c1) (.slice a2 n2 c2) l ks)) ∧ sameB (.mk k n s (.slice a1 n1 c1) (.slice a2 n2 c2) l ks) r.1 = true ∧ Below w.heap.size w w'
theorem plus_bare {B : Nat} {w W : World} {b c : Nat} {r : VM × Nat} (k n : Int) (s : List UInt8) (hr : r = (.mk k n s nilS nilS [] [], c)) (hb : Below w.heap.size w W) (hB : w.heap.size ≤ b) (x0 x1 x2 x3 x4 : Value) :
    PlusRet B r w (.returned (.tuple #[valA k n s (.slice none 0 0) (.slice none 0 0), .int .i64 c])) ((((((W).setCell ⟨b, 0, none⟩ x0).setCell ⟨b, 1, none⟩ x1).setCell ⟨b, 2, none⟩ x2).setCell ⟨b, 3, none⟩ x3).setCell ⟨b, 4, none⟩ x4) := by
  subst hr
  exact ⟨k, n, s, _, _, _, _, _, _, [], [], rfl, dep_bare _ _ _ _ _ _, same_refl _, below_ch hb hB _ _ _ _ _⟩
theorem sum_bare {w W : World} {b c : Nat} {r : VM × Nat} (k n : Int) (s : List UInt8) (hr : r = (.mk k n s nilS nilS [] [], c)) (hb : Below w.heap.size w W) (hB : w.heap.size ≤ b) (x0 x1 x2 x3 x4 : Value) :
    SumRet r w (.returned (.tuple #[valA k n s (.slice none 0 0) (.slice none 0 0), .int .i64 c])) ((((((W).setCell ⟨b, 0, none⟩ x0).setCell ⟨b, 1, none⟩ x1).setCell ⟨b, 2, none⟩ x2).setCell ⟨b, 3, none⟩ x3).setCell ⟨b, 4, none⟩ x4) := by
  subst hr
  exact ⟨k, n, s, _, _, [], [], rfl, mk_held (SliceAt.nil _ 5) (SliceAt.nil _ 1) heldL_nil, same_refl _, below_ch hb hB _ _ _ _ _⟩
theorem own_ch {w : World} {base e size n b : Nat} {v : Value} {xs : List Value} (h : w.ownsRow base e size v n xs) (hb : b < base) (x0 x1 x2 x3 x4 : Value) : ((((((w).setCell ⟨b, 0, none⟩ x0).setCell ⟨b, 1, none⟩ x1).setCell ⟨b, 2, none⟩ x2).setCell ⟨b, 3, none⟩ x3).setCell ⟨b, 4, none⟩ x4).ownsRow base e size v n xs :=
  own_keep1 (own_keep1 (own_keep1 (own_keep1 (own_keep1 h hb x0) hb x1) hb x2) hb x3) hb x4
theorem plus_three (w : World) (k n : Int) (s : List UInt8) (lv kv : Value) (k' n' : Int) (s' : List UInt8) (lv' kv' : Value) :
    ∃ W, W = ((w.alloc (.cells #[.int .i64 k, .int .i64 n, .string (bs s), lv, kv] 25)).alloc (.cells #[.int .i64 k', .int .i64 n', .string (bs s'), lv', kv'] 25)).alloc (.cells #[.int .i64 0, .int .i64 0, .string ⟨#[]⟩, .slice none 0 0, .slice none 0 0] 25) ∧ Box W w.heap.size k n s lv kv ∧ Box W (w.heap.size + 1) k' n' s' lv' kv' ∧ RC W (w.heap.size + 2) 0 0 [] (.slice none 0 0) (.slice none 0 0) ∧ Below w.heap.size w W := by
  refine ⟨_, rfl, (box_two w k n s lv kv _ _ (0, 0)).keeps (below_new _ _), (box_next w k' n' s' lv' kv' _ _ (0, 0)).keeps (below_new _ _), ?_, Below.chain (below_new2 w _ _) (below_new _ _)⟩
  have := rc_new ((w.alloc (.cells #[.int .i64 k, .int .i64 n, .string (bs s), lv, kv] 25)).alloc (.cells #[.int .i64 k', .int .i64 n', .string (bs s'), lv', kv'] 25)) 0 0 [] (.slice none 0 0) (.slice none 0 0)
  rw [World.size_alloc, World.size_alloc] at this
  exact this
theorem plus_res {w : World} {tmps : Array Value} {b : Nat} {k n : Int} {s : List UInt8} {lv kv : Value} {c : Int} (h2 : tmps[4]?.getD undef = .pointer (some ⟨b, 0, none⟩)) (h3 : tmps[5]?.getD undef = .int .i64 c) (h : Box w b k n s lv kv) :
    (results Tryz.f32 tmps).run Tryz.prog w = .ok (.tuple #[valA k n s lv kv, .int .i64 c]) w := by
  simp [results, Tryz.f32, go_sem, h2, h3, h.c0, h.c1, h.c2, h.c3, h.c4]
set_option maxHeartbeats 2000000 in
theorem plus_any (k n : Int) (s : List UInt8) (lv kv : Value) (l : List VM) (ks : List (List UInt8)) (k' n' : Int) (s' : List UInt8) (lv' kv' : Value) (l' : List VM) (ks' : List (List UInt8)) (hf : fitB (.mk k n s lv kv l ks) = true) (hf' : fitB (.mk k' n' s' lv' kv' l' ks') = true) (ho : okB (.mk k n s lv kv l ks) = true) (ho' : okB (.mk k' n' s' lv' kv' l' ks') = true) (w0 w : World) (hw0 : Below w0.heap.size w0 w) (hH : Held w0 (.mk k n s lv kv l ks)) (hH' : Held w0 (.mk k' n' s' lv' kv' l' ks')) :
    Calls Tryz.prog 32 #[valA k n s lv kv, valA k' n' s' lv' kv'] w (PlusRet w0.heap.size (plusV (.mk k n s lv kv l ks) (.mk k' n' s' lv' kv' l' ks')) w) := by
  obtain ⟨hl, hk, hL⟩ := held_mk hH
  obtain ⟨hl', hk', hL'⟩ := held_mk hH'
  have hfi : (-9223372036854775808 ≤ k ∧ k ≤ 9223372036854775807 ∧ -9223372036854775808 ≤ n ∧ n ≤ 9223372036854775807) ∧ fitL l = true := by simpa [fitB] using hf
  have hfi' : (-9223372036854775808 ≤ k' ∧ k' ≤ 9223372036854775807 ∧ -9223372036854775808 ≤ n' ∧ n' ≤ 9223372036854775807) ∧ fitL l' = true := by simpa [fitB] using hf'
  have hb1 := ok_bounds ho
  have hb2 := ok_bounds ho'
  obtain ⟨hs1, hl1⟩ : s.length ≤ 65536 ∧ l.length ≤ 20000 := hb1
  obtain ⟨hs2, hl2⟩ : s'.length ≤ 65536 ∧ l'.length ≤ 20000 := hb2
  clear ho ho'
  have HL := hid hl
  have HL' := hid hl'
  have HLL := hid hL
  have HLL' := hid hL'
  have HLV : Hid (∃ a c, lv = .slice a l.length c ∧ l.length ≤ c ∧ c ≤ maxLen) := hid (by obtain ⟨-, a, c, e, h1, h2, -⟩ := hl.vms; exact ⟨a, c, e, h1, h2⟩)
  have HLV' : Hid (∃ a c, lv' = .slice a l'.length c ∧ l'.length ≤ c ∧ c ≤ maxLen) := hid (by obtain ⟨-, a, c, e, h1, h2, -⟩ := hl'.vms; exact ⟨a, c, e, h1, h2⟩)
  obtain ⟨W, hW, hA, hB, hR, hbw⟩ := plus_three w k n s lv kv k' n' s' lv' kv'
  have HA := hid hA
  have HB := hid hB
  have HR := hid hR
  obtain ⟨r, hr⟩ : ∃ r, plusV (.mk k n s lv kv l ks) (.mk k' n' s' lv' kv' l' ks') = r := ⟨_, rfl⟩
  have HP : Hid (r = plusV (.mk k n s lv kv l ks) (.mk k' n' s' lv' kv' l' ks')) := hid hr.symm
  rw [hr]
  clear hr hl hl' hk hk' hL hL' hH hH' hf hf' hA hB hR
  by_cases hkk : k = k'
  case neg =>
    have HF : Hid (r = (noneV, 9)) := hid (by rw [HP.out]; exact plus_ne hkk)
    have q : (k != k') = true := neT hkk
    clear hkk
    go_enter Tryz.func32, Tryz.ntmps32
    go_upto_region 1 with fail
    rw [← hW]
    clear hW
    obtain ⟨a0, a1, a2, a3, a4⟩ := HA.out
    obtain ⟨b0, b1, b2, b3, b4⟩ := HB.out
    obtain ⟨⟨c0, c1, c2, c3, c4⟩, hfr⟩ := HR.out
    have f0 := hfr 0
    have f1 := hfr 1
    have f2 := hfr 2
    have f3 := hfr 3
    have f4 := hfr 4
    go_wp2_with fail
    refine bodyPost_ret (plus_res rfl rfl (RC.all HR.out _ _ _ _ _).x) rfl ?_
    exact plus_bare 0 0 [] HF.out hbw (by omega) _ _ _ _ _
  subst hkk
  have qk : (k != k) = false := neF rfl
  by_cases h2 : k = 2
  · subst h2
    have HP2 : Hid (r = if -9223372036854775808 ≤ n + n' ∧ n + n' ≤ 9223372036854775807 then (.mk 2 (n + n') [] nilS nilS [] [], 0) else (noneV, 2)) := hid (by rw [HP.out]; exact plus_2 rfl rfl)
    clear HP
    by_cases hr : -9223372036854775808 ≤ n + n' ∧ n + n' ≤ 9223372036854775807
    · have HF : Hid (r = (.mk 2 (n + n') [] nilS nilS [] [], 0)) := hid (by rw [HP2.out, if_pos hr])
      have hw : wrap64 (n + n') = n + n' := by unfold wrap64; omega
      obtain ⟨hr1, hr2⟩ := hr
      rcases Int.lt_trichotomy n' 0 with h | h | h
      · have q1 : ¬ n < n + n' := by omega
        have q2 : ¬ 0 < n' := by omega
        have q3 : (n' != 0) = true := neT (by omega)
        go_enter Tryz.func32, Tryz.ntmps32
        go_upto_region 1 with fail
        rw [← hW]
        clear hW
        obtain ⟨a0, a1, a2, a3, a4⟩ := HA.out
        obtain ⟨b0, b1, b2, b3, b4⟩ := HB.out
        obtain ⟨⟨c0, c1, c2, c3, c4⟩, hfr⟩ := HR.out
        have f0 := hfr 0
        have f1 := hfr 1
        have f2 := hfr 2
        have f3 := hfr 3
        have f4 := hfr 4
        go_wp2_with fail
        refine bodyPost_ret (plus_res rfl rfl (RC.all HR.out _ _ _ _ _).x) rfl ?_
        exact plus_bare 2 (n + n') [] HF.out hbw (by omega) _ _ _ _ _
      · subst h
        have HF1 : Hid (r = (.mk 2 n [] nilS nilS [] [], 0)) := hid (by have := HF.out; rwa [Int.add_zero] at this)
        go_enter Tryz.func32, Tryz.ntmps32
        go_upto_region 1 with fail
        rw [← hW]
        clear hW
        obtain ⟨a0, a1, a2, a3, a4⟩ := HA.out
        obtain ⟨b0, b1, b2, b3, b4⟩ := HB.out
        obtain ⟨⟨c0, c1, c2, c3, c4⟩, hfr⟩ := HR.out
        have f0 := hfr 0
        have f1 := hfr 1
        have f2 := hfr 2
        have f3 := hfr 3
        have f4 := hfr 4
        go_wp2_with fail
        refine bodyPost_ret (plus_res rfl rfl (RC.all HR.out _ _ _ _ _).x) rfl ?_
        exact plus_bare 2 n [] HF1.out hbw (by omega) _ _ _ _ _
      · have q1 : n < n + n' := by omega
        have q2 : 0 < n' := by omega
        have q3 : (n' != 0) = true := neT (by omega)
        go_enter Tryz.func32, Tryz.ntmps32
        go_upto_region 1 with fail
        rw [← hW]
        clear hW
        obtain ⟨a0, a1, a2, a3, a4⟩ := HA.out
        obtain ⟨b0, b1, b2, b3, b4⟩ := HB.out
        obtain ⟨⟨c0, c1, c2, c3, c4⟩, hfr⟩ := HR.out
        have f0 := hfr 0
        have f1 := hfr 1
        have f2 := hfr 2
        have f3 := hfr 3
        have f4 := hfr 4
        go_wp2_with fail
        refine bodyPost_ret (plus_res rfl rfl (RC.all HR.out _ _ _ _ _).x) rfl ?_
        exact plus_bare 2 (n + n') [] HF.out hbw (by omega) _ _ _ _ _
    · have HF : Hid (r = (noneV, 2)) := hid (by rw [HP2.out, if_neg hr])
      obtain ⟨S, hS⟩ : ∃ S, wrap64 (n + n') = S := ⟨_, rfl⟩
      have hS' := hS
      unfold wrap64 at hS'
      by_cases h : 0 < n'
      · have q1 : ¬ n < S := by omega
        have q3 : (n' != 0) = true := neT (by omega)
        clear hr hS'
        go_enter Tryz.func32, Tryz.ntmps32
        go_upto_region 1 with fail
        rw [← hW]
        clear hW
        obtain ⟨a0, a1, a2, a3, a4⟩ := HA.out
        obtain ⟨b0, b1, b2, b3, b4⟩ := HB.out
        obtain ⟨⟨c0, c1, c2, c3, c4⟩, hfr⟩ := HR.out
        have f0 := hfr 0
        have f1 := hfr 1
        have f2 := hfr 2
        have f3 := hfr 3
        have f4 := hfr 4
        go_wp2_with fail
        refine bodyPost_ret (plus_res rfl rfl (RC.all HR.out _ _ _ _ _).x) rfl ?_
        exact plus_bare 0 0 [] HF.out hbw (by omega) _ _ _ _ _
      · have q1 : n < S := by omega
        have q3 : (n' != 0) = true := neT (by omega)
        clear hr hS'
        go_enter Tryz.func32, Tryz.ntmps32
        go_upto_region 1 with fail
        rw [← hW]
        clear hW
        obtain ⟨a0, a1, a2, a3, a4⟩ := HA.out
        obtain ⟨b0, b1, b2, b3, b4⟩ := HB.out
        obtain ⟨⟨c0, c1, c2, c3, c4⟩, hfr⟩ := HR.out
        have f0 := hfr 0
        have f1 := hfr 1
        have f2 := hfr 2
        have f3 := hfr 3
        have f4 := hfr 4
        go_wp2_with fail
        refine bodyPost_ret (plus_res rfl rfl (RC.all HR.out _ _ _ _ _).x) rfl ?_
        exact plus_bare 0 0 [] HF.out hbw (by omega) _ _ _ _ _
  by_cases h3 : k = 3
  · subst h3
    have HP2 : Hid (r = if 65536 < s.length + s'.length then (noneV, 6) else (.mk 3 0 (s ++ s') nilS nilS [] [], 0)) := hid (by rw [HP.out]; exact plus_3 rfl rfl)
    clear HP
    by_cases hr : 65536 < s.length + s'.length
    · have HF : Hid (r = (noneV, 6)) := hid (by rw [HP2.out, if_pos hr])
      have q : (65536 : Int) < (s.length : Int) + (s'.length : Int) := by omega
      clear hr
      go_enter Tryz.func32, Tryz.ntmps32
      go_upto_region 1 with fail
      rw [← hW]
      clear hW
      obtain ⟨a0, a1, a2, a3, a4⟩ := HA.out
      obtain ⟨b0, b1, b2, b3, b4⟩ := HB.out
      obtain ⟨⟨c0, c1, c2, c3, c4⟩, hfr⟩ := HR.out
      have f0 := hfr 0
      have f1 := hfr 1
      have f2 := hfr 2
      have f3 := hfr 3
      have f4 := hfr 4
      go_wp2_with fail
      refine bodyPost_ret (plus_res rfl rfl (RC.all HR.out _ _ _ _ _).x) rfl ?_
      exact plus_bare 0 0 [] HF.out hbw (by omega) _ _ _ _ _
    · have HF : Hid (r = (.mk 3 0 (s ++ s') nilS nilS [] [], 0)) := hid (by rw [HP2.out, if_neg hr])
      have q : ¬ (65536 : Int) < (s.length : Int) + (s'.length : Int) := by omega
      clear hr
      go_enter Tryz.func32, Tryz.ntmps32
      go_upto_region 1 with fail
      rw [← hW]
      clear hW
      obtain ⟨a0, a1, a2, a3, a4⟩ := HA.out
      obtain ⟨b0, b1, b2, b3, b4⟩ := HB.out
      obtain ⟨⟨c0, c1, c2, c3, c4⟩, hfr⟩ := HR.out
      have f0 := hfr 0
      have f1 := hfr 1
      have f2 := hfr 2
      have f3 := hfr 3
      have f4 := hfr 4
      go_wp2_with fail
      refine bodyPost_ret (plus_res rfl rfl (RC.all HR.out _ _ _ _ _).x) rfl ?_
      exact plus_bare 3 0 (s ++ s') HF.out hbw (by omega) _ _ _ _ _
  have u2 : (k == 2) = false := eqF h2
  have u3 : (k == 3) = false := eqF h3
  by_cases h4 : k = 4
  case neg =>
    have HF : Hid (r = (noneV, 9)) := hid (by rw [HP.out]; exact plus_no rfl h2 h3 h4)
    have u4 : (k == 4) = false := eqF h4
    clear h2 h3 h4
    go_enter Tryz.func32, Tryz.ntmps32
    go_upto_region 1 with fail
    rw [← hW]
    clear hW
    obtain ⟨a0, a1, a2, a3, a4⟩ := HA.out
    obtain ⟨b0, b1, b2, b3, b4⟩ := HB.out
    obtain ⟨⟨c0, c1, c2, c3, c4⟩, hfr⟩ := HR.out
    have f0 := hfr 0
    have f1 := hfr 1
    have f2 := hfr 2
    have f3 := hfr 3
    have f4 := hfr 4
    go_wp2_with fail
    refine bodyPost_ret (plus_res rfl rfl (RC.all HR.out _ _ _ _ _).x) rfl ?_
    exact plus_bare 0 0 [] HF.out hbw (by omega) _ _ _ _ _
  subst h4
  have HP2 : Hid (r = if 1000 < l.length + l'.length then (noneV, 6) else if okB (.mk 4 0 [] nilS nilS (l ++ l') []) = true then (.mk 4 0 [] nilS nilS (l ++ l') [], 0) else (noneV, 6)) := hid (by rw [HP.out]; exact plus_4 rfl rfl)
  clear HP h2 h3 u2 u3
  obtain ⟨la, lc, rfl, hlc, hlm⟩ := HLV.out
  obtain ⟨la', lc', rfl, hlc', hlm'⟩ := HLV'.out
  unfold maxLen at hlm hlm'
  by_cases hr : 1000 < l.length + l'.length
  · have HF : Hid (r = (noneV, 6)) := hid (by rw [HP2.out, if_pos hr])
    have q : (1000 : Int) < (l.length : Int) + (l'.length : Int) := by omega
    clear hr
    go_enter Tryz.func32, Tryz.ntmps32
    go_upto_region 1 with fail
    rw [← hW]
    clear hW
    obtain ⟨a0, a1, a2, a3, a4⟩ := HA.out
    obtain ⟨b0, b1, b2, b3, b4⟩ := HB.out
    obtain ⟨⟨c0, c1, c2, c3, c4⟩, hfr⟩ := HR.out
    have f0 := hfr 0
    have f1 := hfr 1
    have f2 := hfr 2
    have f3 := hfr 3
    have f4 := hfr 4
    go_wp2_with fail
    refine bodyPost_ret (plus_res rfl rfl (RC.all HR.out _ _ _ _ _).x) rfl ?_
    exact plus_bare 0 0 [] HF.out hbw (by omega) _ _ _ _ _
  have q : ¬ (1000 : Int) < (l.length : Int) + (l'.length : Int) := by omega
  have hll : l.length + l'.length ≤ 1000000 := by omega
  obtain ⟨ok, hok⟩ : ∃ ok, okB (.mk 4 0 [] nilS nilS (l ++ l') []) = ok := ⟨_, rfl⟩
  have HF0 : Hid (r = if ok = true then (.mk 4 0 [] nilS nilS (l ++ l') [], 0) else (noneV, 6)) := hid (by rw [HP2.out, if_neg hr, hok])
  clear HP2 hr
  have hbn := below_new W (.cells #[.slice la l.length lc, .slice la' l'.length lc'] 22)
  obtain ⟨W2, hW2⟩ : ∃ W2, W2 = W.alloc (.cells #[.slice la l.length lc, .slice la' l'.length lc'] 22) := ⟨_, rfl⟩
  have g0 : (W.alloc (.cells #[.slice la l.length lc, .slice la' l'.length lc'] 22)).cell? ⟨W.heap.size, 0, none⟩ = some (.slice la l.length lc) := by rw [World.cell?_alloc_mark]; rfl
  have g1 : (W.alloc (.cells #[.slice la l.length lc, .slice la' l'.length lc'] 22)).cell? ⟨W.heap.size, 1, none⟩ = some (.slice la' l'.length lc') := by rw [World.cell?_alloc_mark]; rfl
  rw [← hW2] at hbn g0 g1
  have hb2 := Below.chain hbw hbn
  have h02 := Below.chain hw0 hb2
  have HC := hid (concat_val l l' _ _ W2 (HL.out.below h02 (Nat.le_refl _)) (HL'.out.below h02 (Nat.le_refl _)) (HeldL.below h02 (Nat.le_refl _) HLL.out) (HeldL.below h02 (Nat.le_refl _) HLL'.out) hll W.heap.size g0 g1)
  rw [hW2] at HC
  go_enter Tryz.func32, Tryz.ntmps32
  go_upto_region 1 with fail
  rw [← hW]
  clear hW
  obtain ⟨a0, a1, a2, a3, a4⟩ := HA.out
  obtain ⟨b0, b1, b2, b3, b4⟩ := HB.out
  obtain ⟨⟨c0, c1, c2, c3, c4⟩, hfr⟩ := HR.out
  have f0 := hfr 0
  have f1 := hfr 1
  have f2 := hfr 2
  have f3 := hfr 3
  have f4 := hfr 4
  go_wp2_with fail
  refine HC.out.mono ?_
  rw [← hW2]
  rintro e w3 ⟨v, rfl, hown, hb3⟩
  obtain ⟨va, vc, rfl⟩ := own_shape hown
  have hb3' := Below.chain hb2 hb3
  have HR3 := hid ((HR.out.keep hbn).keep hb3)
  have hba := below_new w3 (.cells #[.int .i64 4, .int .i64 0, .string ⟨#[]⟩, .slice va (l.length + l'.length) vc, .slice none 0 0] 25)
  obtain ⟨W4, hW4⟩ : ∃ W4, W4 = w3.alloc (.cells #[.int .i64 4, .int .i64 0, .string ⟨#[]⟩, .slice va (l.length + l'.length) vc, .slice none 0 0] 25) := ⟨_, rfl⟩
  have HX : Hid (RC W4 w3.heap.size 4 0 [] (.slice va (l.length + l'.length) vc) (.slice none 0 0)) := hid (by rw [hW4]; exact rc_new w3 4 0 [] (.slice va (l.length + l'.length) vc) (.slice none 0 0))
  have hownA := ownsRow_below hown hba
  have HR4 := hid (HR3.out.keep hba)
  have hb4 := Below.chain hb3' hba
  have hlast : w.heap.size + 2 < W2.heap.size := Nat.lt_of_lt_of_le HR.out.lt hbn.size
  rw [← hW4] at hownA HR4 hb4
  have hsum : ∀ W', W'.ownsRow W2.heap.size 25 5 (.slice va (l.length + l'.length) vc) (l.length + l'.length) (vmCells (l ++ l')) → Below w0.heap.size w0 W' → Held W' (.mk 4 0 [] (.slice va (l.length + l'.length) vc) (.slice none 0 0) (l ++ l') []) := fun W' ho hb =>
    mk_held (by rw [List.length_append]; exact SliceAt.of_owns ho (by unfold maxLen; omega)) (SliceAt.nil _ 1) (heldL_app (HeldL.below hb (Nat.le_refl _) HLL.out) (HeldL.below hb (Nat.le_refl _) HLL'.out))
  have hsm : sameB (.mk 4 0 [] (.slice va (l.length + l'.length) vc) (.slice none 0 0) (l ++ l') []) (.mk 4 0 [] nilS nilS (l ++ l') []) = true := by rw [same_mk]; simp [same_reflL]
  have HCk := hid (check_any 4 0 [] (.slice va (l.length + l'.length) vc) (.slice none 0 0) (l ++ l') [] W4 (hsum W4 hownA (Below.chain hw0 hb4)) ok (by rw [same_ok hsm, hok]))
  have HO := hid hownA
  have HSum := hid hsum
  have HSm := hid hsm
  clear hown hownA hsum hsm hok hba hbn g0 g1 a0 a1 a2 a3 a4 b0 b1 b2 b3 b4 c0 c1 c2 c3 c4 f0 f1 f2 f3 f4 hfr
  go_upto_region 15 with fail
  rw [← hW4]
  clear hW4
  obtain ⟨d0, d1, d2, d3, d4⟩ := HX.out.x
  go_wp2_with fail
  refine HCk.out.mono ?_
  rintro e w5 ⟨rfl, hb5⟩
  have hb6 := Below.chain hb4 hb5
  have HR5 := hid (HR4.out.keep hb5)
  have HX5 := hid (HX.out.keep hb5)
  have HO5 := hid (ownsRow_below HO.out hb5)
  clear d0 d1 d2 d3 d4
  obtain ⟨d0, d1, d2, d3, d4⟩ := HX5.out.x
  obtain ⟨⟨c0, c1, c2, c3, c4⟩, hfr⟩ := HR5.out
  have f0 := hfr 0
  have f1 := hfr 1
  have f2 := hfr 2
  have f3 := hfr 3
  have f4 := hfr 4
  cases ok with
  | false =>
    have HF : Hid (r = (noneV, 6)) := hid (by rw [HF0.out]; rfl)
    go_wp2_with fail
    refine bodyPost_ret (plus_res rfl rfl (RC.all HR5.out _ _ _ _ _).x) rfl ?_
    exact plus_bare 0 0 [] HF.out hb6 (by omega) _ _ _ _ _
  | true =>
    have HF : Hid (r = (.mk 4 0 [] nilS nilS (l ++ l') [], 0)) := hid (by rw [HF0.out]; rfl)
    go_wp2_with fail
    refine bodyPost_ret (plus_res rfl rfl (RC.all HR5.out _ _ _ _ _).x) rfl ?_
    refine ⟨4, 0, [], _, _, _, _, _, _, l ++ l', [], by rw [HF.out]; rfl, ?_, by rw [HF.out]; exact HSm.out, below_ch hb6 (by omega) _ _ _ _ _⟩
    have hbF := below_ch (b := w.heap.size + 2) hb6 (by omega) (.int .i64 4) (.int .i64 0) (.string (bs [])) (.slice va (l.length + l'.length) vc) (.slice none 0 0)
    have hoF := own_ch (b := w.heap.size + 2) HO5.out hlast (.int .i64 4) (.int .i64 0) (.string (bs [])) (.slice va (l.length + l'.length) vc) (.slice none 0 0)
    have hb0F := Below.chain hw0 hbF
    have hd := own_dep (lo := 0) (X := fun i => w0.heap.size ≤ i ∧ i < w.heap.size) hoF (Nat.zero_le _) (by unfold maxLen; omega) (fun g hg h => by have := (own_ge hoF hg).1; omega)
    exact fun W' hs he => mk_held (by rw [List.length_append]; exact hd W' hs he) (SliceAt.nil _ 1)
      (heldL_app (heldL_upon (Nat.le_trans hb0F.size hs) (fun i hi => (he i (Nat.zero_le _) (Nat.lt_of_lt_of_le hi hb0F.size) (fun h => by omega)).trans (hb0F.block i hi)) HLL.out)
        (heldL_upon (Nat.le_trans hb0F.size hs) (fun i hi => (he i (Nat.zero_le _) (Nat.lt_of_lt_of_le hi hb0F.size) (fun h => by omega)).trans (hb0F.block i hi)) HLL'.out))
end Go.Proofs.YtnfjlimecoikpaaGreatDoor
