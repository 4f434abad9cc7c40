/- The walk of the law PackNests. -/
import Derived.Test.YtncdmaolcgpnkaaDoorPackApartWalk
namespace Go.Proofs.YtncdmaolcgpnkaaDoor
open Go.RowKit

theorem rowL_small (r : List (List UInt8)) (h : longB r = false) : (rowL r).length ≤ 55000 ∧ (∀ s ∈ r, s.length < 1000000000) := by
  have hs : sumLen r ≤ 5000 := by have := of_decide_eq_false h; omega
  have hm : ∀ s ∈ r, s.length < 1000000000 := fun s hs' => by have := sumLen_ge r s hs'; omega
  exact ⟨by have := rowL_len r hm; omega, hm⟩
theorem sumLen_le (k : Nat) : ∀ ss : List (List UInt8), (∀ s ∈ ss, s.length ≤ k) → sumLen ss ≤ ss.length * (k + 1)
  | [], _ => by simp [sumLen]
  | s :: ss, h => by
    have e : sumLen (s :: ss) = (s.length + 1) + sumLen ss := by simp [sumLen]
    have h1 := h s (by simp)
    have h2 := sumLen_le k ss (fun x hx => h x (by simp [hx]))
    rw [e, List.length_cons, Nat.add_mul]; omega
theorem rows_small (a : List (List (List UInt8))) (ha : a.length ≤ 30) (h : ∀ r ∈ a, longB r = false) : (rowL (a.map rowL)).length ≤ 20000000 ∧ (∀ s ∈ a.map rowL, s.length < 1000000000) := by
  have h1 : ∀ s ∈ a.map rowL, s.length ≤ 55000 := by
    intro s hs
    simp only [List.mem_map] at hs
    obtain ⟨r, hr, rfl⟩ := hs
    exact (rowL_small r (h r hr)).1
  have h2 := sumLen_le 55000 _ h1
  have hm : ∀ s ∈ a.map rowL, s.length < 1000000000 := fun s hs => by have := h1 s hs; omega
  have h3 := rowL_len _ hm
  rw [List.length_map] at h2
  exact ⟨by omega, hm⟩
theorem rows_inj {a b : List (List (List UInt8))} (ha : ∀ r ∈ a, longB r = false) (hb : ∀ r ∈ b, longB r = false) (h : a.map rowL = b.map rowL) : a = b := by
  induction a generalizing b with
  | nil => cases b with
    | nil => rfl
    | cons r b => simp at h
  | cons r a ih => cases b with
    | nil => simp at h
    | cons q b =>
      simp only [List.map_cons, List.cons.injEq] at h
      rw [row_inj (rowL_small r (ha r (by simp))).2 (rowL_small q (hb q (by simp))).2 h.1, ih (fun x hx => ha x (by simp [hx])) (fun x hx => hb x (by simp [hx])) h.2]

/-- how far two lists of rows are the same. -/
def sameTo (a b : List (List (List UInt8))) (k : Nat) : Bool := decide (a.length = b.length ∧ a.take k = b.take k)
theorem sameTo_zero (a b : List (List (List UInt8))) : sameTo a b 0 = decide (a.length = b.length) := by simp [sameTo]
theorem sameTo_no {a b : List (List (List UInt8))} {k : Nat} (h : sameTo a b k = false) : sameTo a b (k + 1) = false := by
  have h := of_decide_eq_false h
  refine decide_eq_false fun ⟨h1, h2⟩ => h ⟨h1, ?_⟩
  have := congrArg (List.take k) h2
  simpa [List.take_take] using this
theorem sameTo_len {a b : List (List (List UInt8))} {k : Nat} (h : sameTo a b k = true) : a.length = b.length := (of_decide_eq_true h).1
theorem sameTo_step {a b : List (List (List UInt8))} {k : Nat} (h : sameTo a b k = true) (ha : k < a.length) (hb : k < b.length) : sameTo a b (k + 1) = decide (a[k] = b[k]) := by
  obtain ⟨h1, h2⟩ := of_decide_eq_true h
  by_cases he : a[k] = b[k]
  · rw [decide_eq_true he]; exact decide_eq_true ⟨h1, by rw [take_at _ _ ha, take_at _ _ hb, h2, he]⟩
  · rw [decide_eq_false he]
    refine decide_eq_false fun ⟨_, h3⟩ => he ?_
    rw [take_at a k ha, take_at b k hb, h2] at h3
    have := List.append_cancel_left h3
    simpa using this
theorem sameTo_all (a b : List (List (List UInt8))) (k : Nat) (hk : a.length ≤ k) : sameTo a b k = decide (a = b) := by
  unfold sameTo
  by_cases h : a.length = b.length
  · rw [List.take_of_length_le hk, List.take_of_length_le (by omega)]; simp only [h, true_and]
  · rw [decide_eq_false (fun h' => h h'.1), decide_eq_false (fun h' => h (congrArg List.length h'))]

set_option maxHeartbeats 2000000 in
theorem law_nests (v0 v1 : Value) (a b : List (List (List UInt8))) (w : World) (h0 : RowsAt w v0 a) (h1 : RowsAt w v1 b)
    (hba : ∀ r ∈ a, ∀ s ∈ r, s.length ≤ reachBytes) (hbb : ∀ r ∈ b, ∀ s ∈ r, s.length ≤ reachBytes) (ht : PowTab w) :
    Calls Tryd.prog 6 #[v0, v1] w fun e w' => e = .returned (.bool true) ∧ Below w.heap.size w w' := by
  obtain ⟨i0, hi, hz0, hz1, hz2⟩ := info_parts str_info
  have hv0 := h0
  have hv1 := h1
  obtain ⟨vs, hvl, hvs, hvr⟩ := h0
  obtain ⟨ws, hwl, hws, hwr⟩ := h1
  obtain ⟨-, x0, y0, rfl, hc0, hm0, -⟩ := hvs.one
  obtain ⟨-, x1, y1, rfl, hc1, hm1, -⟩ := hws.one
  rw [hvl] at hc0 hvs hv0 ⊢
  rw [hwl] at hc1 hws hv1 ⊢
  unfold maxLen at hm0 hm1
  by_cases h30 : 30 < a.length
  · go_enter Tryd.func6, Tryd.ntmps6
    go_wp2_with fail
    refine (alive_any _ ht).mono ?_
    rintro e w1 ⟨rfl, hb1⟩
    go_wp2
    go_ret
    exact ⟨rfl, hb1⟩
  by_cases h30' : 30 < b.length
  · go_enter Tryd.func6, Tryd.ntmps6
    go_wp2_with fail
    refine (alive_any _ ht).mono ?_
    rintro e w1 ⟨rfl, hb1⟩
    go_wp2
    go_ret
    exact ⟨rfl, hb1⟩
  obtain ⟨st0, hst0⟩ : ∃ st0, ((a.length : Int) == (b.length : Int)) = st0 := ⟨_, rfl⟩
  have Hst0 : Hid (sameTo a b 0 = st0) := by
    apply hid; rw [sameTo_zero, ← hst0]
    by_cases h : a.length = b.length
    · rw [decide_eq_true h, eqT (by omega)]
    · rw [decide_eq_false h, eqF (by omega)]
  have Hvl := hid hvl
  have Hwl := hid hwl
  clear hvl hwl
  go_enter Tryd.func6, Tryd.ntmps6
  go_wp2_with fail
  refine (alive_any _ ht).mono ?_
  rintro e w1 ⟨rfl, hb1⟩
  have hs1 := hb1.size
  go_wp2
  go_loopw [5, 6, 35] (fun sm x i wr => ∃ (k : Nat) (st : Bool), k ≤ a.length ∧ i = .int .i64 k ∧ sm = .bool st ∧ Hid (sameTo a b k = st) ∧ wr.ownsRow w.heap.size 9 1 x k (strCells ((a.map rowL).take k)) ∧ (∀ r ∈ a.take k, longB r = false) ∧ Below w.heap.size w wr) (fun _ _ i _ => a.length - (intOf i).toNat)
  case atStart => exact ⟨0, st0, by omega, rfl, rfl, Hst0, World.ownsRow_nil _ _ _ _, by simp, hb1⟩
  case round =>
    obtain ⟨k, st, hk, rfl, rfl, Hst, hown, hsm, hbw⟩ := hrel
    have hsz := hbw.size
    by_cases hlt : k < a.length
    · have hlv : k < vs.length := by rw [Hvl.out]; exact hlt
      have hrow0 := hwr
      obtain ⟨-, x2, y2, hv2, -, -, hx2⟩ := (hvs.below hbw (Nat.le_refl _)).one
      obtain ⟨bb, oo, rfl, hblt, hcell⟩ := hx2 k hlv
      obtain ⟨rfl, rfl⟩ : x0 = some ⟨bb, oo, none⟩ ∧ y0 = y2 := by simp at hv2; exact ⟨hv2.1, hv2.2.2⟩
      have e0 := hcell k hlv
      have hin := (hvr k hlv hlt).below hbw (Nat.le_refl _)
      have hin0 := hvr k hlv hlt
      have hbig : ∀ s ∈ a[k], s.length ≤ 140737488355328 := fun s hs => by have := hba _ (List.getElem_mem hlt) s hs; simp only [reachBytes] at this; omega
      have Hc := hid (long_any vs[k] _ a[k] wr hin hbig)
      clear hcell hx2 hv2 hbig
      generalize hvk : vs[k] = vk at *
      clear hvk
      by_cases hl : longB a[k] = true
      · rw [hl] at Hc
        go_wp2_with fail
        refine Hc.out.mono ?_
        rintro e w2 ⟨rfl, rfl⟩
        go_wp2
        go_ret
        exact ⟨rfl, hbw⟩
      · rw [Bool.not_eq_true] at hl
        rw [hl] at Hc
        have hsl := rowL_small _ hl
        go_wp2_with fail
        refine Hc.out.mono ?_
        rintro e w2 ⟨rfl, rfl⟩
        go_wp2_with fail
        refine (row_any vk _ a[k] _ hin (ht.below hbw) (by omega)).mono ?_
        rintro e w2 ⟨rfl, hb2⟩
        have hb02 := hbw.trans (hb2.mono hsz)
        have hs2 := hb02.size
        have hown2 : w2.ownsRow w.heap.size 9 1 u6 k (strCells ((a.map rowL).take k)) := ownsRow_below hown hb2
        have hg := hb02.alloc hs2 (.cells #[.string (bs (rowL a[k]))] 9)
        go_wp2_with (at_builtin; go_must (refine wpList_append_own _ rfl _ _ 22 rfl w.heap.size 9 i0 (.string ⟨#[]⟩) 1 16 Tryd.underlying22 hi hz0 hz1 hz2 rfl (by decide) _ _ _ rfl (hown2.alloc _) ⟨w2.heap.size, 0, none⟩ 1 1 [.string (bs (rowL a[k]))] rfl rfl ?c1 ?c2 ?c3 ?c4 ?c5 ?_))
        case c1 => exact new_cells _ #[_] _ _
        case c2 => intro u hu; simp at hu; subst hu; rfl
        case c3 => unfold maxLen; omega
        case c4 => omega
        case c5 => simp; omega
        intro v3 w3 hown3 hgrow3 _
        have hb3 : Below w.heap.size w w3 := hg.grown hgrow3 (by simp; omega) (fun k hk => (hown2.lt k hk).1)
        clear hgrow3 hg hown2
        have hown3' : w3.ownsRow w.heap.size 9 1 v3 (k + 1) (strCells ((a.map rowL).take (k + 1))) := by
          rw [take_at _ _ (by rw [List.length_map]; exact hlt), strCells_append, List.getElem_map]; exact hown3
        have hsm' : ∀ r ∈ a.take (k + 1), longB r = false := by
          rw [take_at _ _ hlt]; intro r hr
          rcases List.mem_append.1 hr with h | h
          · exact hsm r h
          · rw [List.mem_singleton.1 h]; exact hl
        have Hown3 := hid hown3'
        have Hsm := hid hsm'
        clear hown3 hown3' hsm hsm'
        cases st with
        | false =>
          go_wp2
          exact ⟨⟨k + 1, false, by omega, by go_num, rfl, hid (sameTo_no Hst.out), Hown3.out, Hsm.out, hb3⟩, by simp [intOf]; omega⟩
        | true =>
          have hab : a.length = b.length := sameTo_len Hst.out
          have hlb : k < b.length := by omega
          have hlw : k < ws.length := by rw [Hwl.out]; exact hlb
          obtain ⟨-, x3, y3, hv3, -, -, hx3⟩ := (hws.below hb3 (Nat.le_refl _)).one
          obtain ⟨b3, o3, rfl, hblt3, hcell3⟩ := hx3 k hlw
          obtain ⟨rfl, rfl⟩ : x1 = some ⟨b3, o3, none⟩ ∧ y1 = y3 := by simp at hv3; exact ⟨hv3.1, hv3.2.2⟩
          have e1 := hcell3 k hlw
          have Hs := hid (same_any vk ws[k] _ _ a[k] b[k] w3 (hin0.below hb3 (Nat.le_refl _)) ((hwr k hlw hlb).below hb3 (Nat.le_refl _)))
          have Hstep := hid (sameTo_step Hst.out hlt hlb)
          clear hcell3 hx3 hv3 hab
          generalize hwk : ws[k] = wk at *
          clear hwk
          obtain ⟨st, hst⟩ : ∃ st, decide (a[k] = b[k]) = st := ⟨_, rfl⟩
          rw [hst] at Hs Hstep
          clear hst
          go_wp2_with fail
          refine Hs.out.mono ?_
          rintro e w4 ⟨rfl, hd4⟩
          go_wp2
          obtain ⟨d, rfl⟩ := hd4
          exact ⟨⟨k + 1, st, by omega, by go_num, rfl, Hstep, ownsRow_drewN Hown3.out d, Hsm.out, hb3.trans (Drawn.below ⟨d, rfl⟩)⟩, by simp [intOf]; omega⟩
    · obtain ⟨wo, rfl⟩ : ∃ wo : World, wo = wr := ⟨_, rfl⟩
      have hka : a.length ≤ k := by omega
      have hown1 : wo.ownsRow w.heap.size 9 1 u6 a.length (strCells (a.map rowL)) := by
        obtain rfl : k = a.length := by omega
        rw [List.take_of_length_le (by simp)] at hown; exact hown
      have hsma : ∀ r ∈ a, longB r = false := by rw [List.take_of_length_le hka] at hsm; exact hsm
      have Hst' := hid (show decide (a = b) = st from by rw [← sameTo_all a b k hka]; exact Hst.out)
      have Hsma := hid hsma
      clear hown hsm Hst hsma hk Hst0 hst0
      go_wp2
      clear hlt hka
      go_loopw [7, 65] (fun y i w2 => ∃ j : Nat, j ≤ b.length ∧ i = .int .i64 j ∧ w2.ownsRow wo.heap.size 9 1 y j (strCells ((b.map rowL).take j)) ∧ (∀ r ∈ b.take j, longB r = false) ∧ Below wo.heap.size wo w2) (fun _ i _ => b.length - (intOf i).toNat)
      case atStart => exact ⟨0, by omega, rfl, World.ownsRow_nil _ _ _ _, by simp, Below.refl _ _⟩
      case round =>
        obtain ⟨j, hj, rfl, hown, hsm, hbw2⟩ := hrel
        have hbw3 := hbw.trans (hbw2.mono hbw.size)
        have hsz3 := hbw3.size
        have hsz2 := hbw2.size
        by_cases hlt : j < b.length
        · have hlv : j < ws.length := by rw [Hwl.out]; exact hlt
          obtain ⟨-, x2, y2, hv2, -, -, hx2⟩ := (hws.below hbw3 (Nat.le_refl _)).one
          obtain ⟨bb, oo, rfl, hblt, hcell⟩ := hx2 j hlv
          obtain ⟨rfl, rfl⟩ : x1 = some ⟨bb, oo, none⟩ ∧ y1 = y2 := by simp at hv2; exact ⟨hv2.1, hv2.2.2⟩
          have e0 := hcell j hlv
          have hin := (hwr j hlv hlt).below hbw3 (Nat.le_refl _)
          have hbig : ∀ s ∈ b[j], s.length ≤ 140737488355328 := fun s hs => by have := hbb _ (List.getElem_mem hlt) s hs; simp only [reachBytes] at this; omega
          have Hc := hid (long_any ws[j] _ b[j] _ hin hbig)
          clear hcell hx2 hv2 hbig
          generalize hvk : ws[j] = vk at *
          clear hvk
          by_cases hl : longB b[j] = true
          · rw [hl] at Hc
            go_wp2_with fail
            refine Hc.out.mono ?_
            rintro e w3 ⟨rfl, rfl⟩
            go_wp2
            go_ret
            exact ⟨rfl, hbw3⟩
          · rw [Bool.not_eq_true] at hl
            rw [hl] at Hc
            have hsl := rowL_small _ hl
            go_wp2_with fail
            refine Hc.out.mono ?_
            rintro e w3 ⟨rfl, rfl⟩
            go_wp2_with fail
            refine (row_any vk _ b[j] _ hin (ht.below hbw3) (by omega)).mono ?_
            rintro e w3 ⟨rfl, hb3⟩
            have hb13 := hbw2.trans (hb3.mono hsz2)
            have hs13 := hb13.size
            have hown2 := ownsRow_below hown hb3
            have hg := hb13.alloc hs13 (.cells #[.string (bs (rowL b[j]))] 9)
            go_wp2_with (at_builtin; go_must (refine wpList_append_own _ rfl _ _ 22 rfl wo.heap.size 9 i0 (.string ⟨#[]⟩) 1 16 Tryd.underlying22 hi hz0 hz1 hz2 rfl (by decide) _ _ _ rfl (hown2.alloc _) ⟨w3.heap.size, 0, none⟩ 1 1 [.string (bs (rowL b[j]))] rfl rfl ?d1 ?d2 ?d3 ?d4 ?d5 ?_))
            case d1 => exact new_cells _ #[_] _ _
            case d2 => intro u hu; simp at hu; subst hu; rfl
            case d3 => unfold maxLen; omega
            case d4 => omega
            case d5 => simp; omega
            intro v4 w4 hown4 hgrow4 _
            have hb4 : Below wo.heap.size wo w4 := hg.grown hgrow4 (by simp; omega) (fun k hk => (hown2.lt k hk).1)
            clear hgrow4 hg hown2
            have hown4' : w4.ownsRow wo.heap.size 9 1 v4 (j + 1) (strCells ((b.map rowL).take (j + 1))) := by
              rw [take_at _ _ (by rw [List.length_map]; exact hlt), strCells_append, List.getElem_map]; exact hown4
            have hsm' : ∀ r ∈ b.take (j + 1), longB r = false := by
              rw [take_at _ _ hlt]; intro r hr
              rcases List.mem_append.1 hr with h | h
              · exact hsm r h
              · rw [List.mem_singleton.1 h]; exact hl
            have Hown4 := hid hown4'
            have Hsm := hid hsm'
            clear hown4 hown4' hsm hsm'
            go_wp2
            exact ⟨⟨j + 1, by omega, by go_num, Hown4.out, Hsm.out, hb4⟩, by simp [intOf]; omega⟩
        · have hkb : b.length ≤ j := by omega
          have hown2 : wr.ownsRow wo.heap.size 9 1 u7 b.length (strCells (b.map rowL)) := by
            obtain rfl : j = b.length := by omega
            rw [List.take_of_length_le (by simp)] at hown; exact hown
          have hsmb : ∀ r ∈ b, longB r = false := by rw [List.take_of_length_le hkb] at hsm; exact hsm
          have hvx : SliceAt wr 1 u6 (a.map rowL).length (strCells (a.map rowL)) := by
            have := (SliceAt.of_owns hown1 (by unfold maxLen; omega)).below hbw2 (Nat.le_refl _)
            rw [List.length_map]; exact this
          have hvy : SliceAt wr 1 u7 (b.map rowL).length (strCells (b.map rowL)) := by
            have := SliceAt.of_owns hown2 (by unfold maxLen; omega)
            rw [List.length_map]; exact this
          have hA := rows_small a (by omega) Hsma.out
          have hB := rows_small b (by omega) hsmb
          have hla := hA.1
          have hlb := hB.1
          have Hta := hid (texts_row (a.map rowL) hA.2)
          have Heq : Hid ((rowL (a.map rowL) == rowL (b.map rowL)) = st) := by
            apply hid; rw [← Hst'.out]
            by_cases h : a = b
            · subst h; simp
            · rw [decide_eq_false h, beq_eq_false_iff_ne]
              exact fun h' => h (rows_inj Hsma.out hsmb (row_inj hA.2 hB.2 h'))
          clear hown hsm hsmb hown1 hown2 hA hB
          go_wp2_with fail
          refine (row_any u6 _ (a.map rowL) _ hvx (ht.below hbw3) (by omega)).mono ?_
          rintro e w3 ⟨rfl, hb3⟩
          have hb03 := hbw3.trans (hb3.mono hsz3)
          go_wp2_with fail
          refine (texts_any (rowL (a.map rowL)) _ (by omega)).mono ?_
          rintro e w4 ⟨v4, rfl, hv4, hb4⟩
          rw [Hta.out] at hv4 ⊢
          have hb34 := hb3.trans (hb4.mono hb3.size)
          have hb04 := hb03.trans (hb4.mono hb03.size)
          obtain ⟨-, x4, y4, rfl, hc4, hm4, hx4⟩ := hv4.str
          have hx4' : ∀ k (hk : k < a.length), ∃ b4 o4, x4 = some ⟨b4, o4, none⟩ ∧ b4 < w4.heap.size ∧ w4.cell? ⟨b4, o4 + k, none⟩ = some (.string (bs (rowL a[k]))) := by
            intro k hk
            have hk' : k < (a.map rowL).length := by rw [List.length_map]; exact hk
            obtain ⟨b4, o4, h1, h2, h3⟩ := hx4 k hk'
            exact ⟨b4, o4, h1, h2, by have := h3 k hk'; simpa using this⟩
          have hlen : (a.map rowL).length = a.length := List.length_map _
          have Hlen := hid hlen
          simp only [hlen] at hc4 ⊢
          unfold maxLen at hm4
          have hvx4 := hvx.below (hb34) (Nat.le_refl _)
          have hvy4 := hvy.below (hb34) (Nat.le_refl _)
          clear hlt hkb hlen hx4 hv4
          go_wp2
          obtain ⟨w5, hw5⟩ : ∃ w5 : World, w5 = wr := ⟨_, rfl⟩
          clear hw5
          go_loopw [94] (fun i wr => ∃ j : Nat, j ≤ a.length ∧ i = .int .i64 j ∧ Below w4.heap.size w4 wr) (fun i _ => a.length - (intOf i).toNat)
          case atStart => exact ⟨0, by omega, rfl, Below.refl _ _⟩
          case round =>
            obtain ⟨j, hj, rfl, hbw5⟩ := hrel
            have hb05 := hb04.trans (hbw5.mono hb04.size)
            by_cases hlt : j < a.length
            · obtain ⟨b4, o4, rfl, hlt4, hcell4⟩ := hx4' j hlt
              have e4 : wr.cell? ⟨b4, o4 + j, none⟩ = some (.string (bs (rowL a[j]))) := by rw [hbw5.cell (p := ⟨b4, o4 + j, none⟩) hlt4]; exact hcell4
              have hl := Hsma.out _ (List.getElem_mem hlt)
              have hsl := rowL_small _ hl
              have hlv : j < vs.length := by rw [Hvl.out]; exact hlt
              have Htx := hid (texts_row a[j] hsl.2)
              have hslen := hsl.1
              have Hv := hid (hvr j hlv hlt)
              clear hcell4 hsl
              go_wp2_with fail
              refine (texts_any (rowL a[j]) _ (by omega)).mono ?_
              rintro e w6 ⟨v6, rfl, hv6, hb6⟩
              rw [Htx.out] at hv6 ⊢
              have hb06 := hb05.trans (hb6.mono hb05.size)
              obtain ⟨-, x2, y2, hv2, -, -, hx2⟩ := (hvs.below hb06 (Nat.le_refl _)).one
              obtain ⟨bb, oo, rfl, hblt, hcell⟩ := hx2 j hlv
              obtain ⟨rfl, rfl⟩ : x0 = some ⟨bb, oo, none⟩ ∧ y0 = y2 := by simp at hv2; exact ⟨hv2.1, hv2.2.2⟩
              have e0 := hcell j hlv
              have Hs := hid (same_any v6 vs[j] _ _ a[j] a[j] w6 hv6 (Hv.out.below hb06 (Nat.le_refl _)))
              rw [decide_eq_true rfl] at Hs
              clear hcell hx2 hv2
              generalize hvk : vs[j] = vk at *
              clear hvk
              go_wp2_with fail
              refine Hs.out.mono ?_
              rintro e w7 ⟨rfl, hd7⟩
              go_wp2
              obtain ⟨d, rfl⟩ := hd7
              refine ⟨?_, by simp [intOf]; omega⟩
              have hend := (hbw5.trans (hb6.mono hbw5.size)).trans (Drawn.below (B := w4.heap.size) (w' := w6.drewN d) ⟨d, rfl⟩)
              (repeat apply Exists.intro)
              exact ⟨⟨j + 1, by omega, by go_num, hend⟩, rfl⟩
            · go_wp2_with fail
              refine (row_any u6 _ (a.map rowL) _ (hvx4.below hbw5 (Nat.le_refl _)) (ht.below hb05) (by omega)).mono ?_
              rintro e w6 ⟨rfl, hb6⟩
              have hb06 := hb05.trans (hb6.mono hb05.size)
              go_wp2_with fail
              refine (row_any u7 _ (b.map rowL) _ ((hvy4.below hbw5 (Nat.le_refl _)).below hb6 (Nat.le_refl _)) (ht.below hb06) (by omega)).mono ?_
              rintro e w7 ⟨rfl, hb7⟩
              have Heq' : (rowL (a.map rowL) == rowL (b.map rowL)) = st := Heq.out
              go_wp2
              go_ret
              exact ⟨rfl, hb06.trans (hb7.mono hb06.size)⟩
end Go.Proofs.YtncdmaolcgpnkaaDoor
