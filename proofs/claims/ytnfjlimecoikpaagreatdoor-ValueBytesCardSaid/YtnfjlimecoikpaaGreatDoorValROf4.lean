/- The document's walk over bytes: of a list. -/
import Derived.Test.YtnfjlimecoikpaaGreatDoorValROf
namespace Go.Proofs.YtnfjlimecoikpaaGreatDoor
set_option maxRecDepth 100000
open Go.RowKit

set_option maxHeartbeats 4000000 in
theorem rof_list (m : Nat) (IH : ROfC m) (b : List UInt8) (hbl : b.length ≤ 1000000000) (w : World) (d : Int) (hd : d = ((m + 1 : Nat) : Int)) (hdu : d ≤ 100) (t : List UInt8) (r : List (List UInt8)) (h0 : (textsL b).2 = 0) (h1 : (textsL b).1 = t :: r) (hList : t = wList) :
    Calls Tryz.prog 36 #[.string (bs b), .int .i64 d] w (OfRet (ofV (m + 1) b) w) := by
  obtain ⟨i0, hi, hz0, hz1, hz2⟩ := info_parts pstr_info
  obtain ⟨i1, hi1, hy0, hy1, hy2⟩ := info_parts pval_info
  have HT := hid (refTexts_any b ((w.alloc (.cells #[.int .i64 0, .int .i64 0, .string ⟨#[]⟩, .slice none 0 0, .slice none 0 0] 25)).alloc (.cells #[.int .i64 0, .int .i64 0, .string ⟨#[]⟩, .slice none 0 0, .slice none 0 0] 25)) (by omega))
  have hcount := textsL_count _ b (Nat.le_refl _)
  have HEA := hid (textsL_each _ b (Nat.le_refl _))
  have HR : Hid (ofV (m + 1) b = ofW (ofV m) t r) := hid (by show ofP (ofV m) b = _; unfold ofP; rw [h0, h1]; rfl)
  unfold TextsPost at HT
  rw [h0, h1] at HT
  rw [h1] at hcount HEA
  generalize ofV (m + 1) b = res at *
  clear h0 h1
  have hbn := below_new2 w (.cells #[.int .i64 0, .int .i64 0, .string ⟨#[]⟩, .slice none 0 0, .slice none 0 0] 25) (.cells #[.int .i64 0, .int .i64 0, .string ⟨#[]⟩, .slice none 0 0, .slice none 0 0] 25)
  have HN0 := hid ((rc_new w 0 0 [] (.slice none 0 0) (.slice none 0 0)).keep (below_new (w.alloc (.cells #[.int .i64 0, .int .i64 0, .string ⟨#[]⟩, .slice none 0 0, .slice none 0 0] 25)) (.cells #[.int .i64 0, .int .i64 0, .string ⟨#[]⟩, .slice none 0 0, .slice none 0 0] 25)))
  have HN1 : Hid (RC ((w.alloc (.cells #[.int .i64 0, .int .i64 0, .string ⟨#[]⟩, .slice none 0 0, .slice none 0 0] 25)).alloc (.cells #[.int .i64 0, .int .i64 0, .string ⟨#[]⟩, .slice none 0 0, .slice none 0 0] 25)) (w.heap.size + 1) 0 0 [] (.slice none 0 0) (.slice none 0 0)) := hid (by have := rc_new (w.alloc (.cells #[.int .i64 0, .int .i64 0, .string ⟨#[]⟩, .slice none 0 0, .slice none 0 0] 25)) 0 0 [] (.slice none 0 0) (.slice none 0 0); rw [World.size_alloc] at this; exact this)
  have HEL : Hid (∀ x ∈ r, x.length ≤ 1000000000) := hid (fun x hx => Nat.le_trans (HEA.out x (List.mem_cons_of_mem _ hx)) hbl)
  have hrl : r.length ≤ 1000000000 := by rw [List.length_cons] at hcount; omega
  have ql : ((r.length : Int) + 1 == 0) = false := eqF (by omega)
  have hd0 : 1 ≤ d := by omega
  have qd : (d == 0) = false := eqF (by omega)
  have HD1 := hid hd
  clear hd
  go_enter Tryz.func36, Tryz.ntmps36
  go_wp2_with fail
  refine HT.out.mono ?_
  rintro e w1 ⟨v, rfl, hsl, hb1⟩
  have HQ := hid (HN0.out.keep hb1)
  have HM := hid (HN1.out.keep hb1)
  have hbq := Below.chain hbn hb1
  obtain ⟨-, va, vc, rfl, hvc, hvm, hvx⟩ := hsl.str
  obtain ⟨g, o, rfl, hg1, hcl⟩ := hvx 0 (by simp)
  obtain ⟨cap', rfl⟩ : ∃ c', vc = c' + 1 := ⟨vc - 1, by rw [List.length_cons] at hvc; omega⟩
  have hcap' : r.length ≤ cap' := by rw [List.length_cons] at hvc; omega
  unfold maxLen at hvm
  have k0 := hcl 0 (by simp)
  have k0' : w1.cell? ⟨g, o, none⟩ = some (.string (bs t)) := k0
  have HCL : Hid (∀ j (hj : j < r.length), w1.cell? ⟨g, o + 1 + j, none⟩ = some (.string (bs r[j]))) := hid (fun j hj => by
    have h := hcl (j + 1) (by simp; omega)
    rw [show o + 1 + j = o + (j + 1) by omega]
    exact h)
  clear hsl hvx hcl hvc hcount k0
  obtain ⟨⟨c0, c1, c2, c3, c4⟩, hfr⟩ := HQ.out
  have f0 := hfr 0
  have f1 := hfr 1
  have f2 := hfr 2
  have f3 := hfr 3
  have f4 := hfr 4
  obtain ⟨n0, n1, n2, n3, n4⟩ := (HM.out).x
  go_upto_region 6 with fail
  clear c0 c1 c2 c3 c4 f0 f1 f2 f3 f4 hfr n0 n1 n2 n3 n4
  generalize hsa : (if cap' = 0 then some ({ block := g, off := o } : Addr) else some { block := g, off := o + 1 }) = sa
  have HSA := hid (fun h : 0 < r.length => show sa = some ⟨g, o + 1, none⟩ by rw [← hsa, if_neg (by omega)])
  clear hsa
  have HNon : Hid (ofL (ofV m) r = none → ofW (ofV m) t r = none) := hid (fun h => by rw [hList, ofW_List]; unfold ofList; rw [h]; rfl)
  have HSome : Hid (∀ l0, ofL (ofV m) r = some l0 → ofW (ofV m) t r = some (.mk 4 0 [] nilS nilS l0 [])) := hid (fun l0 h => by rw [hList, ofW_List]; unfold ofList; rw [h]; rfl)
  have hwB : w.heap.size + 2 ≤ w1.heap.size := by have := hb1.size; rw [World.size_alloc, World.size_alloc] at this; exact this
  have hgB : g ≠ w1.heap.size := by omega
  have qm : ((r.length : Int).tmod 1 != 0) = false := neF (by rw [Int.tmod_eq_emod_of_nonneg (by omega)]; omega)
  have qm2 : ((r.length : Int) % 1 != 0) = false := neF (by omega)
  obtain ⟨W2, hW2⟩ : ∃ W2, W2 = w1.alloc (.cells #[.int .i64 4, .int .i64 0, .string ⟨#[]⟩, .slice none 0 0, .slice none 0 0] 25) := ⟨_, rfl⟩
  have hbn2 := below_new w1 (.cells #[.int .i64 4, .int .i64 0, .string ⟨#[]⟩, .slice none 0 0, .slice none 0 0] 25)
  have HO2 : Hid (RC W2 w1.heap.size 4 0 [] (.slice none 0 0) (.slice none 0 0)) := hid (by rw [hW2]; exact rc_new w1 4 0 [] (.slice none 0 0) (.slice none 0 0))
  rw [← hW2] at hbn2
  have HQ2 := hid (HQ.out.keep hbn2)
  have HM2 := hid (HM.out.keep hbn2)
  have hbq2 := Below.chain hbq hbn2
  have k2 := keeps_of hbn2 k0'
  have qNone : (t == [110, 111, 110, 101]) = false := by rw [hList]; rfl
  have pNone : (t != [110, 111, 110, 101]) = true := by rw [hList]; rfl
  have qBool : (t == [98, 111, 111, 108]) = false := by rw [hList]; rfl
  have pBool : (t != [98, 111, 111, 108]) = true := by rw [hList]; rfl
  have qInt : (t == [105, 110, 116]) = false := by rw [hList]; rfl
  have pInt : (t != [105, 110, 116]) = true := by rw [hList]; rfl
  have qText : (t == [116, 101, 120, 116]) = false := by rw [hList]; rfl
  have pText : (t != [116, 101, 120, 116]) = true := by rw [hList]; rfl
  have qDict : (t == [100, 105, 99, 116]) = false := by rw [hList]; rfl
  have pDict : (t != [100, 105, 99, 116]) = true := by rw [hList]; rfl
  have qList : (t == [108, 105, 115, 116]) = true := by rw [hList]; rfl
  have pList : (t != [108, 105, 115, 116]) = false := by rw [hList]; rfl
  clear hList
  obtain ⟨⟨c0, c1, c2, c3, c4⟩, hfr⟩ := HQ.out
  have f0 := hfr 0
  have f1 := hfr 1
  have f2 := hfr 2
  have f3 := hfr 3
  have f4 := hfr 4
  obtain ⟨n0, n1, n2, n3, n4⟩ := (HM.out).x
  go_upto_region 16 with fail
  rw [← hW2]
  clear hW2
  clear c0 c1 c2 c3 c4 f0 f1 f2 f3 f4 hfr n0 n1 n2 n3 n4
  obtain ⟨⟨c0, c1, c2, c3, c4⟩, hfr⟩ := HQ2.out
  have f0 := hfr 0
  have f1 := hfr 1
  have f2 := hfr 2
  have f3 := hfr 3
  have f4 := hfr 4
  obtain ⟨n0, n1, n2, n3, n4⟩ := (HM2.out).x
  obtain ⟨⟨o0, o1, o2, o3, o4⟩, hor⟩ := HO2.out
  have p0 := hor 0
  have p1 := hor 1
  have p2 := hor 2
  have p3 := hor 3
  have p4 := hor 4
  obtain ⟨W0, rfl⟩ : ∃ W0, W0 = W2 := ⟨_, rfl⟩
  have HO0 := HO2
  have HQ0 := HQ2
  have HM0 := HM2
  have hbW0 := hbq2
  have HEC : Hid (∀ j (hj : j < r.length), W0.cell? ⟨g, o + 1 + j, none⟩ = some (.string (bs r[j]))) := hid (fun j hj => keeps_of hbn2 (HCL.out j hj))
  go_upto_region 22 with fail
  clear o0 o1 o2 o3 o4 p0 p1 p2 p3 p4 hor
  clear c0 c1 c2 c3 c4 f0 f1 f2 f3 f4 hfr n0 n1 n2 n3 n4
  go_wp2_with fail
  go_loopw [14] (fun i wr => ∃ (j : Nat) (xs l0 : List VM) (lvv kvv : Value), j ≤ r.length ∧ i = .int .i64 (j) ∧ Agr w1.heap.size W0 wr ∧ Below w.heap.size w wr ∧ RC wr w1.heap.size 4 0 [] lvv kvv ∧ wr.ownsRow W0.heap.size 25 5 lvv j (vmCells xs) ∧ wr.ownsRow W0.heap.size 9 1 kvv 0 (strCells []) ∧ Hid (∀ k, lvv.ownBlock = some k → kvv.ownBlock ≠ some k) ∧ Dep w.heap.size (fun i => (i = w.heap.size ∨ i = w1.heap.size) ∨ lvv.ownBlock = some i ∨ kvv.ownBlock = some i) wr (fun W => HeldL W xs) ∧ Hid (ofL (ofV m) (r.take j) = some l0) ∧ Hid (sameL xs l0 = true)) (fun i _ => r.length - (intOf i).toNat)
  case atStart => exact ⟨0, [], [], .slice none 0 0, .slice none 0 0, by omega, rfl, Agr.refl _ _, hbW0, HO0.out, World.ownsRow_nil _ _ _ _, World.ownsRow_nil _ _ _ _, hid (fun k h => by cases h), dep_nilL _ _ _, hid rfl, hid rfl⟩
  case round =>
    obtain ⟨j, xs, l0, lvv, kvv, hj, rfl, hag, hbw, hrc, hown, hownK, hne, hdx, HA, HS⟩ := hrel
    obtain ⟨la, lc, rfl⟩ := own_shape hown
    obtain ⟨ka, kc, rfl⟩ := own_shape hownK
    have HRCr := hid hrc
    have hws := hag.size
    have HQr := hid (HQ0.out.block (hag.same _ HQ0.out.lt (by omega)))
    have HMr := hid (HM0.out.block (hag.same _ HM0.out.lt (by omega)))
    obtain ⟨⟨o0, o1, o2, o3, o4⟩, hor⟩ := hrc
    have p0 := hor 0
    have p1 := hor 1
    have p2 := hor 2
    have p3 := hor 3
    have p4 := hor 4
    obtain ⟨⟨c0, c1, c2, c3, c4⟩, hfr⟩ := HQr.out
    have f0 := hfr 0
    have f1 := hfr 1
    have f2 := hfr 2
    have f3 := hfr 3
    have f4 := hfr 4
    obtain ⟨n0, n1, n2, n3, n4⟩ := (HMr.out).x
    by_cases hlt : j < r.length
    · have hltE : j < r.length := hlt
      have e0 := hag.cell (HEC.out j hlt) hgB
      obtain rfl := HSA.out (by omega)
      have HRCC := HRCr
      have hagC := hag
      have hbwC := hbw
      have hownC := hown
      have hownKC := hownK
      have hneC := hne
      have hdxC := hdx
      clear o0 o1 o2 o3 o4 p0 p1 p2 p3 p4 hor
      clear c0 c1 c2 c3 c4 f0 f1 f2 f3 f4 hfr n0 n1 n2 n3 n4
      have hWCs := hagC.size
      have HQC := hid (HQ0.out.block (hagC.same _ HQ0.out.lt (by omega)))
      have HMC := hid (HM0.out.block (hagC.same _ HM0.out.lt (by omega)))
      have hel : r[j].length ≤ 1000000000 := HEL.out _ (List.getElem_mem hltE)
      have HI := hid (IH r[j] hel wr (d - 1) (by have := HD1.out; omega) (by omega))
      have HNo := hid (fun h => ofL_none (f := ofV m) hltE HA.out h)
      have HYes := hid (fun v h => ofL_some (f := ofV m) (v := v) hltE HA.out h)
      generalize hej : r[j] = ej at *
      obtain ⟨rv, hrv⟩ : ∃ rv, ofV m ej = rv := ⟨_, rfl⟩
      rw [hrv] at HI HNo HYes
      clear hrv hej hel
      obtain ⟨⟨o0, o1, o2, o3, o4⟩, hor⟩ := HRCC.out
      have p0 := hor 0
      have p1 := hor 1
      have p2 := hor 2
      have p3 := hor 3
      have p4 := hor 4
      obtain ⟨⟨c0, c1, c2, c3, c4⟩, hfr⟩ := HQC.out
      have f0 := hfr 0
      have f1 := hfr 1
      have f2 := hfr 2
      have f3 := hfr 3
      have f4 := hfr 4
      obtain ⟨n0, n1, n2, n3, n4⟩ := (HMC.out).x
      go_wp2_with fail
      refine HI.out.mono ?_
      rintro e w2 ⟨xk, xn, xs', a1, n1', c1', a2, n2', c2', rfl, hb2, hv⟩
      obtain ⟨Wa, hWa⟩ : ∃ Wa, Wa = w2.alloc (.cells #[.int .i64 xk, .int .i64 xn, .string (bs xs'), .slice a1 n1' c1', .slice a2 n2' c2'] 25) := ⟨_, rfl⟩
      have hba := below_new w2 (.cells #[.int .i64 xk, .int .i64 xn, .string (bs xs'), .slice a1 n1' c1', .slice a2 n2' c2'] 25)
      have hxa := box_new w2 xk xn xs' (.slice a1 n1' c1') (.slice a2 n2' c2') 25 (0, 0)
      have hsa1 : w2.heap.size + 1 ≤ Wa.heap.size := by rw [hWa, World.size_alloc]; exact Nat.le_refl _
      have hsa2 : Wa.heap.size ≤ w2.heap.size + 1 := by rw [hWa, World.size_alloc]; exact Nat.le_refl _
      rw [← hWa] at hba hxa
      have hbwa := Below.chain hb2 hba
      have HRCa := hid (HRCC.out.keep hbwa)
      have HQa := hid (HQC.out.keep hbwa)
      have HMa := hid (HMC.out.keep hbwa)
      have hbqa := Below.chain hbwC hbwa
      have hs2 := hb2.size
      clear o0 o1 o2 o3 o4 p0 p1 p2 p3 p4 hor
      clear c0 c1 c2 c3 c4 f0 f1 f2 f3 f4 hfr n0 n1 n2 n3 n4
      obtain ⟨⟨o0, o1, o2, o3, o4⟩, hor⟩ := HRCa.out
      have p0 := hor 0
      have p1 := hor 1
      have p2 := hor 2
      have p3 := hor 3
      have p4 := hor 4
      obtain ⟨⟨c0, c1, c2, c3, c4⟩, hfr⟩ := HQa.out
      have f0 := hfr 0
      have f1 := hfr 1
      have f2 := hfr 2
      have f3 := hfr 3
      have f4 := hfr 4
      obtain ⟨n0, n1, n2, n3, n4⟩ := (HMa.out).x
      cases rv with
      | none =>
        have HF : Hid (res = none) := hid (by rw [HR.out]; exact HNon.out (HNo.out rfl))
        go_upto_region 28 with fail
        rw [← hWa]
        clear hWa hv
        go_wp2_with fail
        rw [HF.out]
        refine bodyPost_ret (rof_res rfl rfl (RC.all HQa.out _ _ _ _ _).x) rfl ?_
        exact of_end_none hbqa (Nat.le_refl _) _ _ _ _ _
      | some v =>
        obtain ⟨xl, xks, hdep, hsm⟩ := hv v rfl
        have HD := hid hdep
        have HSm := hid hsm
        obtain ⟨d0, d1, d2, d3, d4⟩ := hxa
        have hownA := ownsRow_below hownC hbwa
        have hownKA := ownsRow_below hownKC hbwa
        have hrow0 : ∀ k, (Value.slice la j lc).ownBlock = some k → k < wr.heap.size := fun k hk => (own_ge hownC hk).2
        have hrow0K : ∀ k, (Value.slice ka 0 kc).ownBlock = some k → k < wr.heap.size := fun k hk => (own_ge hownKC hk).2
        clear hv hdep hsm
        go_upto_region 28 with fail
        rw [← hWa]
        clear hWa
        go_wp2_with (at_builtin; go_must (refine wpList_append_own_at _ rfl _ _ 22 rfl W0.heap.size 25 i1 (.agg #[.int .i64 0, .int .i64 0, .string ⟨#[]⟩, .slice none 0 0, .slice none 0 0]) 5 80 Tryz.underlying22 hi1 hy0 hy1 hy2 rfl (by decide) _ _ _ rfl (hownA.alloc _) ⟨Wa.heap.size, 0, none⟩ 1 1 [.int .i64 xk, .int .i64 xn, .string (bs xs'), .slice a1 n1' c1', .slice a2 n2' c2'] rfl rfl ?c1 ?c2 ?c3 ?c4 ?c5 ?_))
        case c1 => exact new_cells _ #[_, _, _, _, _] _ _
        case c2 => intro u hu; simp at hu; rcases hu with rfl | rfl | rfl | rfl | rfl <;> rfl
        case c3 => unfold maxLen; omega
        case c4 => omega
        case c5 => simp; omega
        intro v4 w4 hown4 hgrow4 _ hwhere4
        obtain ⟨la4, lc4, rfl⟩ := own_shape hown4
        have hrow : ∀ k, (Value.slice la j lc).ownBlock = some k → W0.heap.size ≤ k ∧ k < Wa.heap.size := fun k hk => own_ge hownA hk
        have hbn4 := below_new Wa (.cells #[.int .i64 xk, .int .i64 xn, .string (bs xs'), .slice a1 n1' c1', .slice a2 n2' c2'] 25)
        have hgsz := hgrow4.size
        rw [World.size_alloc] at hgsz
        have hRC4 : RC w4 w1.heap.size 4 0 [] (.slice la j lc) (Value.slice ka 0 kc) := (HRCa.out.keep hbn4).block (hgrow4.block _ (by rw [World.size_alloc]; have := HRCa.out.lt; omega) (fun e => by have := hrow _ e.symm; have := HO0.out.lt; omega))
        have hag4 := ((hagC.below hbwa).below hbn4).grown hgrow4 (fun k hk => (hrow k hk).1)
        have hb4 : Below w.heap.size w w4 := (Below.chain hbqa hbn4).grown hgrow4 (by rw [World.size_alloc]; have := hbqa.size; omega) (fun k hk => by have := (hrow k hk).1; have := hbW0.size; omega)
        have hX4 : ∀ i, i < Wa.heap.size → ((i = w.heap.size ∨ i = w1.heap.size) ∨ (Value.slice la4 (j + 1) lc4).ownBlock = some i ∨ (Value.slice ka 0 kc).ownBlock = some i) → ((i = w.heap.size ∨ i = w1.heap.size) ∨ (Value.slice la j lc).ownBlock = some i ∨ (Value.slice ka 0 kc).ownBlock = some i) := fun i hi h => by
          rcases h with h | h | h
          · exact .inl h
          · rcases hwhere4 with h' | h'
            · exact .inr (.inl (by rw [← h']; exact h))
            · rw [h'] at h; injection h with h; rw [World.size_alloc] at *; omega
          · exact .inr (.inr h)
        have hgb4 : ∀ i, i < Wa.heap.size → ¬ ((i = w.heap.size ∨ i = w1.heap.size) ∨ (Value.slice la j lc).ownBlock = some i ∨ (Value.slice ka 0 kc).ownBlock = some i) → w4.heap[i]? = Wa.heap[i]? := fun i hi hn => (hgrow4.block i (by rw [World.size_alloc]; omega) (fun e => hn (.inr (.inl e.symm)))).trans (hbn4.block i hi)
        have hdx4 : Dep w.heap.size (fun i => (i = w.heap.size ∨ i = w1.heap.size) ∨ (Value.slice la4 (j + 1) lc4).ownBlock = some i ∨ (Value.slice ka 0 kc).ownBlock = some i) w4 (fun W => HeldL W xs) :=
          (hdxC.below hbwa).step (by omega) (fun i _ hi hn => hgb4 i hi hn) (fun i _ hi h => hX4 i hi h)
        have hcon : ∀ i, wr.heap.size ≤ i → ¬ ((i = w.heap.size ∨ i = w1.heap.size) ∨ (Value.slice la j lc).ownBlock = some i ∨ (Value.slice ka 0 kc).ownBlock = some i) := fun i hlo h => by
          rcases h with h | h | h
          · have := HO0.out.lt; have := HQ0.out.lt; omega
          · have := hrow0 _ h; omega
          · have := hrow0K _ h; omega
        have hdv4 : Dep w.heap.size (fun i => (i = w.heap.size ∨ i = w1.heap.size) ∨ (Value.slice la4 (j + 1) lc4).ownBlock = some i ∨ (Value.slice ka 0 kc).ownBlock = some i) w4 (fun W => Held W (.mk xk xn xs' (.slice a1 n1' c1') (.slice a2 n2' c2') xl xks)) :=
          ((HD.out.below hba).step (X' := fun i => (i = w.heap.size ∨ i = w1.heap.size) ∨ (Value.slice la4 (j + 1) lc4).ownBlock = some i ∨ (Value.slice ka 0 kc).ownBlock = some i) (by omega)
            (fun i hlo hi _ => hgb4 i hi (hcon i hlo)) (fun i hlo hi h => hcon i hlo (hX4 i hi h))).weak (by have := hbwC.size; omega) (fun _ _ _ h => h)
        have HN1 := hid (HYes.out v rfl)
        have HN2 := hid (sameL_app _ _ HS.out HSm.out)
        have hownN : (w4.setCell ⟨w1.heap.size, 3, none⟩ (.slice la4 (j + 1) lc4)).ownsRow W0.heap.size 25 5 (.slice la4 (j + 1) lc4) (j + 1) (vmCells (xs ++ [.mk xk xn xs' (.slice a1 n1' c1') (.slice a2 n2' c2') xl xks])) := by
          rw [vmCells_app, vmCells_one]
          exact own_keep1 hown4 HO0.out.lt _
        have hownK4 := ((ownsRow_below hownKA hbn4).kept hgrow4 (by
          cases hkb : (Value.slice ka 0 kc).ownBlock with
          | none => exact .inl rfl
          | some k => exact .inr (fun e => hneC.out k e.symm hkb)))
        have hownKN := own_keep1 (j := 3) hownK4 HO0.out.lt (.slice la4 (j + 1) lc4)
        have hneN : Hid (∀ k, (Value.slice la4 (j + 1) lc4).ownBlock = some k → (Value.slice ka 0 kc).ownBlock ≠ some k) := hid (fun k hk e => by
          rcases hwhere4 with h' | h'
          · exact hneC.out k (by rw [← h']; exact hk) e
          · rw [h'] at hk; injection hk with hk; have := hrow0K k e; (try rw [World.size_alloc] at hk); omega)
        have hdxN := ((hdx4.both hdv4).mono (fun W h => heldL_app h.1 (heldL_one h.2))).put (b := w1.heap.size) (.inl (.inr rfl)) 3 (.slice la4 (j + 1) lc4)
        have hagN := hag4.put (j := 3) (v := .slice la4 (j + 1) lc4)
        have hbN := hb4.setCell (p := ⟨w1.heap.size, 3, none⟩) (by show w.heap.size ≤ w1.heap.size; omega) (.slice la4 (j + 1) lc4)
        have hrcN := hRC4.put3 (.slice la4 (j + 1) lc4)
        have g3 := hRC4.f 3
        have m3 := hRC4.x.c3
        clear d0 d1 d2 d3 d4
        clear o0 o1 o2 o3 o4 p0 p1 p2 p3 p4 hor
        clear c0 c1 c2 c3 c4 f0 f1 f2 f3 f4 hfr n0 n1 n2 n3 n4
        go_wp2_with fail
        exact ⟨⟨j + 1, _, _, _, _, by omega, by go_num, hagN, hbN, hrcN, hownN, hownKN, hneN, hdxN, HN1, HN2⟩, by simp [intOf]; omega⟩
    · obtain rfl : j = r.length := by omega
      have hE : ofL (ofV m) r = some l0 := by have := HA.out; rwa [List.take_of_length_le (by omega)] at this
      have HF : Hid (res = some (.mk 4 0 [] nilS nilS l0 ([] : List (List UInt8)))) := hid (by rw [HR.out]; exact HSome.out l0 hE)
      have hlb : ∀ g', (Value.slice la r.length lc).ownBlock = some g' → ¬ (g' = w.heap.size) := fun g' hg e => by have := (own_ge hown hg).1; have := hbW0.size; have := HO0.out.lt; omega
      have hkb : ∀ g', (Value.slice ka 0 kc).ownBlock = some g' → ¬ (g' = w.heap.size) := fun g' hg e => by have := (own_ge hownK hg).1; have := hbW0.size; have := HO0.out.lt; omega
      have hD1 := own_dep (lo := w.heap.size) (X := fun i => i = w.heap.size) hown (by have := hbW0.size; omega) (by unfold maxLen; omega) hlb
      have hD2 := own_dep (lo := w.heap.size) (X := fun i => i = w.heap.size) hownK (by have := hbW0.size; omega) (by unfold maxLen; omega) hkb
      have hD3 : Dep w.heap.size (fun i => i = w.heap.size) wr (fun W => HeldL W xs) := hdx.weak (Nat.le_refl _) (fun i _ _ h => .inl (.inl h))
      have hxl : xs.length = r.length := by have := hown.1; rw [vmCells_len] at this; omega
      have HDD := hid (((hD1.both hD2).both hD3).mono (fun W h => show Held W (.mk 4 0 [] (.slice la r.length lc) (Value.slice ka 0 kc) xs []) from mk_held (by rw [hxl]; exact h.1.1) h.1.2 h.2))
      have HSS := hid (show sameB (.mk 4 0 [] (.slice la r.length lc) (Value.slice ka 0 kc) xs []) (.mk 4 0 [] nilS nilS l0 ([] : List (List UInt8))) = true by rw [same_mk, HS.out]; simp)
      have HBW := hid hbw
      clear hown hownK hdx hD1 hD2 hD3 hag hbw hE hlb hkb
      go_wp2_with fail
      rw [HF.out]
      refine bodyPost_ret (rof_res rfl rfl (RC.all HQr.out _ _ _ _ _).x) rfl ?_
      exact of_end_some (l := xs) (ks := ([] : List (List UInt8))) HBW.out (Nat.le_refl _) HDD.out HSS.out _ _ _ _ _
end Go.Proofs.YtnfjlimecoikpaaGreatDoor
