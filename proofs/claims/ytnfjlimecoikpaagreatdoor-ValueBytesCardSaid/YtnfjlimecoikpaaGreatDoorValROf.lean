/- The document's walk over bytes: of, but for lists and dicts. -/
import Derived.Test.YtnfjlimecoikpaaGreatDoorValOf
import Derived.Test.YtnfjlimecoikpaaGreatDoorPackRefTexts
import Derived.Test.YtnfjlimecoikpaaGreatDoorValSame
namespace Go.Proofs.YtnfjlimecoikpaaGreatDoor
set_option maxRecDepth 100000
open Go.RowKit

def ROfC (m : Nat) : Prop := ∀ (b : List UInt8), b.length ≤ 1000000000 → ∀ w, ∀ d : Int, d = m → d ≤ 100 → Calls Tryz.prog 36 #[.string (bs b), .int .i64 d] w (OfRet (ofV m b) w)
set_option maxHeartbeats 4000000 in
theorem rof_other (m : Nat) (IH : ROfC m) (b : List UInt8) (hbl : b.length ≤ 1000000000) (w : World) (d : Int) (hd : d = ((m + 1 : Nat) : Int)) (hdu : d ≤ 100) (t : List UInt8) (r : List (List UInt8)) (h0 : (textsL b).2 = 0) (h1 : (textsL b).1 = t :: r) (hList : ¬ t = wList) (hnd : ¬ (t = wDict ∧ r.length % 2 = 0)) :
    Calls Tryz.prog 36 #[.string (bs b), .int .i64 d] w (OfRet (ofV (m + 1) b) w) := by
  obtain ⟨i0, hi, hz0, hz1, hz2⟩ := info_parts pstr_info
  obtain ⟨i1, hi1, hy0, hy1, hy2⟩ := info_parts pval_info
  have HT := hid (refTexts_any b ((w.alloc (.cells #[.int .i64 0, .int .i64 0, .string ⟨#[]⟩, .slice none 0 0, .slice none 0 0] 25)).alloc (.cells #[.int .i64 0, .int .i64 0, .string ⟨#[]⟩, .slice none 0 0, .slice none 0 0] 25)) (by omega))
  have hcount := textsL_count _ b (Nat.le_refl _)
  have HEA := hid (textsL_each _ b (Nat.le_refl _))
  have HR : Hid (ofV (m + 1) b = ofW (ofV m) t r) := hid (by show ofP (ofV m) b = _; unfold ofP; rw [h0, h1]; rfl)
  unfold TextsPost at HT
  rw [h0, h1] at HT
  rw [h1] at hcount HEA
  generalize ofV (m + 1) b = res at *
  clear h0 h1
  have hbn := below_new2 w (.cells #[.int .i64 0, .int .i64 0, .string ⟨#[]⟩, .slice none 0 0, .slice none 0 0] 25) (.cells #[.int .i64 0, .int .i64 0, .string ⟨#[]⟩, .slice none 0 0, .slice none 0 0] 25)
  have HN0 := hid ((rc_new w 0 0 [] (.slice none 0 0) (.slice none 0 0)).keep (below_new (w.alloc (.cells #[.int .i64 0, .int .i64 0, .string ⟨#[]⟩, .slice none 0 0, .slice none 0 0] 25)) (.cells #[.int .i64 0, .int .i64 0, .string ⟨#[]⟩, .slice none 0 0, .slice none 0 0] 25)))
  have HN1 : Hid (RC ((w.alloc (.cells #[.int .i64 0, .int .i64 0, .string ⟨#[]⟩, .slice none 0 0, .slice none 0 0] 25)).alloc (.cells #[.int .i64 0, .int .i64 0, .string ⟨#[]⟩, .slice none 0 0, .slice none 0 0] 25)) (w.heap.size + 1) 0 0 [] (.slice none 0 0) (.slice none 0 0)) := hid (by have := rc_new (w.alloc (.cells #[.int .i64 0, .int .i64 0, .string ⟨#[]⟩, .slice none 0 0, .slice none 0 0] 25)) 0 0 [] (.slice none 0 0) (.slice none 0 0); rw [World.size_alloc] at this; exact this)
  have HEL : Hid (∀ x ∈ r, x.length ≤ 1000000000) := hid (fun x hx => Nat.le_trans (HEA.out x (List.mem_cons_of_mem _ hx)) hbl)
  have hrl : r.length ≤ 1000000000 := by rw [List.length_cons] at hcount; omega
  have ql : ((r.length : Int) + 1 == 0) = false := eqF (by omega)
  have hd0 : 1 ≤ d := by omega
  have qd : (d == 0) = false := eqF (by omega)
  have HD1 := hid hd
  clear hd
  go_enter Tryz.func36, Tryz.ntmps36
  go_wp2_with fail
  refine HT.out.mono ?_
  rintro e w1 ⟨v, rfl, hsl, hb1⟩
  have HQ := hid (HN0.out.keep hb1)
  have HM := hid (HN1.out.keep hb1)
  have hbq := Below.chain hbn hb1
  obtain ⟨-, va, vc, rfl, hvc, hvm, hvx⟩ := hsl.str
  obtain ⟨g, o, rfl, hg1, hcl⟩ := hvx 0 (by simp)
  obtain ⟨cap', rfl⟩ : ∃ c', vc = c' + 1 := ⟨vc - 1, by rw [List.length_cons] at hvc; omega⟩
  have hcap' : r.length ≤ cap' := by rw [List.length_cons] at hvc; omega
  unfold maxLen at hvm
  have k0 := hcl 0 (by simp)
  have k0' : w1.cell? ⟨g, o, none⟩ = some (.string (bs t)) := k0
  have HCL : Hid (∀ j (hj : j < r.length), w1.cell? ⟨g, o + 1 + j, none⟩ = some (.string (bs r[j]))) := hid (fun j hj => by
    have h := hcl (j + 1) (by simp; omega)
    rw [show o + 1 + j = o + (j + 1) by omega]
    exact h)
  clear hsl hvx hcl hvc hcount k0
  obtain ⟨⟨c0, c1, c2, c3, c4⟩, hfr⟩ := HQ.out
  have f0 := hfr 0
  have f1 := hfr 1
  have f2 := hfr 2
  have f3 := hfr 3
  have f4 := hfr 4
  obtain ⟨n0, n1, n2, n3, n4⟩ := (HM.out).x
  go_upto_region 6 with fail
  clear c0 c1 c2 c3 c4 f0 f1 f2 f3 f4 hfr n0 n1 n2 n3 n4
  generalize hsa : (if cap' = 0 then some ({ block := g, off := o } : Addr) else some { block := g, off := o + 1 }) = sa
  have HSA := hid (fun h : 0 < r.length => show sa = some ⟨g, o + 1, none⟩ by rw [← hsa, if_neg (by omega)])
  clear hsa
  by_cases hNone : t = wNone
  · cases r with
    | nil =>
      have HF : Hid (res = some noneV) := hid (by rw [HR.out, hNone, ofW_None]; rfl)
      have qNone : (t == [110, 111, 110, 101]) = true := by rw [hNone]; rfl
      have pNone : (t != [110, 111, 110, 101]) = false := by rw [hNone]; rfl
      have qBool : (t == [98, 111, 111, 108]) = false := by rw [hNone]; rfl
      have pBool : (t != [98, 111, 111, 108]) = true := by rw [hNone]; rfl
      have qInt : (t == [105, 110, 116]) = false := by rw [hNone]; rfl
      have pInt : (t != [105, 110, 116]) = true := by rw [hNone]; rfl
      have qText : (t == [116, 101, 120, 116]) = false := by rw [hNone]; rfl
      have pText : (t != [116, 101, 120, 116]) = true := by rw [hNone]; rfl
      have qDict : (t == [100, 105, 99, 116]) = false := by rw [hNone]; rfl
      have pDict : (t != [100, 105, 99, 116]) = true := by rw [hNone]; rfl
      have qList : (t == [108, 105, 115, 116]) = false := by rw [hNone]; rfl
      have pList : (t != [108, 105, 115, 116]) = true := by rw [hNone]; rfl
      clear hNone
      obtain ⟨⟨c0, c1, c2, c3, c4⟩, hfr⟩ := HQ.out
      have f0 := hfr 0
      have f1 := hfr 1
      have f2 := hfr 2
      have f3 := hfr 3
      have f4 := hfr 4
      obtain ⟨n0, n1, n2, n3, n4⟩ := (HM.out).x
      go_wp2_with fail
      rw [HF.out]
      refine bodyPost_ret (rof_res rfl rfl (RC.all HQ.out _ _ _ _ _).x) rfl ?_
      exact of_end_some (l := []) (ks := []) hbq (Nat.le_refl _) (dep_bare _ _ _ _ _ _) (same_refl _) _ _ _ _ _
    | cons a r' =>
      have q0 : ((r'.length : Int) + 1 == 0) = false := eqF (by omega)
      have HF : Hid (res = none) := hid (by rw [HR.out]; rw [hNone, ofW_None]; rfl)
      have qNone : (t == [110, 111, 110, 101]) = true := by rw [hNone]; rfl
      have pNone : (t != [110, 111, 110, 101]) = false := by rw [hNone]; rfl
      have qBool : (t == [98, 111, 111, 108]) = false := by rw [hNone]; rfl
      have pBool : (t != [98, 111, 111, 108]) = true := by rw [hNone]; rfl
      have qInt : (t == [105, 110, 116]) = false := by rw [hNone]; rfl
      have pInt : (t != [105, 110, 116]) = true := by rw [hNone]; rfl
      have qText : (t == [116, 101, 120, 116]) = false := by rw [hNone]; rfl
      have pText : (t != [116, 101, 120, 116]) = true := by rw [hNone]; rfl
      have qDict : (t == [100, 105, 99, 116]) = false := by rw [hNone]; rfl
      have pDict : (t != [100, 105, 99, 116]) = true := by rw [hNone]; rfl
      have qList : (t == [108, 105, 115, 116]) = false := by rw [hNone]; rfl
      have pList : (t != [108, 105, 115, 116]) = true := by rw [hNone]; rfl
      clear hNone
      obtain ⟨⟨c0, c1, c2, c3, c4⟩, hfr⟩ := HQ.out
      have f0 := hfr 0
      have f1 := hfr 1
      have f2 := hfr 2
      have f3 := hfr 3
      have f4 := hfr 4
      obtain ⟨n0, n1, n2, n3, n4⟩ := (HM.out).x
      go_wp2_with fail
      rw [HF.out]
      refine bodyPost_ret (rof_res rfl rfl (RC.all HQ.out _ _ _ _ _).x) rfl ?_
      exact of_end_none hbq (Nat.le_refl _) _ _ _ _ _
  by_cases hText : t = wText
  · match r, HR, HEL, hrl, ql, hcap', HCL, HSA with
    | [], HR, HEL, hrl, ql, hcap', HCL, HSA =>
      have HF : Hid (res = none) := hid (by rw [HR.out]; rw [hText, ofW_Text]; rfl)
      obtain ⟨W2, hW2⟩ : ∃ W2, W2 = w1.alloc (.cells #[.int .i64 4, .int .i64 0, .string ⟨#[]⟩, .slice none 0 0, .slice none 0 0] 25) := ⟨_, rfl⟩
      have hbn2 := below_new w1 (.cells #[.int .i64 4, .int .i64 0, .string ⟨#[]⟩, .slice none 0 0, .slice none 0 0] 25)
      have HO2 : Hid (RC W2 w1.heap.size 4 0 [] (.slice none 0 0) (.slice none 0 0)) := hid (by rw [hW2]; exact rc_new w1 4 0 [] (.slice none 0 0) (.slice none 0 0))
      rw [← hW2] at hbn2
      have HQ2 := hid (HQ.out.keep hbn2)
      have HM2 := hid (HM.out.keep hbn2)
      have hbq2 := Below.chain hbq hbn2
      have k2 := keeps_of hbn2 k0'
      have qNone : (t == [110, 111, 110, 101]) = false := by rw [hText]; rfl
      have pNone : (t != [110, 111, 110, 101]) = true := by rw [hText]; rfl
      have qBool : (t == [98, 111, 111, 108]) = false := by rw [hText]; rfl
      have pBool : (t != [98, 111, 111, 108]) = true := by rw [hText]; rfl
      have qInt : (t == [105, 110, 116]) = false := by rw [hText]; rfl
      have pInt : (t != [105, 110, 116]) = true := by rw [hText]; rfl
      have qText : (t == [116, 101, 120, 116]) = true := by rw [hText]; rfl
      have pText : (t != [116, 101, 120, 116]) = false := by rw [hText]; rfl
      have qDict : (t == [100, 105, 99, 116]) = false := by rw [hText]; rfl
      have pDict : (t != [100, 105, 99, 116]) = true := by rw [hText]; rfl
      have qList : (t == [108, 105, 115, 116]) = false := by rw [hText]; rfl
      have pList : (t != [108, 105, 115, 116]) = true := by rw [hText]; rfl
      clear hText
      obtain ⟨⟨c0, c1, c2, c3, c4⟩, hfr⟩ := HQ.out
      have f0 := hfr 0
      have f1 := hfr 1
      have f2 := hfr 2
      have f3 := hfr 3
      have f4 := hfr 4
      obtain ⟨n0, n1, n2, n3, n4⟩ := (HM.out).x
      go_upto_region 16 with fail
      rw [← hW2]
      clear hW2
      clear c0 c1 c2 c3 c4 f0 f1 f2 f3 f4 hfr n0 n1 n2 n3 n4
      obtain ⟨⟨c0, c1, c2, c3, c4⟩, hfr⟩ := HQ2.out
      have f0 := hfr 0
      have f1 := hfr 1
      have f2 := hfr 2
      have f3 := hfr 3
      have f4 := hfr 4
      obtain ⟨n0, n1, n2, n3, n4⟩ := (HM2.out).x
      obtain ⟨⟨o0, o1, o2, o3, o4⟩, hor⟩ := HO2.out
      have p0 := hor 0
      have p1 := hor 1
      have p2 := hor 2
      have p3 := hor 3
      have p4 := hor 4
      go_wp2_with fail
      rw [HF.out]
      refine bodyPost_ret (rof_res rfl rfl (RC.all HQ2.out _ _ _ _ _).x) rfl ?_
      exact of_end_none hbq2 (Nat.le_refl _) _ _ _ _ _
    | a :: a' :: r', HR, HEL, hrl, ql, hcap', HCL, HSA =>
      have q1 : ((r'.length : Int) + 1 + 1 == 1) = false := eqF (by omega)
      have HF : Hid (res = none) := hid (by rw [HR.out]; rw [hText, ofW_Text]; rfl)
      obtain ⟨W2, hW2⟩ : ∃ W2, W2 = w1.alloc (.cells #[.int .i64 4, .int .i64 0, .string ⟨#[]⟩, .slice none 0 0, .slice none 0 0] 25) := ⟨_, rfl⟩
      have hbn2 := below_new w1 (.cells #[.int .i64 4, .int .i64 0, .string ⟨#[]⟩, .slice none 0 0, .slice none 0 0] 25)
      have HO2 : Hid (RC W2 w1.heap.size 4 0 [] (.slice none 0 0) (.slice none 0 0)) := hid (by rw [hW2]; exact rc_new w1 4 0 [] (.slice none 0 0) (.slice none 0 0))
      rw [← hW2] at hbn2
      have HQ2 := hid (HQ.out.keep hbn2)
      have HM2 := hid (HM.out.keep hbn2)
      have hbq2 := Below.chain hbq hbn2
      have k2 := keeps_of hbn2 k0'
      have qNone : (t == [110, 111, 110, 101]) = false := by rw [hText]; rfl
      have pNone : (t != [110, 111, 110, 101]) = true := by rw [hText]; rfl
      have qBool : (t == [98, 111, 111, 108]) = false := by rw [hText]; rfl
      have pBool : (t != [98, 111, 111, 108]) = true := by rw [hText]; rfl
      have qInt : (t == [105, 110, 116]) = false := by rw [hText]; rfl
      have pInt : (t != [105, 110, 116]) = true := by rw [hText]; rfl
      have qText : (t == [116, 101, 120, 116]) = true := by rw [hText]; rfl
      have pText : (t != [116, 101, 120, 116]) = false := by rw [hText]; rfl
      have qDict : (t == [100, 105, 99, 116]) = false := by rw [hText]; rfl
      have pDict : (t != [100, 105, 99, 116]) = true := by rw [hText]; rfl
      have qList : (t == [108, 105, 115, 116]) = false := by rw [hText]; rfl
      have pList : (t != [108, 105, 115, 116]) = true := by rw [hText]; rfl
      clear hText
      obtain ⟨⟨c0, c1, c2, c3, c4⟩, hfr⟩ := HQ.out
      have f0 := hfr 0
      have f1 := hfr 1
      have f2 := hfr 2
      have f3 := hfr 3
      have f4 := hfr 4
      obtain ⟨n0, n1, n2, n3, n4⟩ := (HM.out).x
      go_upto_region 16 with fail
      rw [← hW2]
      clear hW2
      clear c0 c1 c2 c3 c4 f0 f1 f2 f3 f4 hfr n0 n1 n2 n3 n4
      obtain ⟨⟨c0, c1, c2, c3, c4⟩, hfr⟩ := HQ2.out
      have f0 := hfr 0
      have f1 := hfr 1
      have f2 := hfr 2
      have f3 := hfr 3
      have f4 := hfr 4
      obtain ⟨n0, n1, n2, n3, n4⟩ := (HM2.out).x
      obtain ⟨⟨o0, o1, o2, o3, o4⟩, hor⟩ := HO2.out
      have p0 := hor 0
      have p1 := hor 1
      have p2 := hor 2
      have p3 := hor 3
      have p4 := hor 4
      go_wp2_with fail
      rw [HF.out]
      refine bodyPost_ret (rof_res rfl rfl (RC.all HQ2.out _ _ _ _ _).x) rfl ?_
      exact of_end_none hbq2 (Nat.le_refl _) _ _ _ _ _
    | [x], HR, HEL, hrl, ql, hcap', HCL, HSA =>
      have HF : Hid (res = some (.mk 3 0 x nilS nilS [] [])) := hid (by rw [HR.out, hText, ofW_Text]; rfl)
      obtain rfl := HSA.out (by simp)
      have k1 : w1.cell? ⟨g, o + 1, none⟩ = some (.string (bs x)) := HCL.out 0 (by simp)
      have qNone : (t == [110, 111, 110, 101]) = false := by rw [hText]; rfl
      have pNone : (t != [110, 111, 110, 101]) = true := by rw [hText]; rfl
      have qBool : (t == [98, 111, 111, 108]) = false := by rw [hText]; rfl
      have pBool : (t != [98, 111, 111, 108]) = true := by rw [hText]; rfl
      have qInt : (t == [105, 110, 116]) = false := by rw [hText]; rfl
      have pInt : (t != [105, 110, 116]) = true := by rw [hText]; rfl
      have qText : (t == [116, 101, 120, 116]) = true := by rw [hText]; rfl
      have pText : (t != [116, 101, 120, 116]) = false := by rw [hText]; rfl
      have qDict : (t == [100, 105, 99, 116]) = false := by rw [hText]; rfl
      have pDict : (t != [100, 105, 99, 116]) = true := by rw [hText]; rfl
      have qList : (t == [108, 105, 115, 116]) = false := by rw [hText]; rfl
      have pList : (t != [108, 105, 115, 116]) = true := by rw [hText]; rfl
      clear hText
      obtain ⟨⟨c0, c1, c2, c3, c4⟩, hfr⟩ := HQ.out
      have f0 := hfr 0
      have f1 := hfr 1
      have f2 := hfr 2
      have f3 := hfr 3
      have f4 := hfr 4
      obtain ⟨n0, n1, n2, n3, n4⟩ := (HM.out).x
      go_wp2_with fail
      rw [HF.out]
      refine bodyPost_ret (rof_res rfl rfl (RC.all HQ.out _ _ _ _ _).x) rfl ?_
      exact of_end_some (l := []) (ks := []) hbq (Nat.le_refl _) (dep_bare _ _ _ _ _ _) (same_refl _) _ _ _ _ _
  by_cases hBool : t = wBool
  · match r, HR, HEL, hrl, ql, hcap', HCL, HSA with
    | [], HR, HEL, hrl, ql, hcap', HCL, HSA =>
      have HF : Hid (res = none) := hid (by rw [HR.out]; rw [hBool, ofW_Bool]; rfl)
      obtain ⟨W2, hW2⟩ : ∃ W2, W2 = w1.alloc (.cells #[.int .i64 4, .int .i64 0, .string ⟨#[]⟩, .slice none 0 0, .slice none 0 0] 25) := ⟨_, rfl⟩
      have hbn2 := below_new w1 (.cells #[.int .i64 4, .int .i64 0, .string ⟨#[]⟩, .slice none 0 0, .slice none 0 0] 25)
      have HO2 : Hid (RC W2 w1.heap.size 4 0 [] (.slice none 0 0) (.slice none 0 0)) := hid (by rw [hW2]; exact rc_new w1 4 0 [] (.slice none 0 0) (.slice none 0 0))
      rw [← hW2] at hbn2
      have HQ2 := hid (HQ.out.keep hbn2)
      have HM2 := hid (HM.out.keep hbn2)
      have hbq2 := Below.chain hbq hbn2
      have k2 := keeps_of hbn2 k0'
      have qNone : (t == [110, 111, 110, 101]) = false := by rw [hBool]; rfl
      have pNone : (t != [110, 111, 110, 101]) = true := by rw [hBool]; rfl
      have qBool : (t == [98, 111, 111, 108]) = true := by rw [hBool]; rfl
      have pBool : (t != [98, 111, 111, 108]) = false := by rw [hBool]; rfl
      have qInt : (t == [105, 110, 116]) = false := by rw [hBool]; rfl
      have pInt : (t != [105, 110, 116]) = true := by rw [hBool]; rfl
      have qText : (t == [116, 101, 120, 116]) = false := by rw [hBool]; rfl
      have pText : (t != [116, 101, 120, 116]) = true := by rw [hBool]; rfl
      have qDict : (t == [100, 105, 99, 116]) = false := by rw [hBool]; rfl
      have pDict : (t != [100, 105, 99, 116]) = true := by rw [hBool]; rfl
      have qList : (t == [108, 105, 115, 116]) = false := by rw [hBool]; rfl
      have pList : (t != [108, 105, 115, 116]) = true := by rw [hBool]; rfl
      clear hBool
      obtain ⟨⟨c0, c1, c2, c3, c4⟩, hfr⟩ := HQ.out
      have f0 := hfr 0
      have f1 := hfr 1
      have f2 := hfr 2
      have f3 := hfr 3
      have f4 := hfr 4
      obtain ⟨n0, n1, n2, n3, n4⟩ := (HM.out).x
      go_upto_region 16 with fail
      rw [← hW2]
      clear hW2
      clear c0 c1 c2 c3 c4 f0 f1 f2 f3 f4 hfr n0 n1 n2 n3 n4
      obtain ⟨⟨c0, c1, c2, c3, c4⟩, hfr⟩ := HQ2.out
      have f0 := hfr 0
      have f1 := hfr 1
      have f2 := hfr 2
      have f3 := hfr 3
      have f4 := hfr 4
      obtain ⟨n0, n1, n2, n3, n4⟩ := (HM2.out).x
      obtain ⟨⟨o0, o1, o2, o3, o4⟩, hor⟩ := HO2.out
      have p0 := hor 0
      have p1 := hor 1
      have p2 := hor 2
      have p3 := hor 3
      have p4 := hor 4
      go_wp2_with fail
      rw [HF.out]
      refine bodyPost_ret (rof_res rfl rfl (RC.all HQ2.out _ _ _ _ _).x) rfl ?_
      exact of_end_none hbq2 (Nat.le_refl _) _ _ _ _ _
    | a :: a' :: r', HR, HEL, hrl, ql, hcap', HCL, HSA =>
      have q1 : ((r'.length : Int) + 1 + 1 == 1) = false := eqF (by omega)
      have HF : Hid (res = none) := hid (by rw [HR.out]; rw [hBool, ofW_Bool]; rfl)
      obtain ⟨W2, hW2⟩ : ∃ W2, W2 = w1.alloc (.cells #[.int .i64 4, .int .i64 0, .string ⟨#[]⟩, .slice none 0 0, .slice none 0 0] 25) := ⟨_, rfl⟩
      have hbn2 := below_new w1 (.cells #[.int .i64 4, .int .i64 0, .string ⟨#[]⟩, .slice none 0 0, .slice none 0 0] 25)
      have HO2 : Hid (RC W2 w1.heap.size 4 0 [] (.slice none 0 0) (.slice none 0 0)) := hid (by rw [hW2]; exact rc_new w1 4 0 [] (.slice none 0 0) (.slice none 0 0))
      rw [← hW2] at hbn2
      have HQ2 := hid (HQ.out.keep hbn2)
      have HM2 := hid (HM.out.keep hbn2)
      have hbq2 := Below.chain hbq hbn2
      have k2 := keeps_of hbn2 k0'
      have qNone : (t == [110, 111, 110, 101]) = false := by rw [hBool]; rfl
      have pNone : (t != [110, 111, 110, 101]) = true := by rw [hBool]; rfl
      have qBool : (t == [98, 111, 111, 108]) = true := by rw [hBool]; rfl
      have pBool : (t != [98, 111, 111, 108]) = false := by rw [hBool]; rfl
      have qInt : (t == [105, 110, 116]) = false := by rw [hBool]; rfl
      have pInt : (t != [105, 110, 116]) = true := by rw [hBool]; rfl
      have qText : (t == [116, 101, 120, 116]) = false := by rw [hBool]; rfl
      have pText : (t != [116, 101, 120, 116]) = true := by rw [hBool]; rfl
      have qDict : (t == [100, 105, 99, 116]) = false := by rw [hBool]; rfl
      have pDict : (t != [100, 105, 99, 116]) = true := by rw [hBool]; rfl
      have qList : (t == [108, 105, 115, 116]) = false := by rw [hBool]; rfl
      have pList : (t != [108, 105, 115, 116]) = true := by rw [hBool]; rfl
      clear hBool
      obtain ⟨⟨c0, c1, c2, c3, c4⟩, hfr⟩ := HQ.out
      have f0 := hfr 0
      have f1 := hfr 1
      have f2 := hfr 2
      have f3 := hfr 3
      have f4 := hfr 4
      obtain ⟨n0, n1, n2, n3, n4⟩ := (HM.out).x
      go_upto_region 16 with fail
      rw [← hW2]
      clear hW2
      clear c0 c1 c2 c3 c4 f0 f1 f2 f3 f4 hfr n0 n1 n2 n3 n4
      obtain ⟨⟨c0, c1, c2, c3, c4⟩, hfr⟩ := HQ2.out
      have f0 := hfr 0
      have f1 := hfr 1
      have f2 := hfr 2
      have f3 := hfr 3
      have f4 := hfr 4
      obtain ⟨n0, n1, n2, n3, n4⟩ := (HM2.out).x
      obtain ⟨⟨o0, o1, o2, o3, o4⟩, hor⟩ := HO2.out
      have p0 := hor 0
      have p1 := hor 1
      have p2 := hor 2
      have p3 := hor 3
      have p4 := hor 4
      go_wp2_with fail
      rw [HF.out]
      refine bodyPost_ret (rof_res rfl rfl (RC.all HQ2.out _ _ _ _ _).x) rfl ?_
      exact of_end_none hbq2 (Nat.le_refl _) _ _ _ _ _
    | [x], HR, HEL, hrl, ql, hcap', HCL, HSA =>
      obtain ⟨iv, ib, hiv⟩ : ∃ iv ib, intL x = (iv, ib) := ⟨_, _, rfl⟩
      have HV : Hid (res = if ib = true then some (.mk 1 iv [] nilS nilS [] []) else none) := hid (by rw [HR.out, hBool, ofW_Bool]; rw [ofNum_one, hiv])
      have hxl := HEL.out x (by simp)
      obtain rfl := HSA.out (by simp)
      have k1 := HCL.out 0 (by simp)
      have k1' : w1.cell? ⟨g, o + 1, none⟩ = some (.string (bs x)) := k1
      have HI := hid (refInt_any x (by omega) iv ib hiv w1)
      clear hiv k1
      have qNone : (t == [110, 111, 110, 101]) = false := by rw [hBool]; rfl
      have pNone : (t != [110, 111, 110, 101]) = true := by rw [hBool]; rfl
      have qBool : (t == [98, 111, 111, 108]) = true := by rw [hBool]; rfl
      have pBool : (t != [98, 111, 111, 108]) = false := by rw [hBool]; rfl
      have qInt : (t == [105, 110, 116]) = false := by rw [hBool]; rfl
      have pInt : (t != [105, 110, 116]) = true := by rw [hBool]; rfl
      have qText : (t == [116, 101, 120, 116]) = false := by rw [hBool]; rfl
      have pText : (t != [116, 101, 120, 116]) = true := by rw [hBool]; rfl
      have qDict : (t == [100, 105, 99, 116]) = false := by rw [hBool]; rfl
      have pDict : (t != [100, 105, 99, 116]) = true := by rw [hBool]; rfl
      have qList : (t == [108, 105, 115, 116]) = false := by rw [hBool]; rfl
      have pList : (t != [108, 105, 115, 116]) = true := by rw [hBool]; rfl
      clear hBool
      obtain ⟨⟨c0, c1, c2, c3, c4⟩, hfr⟩ := HQ.out
      have f0 := hfr 0
      have f1 := hfr 1
      have f2 := hfr 2
      have f3 := hfr 3
      have f4 := hfr 4
      obtain ⟨n0, n1, n2, n3, n4⟩ := (HM.out).x
      go_wp2_with fail
      refine HI.out.mono ?_
      rintro e w2 ⟨rfl, hb2⟩
      have HR2 := hid (HQ.out.keep hb2)
      have hbz := Below.chain hbq hb2
      have k3 := keeps_of hb2 k0'
      clear c0 c1 c2 c3 c4 f0 f1 f2 f3 f4 hfr n0 n1 n2 n3 n4
      obtain ⟨⟨c0, c1, c2, c3, c4⟩, hfr⟩ := HR2.out
      have f0 := hfr 0
      have f1 := hfr 1
      have f2 := hfr 2
      have f3 := hfr 3
      have f4 := hfr 4
      cases ib with
      | true =>
        have HF : Hid (res = some (.mk 1 iv [] nilS nilS [] [])) := hid (by rw [HV.out]; rfl)
        go_wp2_with fail
        rw [HF.out]
        refine bodyPost_ret (rof_res rfl rfl (RC.all HR2.out _ _ _ _ _).x) rfl ?_
        exact of_end_some (l := []) (ks := []) hbz (Nat.le_refl _) (dep_bare _ _ _ _ _ _) (same_refl _) _ _ _ _ _
      | false =>
        have HF : Hid (res = none) := hid (by rw [HV.out]; rfl)
        go_wp2_with fail
        rw [HF.out]
        refine bodyPost_ret (rof_res rfl rfl (RC.all HR2.out _ _ _ _ _).x) rfl ?_
        exact of_end_none hbz (Nat.le_refl _) _ _ _ _ _
  by_cases hInt : t = wInt
  · match r, HR, HEL, hrl, ql, hcap', HCL, HSA with
    | [], HR, HEL, hrl, ql, hcap', HCL, HSA =>
      have HF : Hid (res = none) := hid (by rw [HR.out]; rw [hInt, ofW_Int]; rfl)
      obtain ⟨W2, hW2⟩ : ∃ W2, W2 = w1.alloc (.cells #[.int .i64 4, .int .i64 0, .string ⟨#[]⟩, .slice none 0 0, .slice none 0 0] 25) := ⟨_, rfl⟩
      have hbn2 := below_new w1 (.cells #[.int .i64 4, .int .i64 0, .string ⟨#[]⟩, .slice none 0 0, .slice none 0 0] 25)
      have HO2 : Hid (RC W2 w1.heap.size 4 0 [] (.slice none 0 0) (.slice none 0 0)) := hid (by rw [hW2]; exact rc_new w1 4 0 [] (.slice none 0 0) (.slice none 0 0))
      rw [← hW2] at hbn2
      have HQ2 := hid (HQ.out.keep hbn2)
      have HM2 := hid (HM.out.keep hbn2)
      have hbq2 := Below.chain hbq hbn2
      have k2 := keeps_of hbn2 k0'
      have qNone : (t == [110, 111, 110, 101]) = false := by rw [hInt]; rfl
      have pNone : (t != [110, 111, 110, 101]) = true := by rw [hInt]; rfl
      have qBool : (t == [98, 111, 111, 108]) = false := by rw [hInt]; rfl
      have pBool : (t != [98, 111, 111, 108]) = true := by rw [hInt]; rfl
      have qInt : (t == [105, 110, 116]) = true := by rw [hInt]; rfl
      have pInt : (t != [105, 110, 116]) = false := by rw [hInt]; rfl
      have qText : (t == [116, 101, 120, 116]) = false := by rw [hInt]; rfl
      have pText : (t != [116, 101, 120, 116]) = true := by rw [hInt]; rfl
      have qDict : (t == [100, 105, 99, 116]) = false := by rw [hInt]; rfl
      have pDict : (t != [100, 105, 99, 116]) = true := by rw [hInt]; rfl
      have qList : (t == [108, 105, 115, 116]) = false := by rw [hInt]; rfl
      have pList : (t != [108, 105, 115, 116]) = true := by rw [hInt]; rfl
      clear hInt
      obtain ⟨⟨c0, c1, c2, c3, c4⟩, hfr⟩ := HQ.out
      have f0 := hfr 0
      have f1 := hfr 1
      have f2 := hfr 2
      have f3 := hfr 3
      have f4 := hfr 4
      obtain ⟨n0, n1, n2, n3, n4⟩ := (HM.out).x
      go_upto_region 16 with fail
      rw [← hW2]
      clear hW2
      clear c0 c1 c2 c3 c4 f0 f1 f2 f3 f4 hfr n0 n1 n2 n3 n4
      obtain ⟨⟨c0, c1, c2, c3, c4⟩, hfr⟩ := HQ2.out
      have f0 := hfr 0
      have f1 := hfr 1
      have f2 := hfr 2
      have f3 := hfr 3
      have f4 := hfr 4
      obtain ⟨n0, n1, n2, n3, n4⟩ := (HM2.out).x
      obtain ⟨⟨o0, o1, o2, o3, o4⟩, hor⟩ := HO2.out
      have p0 := hor 0
      have p1 := hor 1
      have p2 := hor 2
      have p3 := hor 3
      have p4 := hor 4
      go_wp2_with fail
      rw [HF.out]
      refine bodyPost_ret (rof_res rfl rfl (RC.all HQ2.out _ _ _ _ _).x) rfl ?_
      exact of_end_none hbq2 (Nat.le_refl _) _ _ _ _ _
    | a :: a' :: r', HR, HEL, hrl, ql, hcap', HCL, HSA =>
      have q1 : ((r'.length : Int) + 1 + 1 == 1) = false := eqF (by omega)
      have HF : Hid (res = none) := hid (by rw [HR.out]; rw [hInt, ofW_Int]; rfl)
      obtain ⟨W2, hW2⟩ : ∃ W2, W2 = w1.alloc (.cells #[.int .i64 4, .int .i64 0, .string ⟨#[]⟩, .slice none 0 0, .slice none 0 0] 25) := ⟨_, rfl⟩
      have hbn2 := below_new w1 (.cells #[.int .i64 4, .int .i64 0, .string ⟨#[]⟩, .slice none 0 0, .slice none 0 0] 25)
      have HO2 : Hid (RC W2 w1.heap.size 4 0 [] (.slice none 0 0) (.slice none 0 0)) := hid (by rw [hW2]; exact rc_new w1 4 0 [] (.slice none 0 0) (.slice none 0 0))
      rw [← hW2] at hbn2
      have HQ2 := hid (HQ.out.keep hbn2)
      have HM2 := hid (HM.out.keep hbn2)
      have hbq2 := Below.chain hbq hbn2
      have k2 := keeps_of hbn2 k0'
      have qNone : (t == [110, 111, 110, 101]) = false := by rw [hInt]; rfl
      have pNone : (t != [110, 111, 110, 101]) = true := by rw [hInt]; rfl
      have qBool : (t == [98, 111, 111, 108]) = false := by rw [hInt]; rfl
      have pBool : (t != [98, 111, 111, 108]) = true := by rw [hInt]; rfl
      have qInt : (t == [105, 110, 116]) = true := by rw [hInt]; rfl
      have pInt : (t != [105, 110, 116]) = false := by rw [hInt]; rfl
      have qText : (t == [116, 101, 120, 116]) = false := by rw [hInt]; rfl
      have pText : (t != [116, 101, 120, 116]) = true := by rw [hInt]; rfl
      have qDict : (t == [100, 105, 99, 116]) = false := by rw [hInt]; rfl
      have pDict : (t != [100, 105, 99, 116]) = true := by rw [hInt]; rfl
      have qList : (t == [108, 105, 115, 116]) = false := by rw [hInt]; rfl
      have pList : (t != [108, 105, 115, 116]) = true := by rw [hInt]; rfl
      clear hInt
      obtain ⟨⟨c0, c1, c2, c3, c4⟩, hfr⟩ := HQ.out
      have f0 := hfr 0
      have f1 := hfr 1
      have f2 := hfr 2
      have f3 := hfr 3
      have f4 := hfr 4
      obtain ⟨n0, n1, n2, n3, n4⟩ := (HM.out).x
      go_upto_region 16 with fail
      rw [← hW2]
      clear hW2
      clear c0 c1 c2 c3 c4 f0 f1 f2 f3 f4 hfr n0 n1 n2 n3 n4
      obtain ⟨⟨c0, c1, c2, c3, c4⟩, hfr⟩ := HQ2.out
      have f0 := hfr 0
      have f1 := hfr 1
      have f2 := hfr 2
      have f3 := hfr 3
      have f4 := hfr 4
      obtain ⟨n0, n1, n2, n3, n4⟩ := (HM2.out).x
      obtain ⟨⟨o0, o1, o2, o3, o4⟩, hor⟩ := HO2.out
      have p0 := hor 0
      have p1 := hor 1
      have p2 := hor 2
      have p3 := hor 3
      have p4 := hor 4
      go_wp2_with fail
      rw [HF.out]
      refine bodyPost_ret (rof_res rfl rfl (RC.all HQ2.out _ _ _ _ _).x) rfl ?_
      exact of_end_none hbq2 (Nat.le_refl _) _ _ _ _ _
    | [x], HR, HEL, hrl, ql, hcap', HCL, HSA =>
      obtain ⟨iv, ib, hiv⟩ : ∃ iv ib, intL x = (iv, ib) := ⟨_, _, rfl⟩
      have HV : Hid (res = if ib = true then some (.mk 2 iv [] nilS nilS [] []) else none) := hid (by rw [HR.out, hInt, ofW_Int]; rw [ofNum_one, hiv])
      have hxl := HEL.out x (by simp)
      obtain rfl := HSA.out (by simp)
      have k1 := HCL.out 0 (by simp)
      have k1' : w1.cell? ⟨g, o + 1, none⟩ = some (.string (bs x)) := k1
      have HI := hid (refInt_any x (by omega) iv ib hiv w1)
      clear hiv k1
      have qNone : (t == [110, 111, 110, 101]) = false := by rw [hInt]; rfl
      have pNone : (t != [110, 111, 110, 101]) = true := by rw [hInt]; rfl
      have qBool : (t == [98, 111, 111, 108]) = false := by rw [hInt]; rfl
      have pBool : (t != [98, 111, 111, 108]) = true := by rw [hInt]; rfl
      have qInt : (t == [105, 110, 116]) = true := by rw [hInt]; rfl
      have pInt : (t != [105, 110, 116]) = false := by rw [hInt]; rfl
      have qText : (t == [116, 101, 120, 116]) = false := by rw [hInt]; rfl
      have pText : (t != [116, 101, 120, 116]) = true := by rw [hInt]; rfl
      have qDict : (t == [100, 105, 99, 116]) = false := by rw [hInt]; rfl
      have pDict : (t != [100, 105, 99, 116]) = true := by rw [hInt]; rfl
      have qList : (t == [108, 105, 115, 116]) = false := by rw [hInt]; rfl
      have pList : (t != [108, 105, 115, 116]) = true := by rw [hInt]; rfl
      clear hInt
      obtain ⟨⟨c0, c1, c2, c3, c4⟩, hfr⟩ := HQ.out
      have f0 := hfr 0
      have f1 := hfr 1
      have f2 := hfr 2
      have f3 := hfr 3
      have f4 := hfr 4
      obtain ⟨n0, n1, n2, n3, n4⟩ := (HM.out).x
      go_wp2_with fail
      refine HI.out.mono ?_
      rintro e w2 ⟨rfl, hb2⟩
      have HR2 := hid (HQ.out.keep hb2)
      have hbz := Below.chain hbq hb2
      have k3 := keeps_of hb2 k0'
      clear c0 c1 c2 c3 c4 f0 f1 f2 f3 f4 hfr n0 n1 n2 n3 n4
      obtain ⟨⟨c0, c1, c2, c3, c4⟩, hfr⟩ := HR2.out
      have f0 := hfr 0
      have f1 := hfr 1
      have f2 := hfr 2
      have f3 := hfr 3
      have f4 := hfr 4
      cases ib with
      | true =>
        have HF : Hid (res = some (.mk 2 iv [] nilS nilS [] [])) := hid (by rw [HV.out]; rfl)
        go_wp2_with fail
        rw [HF.out]
        refine bodyPost_ret (rof_res rfl rfl (RC.all HR2.out _ _ _ _ _).x) rfl ?_
        exact of_end_some (l := []) (ks := []) hbz (Nat.le_refl _) (dep_bare _ _ _ _ _ _) (same_refl _) _ _ _ _ _
      | false =>
        have HF : Hid (res = none) := hid (by rw [HV.out]; rfl)
        go_wp2_with fail
        rw [HF.out]
        refine bodyPost_ret (rof_res rfl rfl (RC.all HR2.out _ _ _ _ _).x) rfl ?_
        exact of_end_none hbz (Nat.le_refl _) _ _ _ _ _
  by_cases hDict : t = wDict
  · have hev : ¬ r.length % 2 = 0 := fun h => hnd ⟨hDict, h⟩
    have qm : ((r.length : Int).tmod 2 != 0) = true := neT (by rw [Int.tmod_eq_emod_of_nonneg (by omega)]; omega)
    have qm2 : ((r.length : Int) % 2 != 0) = true := neT (by omega)
    have HF : Hid (res = none) := hid (by rw [HR.out]; rw [hDict, ofW_Dict]; unfold ofDict; rw [if_neg hev])
    have hwB : w.heap.size + 2 ≤ w1.heap.size := by have := hb1.size; rw [World.size_alloc, World.size_alloc] at this; exact this
    obtain ⟨W2, hW2⟩ : ∃ W2, W2 = w1.alloc (.cells #[.int .i64 4, .int .i64 0, .string ⟨#[]⟩, .slice none 0 0, .slice none 0 0] 25) := ⟨_, rfl⟩
    have hbn2 := below_new w1 (.cells #[.int .i64 4, .int .i64 0, .string ⟨#[]⟩, .slice none 0 0, .slice none 0 0] 25)
    have HO2 : Hid (RC W2 w1.heap.size 4 0 [] (.slice none 0 0) (.slice none 0 0)) := hid (by rw [hW2]; exact rc_new w1 4 0 [] (.slice none 0 0) (.slice none 0 0))
    rw [← hW2] at hbn2
    have HQ2 := hid (HQ.out.keep hbn2)
    have HM2 := hid (HM.out.keep hbn2)
    have hbq2 := Below.chain hbq hbn2
    have k2 := keeps_of hbn2 k0'
    have qNone : (t == [110, 111, 110, 101]) = false := by rw [hDict]; rfl
    have pNone : (t != [110, 111, 110, 101]) = true := by rw [hDict]; rfl
    have qBool : (t == [98, 111, 111, 108]) = false := by rw [hDict]; rfl
    have pBool : (t != [98, 111, 111, 108]) = true := by rw [hDict]; rfl
    have qInt : (t == [105, 110, 116]) = false := by rw [hDict]; rfl
    have pInt : (t != [105, 110, 116]) = true := by rw [hDict]; rfl
    have qText : (t == [116, 101, 120, 116]) = false := by rw [hDict]; rfl
    have pText : (t != [116, 101, 120, 116]) = true := by rw [hDict]; rfl
    have qDict : (t == [100, 105, 99, 116]) = true := by rw [hDict]; rfl
    have pDict : (t != [100, 105, 99, 116]) = false := by rw [hDict]; rfl
    have qList : (t == [108, 105, 115, 116]) = false := by rw [hDict]; rfl
    have pList : (t != [108, 105, 115, 116]) = true := by rw [hDict]; rfl
    clear hDict
    obtain ⟨⟨c0, c1, c2, c3, c4⟩, hfr⟩ := HQ.out
    have f0 := hfr 0
    have f1 := hfr 1
    have f2 := hfr 2
    have f3 := hfr 3
    have f4 := hfr 4
    obtain ⟨n0, n1, n2, n3, n4⟩ := (HM.out).x
    go_upto_region 16 with fail
    rw [← hW2]
    clear hW2
    clear c0 c1 c2 c3 c4 f0 f1 f2 f3 f4 hfr n0 n1 n2 n3 n4
    obtain ⟨⟨c0, c1, c2, c3, c4⟩, hfr⟩ := HQ2.out
    have f0 := hfr 0
    have f1 := hfr 1
    have f2 := hfr 2
    have f3 := hfr 3
    have f4 := hfr 4
    obtain ⟨n0, n1, n2, n3, n4⟩ := (HM2.out).x
    obtain ⟨⟨o0, o1, o2, o3, o4⟩, hor⟩ := HO2.out
    have p0 := hor 0
    have p1 := hor 1
    have p2 := hor 2
    have p3 := hor 3
    have p4 := hor 4
    obtain ⟨W0, hW0⟩ : ∃ W0, W0 = W2.setCell ⟨w1.heap.size, 0, none⟩ (.int .i64 5) := ⟨_, rfl⟩
    have hag0 : Agr w1.heap.size W2 W0 := by rw [hW0]; exact (Agr.refl _ _).put
    have HQ0 := hid (HQ2.out.block (hag0.same _ HQ2.out.lt (by omega)))
    have HM0 := hid (HM2.out.block (hag0.same _ HM2.out.lt (by omega)))
    have hbW0 : Below w.heap.size w W0 := by rw [hW0]; exact hbq2.setCell (p := ⟨w1.heap.size, 0, none⟩) (by show w.heap.size ≤ w1.heap.size; omega) _
    have k5 := hag0.cell k2 (by omega : g ≠ w1.heap.size)
    go_upto_region 20 with fail
    rw [← hW0]
    clear hW0 hag0
    clear o0 o1 o2 o3 o4 p0 p1 p2 p3 p4 hor
    clear c0 c1 c2 c3 c4 f0 f1 f2 f3 f4 hfr n0 n1 n2 n3 n4
    obtain ⟨⟨c0, c1, c2, c3, c4⟩, hfr⟩ := HQ0.out
    have f0 := hfr 0
    have f1 := hfr 1
    have f2 := hfr 2
    have f3 := hfr 3
    have f4 := hfr 4
    obtain ⟨n0, n1, n2, n3, n4⟩ := (HM0.out).x
    go_wp2_with fail
    rw [HF.out]
    refine bodyPost_ret (rof_res rfl rfl (RC.all HQ0.out _ _ _ _ _).x) rfl ?_
    exact of_end_none hbW0 (Nat.le_refl _) _ _ _ _ _
  have HF : Hid (res = none) := hid (by rw [HR.out]; exact ofW_else hNone hBool hInt hText hDict hList)
  obtain ⟨W2, hW2⟩ : ∃ W2, W2 = w1.alloc (.cells #[.int .i64 4, .int .i64 0, .string ⟨#[]⟩, .slice none 0 0, .slice none 0 0] 25) := ⟨_, rfl⟩
  have hbn2 := below_new w1 (.cells #[.int .i64 4, .int .i64 0, .string ⟨#[]⟩, .slice none 0 0, .slice none 0 0] 25)
  have HO2 : Hid (RC W2 w1.heap.size 4 0 [] (.slice none 0 0) (.slice none 0 0)) := hid (by rw [hW2]; exact rc_new w1 4 0 [] (.slice none 0 0) (.slice none 0 0))
  rw [← hW2] at hbn2
  have HQ2 := hid (HQ.out.keep hbn2)
  have HM2 := hid (HM.out.keep hbn2)
  have hbq2 := Below.chain hbq hbn2
  have k2 := keeps_of hbn2 k0'
  have qNone : (t == [110, 111, 110, 101]) = false := beq_eq_false_iff_ne.2 hNone
  have pNone : (t != [110, 111, 110, 101]) = true := bne_iff_ne.2 hNone
  have qBool : (t == [98, 111, 111, 108]) = false := beq_eq_false_iff_ne.2 hBool
  have pBool : (t != [98, 111, 111, 108]) = true := bne_iff_ne.2 hBool
  have qInt : (t == [105, 110, 116]) = false := beq_eq_false_iff_ne.2 hInt
  have pInt : (t != [105, 110, 116]) = true := bne_iff_ne.2 hInt
  have qText : (t == [116, 101, 120, 116]) = false := beq_eq_false_iff_ne.2 hText
  have pText : (t != [116, 101, 120, 116]) = true := bne_iff_ne.2 hText
  have qDict : (t == [100, 105, 99, 116]) = false := beq_eq_false_iff_ne.2 hDict
  have pDict : (t != [100, 105, 99, 116]) = true := bne_iff_ne.2 hDict
  have qList : (t == [108, 105, 115, 116]) = false := beq_eq_false_iff_ne.2 hList
  have pList : (t != [108, 105, 115, 116]) = true := bne_iff_ne.2 hList
  obtain ⟨⟨c0, c1, c2, c3, c4⟩, hfr⟩ := HQ.out
  have f0 := hfr 0
  have f1 := hfr 1
  have f2 := hfr 2
  have f3 := hfr 3
  have f4 := hfr 4
  obtain ⟨n0, n1, n2, n3, n4⟩ := (HM.out).x
  go_upto_region 16 with fail
  rw [← hW2]
  clear hW2
  clear c0 c1 c2 c3 c4 f0 f1 f2 f3 f4 hfr n0 n1 n2 n3 n4
  obtain ⟨⟨c0, c1, c2, c3, c4⟩, hfr⟩ := HQ2.out
  have f0 := hfr 0
  have f1 := hfr 1
  have f2 := hfr 2
  have f3 := hfr 3
  have f4 := hfr 4
  obtain ⟨n0, n1, n2, n3, n4⟩ := (HM2.out).x
  obtain ⟨⟨o0, o1, o2, o3, o4⟩, hor⟩ := HO2.out
  have p0 := hor 0
  have p1 := hor 1
  have p2 := hor 2
  have p3 := hor 3
  have p4 := hor 4
  go_wp2_with fail
  rw [HF.out]
  refine bodyPost_ret (rof_res rfl rfl (RC.all HQ2.out _ _ _ _ _).x) rfl ?_
  exact of_end_none hbq2 (Nat.le_refl _) _ _ _ _ _
end Go.Proofs.YtnfjlimecoikpaaGreatDoor
