/- The program's walk over bytes: of. -/
import Derived.Test.YtnfjlimecoikpaaGreatDoorValDep
import Derived.Test.YtnfjlimecoikpaaGreatDoorValTexts
import Derived.Test.YtnfjlimecoikpaaGreatDoorMQuiet
import Derived.Test.YtnfjlimecoikpaaGreatDoorValText0
namespace Go.Proofs.YtnfjlimecoikpaaGreatDoor
set_option maxRecDepth 100000
open Go.RowKit

/-- All blocks that there were, but for one, are as they were. -/
structure Agr (b : Nat) (W w : World) : Prop where
  size : W.heap.size ≤ w.heap.size
  same : ∀ i, i < W.heap.size → i ≠ b → w.heap[i]? = W.heap[i]?
theorem Agr.refl (b : Nat) (W : World) : Agr b W W := ⟨Nat.le_refl _, fun _ _ _ => rfl⟩
theorem Agr.cell {b g j : Nat} {W w : World} {v : Value} (h : Agr b W w) (hc : W.cell? ⟨g, j, none⟩ = some v) (hg : g ≠ b) : w.cell? ⟨g, j, none⟩ = some v :=
  (World.cell?_of_block (w := W) (a := ⟨g, j, none⟩) (h.same g (World.block_lt_of_cell? W _ hc) hg)).trans hc
theorem Agr.below {b : Nat} {W w w' : World} (h : Agr b W w) (hb : Below w.heap.size w w') : Agr b W w' :=
  ⟨Nat.le_trans h.size hb.size, fun i hi hn => (hb.block i (Nat.lt_of_lt_of_le hi h.size)).trans (h.same i hi hn)⟩
theorem Agr.put {b j : Nat} {W w : World} {v : Value} (h : Agr b W w) : Agr b W (w.setCell ⟨b, j, none⟩ v) :=
  ⟨by simpa [World.setCell] using h.size, fun i hi hn => (Go.heap_setCell_other w ⟨b, j, none⟩ i v hn).trans (h.same i hi hn)⟩
theorem Agr.grown {b : Nat} {row : Option Nat} {W w w' : World} (h : Agr b W w) (hg : w.grownBy w' row) (hr : ∀ k, row = some k → W.heap.size ≤ k) : Agr b W w' :=
  ⟨Nat.le_trans h.size hg.size, fun i hi hn => (hg.block i (Nat.lt_of_lt_of_le hi h.size) (fun e => by have := hr i e.symm; omega)).trans (h.same i hi hn)⟩
theorem own_shape {w : World} {base e size n : Nat} {v : Value} {xs : List Value} (h : w.ownsRow base e size v n xs) : ∃ a c, v = .slice a n c := by
  rcases h.2 with ⟨rfl, rfl⟩ | ⟨g, cap, cur, hv, -⟩
  · exact ⟨none, 0, rfl⟩
  · exact ⟨_, cap, hv⟩
theorem own_keep1 {w : World} {base e size n : Nat} {v : Value} {xs : List Value} (h : w.ownsRow base e size v n xs) {b j : Nat} (hb : b < base) (x : Value) : (w.setCell ⟨b, j, none⟩ x).ownsRow base e size v n xs := by
  obtain ⟨hl, h⟩ := h
  refine ⟨hl, ?_⟩
  rcases h with h | ⟨g, cap, cur, hv, hg, hh, r⟩
  · exact .inl h
  · exact .inr ⟨g, cap, cur, hv, hg, (Go.heap_setCell_other w ⟨b, j, none⟩ g x (by show g ≠ b; omega)).trans hh, r⟩
theorem own_ge {w : World} {base e size n g : Nat} {v : Value} {xs : List Value} (h : w.ownsRow base e size v n xs) (hv : v.ownBlock = some g) : base ≤ g ∧ g < w.heap.size := h.lt g hv
theorem vmCells_one (v : VM) : vmCells [v] = v.cells := by simp [vmCells]
theorem vmCells_app (a b : List VM) : vmCells (a ++ b) = vmCells a ++ vmCells b := by simp [vmCells]
theorem dep_nilL (lo : Nat) (X : Nat → Prop) (W : World) : Dep lo X W (fun W => HeldL W []) := fun _ _ _ => heldL_nil
/-- append onto a slice of the call's own, as one operation of a region. -/
theorem oper_append_own_at {P : Program} {o : Oper} {a : Act} {w : World} {Q : Exit → Act → World → Prop} {K : Act → World → Prop} (s x : Operand) (t : TypeId)
    (ho : o.op = .call { callee := .builtin .append, args := #[s, x], argTypes := #[t, t] })
    (base : Nat) (e : TypeId) (i : TypeInfo) (z : Value) (size bytes : Nat) (ht : P.underlying t = some (.slice e)) (hi : P.info? e = some i) (hz : i.zero = some z)
    (hsize : i.size = size) (hby : i.bytes = bytes) (hzs : z.cells.size = size) (hsz : 0 < size)
    (v : Value) (n : Nat) (xs : List Value) (hs : a.eval s = v) (hown : w.ownsRow base e size v n xs)
    (ad : Addr) (m c : Nat) (news : List Value) (hx : a.eval x = .slice (some ad) m c) (hl : news.length = m * size) (hnews : ∀ j u, news[j]? = some u → w.cell? (ad.add j) = some u) (h1 : ∀ u ∈ news, u.oneCell' = true)
    (h63 : n + m ≤ maxLen) (hbytes : (n + m) * bytes ≤ 140737488355328) (hbase : base ≤ w.heap.size)
    (h : ∀ v' w', w'.ownsRow base e size v' (n + m) (xs ++ news) → w.grownBy w' v.ownBlock → (v'.ownBlock = v.ownBlock ∨ v'.ownBlock = some w.heap.size) → K (a.put o.dst v') w') : Oper.wp P o a w K Q := by
  obtain ⟨v', w', hr, h2, h3, h4, h5⟩ := run_append_own_at (P := P) w base t o.type e i z size bytes ht hi hz hsize hby hzs hsz v n xs hown ad m c news hl hnews h1 h63 hbytes hbase
  unfold Oper.wp execOp
  simp only [ho, resolve, invoke, builtin, Sem.run_bind, Sem.run_pure, Result.andThen_ok, List.map_toArray, List.map_cons, List.map_nil, hs, hx, hr]
  exact h v' w' h2 h3 h5
theorem rw_agr {b g : Nat} {W w : World} {ts : List (List UInt8)} (h : Agr b W w) (k : Rw W g ts) (hg : g ≠ b) : Rw w g ts :=
  ⟨fun j hj => h.cell (k.c j hj) hg, fun j => (World.frozen?_of_block (w := W) (a := ⟨g, j, none⟩) (h.same g k.lt hg)).trans (k.f j), Nat.lt_of_lt_of_le k.lt h.size⟩
def POfC (m : Nat) : Prop := ∀ (b : List UInt8), b.length ≤ 1000000000 → ∀ w, PowTab w → ErrsAt w → ∀ d : Int, 1 ≤ d → d = 61 - (m : Int) → Calls Tryz.prog 35 #[.string (bs b), .int .i64 d] w (OfRet (ofV m b) w)
set_option maxHeartbeats 2000000 in
theorem pof_step (m : Nat) (IH : POfC m) : POfC (m + 1) := by
  intro b hbl w ht he d hd1 hd
  obtain ⟨i0, hi, hz0, hz1, hz2⟩ := info_parts pstr_info
  obtain ⟨i1, hi1, hy0, hy1, hy2⟩ := info_parts pval_info
  have HT := hid (texts_own b (w.alloc (.cells #[.int .i64 0, .int .i64 0, .string ⟨#[]⟩, .slice none 0 0, .slice none 0 0] 25)) (by omega))
  have hcount := textsL_count _ b (Nat.le_refl _)
  have HEA := hid (textsL_each _ b (Nat.le_refl _))
  have HR0 : Hid (ofV (m + 1) b = ofP (ofV m) b) := hid rfl
  unfold ofP at HR0
  unfold TextsOwn at HT
  generalize ofV (m + 1) b = res at *
  generalize hc : (textsL b).2 = c at *
  generalize hts : (textsL b).1 = ts at *
  clear hc hts
  have hbn := below_new w (.cells #[.int .i64 0, .int .i64 0, .string ⟨#[]⟩, .slice none 0 0, .slice none 0 0] 25)
  have HN0 := hid (rc_new w 0 0 [] (.slice none 0 0) (.slice none 0 0))
  by_cases hc0 : c = 0
  case neg =>
    have HF : Hid (res = none) := hid (by rw [HR0.out, if_pos hc0])
    have q : ((c : Int) != 0) = true := neT (by omega)
    clear hc0
    go_enter Tryz.func35, Tryz.ntmps35
    go_wp2_with fail
    refine HT.out.mono ?_
    rintro e w1 ⟨v, rfl, hown, hb1⟩
    have HRC := hid (HN0.out.keep hb1)
    obtain ⟨⟨c0, c1, c2, c3, c4⟩, hfr⟩ := HRC.out
    have f0 := hfr 0
    have f1 := hfr 1
    have f2 := hfr 2
    have f3 := hfr 3
    have f4 := hfr 4
    go_wp2_with fail
    rw [HF.out]
    refine bodyPost_ret (of_res rfl rfl (RC.all HRC.out _ _ _ _ _).x) rfl ?_
    exact of_end_none (Below.chain hbn hb1) (Nat.le_refl _) _ _ _ _ _
  subst hc0
  cases ts with
  | nil =>
    have HF : Hid (res = none) := hid (by rw [HR0.out]; rfl)
    go_enter Tryz.func35, Tryz.ntmps35
    go_wp2_with fail
    refine HT.out.mono ?_
    rintro e w1 ⟨v, rfl, hown, hb1⟩
    obtain ⟨va, vc, rfl⟩ := own_shape hown
    have HRC := hid (HN0.out.keep hb1)
    obtain ⟨⟨c0, c1, c2, c3, c4⟩, hfr⟩ := HRC.out
    have f0 := hfr 0
    have f1 := hfr 1
    have f2 := hfr 2
    have f3 := hfr 3
    have f4 := hfr 4
    go_wp2_with fail
    rw [HF.out]
    refine bodyPost_ret (of_res rfl rfl (RC.all HRC.out _ _ _ _ _).x) rfl ?_
    exact of_end_none (Below.chain hbn hb1) (Nat.le_refl _) _ _ _ _ _
  | cons t r =>
    have HR : Hid (res = ofW (ofV m) t r) := hid (by rw [HR0.out]; rfl)
    clear HR0
    have HEL : Hid (∀ x ∈ r, x.length ≤ 1000000000) := hid (fun x hx => Nat.le_trans (HEA.out x (List.mem_cons_of_mem _ hx)) hbl)
    have hrl : r.length ≤ 1000000000 := by rw [List.length_cons] at hcount; omega
    have ql : ((r.length : Int) + 1 == 0) = false := eqF (by omega)
    have qd : ¬ (60 : Int) < d := by omega
    have qd2 : decide ((60 : Int) < d) = false := decide_eq_false qd
    have HD1 := hid hd
    clear hd
    go_enter Tryz.func35, Tryz.ntmps35
    go_wp2_with fail
    refine HT.out.mono ?_
    rintro e w1 ⟨v, rfl, hown, hb1⟩
    obtain ⟨g, cap, rfl, hgb, hcap, hcm, hrw⟩ := own_rw hown rfl (by unfold maxLen; rw [List.length_cons]; omega) (by simp)
    obtain ⟨cap', rfl⟩ : ∃ c', cap = c' + 1 := ⟨cap - 1, by rw [List.length_cons] at hcap; omega⟩
    have hcap' : r.length ≤ cap' := by rw [List.length_cons] at hcap; omega
    have hgb0 : g ≠ w.heap.size := by rw [World.size_alloc] at hgb; omega
    unfold maxLen at hcm
    have HRC := hid (HN0.out.keep hb1)
    obtain ⟨⟨c0, c1, c2, c3, c4⟩, hfr⟩ := HRC.out
    have f0 := hfr 0
    have f1 := hfr 1
    have f2 := hfr 2
    have f3 := hfr 3
    have f4 := hfr 4
    have k0 : w1.cell? ⟨g, 0, none⟩ = some (.string (bs t)) := hrw.c 0 (by simp)
    clear hown hcount hcap
    go_wp2_with fail
    refine wp_region_wq (by kernel_rfl) (by kernel_rfl) ?_
    repeat (refine WQ.step (fun K hK => ?_); go_simp; first | (refine hK _ ?_; clear hK K) | (apply Exists.intro; refine ⟨fun W hW => ?_, hK _ ?_⟩; (first | with_reducible rfl | (have zz0 := Below.keeps hW k0; go_simp; first | rfl | exact ⟨rfl, rfl⟩ | (rw [if_pos (by omega)]; exact ⟨rfl, rfl⟩))); clear hK K))
    refine WQ.nil ?_
    intro wq hwq
    generalize hsa : (if cap' = 0 then some ({ block := g, off := 0 } : Addr) else some { block := g, off := 1 }) = sa
    have HSA := hid (fun h : 0 < r.length => show sa = some ⟨g, 1, none⟩ by rw [← hsa, if_neg (by omega)])
    clear hsa
    have HQ := hid (HRC.out.keep hwq)
    have HW := hid (hrw.keep hwq)
    have hbq := Below.chain (Below.chain hbn hb1) hwq
    have hgq : g < wq.heap.size := HW.out.lt
    have hgbg : w.heap.size + 1 ≤ g := by rw [World.size_alloc] at hgb; exact hgb
    clear hrw k0 HRC hwq c0 c1 c2 c3 c4 f0 f1 f2 f3 f4 hfr
    by_cases hNone : t = wNone
    · cases r with
      | nil =>
        have HF : Hid (res = some noneV) := hid (by rw [HR.out, hNone, ofW_None]; rfl)
        have qNone : (t == [110, 111, 110, 101]) = true := by rw [hNone]; rfl
        have pNone : (t != [110, 111, 110, 101]) = false := by rw [hNone]; rfl
        have qBool : (t == [98, 111, 111, 108]) = false := by rw [hNone]; rfl
        have pBool : (t != [98, 111, 111, 108]) = true := by rw [hNone]; rfl
        have qInt : (t == [105, 110, 116]) = false := by rw [hNone]; rfl
        have pInt : (t != [105, 110, 116]) = true := by rw [hNone]; rfl
        have qText : (t == [116, 101, 120, 116]) = false := by rw [hNone]; rfl
        have pText : (t != [116, 101, 120, 116]) = true := by rw [hNone]; rfl
        have qDict : (t == [100, 105, 99, 116]) = false := by rw [hNone]; rfl
        have pDict : (t != [100, 105, 99, 116]) = true := by rw [hNone]; rfl
        have qList : (t == [108, 105, 115, 116]) = false := by rw [hNone]; rfl
        have pList : (t != [108, 105, 115, 116]) = true := by rw [hNone]; rfl
        clear hNone
        obtain ⟨⟨c0, c1, c2, c3, c4⟩, hfr⟩ := HQ.out
        have f0 := hfr 0
        have f1 := hfr 1
        have f2 := hfr 2
        have f3 := hfr 3
        have f4 := hfr 4
        go_wp2_with fail
        rw [HF.out]
        refine bodyPost_ret (of_res rfl rfl (RC.all HQ.out _ _ _ _ _).x) rfl ?_
        exact of_end_some (l := []) (ks := []) hbq (Nat.le_refl _) (dep_bare _ _ _ _ _ _) (same_refl _) _ _ _ _ _
      | cons a r' =>
        have q0 : ((r'.length : Int) + 1 == 0) = false := eqF (by omega)
        have HF : Hid (res = none) := hid (by rw [HR.out]; rw [hNone, ofW_None]; rfl)
        have qNone : (t == [110, 111, 110, 101]) = true := by rw [hNone]; rfl
        have pNone : (t != [110, 111, 110, 101]) = false := by rw [hNone]; rfl
        have qBool : (t == [98, 111, 111, 108]) = false := by rw [hNone]; rfl
        have pBool : (t != [98, 111, 111, 108]) = true := by rw [hNone]; rfl
        have qInt : (t == [105, 110, 116]) = false := by rw [hNone]; rfl
        have pInt : (t != [105, 110, 116]) = true := by rw [hNone]; rfl
        have qText : (t == [116, 101, 120, 116]) = false := by rw [hNone]; rfl
        have pText : (t != [116, 101, 120, 116]) = true := by rw [hNone]; rfl
        have qDict : (t == [100, 105, 99, 116]) = false := by rw [hNone]; rfl
        have pDict : (t != [100, 105, 99, 116]) = true := by rw [hNone]; rfl
        have qList : (t == [108, 105, 115, 116]) = false := by rw [hNone]; rfl
        have pList : (t != [108, 105, 115, 116]) = true := by rw [hNone]; rfl
        clear hNone
        obtain ⟨⟨c0, c1, c2, c3, c4⟩, hfr⟩ := HQ.out
        have f0 := hfr 0
        have f1 := hfr 1
        have f2 := hfr 2
        have f3 := hfr 3
        have f4 := hfr 4
        go_wp2_with fail
        rw [HF.out]
        refine bodyPost_ret (of_res rfl rfl (RC.all HQ.out _ _ _ _ _).x) rfl ?_
        exact of_end_none hbq (Nat.le_refl _) _ _ _ _ _
    by_cases hBool : t = wBool
    · match r, HR, HEL, hrl, ql, hcap', HW, HSA with
      | [], HR, HEL, hrl, ql, hcap', HW, HSA =>
        have HF : Hid (res = none) := hid (by rw [HR.out]; rw [hBool, ofW_Bool]; rfl)
        have qNone : (t == [110, 111, 110, 101]) = false := by rw [hBool]; rfl
        have pNone : (t != [110, 111, 110, 101]) = true := by rw [hBool]; rfl
        have qBool : (t == [98, 111, 111, 108]) = true := by rw [hBool]; rfl
        have pBool : (t != [98, 111, 111, 108]) = false := by rw [hBool]; rfl
        have qInt : (t == [105, 110, 116]) = false := by rw [hBool]; rfl
        have pInt : (t != [105, 110, 116]) = true := by rw [hBool]; rfl
        have qText : (t == [116, 101, 120, 116]) = false := by rw [hBool]; rfl
        have pText : (t != [116, 101, 120, 116]) = true := by rw [hBool]; rfl
        have qDict : (t == [100, 105, 99, 116]) = false := by rw [hBool]; rfl
        have pDict : (t != [100, 105, 99, 116]) = true := by rw [hBool]; rfl
        have qList : (t == [108, 105, 115, 116]) = false := by rw [hBool]; rfl
        have pList : (t != [108, 105, 115, 116]) = true := by rw [hBool]; rfl
        clear hBool
        obtain ⟨⟨c0, c1, c2, c3, c4⟩, hfr⟩ := HQ.out
        have f0 := hfr 0
        have f1 := hfr 1
        have f2 := hfr 2
        have f3 := hfr 3
        have f4 := hfr 4
        go_wp2_with fail
        rw [HF.out]
        refine bodyPost_ret (of_res rfl rfl (RC.all HQ.out _ _ _ _ _).x) rfl ?_
        exact of_end_none hbq (Nat.le_refl _) _ _ _ _ _
      | a :: a' :: r', HR, HEL, hrl, ql, hcap', HW, HSA =>
        have q1 : ((r'.length : Int) + 1 + 1 == 1) = false := eqF (by omega)
        have HF : Hid (res = none) := hid (by rw [HR.out]; rw [hBool, ofW_Bool]; rfl)
        have qNone : (t == [110, 111, 110, 101]) = false := by rw [hBool]; rfl
        have pNone : (t != [110, 111, 110, 101]) = true := by rw [hBool]; rfl
        have qBool : (t == [98, 111, 111, 108]) = true := by rw [hBool]; rfl
        have pBool : (t != [98, 111, 111, 108]) = false := by rw [hBool]; rfl
        have qInt : (t == [105, 110, 116]) = false := by rw [hBool]; rfl
        have pInt : (t != [105, 110, 116]) = true := by rw [hBool]; rfl
        have qText : (t == [116, 101, 120, 116]) = false := by rw [hBool]; rfl
        have pText : (t != [116, 101, 120, 116]) = true := by rw [hBool]; rfl
        have qDict : (t == [100, 105, 99, 116]) = false := by rw [hBool]; rfl
        have pDict : (t != [100, 105, 99, 116]) = true := by rw [hBool]; rfl
        have qList : (t == [108, 105, 115, 116]) = false := by rw [hBool]; rfl
        have pList : (t != [108, 105, 115, 116]) = true := by rw [hBool]; rfl
        clear hBool
        obtain ⟨⟨c0, c1, c2, c3, c4⟩, hfr⟩ := HQ.out
        have f0 := hfr 0
        have f1 := hfr 1
        have f2 := hfr 2
        have f3 := hfr 3
        have f4 := hfr 4
        go_wp2_with fail
        rw [HF.out]
        refine bodyPost_ret (of_res rfl rfl (RC.all HQ.out _ _ _ _ _).x) rfl ?_
        exact of_end_none hbq (Nat.le_refl _) _ _ _ _ _
      | [x], HR, HEL, hrl, ql, hcap', HW, HSA =>
        obtain ⟨iv, ib, hiv⟩ : ∃ iv ib, intL x = (iv, ib) := ⟨_, _, rfl⟩
        have HV : Hid (res = if ib = true then some (.mk 1 iv [] nilS nilS [] []) else none) := hid (by rw [HR.out, hBool, ofW_Bool]; rw [ofNum_one, hiv])
        have hxl := HEL.out x (by simp)
        obtain rfl := HSA.out (by simp)
        obtain ⟨Ws, hWs⟩ : ∃ Ws, Ws = (wq.setCell ⟨w.heap.size, 0, none⟩ (.int .i64 2)).setCell ⟨w.heap.size, 0, none⟩ (.int .i64 1) := ⟨_, rfl⟩
        have HRs : Hid (RC Ws w.heap.size 1 0 [] (.slice none 0 0) (.slice none 0 0)) := hid (by rw [hWs]; exact (HQ.out.put0 2).put0 1)
        have hbs : Below w.heap.size w Ws := by rw [hWs]; exact (hbq.setCell (p := ⟨w.heap.size, 0, none⟩) (Nat.le_refl _) (.int .i64 2)).setCell (p := ⟨w.heap.size, 0, none⟩) (Nat.le_refl _) (.int .i64 1)
        have hag : Agr w.heap.size wq Ws := by rw [hWs]; exact ((Agr.refl w.heap.size wq).put (j := 0) (v := .int .i64 2)).put (j := 0) (v := .int .i64 1)
        have k1 := hag.cell (HW.out.c 1 (by simp)) hgb0
        have k1' : Ws.cell? ⟨g, 1, none⟩ = some (.string (bs x)) := k1
        have HI := hid (int_any x (by omega) iv ib hiv Ws (ht.below hbs) (he.below hbs))
        clear hiv k1
        have qNone : (t == [110, 111, 110, 101]) = false := by rw [hBool]; rfl
        have pNone : (t != [110, 111, 110, 101]) = true := by rw [hBool]; rfl
        have qBool : (t == [98, 111, 111, 108]) = true := by rw [hBool]; rfl
        have pBool : (t != [98, 111, 111, 108]) = false := by rw [hBool]; rfl
        have qInt : (t == [105, 110, 116]) = false := by rw [hBool]; rfl
        have pInt : (t != [105, 110, 116]) = true := by rw [hBool]; rfl
        have qText : (t == [116, 101, 120, 116]) = false := by rw [hBool]; rfl
        have pText : (t != [116, 101, 120, 116]) = true := by rw [hBool]; rfl
        have qDict : (t == [100, 105, 99, 116]) = false := by rw [hBool]; rfl
        have pDict : (t != [100, 105, 99, 116]) = true := by rw [hBool]; rfl
        have qList : (t == [108, 105, 115, 116]) = false := by rw [hBool]; rfl
        have pList : (t != [108, 105, 115, 116]) = true := by rw [hBool]; rfl
        clear hBool
        obtain ⟨⟨c0, c1, c2, c3, c4⟩, hfr⟩ := HQ.out
        have f0 := hfr 0
        have f1 := hfr 1
        have f2 := hfr 2
        have f3 := hfr 3
        have f4 := hfr 4
        go_upto_region 12 with fail
        rw [← hWs]
        clear hWs
        clear c0 c1 c2 c3 c4 f0 f1 f2 f3 f4 hfr
        obtain ⟨⟨c0, c1, c2, c3, c4⟩, hfr⟩ := HRs.out
        have f0 := hfr 0
        have f1 := hfr 1
        have f2 := hfr 2
        have f3 := hfr 3
        have f4 := hfr 4
        go_wp2_with fail
        refine HI.out.mono ?_
        rintro e w2 ⟨rfl, hb2⟩
        have HR2 := hid (HRs.out.keep hb2)
        have hbz := Below.chain hbs hb2
        obtain ⟨W3, hW3⟩ : ∃ W3, W3 = w2.setCell ⟨w.heap.size, 1, none⟩ (.int .i64 iv) := ⟨_, rfl⟩
        have HR3 : Hid (RC W3 w.heap.size 1 iv [] (.slice none 0 0) (.slice none 0 0)) := hid (by rw [hW3]; exact HR2.out.put1 iv)
        have hb3 : Below w.heap.size w W3 := by rw [hW3]; exact hbz.setCell (p := ⟨w.heap.size, 1, none⟩) (Nat.le_refl _) (.int .i64 iv)
        clear c0 c1 c2 c3 c4 f0 f1 f2 f3 f4 hfr
        obtain ⟨⟨c0, c1, c2, c3, c4⟩, hfr⟩ := HR2.out
        have f0 := hfr 0
        have f1 := hfr 1
        have f2 := hfr 2
        have f3 := hfr 3
        have f4 := hfr 4
        go_upto_region 13 with fail
        rw [← hW3]
        clear hW3
        clear c0 c1 c2 c3 c4 f0 f1 f2 f3 f4 hfr
        obtain ⟨⟨c0, c1, c2, c3, c4⟩, hfr⟩ := HR3.out
        have f0 := hfr 0
        have f1 := hfr 1
        have f2 := hfr 2
        have f3 := hfr 3
        have f4 := hfr 4
        cases ib with
        | true =>
          have HF : Hid (res = some (.mk 1 iv [] nilS nilS [] [])) := hid (by rw [HV.out]; rfl)
          go_wp2_with fail
          rw [HF.out]
          refine bodyPost_ret (of_res rfl rfl (RC.all HR3.out _ _ _ _ _).x) rfl ?_
          exact of_end_some (l := []) (ks := []) hb3 (Nat.le_refl _) (dep_bare _ _ _ _ _ _) (same_refl _) _ _ _ _ _
        | false =>
          have HF : Hid (res = none) := hid (by rw [HV.out]; rfl)
          go_wp2_with fail
          rw [HF.out]
          refine bodyPost_ret (of_res rfl rfl (RC.all HR3.out _ _ _ _ _).x) rfl ?_
          exact of_end_none hb3 (Nat.le_refl _) _ _ _ _ _
    by_cases hInt : t = wInt
    · match r, HR, HEL, hrl, ql, hcap', HW, HSA with
      | [], HR, HEL, hrl, ql, hcap', HW, HSA =>
        have HF : Hid (res = none) := hid (by rw [HR.out]; rw [hInt, ofW_Int]; rfl)
        have qNone : (t == [110, 111, 110, 101]) = false := by rw [hInt]; rfl
        have pNone : (t != [110, 111, 110, 101]) = true := by rw [hInt]; rfl
        have qBool : (t == [98, 111, 111, 108]) = false := by rw [hInt]; rfl
        have pBool : (t != [98, 111, 111, 108]) = true := by rw [hInt]; rfl
        have qInt : (t == [105, 110, 116]) = true := by rw [hInt]; rfl
        have pInt : (t != [105, 110, 116]) = false := by rw [hInt]; rfl
        have qText : (t == [116, 101, 120, 116]) = false := by rw [hInt]; rfl
        have pText : (t != [116, 101, 120, 116]) = true := by rw [hInt]; rfl
        have qDict : (t == [100, 105, 99, 116]) = false := by rw [hInt]; rfl
        have pDict : (t != [100, 105, 99, 116]) = true := by rw [hInt]; rfl
        have qList : (t == [108, 105, 115, 116]) = false := by rw [hInt]; rfl
        have pList : (t != [108, 105, 115, 116]) = true := by rw [hInt]; rfl
        clear hInt
        obtain ⟨⟨c0, c1, c2, c3, c4⟩, hfr⟩ := HQ.out
        have f0 := hfr 0
        have f1 := hfr 1
        have f2 := hfr 2
        have f3 := hfr 3
        have f4 := hfr 4
        go_wp2_with fail
        rw [HF.out]
        refine bodyPost_ret (of_res rfl rfl (RC.all HQ.out _ _ _ _ _).x) rfl ?_
        exact of_end_none hbq (Nat.le_refl _) _ _ _ _ _
      | a :: a' :: r', HR, HEL, hrl, ql, hcap', HW, HSA =>
        have q1 : ((r'.length : Int) + 1 + 1 == 1) = false := eqF (by omega)
        have HF : Hid (res = none) := hid (by rw [HR.out]; rw [hInt, ofW_Int]; rfl)
        have qNone : (t == [110, 111, 110, 101]) = false := by rw [hInt]; rfl
        have pNone : (t != [110, 111, 110, 101]) = true := by rw [hInt]; rfl
        have qBool : (t == [98, 111, 111, 108]) = false := by rw [hInt]; rfl
        have pBool : (t != [98, 111, 111, 108]) = true := by rw [hInt]; rfl
        have qInt : (t == [105, 110, 116]) = true := by rw [hInt]; rfl
        have pInt : (t != [105, 110, 116]) = false := by rw [hInt]; rfl
        have qText : (t == [116, 101, 120, 116]) = false := by rw [hInt]; rfl
        have pText : (t != [116, 101, 120, 116]) = true := by rw [hInt]; rfl
        have qDict : (t == [100, 105, 99, 116]) = false := by rw [hInt]; rfl
        have pDict : (t != [100, 105, 99, 116]) = true := by rw [hInt]; rfl
        have qList : (t == [108, 105, 115, 116]) = false := by rw [hInt]; rfl
        have pList : (t != [108, 105, 115, 116]) = true := by rw [hInt]; rfl
        clear hInt
        obtain ⟨⟨c0, c1, c2, c3, c4⟩, hfr⟩ := HQ.out
        have f0 := hfr 0
        have f1 := hfr 1
        have f2 := hfr 2
        have f3 := hfr 3
        have f4 := hfr 4
        go_wp2_with fail
        rw [HF.out]
        refine bodyPost_ret (of_res rfl rfl (RC.all HQ.out _ _ _ _ _).x) rfl ?_
        exact of_end_none hbq (Nat.le_refl _) _ _ _ _ _
      | [x], HR, HEL, hrl, ql, hcap', HW, HSA =>
        obtain ⟨iv, ib, hiv⟩ : ∃ iv ib, intL x = (iv, ib) := ⟨_, _, rfl⟩
        have HV : Hid (res = if ib = true then some (.mk 2 iv [] nilS nilS [] []) else none) := hid (by rw [HR.out, hInt, ofW_Int]; rw [ofNum_one, hiv])
        have hxl := HEL.out x (by simp)
        obtain rfl := HSA.out (by simp)
        obtain ⟨Ws, hWs⟩ : ∃ Ws, Ws = wq.setCell ⟨w.heap.size, 0, none⟩ (.int .i64 2) := ⟨_, rfl⟩
        have HRs : Hid (RC Ws w.heap.size 2 0 [] (.slice none 0 0) (.slice none 0 0)) := hid (by rw [hWs]; exact HQ.out.put0 2)
        have hbs : Below w.heap.size w Ws := by rw [hWs]; exact hbq.setCell (p := ⟨w.heap.size, 0, none⟩) (Nat.le_refl _) (.int .i64 2)
        have hag : Agr w.heap.size wq Ws := by rw [hWs]; exact (Agr.refl w.heap.size wq).put (j := 0) (v := .int .i64 2)
        have k1 := hag.cell (HW.out.c 1 (by simp)) hgb0
        have k1' : Ws.cell? ⟨g, 1, none⟩ = some (.string (bs x)) := k1
        have HI := hid (int_any x (by omega) iv ib hiv Ws (ht.below hbs) (he.below hbs))
        clear hiv k1
        have qNone : (t == [110, 111, 110, 101]) = false := by rw [hInt]; rfl
        have pNone : (t != [110, 111, 110, 101]) = true := by rw [hInt]; rfl
        have qBool : (t == [98, 111, 111, 108]) = false := by rw [hInt]; rfl
        have pBool : (t != [98, 111, 111, 108]) = true := by rw [hInt]; rfl
        have qInt : (t == [105, 110, 116]) = true := by rw [hInt]; rfl
        have pInt : (t != [105, 110, 116]) = false := by rw [hInt]; rfl
        have qText : (t == [116, 101, 120, 116]) = false := by rw [hInt]; rfl
        have pText : (t != [116, 101, 120, 116]) = true := by rw [hInt]; rfl
        have qDict : (t == [100, 105, 99, 116]) = false := by rw [hInt]; rfl
        have pDict : (t != [100, 105, 99, 116]) = true := by rw [hInt]; rfl
        have qList : (t == [108, 105, 115, 116]) = false := by rw [hInt]; rfl
        have pList : (t != [108, 105, 115, 116]) = true := by rw [hInt]; rfl
        clear hInt
        obtain ⟨⟨c0, c1, c2, c3, c4⟩, hfr⟩ := HQ.out
        have f0 := hfr 0
        have f1 := hfr 1
        have f2 := hfr 2
        have f3 := hfr 3
        have f4 := hfr 4
        go_upto_region 12 with fail
        rw [← hWs]
        clear hWs
        clear c0 c1 c2 c3 c4 f0 f1 f2 f3 f4 hfr
        obtain ⟨⟨c0, c1, c2, c3, c4⟩, hfr⟩ := HRs.out
        have f0 := hfr 0
        have f1 := hfr 1
        have f2 := hfr 2
        have f3 := hfr 3
        have f4 := hfr 4
        go_wp2_with fail
        refine HI.out.mono ?_
        rintro e w2 ⟨rfl, hb2⟩
        have HR2 := hid (HRs.out.keep hb2)
        have hbz := Below.chain hbs hb2
        obtain ⟨W3, hW3⟩ : ∃ W3, W3 = w2.setCell ⟨w.heap.size, 1, none⟩ (.int .i64 iv) := ⟨_, rfl⟩
        have HR3 : Hid (RC W3 w.heap.size 2 iv [] (.slice none 0 0) (.slice none 0 0)) := hid (by rw [hW3]; exact HR2.out.put1 iv)
        have hb3 : Below w.heap.size w W3 := by rw [hW3]; exact hbz.setCell (p := ⟨w.heap.size, 1, none⟩) (Nat.le_refl _) (.int .i64 iv)
        clear c0 c1 c2 c3 c4 f0 f1 f2 f3 f4 hfr
        obtain ⟨⟨c0, c1, c2, c3, c4⟩, hfr⟩ := HR2.out
        have f0 := hfr 0
        have f1 := hfr 1
        have f2 := hfr 2
        have f3 := hfr 3
        have f4 := hfr 4
        go_upto_region 13 with fail
        rw [← hW3]
        clear hW3
        clear c0 c1 c2 c3 c4 f0 f1 f2 f3 f4 hfr
        obtain ⟨⟨c0, c1, c2, c3, c4⟩, hfr⟩ := HR3.out
        have f0 := hfr 0
        have f1 := hfr 1
        have f2 := hfr 2
        have f3 := hfr 3
        have f4 := hfr 4
        cases ib with
        | true =>
          have HF : Hid (res = some (.mk 2 iv [] nilS nilS [] [])) := hid (by rw [HV.out]; rfl)
          go_wp2_with fail
          rw [HF.out]
          refine bodyPost_ret (of_res rfl rfl (RC.all HR3.out _ _ _ _ _).x) rfl ?_
          exact of_end_some (l := []) (ks := []) hb3 (Nat.le_refl _) (dep_bare _ _ _ _ _ _) (same_refl _) _ _ _ _ _
        | false =>
          have HF : Hid (res = none) := hid (by rw [HV.out]; rfl)
          go_wp2_with fail
          rw [HF.out]
          refine bodyPost_ret (of_res rfl rfl (RC.all HR3.out _ _ _ _ _).x) rfl ?_
          exact of_end_none hb3 (Nat.le_refl _) _ _ _ _ _
    by_cases hText : t = wText
    · match r, HR, HEL, hrl, ql, hcap', HW, HSA with
      | [], HR, HEL, hrl, ql, hcap', HW, HSA =>
        have HF : Hid (res = none) := hid (by rw [HR.out]; rw [hText, ofW_Text]; rfl)
        have qNone : (t == [110, 111, 110, 101]) = false := by rw [hText]; rfl
        have pNone : (t != [110, 111, 110, 101]) = true := by rw [hText]; rfl
        have qBool : (t == [98, 111, 111, 108]) = false := by rw [hText]; rfl
        have pBool : (t != [98, 111, 111, 108]) = true := by rw [hText]; rfl
        have qInt : (t == [105, 110, 116]) = false := by rw [hText]; rfl
        have pInt : (t != [105, 110, 116]) = true := by rw [hText]; rfl
        have qText : (t == [116, 101, 120, 116]) = true := by rw [hText]; rfl
        have pText : (t != [116, 101, 120, 116]) = false := by rw [hText]; rfl
        have qDict : (t == [100, 105, 99, 116]) = false := by rw [hText]; rfl
        have pDict : (t != [100, 105, 99, 116]) = true := by rw [hText]; rfl
        have qList : (t == [108, 105, 115, 116]) = false := by rw [hText]; rfl
        have pList : (t != [108, 105, 115, 116]) = true := by rw [hText]; rfl
        clear hText
        obtain ⟨⟨c0, c1, c2, c3, c4⟩, hfr⟩ := HQ.out
        have f0 := hfr 0
        have f1 := hfr 1
        have f2 := hfr 2
        have f3 := hfr 3
        have f4 := hfr 4
        go_wp2_with fail
        rw [HF.out]
        refine bodyPost_ret (of_res rfl rfl (RC.all HQ.out _ _ _ _ _).x) rfl ?_
        exact of_end_none hbq (Nat.le_refl _) _ _ _ _ _
      | a :: a' :: r', HR, HEL, hrl, ql, hcap', HW, HSA =>
        have q1 : ((r'.length : Int) + 1 + 1 == 1) = false := eqF (by omega)
        have HF : Hid (res = none) := hid (by rw [HR.out]; rw [hText, ofW_Text]; rfl)
        have qNone : (t == [110, 111, 110, 101]) = false := by rw [hText]; rfl
        have pNone : (t != [110, 111, 110, 101]) = true := by rw [hText]; rfl
        have qBool : (t == [98, 111, 111, 108]) = false := by rw [hText]; rfl
        have pBool : (t != [98, 111, 111, 108]) = true := by rw [hText]; rfl
        have qInt : (t == [105, 110, 116]) = false := by rw [hText]; rfl
        have pInt : (t != [105, 110, 116]) = true := by rw [hText]; rfl
        have qText : (t == [116, 101, 120, 116]) = true := by rw [hText]; rfl
        have pText : (t != [116, 101, 120, 116]) = false := by rw [hText]; rfl
        have qDict : (t == [100, 105, 99, 116]) = false := by rw [hText]; rfl
        have pDict : (t != [100, 105, 99, 116]) = true := by rw [hText]; rfl
        have qList : (t == [108, 105, 115, 116]) = false := by rw [hText]; rfl
        have pList : (t != [108, 105, 115, 116]) = true := by rw [hText]; rfl
        clear hText
        obtain ⟨⟨c0, c1, c2, c3, c4⟩, hfr⟩ := HQ.out
        have f0 := hfr 0
        have f1 := hfr 1
        have f2 := hfr 2
        have f3 := hfr 3
        have f4 := hfr 4
        go_wp2_with fail
        rw [HF.out]
        refine bodyPost_ret (of_res rfl rfl (RC.all HQ.out _ _ _ _ _).x) rfl ?_
        exact of_end_none hbq (Nat.le_refl _) _ _ _ _ _
      | [x], HR, HEL, hrl, ql, hcap', HW, HSA =>
        have HF : Hid (res = some (.mk 3 0 x nilS nilS [] [])) := hid (by rw [HR.out, hText, ofW_Text]; rfl)
        have k1 : wq.cell? ⟨g, 1, none⟩ = some (.string (bs x)) := HW.out.c 1 (by simp)
        obtain rfl := HSA.out (by simp)
        have qNone : (t == [110, 111, 110, 101]) = false := by rw [hText]; rfl
        have pNone : (t != [110, 111, 110, 101]) = true := by rw [hText]; rfl
        have qBool : (t == [98, 111, 111, 108]) = false := by rw [hText]; rfl
        have pBool : (t != [98, 111, 111, 108]) = true := by rw [hText]; rfl
        have qInt : (t == [105, 110, 116]) = false := by rw [hText]; rfl
        have pInt : (t != [105, 110, 116]) = true := by rw [hText]; rfl
        have qText : (t == [116, 101, 120, 116]) = true := by rw [hText]; rfl
        have pText : (t != [116, 101, 120, 116]) = false := by rw [hText]; rfl
        have qDict : (t == [100, 105, 99, 116]) = false := by rw [hText]; rfl
        have pDict : (t != [100, 105, 99, 116]) = true := by rw [hText]; rfl
        have qList : (t == [108, 105, 115, 116]) = false := by rw [hText]; rfl
        have pList : (t != [108, 105, 115, 116]) = true := by rw [hText]; rfl
        clear hText
        obtain ⟨⟨c0, c1, c2, c3, c4⟩, hfr⟩ := HQ.out
        have f0 := hfr 0
        have f1 := hfr 1
        have f2 := hfr 2
        have f3 := hfr 3
        have f4 := hfr 4
        go_wp2_with fail
        rw [HF.out]
        refine bodyPost_ret (of_res rfl rfl (RC.all HQ.out _ _ _ _ _).x) rfl ?_
        exact of_end_some (l := []) (ks := []) hbq (Nat.le_refl _) (dep_bare _ _ _ _ _ _) (same_refl _) _ _ _ _ _
    by_cases hDict : t = wDict
    · by_cases hev : r.length % 2 = 0
      case neg =>
        have qm : ((r.length : Int).tmod 2 == 0) = false := eqF (by rw [Int.tmod_eq_emod_of_nonneg (by omega)]; omega)
        have qm2 : ((r.length : Int) % 2 == 0) = false := eqF (by omega)
        have HF : Hid (res = none) := hid (by rw [HR.out]; rw [hDict, ofW_Dict]; unfold ofDict; rw [if_neg hev])
        have qNone : (t == [110, 111, 110, 101]) = false := by rw [hDict]; rfl
        have pNone : (t != [110, 111, 110, 101]) = true := by rw [hDict]; rfl
        have qBool : (t == [98, 111, 111, 108]) = false := by rw [hDict]; rfl
        have pBool : (t != [98, 111, 111, 108]) = true := by rw [hDict]; rfl
        have qInt : (t == [105, 110, 116]) = false := by rw [hDict]; rfl
        have pInt : (t != [105, 110, 116]) = true := by rw [hDict]; rfl
        have qText : (t == [116, 101, 120, 116]) = false := by rw [hDict]; rfl
        have pText : (t != [116, 101, 120, 116]) = true := by rw [hDict]; rfl
        have qDict : (t == [100, 105, 99, 116]) = true := by rw [hDict]; rfl
        have pDict : (t != [100, 105, 99, 116]) = false := by rw [hDict]; rfl
        have qList : (t == [108, 105, 115, 116]) = false := by rw [hDict]; rfl
        have pList : (t != [108, 105, 115, 116]) = true := by rw [hDict]; rfl
        clear hDict
        obtain ⟨⟨c0, c1, c2, c3, c4⟩, hfr⟩ := HQ.out
        have f0 := hfr 0
        have f1 := hfr 1
        have f2 := hfr 2
        have f3 := hfr 3
        have f4 := hfr 4
        go_wp2_with fail
        rw [HF.out]
        refine bodyPost_ret (of_res rfl rfl (RC.all HQ.out _ _ _ _ _).x) rfl ?_
        exact of_end_none hbq (Nat.le_refl _) _ _ _ _ _
      have qm : ((r.length : Int).tmod 2 == 0) = true := eqT (by rw [Int.tmod_eq_emod_of_nonneg (by omega)]; omega)
      have qm2 : ((r.length : Int) % 2 == 0) = true := eqT (by omega)
      have HNon : Hid (ofL (ofV m) (odds r) = none → ofW (ofV m) t r = none) := hid (fun h => by rw [hDict, ofW_Dict]; unfold ofDict; rw [if_pos hev, h]; rfl)
      have HSome : Hid (∀ l0, ofL (ofV m) (odds r) = some l0 → ofW (ofV m) t r = some (.mk 5 0 [] nilS nilS l0 (evens r))) := hid (fun l0 h => by rw [hDict, ofW_Dict]; unfold ofDict; rw [if_pos hev, h]; rfl)
      have HEV := hid hev
      have hel1 : (evens r).length * 2 ≤ r.length := by have := (evens_len r).1; omega
      have hel2 : r.length ≤ (evens r).length * 2 := by have := (evens_len r).1; omega
      have hol1 : (odds r).length ≤ (evens r).length := by have := (evens_len r).1; have := (evens_len r).2; omega
      have hol2 : (evens r).length ≤ (odds r).length := by have := (evens_len r).1; have := (evens_len r).2; omega
      clear hev
      obtain ⟨W0, hW0⟩ : ∃ W0, W0 = wq.setCell ⟨w.heap.size, 0, none⟩ (.int .i64 5) := ⟨_, rfl⟩
      have HRC0 : Hid (RC W0 w.heap.size 5 0 [] (.slice none 0 0) (.slice none 0 0)) := hid (by rw [hW0]; exact HQ.out.put0 5)
      have hbW0 : Below w.heap.size w W0 := by rw [hW0]; exact hbq.setCell (p := ⟨w.heap.size, 0, none⟩) (Nat.le_refl _) (.int .i64 5)
      have hag0 : Agr w.heap.size wq W0 := by rw [hW0]; exact (Agr.refl w.heap.size wq).put (j := 0) (v := .int .i64 5)
      have HW0 := hid (rw_agr hag0 HW.out hgb0)
      have qNone : (t == [110, 111, 110, 101]) = false := by rw [hDict]; rfl
      have pNone : (t != [110, 111, 110, 101]) = true := by rw [hDict]; rfl
      have qBool : (t == [98, 111, 111, 108]) = false := by rw [hDict]; rfl
      have pBool : (t != [98, 111, 111, 108]) = true := by rw [hDict]; rfl
      have qInt : (t == [105, 110, 116]) = false := by rw [hDict]; rfl
      have pInt : (t != [105, 110, 116]) = true := by rw [hDict]; rfl
      have qText : (t == [116, 101, 120, 116]) = false := by rw [hDict]; rfl
      have pText : (t != [116, 101, 120, 116]) = true := by rw [hDict]; rfl
      have qDict : (t == [100, 105, 99, 116]) = true := by rw [hDict]; rfl
      have pDict : (t != [100, 105, 99, 116]) = false := by rw [hDict]; rfl
      have qList : (t == [108, 105, 115, 116]) = false := by rw [hDict]; rfl
      have pList : (t != [108, 105, 115, 116]) = true := by rw [hDict]; rfl
      clear hDict
      obtain ⟨⟨c0, c1, c2, c3, c4⟩, hfr⟩ := HQ.out
      have f0 := hfr 0
      have f1 := hfr 1
      have f2 := hfr 2
      have f3 := hfr 3
      have f4 := hfr 4
      go_upto_region 18 with fail
      rw [← hW0]
      clear hW0 hag0
      clear c0 c1 c2 c3 c4 f0 f1 f2 f3 f4 hfr
      have hg0 := HW0.out.lt
      go_wp2_with fail
      go_loopw [9] (fun i wr => ∃ (j : Nat) (kvv : Value), j ≤ (evens r).length ∧ i = .int .i64 (2 * (j : Int)) ∧ W0.heap.size ≤ wr.heap.size ∧ Below w.heap.size w wr ∧ RC wr w.heap.size 5 0 [] (.slice none 0 0) kvv ∧ Rw wr g (t :: ((odds r).take j ++ r.drop j)) ∧ wr.ownsRow W0.heap.size 9 1 kvv j (strCells ((evens r).take j))) (fun i _ => r.length - (intOf i).toNat)
      case atStart => exact ⟨0, (.slice none 0 0), by omega, rfl, Nat.le_refl _, hbW0, HRC0.out, HW0.out, World.ownsRow_nil _ _ _ _⟩
      case round =>
        obtain ⟨j, kvv, hj, rfl, hws, hbw, hrc, hrw, hown⟩ := hrel
        obtain ⟨ka, kc, rfl⟩ := own_shape hown
        have HRCr := hid hrc
        have HRW := hid hrw
        have hWs := HRC0.out.lt
        obtain ⟨⟨c0, c1, c2, c3, c4⟩, hfr⟩ := hrc
        have f0 := hfr 0
        have f1 := hfr 1
        have f2 := hfr 2
        have f3 := hfr 3
        have f4 := hfr 4
        by_cases hlt : j < (evens r).length
        · have h2 : 2 * (j : Int) < (r.length : Int) := by omega
          have h2n : 2 * j + 1 < r.length := by omega
          have hlto : j < (odds r).length := by omega
          have hml : (t :: ((odds r).take j ++ r.drop j)).length = r.length + 1 := by rw [List.length_cons, List.length_append, List.length_take, List.length_drop]; omega
          have hgk : (t :: ((odds r).take j ++ r.drop j))[1 + 2 * j]? = some (evens r)[j] := by
            rw [Nat.add_comm, List.getElem?_cons_succ, List.getElem?_append_right (by rw [List.length_take]; omega), List.getElem?_drop, List.length_take, evens_get r j hlt (by omega), ← List.getElem?_eq_getElem]
            congr 1; omega
          have hgo : (t :: ((odds r).take j ++ r.drop j))[1 + (2 * j + 1)]? = some (odds r)[j] := by
            rw [Nat.add_comm 1, List.getElem?_cons_succ, List.getElem?_append_right (by rw [List.length_take]; omega), List.getElem?_drop, List.length_take, odds_get r j hlto h2n, ← List.getElem?_eq_getElem]
            congr 1; omega
          have hset : (t :: ((odds r).take j ++ r.drop j)).set (1 + j) (odds r)[j] = t :: ((odds r).take (j + 1) ++ r.drop (j + 1)) := by
            rw [Nat.add_comm, List.set_cons_succ, List.set_append_right _ _ (by rw [List.length_take]; omega), List.length_take, show j - min j (odds r).length = 0 by omega, drop_at r j (by omega), List.set_cons_zero, take_at (odds r) j hlto, List.append_assoc]
            rfl
          have e0 := hrw.c (1 + 2 * j) (by omega)
          rw [(List.getElem?_eq_some_iff.1 hgk).2] at e0
          have HGO := hid (fun (h : 1 + (2 * j + 1) < (t :: ((odds r).take j ++ r.drop j)).length) => show (t :: ((odds r).take j ++ r.drop j))[1 + (2 * j + 1)]'h = (odds r)[j] from (List.getElem?_eq_some_iff.1 hgo).2)
          have hml1 : r.length + 1 ≤ (t :: ((odds r).take j ++ r.drop j)).length := by omega
          have e0' : wr.cell? ⟨g, 1 + (2 * (j : Int)).toNat, none⟩ = some (.string (bs (evens r)[j])) := by rw [show (2 * (j : Int)).toNat = 2 * j by omega]; exact e0
          clear e0
          have HSET := hid hset
          obtain rfl := HSA.out (by omega)
          have hkl := HEL
          clear hgk hgo hset hml
          go_wp2_with fail
          refine wp_region_wh (S := fun _ => True) (by kernel_rfl) ?_
          refine WH.take 0 (some 100) rfl rfl (by kernel_rfl) (by kernel_rfl) (by kernel_rfl) (fun _ _ _ _ h => h) trivial ?_
          apply Exists.intro
          refine ⟨⟨(by kernel_rfl), fun W hW => ?_⟩, ?_⟩
          · go_simp
            first | rfl | exact ⟨rfl, rfl⟩ | (rw [if_neg (by omega)]; first | rfl | exact ⟨rfl, rfl⟩) | (trace_state; fail)
          try simp only [Act.put, List.setIfInBounds_toArray, List.set_cons_zero, List.set_cons_succ]
          refine WH.take 2 (some 102) rfl rfl (by kernel_rfl) (by kernel_rfl) (by kernel_rfl) (fun _ _ _ _ h => h) trivial ?_
          apply Exists.intro
          refine ⟨⟨(by kernel_rfl), fun W hW => ?_⟩, ?_⟩
          · go_simp
            first | rfl | exact ⟨rfl, rfl⟩ | (rw [if_neg (by omega)]; first | rfl | exact ⟨rfl, rfl⟩) | (trace_state; fail)
          try simp only [Act.put, List.setIfInBounds_toArray, List.set_cons_zero, List.set_cons_succ]
          refine WH.take 3 (some 103) rfl rfl (by kernel_rfl) (by kernel_rfl) (by kernel_rfl) (fun _ _ _ _ h => h) trivial ?_
          apply Exists.intro
          refine ⟨⟨(by kernel_rfl), fun W hW => ?_⟩, ?_⟩
          · go_simp
            first | rfl | exact ⟨rfl, rfl⟩ | (rw [if_neg (by omega)]; first | rfl | exact ⟨rfl, rfl⟩) | (trace_state; fail)
          try simp only [Act.put, List.setIfInBounds_toArray, List.set_cons_zero, List.set_cons_succ]
          refine WH.take 4 (some 104) rfl rfl (by kernel_rfl) (by kernel_rfl) (by kernel_rfl) (fun _ _ _ _ h => h) trivial ?_
          apply Exists.intro
          refine ⟨⟨(by kernel_rfl), fun W hW => ?_⟩, ?_⟩
          · go_simp
            first | rfl | exact ⟨rfl, rfl⟩ | (rw [if_neg (by omega)]; first | rfl | exact ⟨rfl, rfl⟩) | (trace_state; fail)
          try simp only [Act.put, List.setIfInBounds_toArray, List.set_cons_zero, List.set_cons_succ]
          have c4a : (wr.alloc (.cells #[.string (bs (evens r)[j])] 9)).cell? ⟨w.heap.size, 4, none⟩ = some (.slice ka j kc) := keeps_of (below_new wr _) c4
          refine WH.two 1 5 (by kernel_rfl) rfl (by kernel_rfl) rfl (by kernel_rfl) ?_ ?_
          · intro K hK
            go_simp
            refine hK.out _ _ trivial ?_
            clear hK K
            try simp only [Act.put, List.setIfInBounds_toArray, List.set_cons_zero, List.set_cons_succ]
            refine WH.one 5 (by kernel_rfl) rfl (by kernel_rfl) ?_
            intro K hK
            go_simp
            refine hK.out _ _ trivial ?_
            clear hK K
            try simp only [Act.put, List.setIfInBounds_toArray, List.set_cons_zero, List.set_cons_succ]
            refine WH.one 6 (by kernel_rfl) rfl (by kernel_rfl) ?_
            intro K hK
            go_simp
            refine hK.out _ _ trivial ?_
            clear hK K
            try simp only [Act.put, List.setIfInBounds_toArray, List.set_cons_zero, List.set_cons_succ]
            refine WH.one 7 (by kernel_rfl) rfl (by kernel_rfl) ?_
            intro K hK
            refine oper_append_own_at _ _ 23 rfl W0.heap.size 9 i0 (.string ⟨#[]⟩) 1 16 Tryz.underlying23 hi hz0 hz1 hz2 rfl (by decide) _ _ _ rfl (show ((wr.alloc (.cells #[.string (bs (evens r)[j])] 9)).drew).ownsRow W0.heap.size 9 1 (.slice ka j kc) j (strCells ((evens r).take j)) from hown.alloc _) ⟨wr.heap.size, 0, none⟩ 1 1 [.string (bs (evens r)[j])] rfl rfl ?_ ?_ ?_ ?_ ?_ ?_
            · exact new_cells wr #[_] _ _
            · intro u hu; simp at hu; subst hu; rfl
            · unfold maxLen; omega
            · omega
            · show W0.heap.size ≤ (wr.alloc _).heap.size; rw [World.size_alloc]; omega
            intro v3 w3 hown3 hgrow3 hwhere
            refine hK.out _ _ trivial ?_
            clear hK K
            obtain ⟨ka3, kc3, rfl⟩ := own_shape hown3
            have hrow : ∀ k, (Value.slice ka j kc).ownBlock = some k → W0.heap.size ≤ k := fun k hk => (own_ge hown hk).1
            have hbn3 : Below wr.heap.size wr (wr.alloc (.cells #[.string (bs (evens r)[j])] 9)).drew := (below_new wr _).trans (Below.refl _ _).drew
            have hszw : wr.heap.size ≤ (wr.alloc (.cells #[.string (bs (evens r)[j])] 9)).drew.heap.size := hbn3.size
            have hgs := hgrow3.size
            have hRC3 := hid ((HRCr.out.keep hbn3).block (hgrow3.block _ (by omega) (fun e => by have := hrow _ e.symm; omega)))
            have hRW3 : Rw w3 g (t :: ((odds r).take j ++ r.drop j)) := by
              have h1 := HRW.out.keep hbn3
              have hsame := hgrow3.block g h1.lt (fun e => by have := hrow _ e.symm; omega)
              exact ⟨fun i hi => (World.cell?_of_block (a := ⟨g, i, none⟩) hsame).trans (h1.c i hi), fun i => (World.frozen?_of_block (a := ⟨g, i, none⟩) hsame).trans (h1.f i), Nat.lt_of_lt_of_le h1.lt hgs⟩
            have hb3 : Below w.heap.size w w3 := (Below.chain hbw hbn3).grown hgrow3 (by have := hbw.size; omega) (fun k hk => by have := hrow k hk; omega)
            have hwr3 : W0.heap.size ≤ w3.heap.size := by omega
            clear c0 c1 c2 c3 c4 f0 f1 f2 f3 f4 hfr e0'
            obtain ⟨⟨c0, c1, c2, c3, c4⟩, hfr⟩ := hRC3.out
            have f0 := hfr 0
            have f1 := hfr 1
            have f2 := hfr 2
            have f3 := hfr 3
            have f4 := hfr 4
            try simp only [Act.put, List.setIfInBounds_toArray, List.set_cons_zero, List.set_cons_succ]
            refine WH.take 8 (some 108) rfl rfl (by kernel_rfl) (by kernel_rfl) (by kernel_rfl) (fun _ _ _ _ h => h) trivial ?_
            apply Exists.intro
            refine ⟨⟨(by kernel_rfl), fun W hW => ?_⟩, ?_⟩
            · go_simp
              first | rfl | exact ⟨rfl, rfl⟩ | (rw [if_neg (by omega)]; first | rfl | exact ⟨rfl, rfl⟩) | (trace_state; fail)
            try simp only [Act.put, List.setIfInBounds_toArray, List.set_cons_zero, List.set_cons_succ]
            refine WH.one 9 (by kernel_rfl) rfl (by kernel_rfl) ?_
            intro K hK
            go_simp
            refine hK.out _ _ trivial ?_
            clear hK K
            try simp only [Act.put, List.setIfInBounds_toArray, List.set_cons_zero, List.set_cons_succ]
            refine WH.done (by kernel_rfl) ?_
            obtain ⟨W5, hW5⟩ : ∃ W5, W5 = w3.setCell ⟨w.heap.size, 4, none⟩ (.slice ka3 (j + 1) kc3) := ⟨_, rfl⟩
            rw [← hW5]
            have hRC5 := hid (show RC W5 w.heap.size 5 0 [] (.slice none 0 0) (.slice ka3 (j + 1) kc3) by rw [hW5]; exact hRC3.out.put4 _)
            have hag5 : Agr w.heap.size w3 W5 := by rw [hW5]; exact (Agr.refl _ _).put
            have hRW5 := hid (rw_agr hag5 hRW3 hgb0)
            have hb5 : Below w.heap.size w W5 := by rw [hW5]; exact hb3.setCell (p := ⟨w.heap.size, 4, none⟩) (Nat.le_refl _) _
            have hown5 : W5.ownsRow W0.heap.size 9 1 (.slice ka3 (j + 1) kc3) (j + 1) (strCells ((evens r).take (j + 1))) := by
              rw [hW5, take_at (evens r) j hlt, strCells_append]
              exact own_keep1 hown3 hWs _
            have hws5 : W0.heap.size ≤ W5.heap.size := Nat.le_trans hwr3 hag5.size
            clear hW5 hag5 hRW3 hb3 hown3 hgrow3 hwhere c0 c1 c2 c3 c4 f0 f1 f2 f3 f4 hfr
            have e1 := hRW5.out.c (1 + (2 * j + 1)) (by omega)
            rw [HGO.out (by omega)] at e1
            have e1' : W5.cell? ⟨g, 1 + (2 * (j : Int) + 1).toNat, none⟩ = some (.string (bs (odds r)[j])) := by rw [show (2 * (j : Int) + 1).toNat = 2 * j + 1 by omega]; exact e1
            have e2 := hRW5.out.c (1 + j) (by omega)
            have hq : (2 * (j : Int)).tdiv 2 = (j : Int) := by rw [Int.tdiv_eq_ediv_of_nonneg (by omega)]; omega
            have g0 := hRW5.out.f (1 + j)
            have hRW6 := hid (hRW5.out.set (1 + j) (by omega) (odds r)[j])
            rw [HSET.out] at hRW6
            have hRC6 := hid (hRC5.out.block (w' := W5.setCell ⟨g, 1 + j, none⟩ (.string (bs (odds r)[j]))) (Go.heap_setCell_other W5 ⟨g, 1 + j, none⟩ _ _ (fun e => hgb0 e.symm)))
            have hown6 := hid (own_keep1 hown5 (b := g) (j := 1 + j) hg0 (.string (bs (odds r)[j])))
            have hb6 := hid (hb5.setCell (p := ⟨g, 1 + j, none⟩) (by show w.heap.size ≤ g; omega) (.string (bs (odds r)[j])))
            have hws6 : W0.heap.size ≤ (W5.setCell ⟨g, 1 + j, none⟩ (.string (bs (odds r)[j]))).heap.size := by simpa [World.setCell] using hws5
            go_wp2_with fail
            exact ⟨⟨j + 1, _, by omega, by go_num, hws6, hb6.out, hRC6.out, hRW6.out, hown6.out⟩, by simp [intOf]; omega⟩
          · intro K hK
            go_simp
            refine hK.out _ _ trivial ?_
            clear hK K
            try simp only [Act.put, List.setIfInBounds_toArray, List.set_cons_zero, List.set_cons_succ]
            refine WH.two 1 6 (by kernel_rfl) rfl (by kernel_rfl) rfl (by kernel_rfl) ?_ ?_
            · intro K hK
              go_simp
              refine hK.out _ _ trivial ?_
              clear hK K
              try simp only [Act.put, List.setIfInBounds_toArray, List.set_cons_zero, List.set_cons_succ]
              refine WH.one 6 (by kernel_rfl) rfl (by kernel_rfl) ?_
              intro K hK
              go_simp
              refine hK.out _ _ trivial ?_
              clear hK K
              try simp only [Act.put, List.setIfInBounds_toArray, List.set_cons_zero, List.set_cons_succ]
              refine WH.one 7 (by kernel_rfl) rfl (by kernel_rfl) ?_
              intro K hK
              refine oper_append_own_at _ _ 23 rfl W0.heap.size 9 i0 (.string ⟨#[]⟩) 1 16 Tryz.underlying23 hi hz0 hz1 hz2 rfl (by decide) _ _ _ rfl (show ((wr.alloc (.cells #[.string (bs (evens r)[j])] 9)).drew).ownsRow W0.heap.size 9 1 (.slice ka j kc) j (strCells ((evens r).take j)) from hown.alloc _) ⟨wr.heap.size, 0, none⟩ 1 1 [.string (bs (evens r)[j])] rfl rfl ?_ ?_ ?_ ?_ ?_ ?_
              · exact new_cells wr #[_] _ _
              · intro u hu; simp at hu; subst hu; rfl
              · unfold maxLen; omega
              · omega
              · show W0.heap.size ≤ (wr.alloc _).heap.size; rw [World.size_alloc]; omega
              intro v3 w3 hown3 hgrow3 hwhere
              refine hK.out _ _ trivial ?_
              clear hK K
              obtain ⟨ka3, kc3, rfl⟩ := own_shape hown3
              have hrow : ∀ k, (Value.slice ka j kc).ownBlock = some k → W0.heap.size ≤ k := fun k hk => (own_ge hown hk).1
              have hbn3 : Below wr.heap.size wr (wr.alloc (.cells #[.string (bs (evens r)[j])] 9)).drew := (below_new wr _).trans (Below.refl _ _).drew
              have hszw : wr.heap.size ≤ (wr.alloc (.cells #[.string (bs (evens r)[j])] 9)).drew.heap.size := hbn3.size
              have hgs := hgrow3.size
              have hRC3 := hid ((HRCr.out.keep hbn3).block (hgrow3.block _ (by omega) (fun e => by have := hrow _ e.symm; omega)))
              have hRW3 : Rw w3 g (t :: ((odds r).take j ++ r.drop j)) := by
                have h1 := HRW.out.keep hbn3
                have hsame := hgrow3.block g h1.lt (fun e => by have := hrow _ e.symm; omega)
                exact ⟨fun i hi => (World.cell?_of_block (a := ⟨g, i, none⟩) hsame).trans (h1.c i hi), fun i => (World.frozen?_of_block (a := ⟨g, i, none⟩) hsame).trans (h1.f i), Nat.lt_of_lt_of_le h1.lt hgs⟩
              have hb3 : Below w.heap.size w w3 := (Below.chain hbw hbn3).grown hgrow3 (by have := hbw.size; omega) (fun k hk => by have := hrow k hk; omega)
              have hwr3 : W0.heap.size ≤ w3.heap.size := by omega
              clear c0 c1 c2 c3 c4 f0 f1 f2 f3 f4 hfr e0'
              obtain ⟨⟨c0, c1, c2, c3, c4⟩, hfr⟩ := hRC3.out
              have f0 := hfr 0
              have f1 := hfr 1
              have f2 := hfr 2
              have f3 := hfr 3
              have f4 := hfr 4
              try simp only [Act.put, List.setIfInBounds_toArray, List.set_cons_zero, List.set_cons_succ]
              refine WH.take 8 (some 108) rfl rfl (by kernel_rfl) (by kernel_rfl) (by kernel_rfl) (fun _ _ _ _ h => h) trivial ?_
              apply Exists.intro
              refine ⟨⟨(by kernel_rfl), fun W hW => ?_⟩, ?_⟩
              · go_simp
                first | rfl | exact ⟨rfl, rfl⟩ | (rw [if_neg (by omega)]; first | rfl | exact ⟨rfl, rfl⟩) | (trace_state; fail)
              try simp only [Act.put, List.setIfInBounds_toArray, List.set_cons_zero, List.set_cons_succ]
              refine WH.one 9 (by kernel_rfl) rfl (by kernel_rfl) ?_
              intro K hK
              go_simp
              refine hK.out _ _ trivial ?_
              clear hK K
              try simp only [Act.put, List.setIfInBounds_toArray, List.set_cons_zero, List.set_cons_succ]
              refine WH.done (by kernel_rfl) ?_
              obtain ⟨W5, hW5⟩ : ∃ W5, W5 = w3.setCell ⟨w.heap.size, 4, none⟩ (.slice ka3 (j + 1) kc3) := ⟨_, rfl⟩
              rw [← hW5]
              have hRC5 := hid (show RC W5 w.heap.size 5 0 [] (.slice none 0 0) (.slice ka3 (j + 1) kc3) by rw [hW5]; exact hRC3.out.put4 _)
              have hag5 : Agr w.heap.size w3 W5 := by rw [hW5]; exact (Agr.refl _ _).put
              have hRW5 := hid (rw_agr hag5 hRW3 hgb0)
              have hb5 : Below w.heap.size w W5 := by rw [hW5]; exact hb3.setCell (p := ⟨w.heap.size, 4, none⟩) (Nat.le_refl _) _
              have hown5 : W5.ownsRow W0.heap.size 9 1 (.slice ka3 (j + 1) kc3) (j + 1) (strCells ((evens r).take (j + 1))) := by
                rw [hW5, take_at (evens r) j hlt, strCells_append]
                exact own_keep1 hown3 hWs _
              have hws5 : W0.heap.size ≤ W5.heap.size := Nat.le_trans hwr3 hag5.size
              clear hW5 hag5 hRW3 hb3 hown3 hgrow3 hwhere c0 c1 c2 c3 c4 f0 f1 f2 f3 f4 hfr
              have e1 := hRW5.out.c (1 + (2 * j + 1)) (by omega)
              rw [HGO.out (by omega)] at e1
              have e1' : W5.cell? ⟨g, 1 + (2 * (j : Int) + 1).toNat, none⟩ = some (.string (bs (odds r)[j])) := by rw [show (2 * (j : Int) + 1).toNat = 2 * j + 1 by omega]; exact e1
              have e2 := hRW5.out.c (1 + j) (by omega)
              have hq : (2 * (j : Int)).tdiv 2 = (j : Int) := by rw [Int.tdiv_eq_ediv_of_nonneg (by omega)]; omega
              have g0 := hRW5.out.f (1 + j)
              have hRW6 := hid (hRW5.out.set (1 + j) (by omega) (odds r)[j])
              rw [HSET.out] at hRW6
              have hRC6 := hid (hRC5.out.block (w' := W5.setCell ⟨g, 1 + j, none⟩ (.string (bs (odds r)[j]))) (Go.heap_setCell_other W5 ⟨g, 1 + j, none⟩ _ _ (fun e => hgb0 e.symm)))
              have hown6 := hid (own_keep1 hown5 (b := g) (j := 1 + j) hg0 (.string (bs (odds r)[j])))
              have hb6 := hid (hb5.setCell (p := ⟨g, 1 + j, none⟩) (by show w.heap.size ≤ g; omega) (.string (bs (odds r)[j])))
              have hws6 : W0.heap.size ≤ (W5.setCell ⟨g, 1 + j, none⟩ (.string (bs (odds r)[j]))).heap.size := by simpa [World.setCell] using hws5
              go_wp2_with fail
              exact ⟨⟨j + 1, _, by omega, by go_num, hws6, hb6.out, hRC6.out, hRW6.out, hown6.out⟩, by simp [intOf]; omega⟩
            · intro K hK
              go_simp
              refine hK.out _ _ trivial ?_
              clear hK K
              try simp only [Act.put, List.setIfInBounds_toArray, List.set_cons_zero, List.set_cons_succ]
              refine WH.one 1 (by kernel_rfl) rfl (by kernel_rfl) ?_
              intro K hK
              go_simp
              refine hK.out _ _ trivial ?_
              clear hK K
              try simp only [Act.put, List.setIfInBounds_toArray, List.set_cons_zero, List.set_cons_succ]
              refine WH.one 7 (by kernel_rfl) rfl (by kernel_rfl) ?_
              intro K hK
              refine oper_append_own_at _ _ 23 rfl W0.heap.size 9 i0 (.string ⟨#[]⟩) 1 16 Tryz.underlying23 hi hz0 hz1 hz2 rfl (by decide) _ _ _ rfl (show ((wr.alloc (.cells #[.string (bs (evens r)[j])] 9)).drew).ownsRow W0.heap.size 9 1 (.slice ka j kc) j (strCells ((evens r).take j)) from hown.alloc _) ⟨wr.heap.size, 0, none⟩ 1 1 [.string (bs (evens r)[j])] rfl rfl ?_ ?_ ?_ ?_ ?_ ?_
              · exact new_cells wr #[_] _ _
              · intro u hu; simp at hu; subst hu; rfl
              · unfold maxLen; omega
              · omega
              · show W0.heap.size ≤ (wr.alloc _).heap.size; rw [World.size_alloc]; omega
              intro v3 w3 hown3 hgrow3 hwhere
              refine hK.out _ _ trivial ?_
              clear hK K
              obtain ⟨ka3, kc3, rfl⟩ := own_shape hown3
              have hrow : ∀ k, (Value.slice ka j kc).ownBlock = some k → W0.heap.size ≤ k := fun k hk => (own_ge hown hk).1
              have hbn3 : Below wr.heap.size wr (wr.alloc (.cells #[.string (bs (evens r)[j])] 9)).drew := (below_new wr _).trans (Below.refl _ _).drew
              have hszw : wr.heap.size ≤ (wr.alloc (.cells #[.string (bs (evens r)[j])] 9)).drew.heap.size := hbn3.size
              have hgs := hgrow3.size
              have hRC3 := hid ((HRCr.out.keep hbn3).block (hgrow3.block _ (by omega) (fun e => by have := hrow _ e.symm; omega)))
              have hRW3 : Rw w3 g (t :: ((odds r).take j ++ r.drop j)) := by
                have h1 := HRW.out.keep hbn3
                have hsame := hgrow3.block g h1.lt (fun e => by have := hrow _ e.symm; omega)
                exact ⟨fun i hi => (World.cell?_of_block (a := ⟨g, i, none⟩) hsame).trans (h1.c i hi), fun i => (World.frozen?_of_block (a := ⟨g, i, none⟩) hsame).trans (h1.f i), Nat.lt_of_lt_of_le h1.lt hgs⟩
              have hb3 : Below w.heap.size w w3 := (Below.chain hbw hbn3).grown hgrow3 (by have := hbw.size; omega) (fun k hk => by have := hrow k hk; omega)
              have hwr3 : W0.heap.size ≤ w3.heap.size := by omega
              clear c0 c1 c2 c3 c4 f0 f1 f2 f3 f4 hfr e0'
              obtain ⟨⟨c0, c1, c2, c3, c4⟩, hfr⟩ := hRC3.out
              have f0 := hfr 0
              have f1 := hfr 1
              have f2 := hfr 2
              have f3 := hfr 3
              have f4 := hfr 4
              try simp only [Act.put, List.setIfInBounds_toArray, List.set_cons_zero, List.set_cons_succ]
              refine WH.take 8 (some 108) rfl rfl (by kernel_rfl) (by kernel_rfl) (by kernel_rfl) (fun _ _ _ _ h => h) trivial ?_
              apply Exists.intro
              refine ⟨⟨(by kernel_rfl), fun W hW => ?_⟩, ?_⟩
              · go_simp
                first | rfl | exact ⟨rfl, rfl⟩ | (rw [if_neg (by omega)]; first | rfl | exact ⟨rfl, rfl⟩) | (trace_state; fail)
              try simp only [Act.put, List.setIfInBounds_toArray, List.set_cons_zero, List.set_cons_succ]
              refine WH.one 9 (by kernel_rfl) rfl (by kernel_rfl) ?_
              intro K hK
              go_simp
              refine hK.out _ _ trivial ?_
              clear hK K
              try simp only [Act.put, List.setIfInBounds_toArray, List.set_cons_zero, List.set_cons_succ]
              refine WH.done (by kernel_rfl) ?_
              obtain ⟨W5, hW5⟩ : ∃ W5, W5 = w3.setCell ⟨w.heap.size, 4, none⟩ (.slice ka3 (j + 1) kc3) := ⟨_, rfl⟩
              rw [← hW5]
              have hRC5 := hid (show RC W5 w.heap.size 5 0 [] (.slice none 0 0) (.slice ka3 (j + 1) kc3) by rw [hW5]; exact hRC3.out.put4 _)
              have hag5 : Agr w.heap.size w3 W5 := by rw [hW5]; exact (Agr.refl _ _).put
              have hRW5 := hid (rw_agr hag5 hRW3 hgb0)
              have hb5 : Below w.heap.size w W5 := by rw [hW5]; exact hb3.setCell (p := ⟨w.heap.size, 4, none⟩) (Nat.le_refl _) _
              have hown5 : W5.ownsRow W0.heap.size 9 1 (.slice ka3 (j + 1) kc3) (j + 1) (strCells ((evens r).take (j + 1))) := by
                rw [hW5, take_at (evens r) j hlt, strCells_append]
                exact own_keep1 hown3 hWs _
              have hws5 : W0.heap.size ≤ W5.heap.size := Nat.le_trans hwr3 hag5.size
              clear hW5 hag5 hRW3 hb3 hown3 hgrow3 hwhere c0 c1 c2 c3 c4 f0 f1 f2 f3 f4 hfr
              have e1 := hRW5.out.c (1 + (2 * j + 1)) (by omega)
              rw [HGO.out (by omega)] at e1
              have e1' : W5.cell? ⟨g, 1 + (2 * (j : Int) + 1).toNat, none⟩ = some (.string (bs (odds r)[j])) := by rw [show (2 * (j : Int) + 1).toNat = 2 * j + 1 by omega]; exact e1
              have e2 := hRW5.out.c (1 + j) (by omega)
              have hq : (2 * (j : Int)).tdiv 2 = (j : Int) := by rw [Int.tdiv_eq_ediv_of_nonneg (by omega)]; omega
              have g0 := hRW5.out.f (1 + j)
              have hRW6 := hid (hRW5.out.set (1 + j) (by omega) (odds r)[j])
              rw [HSET.out] at hRW6
              have hRC6 := hid (hRC5.out.block (w' := W5.setCell ⟨g, 1 + j, none⟩ (.string (bs (odds r)[j]))) (Go.heap_setCell_other W5 ⟨g, 1 + j, none⟩ _ _ (fun e => hgb0 e.symm)))
              have hown6 := hid (own_keep1 hown5 (b := g) (j := 1 + j) hg0 (.string (bs (odds r)[j])))
              have hb6 := hid (hb5.setCell (p := ⟨g, 1 + j, none⟩) (by show w.heap.size ≤ g; omega) (.string (bs (odds r)[j])))
              have hws6 : W0.heap.size ≤ (W5.setCell ⟨g, 1 + j, none⟩ (.string (bs (odds r)[j]))).heap.size := by simpa [World.setCell] using hws5
              go_wp2_with fail
              exact ⟨⟨j + 1, _, by omega, by go_num, hws6, hb6.out, hRC6.out, hRW6.out, hown6.out⟩, by simp [intOf]; omega⟩
        · obtain rfl : j = (evens r).length := by omega
          have hq : (r.length : Int).tdiv 2 = ((evens r).length : Int) := by rw [Int.tdiv_eq_ediv_of_nonneg (by omega)]; omega
          go_upto_region 26 with fail
          clear hbW0 HRC0
          obtain ⟨wr0, rfl⟩ : ∃ wr0 : World, wr0 = wr := ⟨_, rfl⟩
          have HEC : Hid (∀ j (hj : j < (odds r).length), wr0.cell? ⟨g, 1 + j, none⟩ = some (.string (bs (odds r)[j]))) := hid (fun j hj => by
            have h := HRW.out.c (1 + j) (by rw [List.length_cons, List.length_append, List.length_take, List.length_drop]; omega)
            have e : (t :: ((odds r).take (evens r).length ++ r.drop (evens r).length))[1 + j]? = some (odds r)[j] := by
              rw [Nat.add_comm, List.getElem?_cons_succ, List.getElem?_append_left (by rw [List.length_take]; omega), List.getElem?_take, if_pos (by omega), List.getElem?_eq_getElem hj]
            rw [(List.getElem?_eq_some_iff.1 e).2] at h
            exact h)
          have HELo : Hid (∀ x ∈ odds r, x.length ≤ 1000000000) := hid (fun x hx => HEL.out x (odds_mem r x hx))
          have HSAo := hid (fun h : 0 < (odds r).length => HSA.out (by omega))
          have HKS := hid (own_dep (lo := w.heap.size) (X := fun i => i = w.heap.size) hown (by omega) (by unfold maxLen; omega) (fun g' hg' e => by have := (own_ge hown hg').1; omega))
          rw [List.take_length] at HKS
          clear HEL HSA hown hrw HRW HW
          have HEL := HELo
          have HSA := HSAo
          have HRC0 := HRCr
          have hbwr0 := hbw
          clear HELo HSAo HRCr hbw
          clear c0 c1 c2 c3 c4 f0 f1 f2 f3 f4 hfr
          go_wp2_with fail
          go_loopw [129] (fun i wr => ∃ (j : Nat) (xs l0 : List VM) (lvv : Value), j ≤ (odds r).length ∧ i = .int .i64 j ∧ Agr w.heap.size wr0 wr ∧ Below w.heap.size w wr ∧ RC wr w.heap.size 5 0 [] lvv (.slice ka (evens r).length kc) ∧ wr.ownsRow wr0.heap.size 25 5 lvv j (vmCells xs) ∧ Dep w.heap.size (fun i => i = w.heap.size ∨ lvv.ownBlock = some i) wr (fun W => HeldL W xs) ∧ Hid (ofL (ofV m) ((odds r).take j) = some l0) ∧ Hid (sameL xs l0 = true)) (fun i _ => (odds r).length - (intOf i).toNat)
          case atStart => exact ⟨0, [], [], .slice none 0 0, by omega, rfl, Agr.refl _ _, hbwr0, HRC0.out, World.ownsRow_nil _ _ _ _, dep_nilL _ _ _, hid rfl, hid rfl⟩
          case round =>
            obtain ⟨j, xs, l0, lvv, hj, rfl, hag, hbw, hrc, hown, hdx, HA, HS⟩ := hrel
            obtain ⟨la, lc, rfl⟩ := own_shape hown
            have HRCr := hid hrc
            have hWs := HRC0.out.lt
            have hws := hag.size
            obtain ⟨⟨c0, c1, c2, c3, c4⟩, hfr⟩ := hrc
            have f0 := hfr 0
            have f1 := hfr 1
            have f2 := hfr 2
            have f3 := hfr 3
            have f4 := hfr 4
            by_cases hlt : j < (odds r).length
            · have e0 := hag.cell (HEC.out j hlt) hgb0
              obtain rfl := HSA.out (by omega)
              have hel : (odds r)[j].length ≤ 1000000000 := HEL.out _ (List.getElem_mem hlt)
              have HI := hid (IH (odds r)[j] hel wr (ht.below hbw) (he.below hbw) (d + 1) (by omega) (by have := HD1.out; omega))
              have HNo := hid (fun h => ofL_none (f := ofV m) hlt HA.out h)
              have HYes := hid (fun v h => ofL_some (f := ofV m) (v := v) hlt HA.out h)
              generalize hej : (odds r)[j] = ej at *
              obtain ⟨rv, hrv⟩ : ∃ rv, ofV m ej = rv := ⟨_, rfl⟩
              rw [hrv] at HI HNo HYes
              clear hrv hej hel
              go_wp2_with fail
              refine HI.out.mono ?_
              rintro e w1 ⟨xk, xn, xs', a1, n1, c1', a2, n2, c2', rfl, hb1, hv⟩
              obtain ⟨Wa, hWa⟩ : ∃ Wa, Wa = w1.alloc (.cells #[.int .i64 xk, .int .i64 xn, .string (bs xs'), .slice a1 n1 c1', .slice a2 n2 c2'] 25) := ⟨_, rfl⟩
              have hba := below_new w1 (.cells #[.int .i64 xk, .int .i64 xn, .string (bs xs'), .slice a1 n1 c1', .slice a2 n2 c2'] 25)
              have hxa := box_new w1 xk xn xs' (.slice a1 n1 c1') (.slice a2 n2 c2') 25 (0, 0)
              have hsa1 : w1.heap.size + 1 ≤ Wa.heap.size := by rw [hWa, World.size_alloc]; exact Nat.le_refl _
              have hsa2 : Wa.heap.size ≤ w1.heap.size + 1 := by rw [hWa, World.size_alloc]; exact Nat.le_refl _
              rw [← hWa] at hba hxa
              have hbwa := Below.chain hb1 hba
              have HRCa := hid (HRCr.out.keep hbwa)
              have hbq := Below.chain hbw hbwa
              have hs1 := hb1.size
              clear c0 c1 c2 c3 c4 f0 f1 f2 f3 f4 hfr
              obtain ⟨⟨c0, c1, c2, c3, c4⟩, hfr⟩ := HRCa.out
              have f0 := hfr 0
              have f1 := hfr 1
              have f2 := hfr 2
              have f3 := hfr 3
              have f4 := hfr 4
              cases rv with
              | none =>
                have HF : Hid (res = none) := hid (by rw [HR.out]; exact HNon.out (HNo.out rfl))
                go_upto_region 30 with fail
                rw [← hWa]
                clear hWa hv
                go_wp2_with fail
                rw [HF.out]
                refine bodyPost_ret (of_res rfl rfl (RC.all HRCa.out _ _ _ _ _).x) rfl ?_
                exact of_end_none hbq (Nat.le_refl _) _ _ _ _ _
              | some v =>
                obtain ⟨xl, xks, hdep, hsm⟩ := hv v rfl
                have HD := hid hdep
                have HSm := hid hsm
                obtain ⟨d0, d1, d2, d3, d4⟩ := hxa
                have hownA := ownsRow_below hown hbwa
                have hrow0 : ∀ k, (Value.slice la j lc).ownBlock = some k → k < wr.heap.size := fun k hk => (own_ge hown hk).2
                clear hv hdep hsm hown
                go_upto_region 30 with fail
                rw [← hWa]
                clear hWa
                go_wp2_with (at_builtin; go_must (refine wpList_append_own_at _ rfl _ _ 22 rfl wr0.heap.size 25 i1 (.agg #[.int .i64 0, .int .i64 0, .string ⟨#[]⟩, .slice none 0 0, .slice none 0 0]) 5 80 Tryz.underlying22 hi1 hy0 hy1 hy2 rfl (by decide) _ _ _ rfl (hownA.alloc _) ⟨Wa.heap.size, 0, none⟩ 1 1 [.int .i64 xk, .int .i64 xn, .string (bs xs'), .slice a1 n1 c1', .slice a2 n2 c2'] rfl rfl ?c1 ?c2 ?c3 ?c4 ?c5 ?_))
                case c1 => exact new_cells _ #[_, _, _, _, _] _ _
                case c2 => intro u hu; simp at hu; rcases hu with rfl | rfl | rfl | rfl | rfl <;> rfl
                case c3 => unfold maxLen; omega
                case c4 => omega
                case c5 => simp; omega
                intro v3 w3 hown3 hgrow3 _ hwhere
                obtain ⟨la3, lc3, rfl⟩ := own_shape hown3
                have hrow : ∀ k, (Value.slice la j lc).ownBlock = some k → wr0.heap.size ≤ k ∧ k < Wa.heap.size := fun k hk => own_ge hownA hk
                have hbn := below_new Wa (.cells #[.int .i64 xk, .int .i64 xn, .string (bs xs'), .slice a1 n1 c1', .slice a2 n2 c2'] 25)
                have hgsz := hgrow3.size
                rw [World.size_alloc] at hgsz
                have hRC3 : RC w3 w.heap.size 5 0 [] (.slice la j lc) (.slice ka (evens r).length kc) := (HRCa.out.keep hbn).block (hgrow3.block _ (by rw [World.size_alloc]; omega) (fun e => by have := hrow _ e.symm; omega))
                have hag3 := ((hag.below hbwa).below hbn).grown hgrow3 (fun k hk => (hrow k hk).1)
                have hb3 : Below w.heap.size w w3 := (Below.chain hbq hbn).grown hgrow3 (by rw [World.size_alloc]; omega) (fun k hk => by have := (hrow k hk).1; omega)
                have hX : ∀ i, i < Wa.heap.size → (i = w.heap.size ∨ (Value.slice la3 (j + 1) lc3).ownBlock = some i) → (i = w.heap.size ∨ (Value.slice la j lc).ownBlock = some i) := fun i hi h => by
                  rcases h with h | h
                  · exact .inl h
                  · rcases hwhere with h' | h'
                    · exact .inr (by rw [← h']; exact h)
                    · rw [h'] at h; injection h with h; rw [World.size_alloc] at *; omega
                have hgb2 : ∀ i, i < Wa.heap.size → ¬ (i = w.heap.size ∨ (Value.slice la j lc).ownBlock = some i) → w3.heap[i]? = Wa.heap[i]? := fun i hi hn => (hgrow3.block i (by rw [World.size_alloc]; omega) (fun e => hn (.inr e.symm))).trans (hbn.block i hi)
                have hdx3 : Dep w.heap.size (fun i => i = w.heap.size ∨ (Value.slice la3 (j + 1) lc3).ownBlock = some i) w3 (fun W => HeldL W xs) :=
                  (hdx.below hbwa).step (by omega) (fun i _ hi hn => hgb2 i hi hn) (fun i _ hi h => hX i hi h)
                have hdv3 : Dep w.heap.size (fun i => i = w.heap.size ∨ (Value.slice la3 (j + 1) lc3).ownBlock = some i) w3 (fun W => Held W (.mk xk xn xs' (.slice a1 n1 c1') (.slice a2 n2 c2') xl xks)) :=
                  ((HD.out.below hba).step (X' := fun i => i = w.heap.size ∨ (Value.slice la3 (j + 1) lc3).ownBlock = some i) (by omega)
                    (fun i hlo hi _ => hgb2 i hi (fun h => h.elim (fun h => by have := HRCr.out.lt; omega) (fun h => by have := hrow0 _ h; omega)))
                    (fun i hlo hi h => (hX i hi h).elim (fun h => by have := HRCr.out.lt; omega) (fun h => by have := hrow0 _ h; omega))).weak (by have := hbw.size; omega) (fun _ _ _ h => h)
                have HN1 := hid (HYes.out v rfl)
                have HN2 := hid (sameL_app _ _ HS.out HSm.out)
                have hownN : (w3.setCell ⟨w.heap.size, 3, none⟩ (.slice la3 (j + 1) lc3)).ownsRow wr0.heap.size 25 5 (.slice la3 (j + 1) lc3) (j + 1) (vmCells (xs ++ [.mk xk xn xs' (.slice a1 n1 c1') (.slice a2 n2 c2') xl xks])) := by
                  rw [vmCells_app, vmCells_one]
                  exact own_keep1 hown3 hWs _
                have hdxN := ((hdx3.both hdv3).mono (fun W h => heldL_app h.1 (heldL_one h.2))).put (b := w.heap.size) (.inl rfl) 3 (.slice la3 (j + 1) lc3)
                have hagN := hag3.put (j := 3) (v := .slice la3 (j + 1) lc3)
                have hbN := hb3.setCell (p := ⟨w.heap.size, 3, none⟩) (Nat.le_refl _) (.slice la3 (j + 1) lc3)
                have hrcN := hRC3.put3 (.slice la3 (j + 1) lc3)
                have g3 := hRC3.f 3
                have m3 := hRC3.x.c3
                clear c0 c1 c2 c3 c4 f0 f1 f2 f3 f4 hfr d0 d1 d2 d3 d4
                go_wp2_with fail
                exact ⟨⟨j + 1, _, _, _, by omega, by go_num, hagN, hbN, hrcN, hownN, hdxN, HN1, HN2⟩, by simp [intOf]; omega⟩
            · obtain rfl : j = (odds r).length := by omega
              have hE : ofL (ofV m) (odds r) = some l0 := by have := HA.out; rwa [List.take_length] at this
              have HF : Hid (res = some (.mk 5 0 [] nilS nilS l0 (evens r))) := hid (by rw [HR.out]; exact HSome.out l0 hE)
              have hlb : ∀ g, (Value.slice la (odds r).length lc).ownBlock = some g → ¬ (g = w.heap.size) := fun g hg e => by have := (own_ge hown hg).1; omega
              have hD1 := own_dep (lo := w.heap.size) (X := fun i => i = w.heap.size) hown (by omega) (by unfold maxLen; omega) hlb
              have hD2 : Dep w.heap.size (fun i => i = w.heap.size) wr (fun W => SliceAt W 1 (.slice ka (evens r).length kc) (evens r).length (strCells (evens r))) := HKS.out.step hag.size (fun i _ hi hn => hag.same i hi hn) (fun _ _ _ h => h)
              have hD3 := hdx.weak (Nat.le_refl _) (X' := fun i => i = w.heap.size) (fun i _ _ h => .inl h)
              have hxl : xs.length = (odds r).length := by have := hown.1; rw [vmCells_len] at this; omega
              have HDD := hid (((hD1.both hD2).both hD3).mono (fun W h => show Held W (.mk 5 0 [] (.slice la (odds r).length lc) (.slice ka (evens r).length kc) xs (evens r)) from mk_held (by rw [hxl]; exact h.1.1) h.1.2 h.2))
              have HSS := hid (show sameB (.mk 5 0 [] (.slice la (odds r).length lc) (.slice ka (evens r).length kc) xs (evens r)) (.mk 5 0 [] nilS nilS l0 (evens r)) = true by rw [same_mk, HS.out]; simp)
              have HBW := hid hbw
              clear hown hdx hD1 hD2 hD3 hag hbw hE hlb
              go_wp2_with fail
              rw [HF.out]
              refine bodyPost_ret (of_res rfl rfl (RC.all HRCr.out _ _ _ _ _).x) rfl ?_
              exact of_end_some (l := xs) (ks := (evens r)) HBW.out (Nat.le_refl _) HDD.out HSS.out _ _ _ _ _
    by_cases hList : t = wList
    · have HNon : Hid (ofL (ofV m) r = none → ofW (ofV m) t r = none) := hid (fun h => by rw [hList, ofW_List]; unfold ofList; rw [h]; rfl)
      have HSome : Hid (∀ l0, ofL (ofV m) r = some l0 → ofW (ofV m) t r = some (.mk 4 0 [] nilS nilS l0 [])) := hid (fun l0 h => by rw [hList, ofW_List]; unfold ofList; rw [h]; rfl)
      obtain ⟨W0, hW0⟩ : ∃ W0, W0 = wq.setCell ⟨w.heap.size, 0, none⟩ (.int .i64 4) := ⟨_, rfl⟩
      have HRC0 : Hid (RC W0 w.heap.size 4 0 [] (.slice none 0 0) (.slice none 0 0)) := hid (by rw [hW0]; exact HQ.out.put0 4)
      have hbW0 : Below w.heap.size w W0 := by rw [hW0]; exact hbq.setCell (p := ⟨w.heap.size, 0, none⟩) (Nat.le_refl _) (.int .i64 4)
      have hag0 : Agr w.heap.size wq W0 := by rw [hW0]; exact (Agr.refl w.heap.size wq).put (j := 0) (v := .int .i64 4)
      have HEC : Hid (∀ j (hj : j < r.length), W0.cell? ⟨g, 1 + j, none⟩ = some (.string (bs r[j]))) := hid (fun j hj => hag0.cell (by have := HW.out.c (1 + j) (by simp; omega); simpa [Nat.add_comm 1 j] using this) hgb0)
      have qNone : (t == [110, 111, 110, 101]) = false := by rw [hList]; rfl
      have pNone : (t != [110, 111, 110, 101]) = true := by rw [hList]; rfl
      have qBool : (t == [98, 111, 111, 108]) = false := by rw [hList]; rfl
      have pBool : (t != [98, 111, 111, 108]) = true := by rw [hList]; rfl
      have qInt : (t == [105, 110, 116]) = false := by rw [hList]; rfl
      have pInt : (t != [105, 110, 116]) = true := by rw [hList]; rfl
      have qText : (t == [116, 101, 120, 116]) = false := by rw [hList]; rfl
      have pText : (t != [116, 101, 120, 116]) = true := by rw [hList]; rfl
      have qDict : (t == [100, 105, 99, 116]) = false := by rw [hList]; rfl
      have pDict : (t != [100, 105, 99, 116]) = true := by rw [hList]; rfl
      have qList : (t == [108, 105, 115, 116]) = true := by rw [hList]; rfl
      have pList : (t != [108, 105, 115, 116]) = false := by rw [hList]; rfl
      clear hList
      obtain ⟨⟨c0, c1, c2, c3, c4⟩, hfr⟩ := HQ.out
      have f0 := hfr 0
      have f1 := hfr 1
      have f2 := hfr 2
      have f3 := hfr 3
      have f4 := hfr 4
      go_upto_region 26 with fail
      rw [← hW0]
      clear hW0 hag0
      clear c0 c1 c2 c3 c4 f0 f1 f2 f3 f4 hfr
      go_wp2_with fail
      go_loopw [129] (fun i wr => ∃ (j : Nat) (xs l0 : List VM) (lvv : Value), j ≤ r.length ∧ i = .int .i64 j ∧ Agr w.heap.size W0 wr ∧ Below w.heap.size w wr ∧ RC wr w.heap.size 4 0 [] lvv (.slice none 0 0) ∧ wr.ownsRow W0.heap.size 25 5 lvv j (vmCells xs) ∧ Dep w.heap.size (fun i => i = w.heap.size ∨ lvv.ownBlock = some i) wr (fun W => HeldL W xs) ∧ Hid (ofL (ofV m) (r.take j) = some l0) ∧ Hid (sameL xs l0 = true)) (fun i _ => r.length - (intOf i).toNat)
      case atStart => exact ⟨0, [], [], .slice none 0 0, by omega, rfl, Agr.refl _ _, hbW0, HRC0.out, World.ownsRow_nil _ _ _ _, dep_nilL _ _ _, hid rfl, hid rfl⟩
      case round =>
        obtain ⟨j, xs, l0, lvv, hj, rfl, hag, hbw, hrc, hown, hdx, HA, HS⟩ := hrel
        obtain ⟨la, lc, rfl⟩ := own_shape hown
        have HRCr := hid hrc
        have hWs := HRC0.out.lt
        have hws := hag.size
        obtain ⟨⟨c0, c1, c2, c3, c4⟩, hfr⟩ := hrc
        have f0 := hfr 0
        have f1 := hfr 1
        have f2 := hfr 2
        have f3 := hfr 3
        have f4 := hfr 4
        by_cases hlt : j < r.length
        · have e0 := hag.cell (HEC.out j hlt) hgb0
          obtain rfl := HSA.out (by omega)
          have hel : r[j].length ≤ 1000000000 := HEL.out _ (List.getElem_mem hlt)
          have HI := hid (IH r[j] hel wr (ht.below hbw) (he.below hbw) (d + 1) (by omega) (by have := HD1.out; omega))
          have HNo := hid (fun h => ofL_none (f := ofV m) hlt HA.out h)
          have HYes := hid (fun v h => ofL_some (f := ofV m) (v := v) hlt HA.out h)
          generalize hej : r[j] = ej at *
          obtain ⟨rv, hrv⟩ : ∃ rv, ofV m ej = rv := ⟨_, rfl⟩
          rw [hrv] at HI HNo HYes
          clear hrv hej hel
          go_wp2_with fail
          refine HI.out.mono ?_
          rintro e w1 ⟨xk, xn, xs', a1, n1, c1', a2, n2, c2', rfl, hb1, hv⟩
          obtain ⟨Wa, hWa⟩ : ∃ Wa, Wa = w1.alloc (.cells #[.int .i64 xk, .int .i64 xn, .string (bs xs'), .slice a1 n1 c1', .slice a2 n2 c2'] 25) := ⟨_, rfl⟩
          have hba := below_new w1 (.cells #[.int .i64 xk, .int .i64 xn, .string (bs xs'), .slice a1 n1 c1', .slice a2 n2 c2'] 25)
          have hxa := box_new w1 xk xn xs' (.slice a1 n1 c1') (.slice a2 n2 c2') 25 (0, 0)
          have hsa1 : w1.heap.size + 1 ≤ Wa.heap.size := by rw [hWa, World.size_alloc]; exact Nat.le_refl _
          have hsa2 : Wa.heap.size ≤ w1.heap.size + 1 := by rw [hWa, World.size_alloc]; exact Nat.le_refl _
          rw [← hWa] at hba hxa
          have hbwa := Below.chain hb1 hba
          have HRCa := hid (HRCr.out.keep hbwa)
          have hbq := Below.chain hbw hbwa
          have hs1 := hb1.size
          clear c0 c1 c2 c3 c4 f0 f1 f2 f3 f4 hfr
          obtain ⟨⟨c0, c1, c2, c3, c4⟩, hfr⟩ := HRCa.out
          have f0 := hfr 0
          have f1 := hfr 1
          have f2 := hfr 2
          have f3 := hfr 3
          have f4 := hfr 4
          cases rv with
          | none =>
            have HF : Hid (res = none) := hid (by rw [HR.out]; exact HNon.out (HNo.out rfl))
            go_upto_region 30 with fail
            rw [← hWa]
            clear hWa hv
            go_wp2_with fail
            rw [HF.out]
            refine bodyPost_ret (of_res rfl rfl (RC.all HRCa.out _ _ _ _ _).x) rfl ?_
            exact of_end_none hbq (Nat.le_refl _) _ _ _ _ _
          | some v =>
            obtain ⟨xl, xks, hdep, hsm⟩ := hv v rfl
            have HD := hid hdep
            have HSm := hid hsm
            obtain ⟨d0, d1, d2, d3, d4⟩ := hxa
            have hownA := ownsRow_below hown hbwa
            have hrow0 : ∀ k, (Value.slice la j lc).ownBlock = some k → k < wr.heap.size := fun k hk => (own_ge hown hk).2
            clear hv hdep hsm hown
            go_upto_region 30 with fail
            rw [← hWa]
            clear hWa
            go_wp2_with (at_builtin; go_must (refine wpList_append_own_at _ rfl _ _ 22 rfl W0.heap.size 25 i1 (.agg #[.int .i64 0, .int .i64 0, .string ⟨#[]⟩, .slice none 0 0, .slice none 0 0]) 5 80 Tryz.underlying22 hi1 hy0 hy1 hy2 rfl (by decide) _ _ _ rfl (hownA.alloc _) ⟨Wa.heap.size, 0, none⟩ 1 1 [.int .i64 xk, .int .i64 xn, .string (bs xs'), .slice a1 n1 c1', .slice a2 n2 c2'] rfl rfl ?c1 ?c2 ?c3 ?c4 ?c5 ?_))
            case c1 => exact new_cells _ #[_, _, _, _, _] _ _
            case c2 => intro u hu; simp at hu; rcases hu with rfl | rfl | rfl | rfl | rfl <;> rfl
            case c3 => unfold maxLen; omega
            case c4 => omega
            case c5 => simp; omega
            intro v3 w3 hown3 hgrow3 _ hwhere
            obtain ⟨la3, lc3, rfl⟩ := own_shape hown3
            have hrow : ∀ k, (Value.slice la j lc).ownBlock = some k → W0.heap.size ≤ k ∧ k < Wa.heap.size := fun k hk => own_ge hownA hk
            have hbn := below_new Wa (.cells #[.int .i64 xk, .int .i64 xn, .string (bs xs'), .slice a1 n1 c1', .slice a2 n2 c2'] 25)
            have hgsz := hgrow3.size
            rw [World.size_alloc] at hgsz
            have hRC3 : RC w3 w.heap.size 4 0 [] (.slice la j lc) (.slice none 0 0) := (HRCa.out.keep hbn).block (hgrow3.block _ (by rw [World.size_alloc]; omega) (fun e => by have := hrow _ e.symm; omega))
            have hag3 := ((hag.below hbwa).below hbn).grown hgrow3 (fun k hk => (hrow k hk).1)
            have hb3 : Below w.heap.size w w3 := (Below.chain hbq hbn).grown hgrow3 (by rw [World.size_alloc]; omega) (fun k hk => by have := (hrow k hk).1; omega)
            have hX : ∀ i, i < Wa.heap.size → (i = w.heap.size ∨ (Value.slice la3 (j + 1) lc3).ownBlock = some i) → (i = w.heap.size ∨ (Value.slice la j lc).ownBlock = some i) := fun i hi h => by
              rcases h with h | h
              · exact .inl h
              · rcases hwhere with h' | h'
                · exact .inr (by rw [← h']; exact h)
                · rw [h'] at h; injection h with h; rw [World.size_alloc] at *; omega
            have hgb2 : ∀ i, i < Wa.heap.size → ¬ (i = w.heap.size ∨ (Value.slice la j lc).ownBlock = some i) → w3.heap[i]? = Wa.heap[i]? := fun i hi hn => (hgrow3.block i (by rw [World.size_alloc]; omega) (fun e => hn (.inr e.symm))).trans (hbn.block i hi)
            have hdx3 : Dep w.heap.size (fun i => i = w.heap.size ∨ (Value.slice la3 (j + 1) lc3).ownBlock = some i) w3 (fun W => HeldL W xs) :=
              (hdx.below hbwa).step (by omega) (fun i _ hi hn => hgb2 i hi hn) (fun i _ hi h => hX i hi h)
            have hdv3 : Dep w.heap.size (fun i => i = w.heap.size ∨ (Value.slice la3 (j + 1) lc3).ownBlock = some i) w3 (fun W => Held W (.mk xk xn xs' (.slice a1 n1 c1') (.slice a2 n2 c2') xl xks)) :=
              ((HD.out.below hba).step (X' := fun i => i = w.heap.size ∨ (Value.slice la3 (j + 1) lc3).ownBlock = some i) (by omega)
                (fun i hlo hi _ => hgb2 i hi (fun h => h.elim (fun h => by have := HRCr.out.lt; omega) (fun h => by have := hrow0 _ h; omega)))
                (fun i hlo hi h => (hX i hi h).elim (fun h => by have := HRCr.out.lt; omega) (fun h => by have := hrow0 _ h; omega))).weak (by have := hbw.size; omega) (fun _ _ _ h => h)
            have HN1 := hid (HYes.out v rfl)
            have HN2 := hid (sameL_app _ _ HS.out HSm.out)
            have hownN : (w3.setCell ⟨w.heap.size, 3, none⟩ (.slice la3 (j + 1) lc3)).ownsRow W0.heap.size 25 5 (.slice la3 (j + 1) lc3) (j + 1) (vmCells (xs ++ [.mk xk xn xs' (.slice a1 n1 c1') (.slice a2 n2 c2') xl xks])) := by
              rw [vmCells_app, vmCells_one]
              exact own_keep1 hown3 hWs _
            have hdxN := ((hdx3.both hdv3).mono (fun W h => heldL_app h.1 (heldL_one h.2))).put (b := w.heap.size) (.inl rfl) 3 (.slice la3 (j + 1) lc3)
            have hagN := hag3.put (j := 3) (v := .slice la3 (j + 1) lc3)
            have hbN := hb3.setCell (p := ⟨w.heap.size, 3, none⟩) (Nat.le_refl _) (.slice la3 (j + 1) lc3)
            have hrcN := hRC3.put3 (.slice la3 (j + 1) lc3)
            have g3 := hRC3.f 3
            have m3 := hRC3.x.c3
            clear c0 c1 c2 c3 c4 f0 f1 f2 f3 f4 hfr d0 d1 d2 d3 d4
            go_wp2_with fail
            exact ⟨⟨j + 1, _, _, _, by omega, by go_num, hagN, hbN, hrcN, hownN, hdxN, HN1, HN2⟩, by simp [intOf]; omega⟩
        · obtain rfl : j = r.length := by omega
          have hE : ofL (ofV m) r = some l0 := by have := HA.out; rwa [List.take_length] at this
          have HF : Hid (res = some (.mk 4 0 [] nilS nilS l0 ([] : List (List UInt8)))) := hid (by rw [HR.out]; exact HSome.out l0 hE)
          have hlb : ∀ g, (Value.slice la r.length lc).ownBlock = some g → ¬ (g = w.heap.size) := fun g hg e => by have := (own_ge hown hg).1; omega
          have hD1 := own_dep (lo := w.heap.size) (X := fun i => i = w.heap.size) hown (by omega) (by unfold maxLen; omega) hlb
          have hD2 : Dep w.heap.size (fun i => i = w.heap.size) wr (fun W => SliceAt W 1 (.slice none 0 0) ([] : List (List UInt8)).length (strCells ([] : List (List UInt8)))) := fun W _ _ => SliceAt.nil W 1
          have hD3 := hdx.weak (Nat.le_refl _) (X' := fun i => i = w.heap.size) (fun i _ _ h => .inl h)
          have hxl : xs.length = r.length := by have := hown.1; rw [vmCells_len] at this; omega
          have HDD := hid (((hD1.both hD2).both hD3).mono (fun W h => show Held W (.mk 4 0 [] (.slice la r.length lc) (.slice none 0 0) xs ([] : List (List UInt8))) from mk_held (by rw [hxl]; exact h.1.1) h.1.2 h.2))
          have HSS := hid (show sameB (.mk 4 0 [] (.slice la r.length lc) (.slice none 0 0) xs ([] : List (List UInt8))) (.mk 4 0 [] nilS nilS l0 ([] : List (List UInt8))) = true by rw [same_mk, HS.out]; simp)
          have HBW := hid hbw
          clear hown hdx hD1 hD2 hD3 hag hbw hE hlb
          go_wp2_with fail
          rw [HF.out]
          refine bodyPost_ret (of_res rfl rfl (RC.all HRCr.out _ _ _ _ _).x) rfl ?_
          exact of_end_some (l := xs) (ks := ([] : List (List UInt8))) HBW.out (Nat.le_refl _) HDD.out HSS.out _ _ _ _ _
    have HF : Hid (res = none) := hid (by rw [HR.out]; exact ofW_else hNone hBool hInt hText hDict hList)
    have qNone : (t == [110, 111, 110, 101]) = false := beq_eq_false_iff_ne.2 hNone
    have pNone : (t != [110, 111, 110, 101]) = true := bne_iff_ne.2 hNone
    have qBool : (t == [98, 111, 111, 108]) = false := beq_eq_false_iff_ne.2 hBool
    have pBool : (t != [98, 111, 111, 108]) = true := bne_iff_ne.2 hBool
    have qInt : (t == [105, 110, 116]) = false := beq_eq_false_iff_ne.2 hInt
    have pInt : (t != [105, 110, 116]) = true := bne_iff_ne.2 hInt
    have qText : (t == [116, 101, 120, 116]) = false := beq_eq_false_iff_ne.2 hText
    have pText : (t != [116, 101, 120, 116]) = true := bne_iff_ne.2 hText
    have qDict : (t == [100, 105, 99, 116]) = false := beq_eq_false_iff_ne.2 hDict
    have pDict : (t != [100, 105, 99, 116]) = true := bne_iff_ne.2 hDict
    have qList : (t == [108, 105, 115, 116]) = false := beq_eq_false_iff_ne.2 hList
    have pList : (t != [108, 105, 115, 116]) = true := bne_iff_ne.2 hList
    obtain ⟨⟨c0, c1, c2, c3, c4⟩, hfr⟩ := HQ.out
    have f0 := hfr 0
    have f1 := hfr 1
    have f2 := hfr 2
    have f3 := hfr 3
    have f4 := hfr 4
    go_wp2_with fail
    rw [HF.out]
    refine bodyPost_ret (of_res rfl rfl (RC.all HQ.out _ _ _ _ _).x) rfl ?_
    exact of_end_none hbq (Nat.le_refl _) _ _ _ _ _
end Go.Proofs.YtnfjlimecoikpaaGreatDoor
