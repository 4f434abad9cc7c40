/- The sums of trees, on both sides. -/
import Derived.Test.YtilkneajohpgiaaDoorShaTop
import Derived.Test.YtilkneajohpgiaaDoorShaSum
import Derived.Test.YtilkneajohpgiaaDoorTreeFixed
import Derived.Test.YtilkneajohpgiaaDoorRowCore
namespace Go.Proofs.YtilkneajohpgiaaDoor
set_option maxRecDepth 100000
open Go.RowKit

def textsTo (fs : List FileL) (k : Nat) : List (List UInt8) := (fs.take k).flatMap fun f => [f.1, f.2]
def textsOf (fs : List FileL) : List (List UInt8) := fs.flatMap fun f => [f.1, f.2]
theorem textsTo_succ (fs : List FileL) (k : Nat) (h : k < fs.length) : textsTo fs (k + 1) = textsTo fs k ++ [fs[k].1, fs[k].2] := by
  unfold textsTo; rw [List.take_succ_eq_append_getElem h, List.flatMap_append]; simp
theorem textsOf_len (fs : List FileL) : (textsOf fs).length = 2 * fs.length := by
  unfold textsOf
  induction fs with
  | nil => rfl
  | cons f fs ih => simp only [List.flatMap_cons, List.length_append, List.length_cons, List.length_nil, ih]; omega
def treeA (fs : List FileL) : Array Value := if checkL fs = 0 then digA (foldB shaK shaH (padL (rowL (textsOf fs)))) 32 else digA [] 0
theorem row_small (fs : List FileL) (hn : fs.length ≤ 60) (hbig : ∀ f ∈ fs, f.1.length ≤ 300 ∧ f.2.length ≤ 300) : (rowL (textsOf fs)).length ≤ 1000000 := by
  have key : ∀ l : List (List UInt8), (∀ s ∈ l, s.length ≤ 300) → (rowL l).length ≤ 400 * l.length := by
    intro l
    induction l with
    | nil => intro _; simp [rowL]
    | cons a r ih =>
      intro h
      have h1 := h a (List.mem_cons_self)
      have h2 := ih (fun s hs => h s (List.mem_cons_of_mem _ hs))
      have h3 := dig_len20 (n := a.length) (by omega)
      have e : rowL (a :: r) = (dig a.length ++ 58 :: a) ++ rowL r := by simp [rowL]
      rw [e, List.length_append, List.length_append, List.length_cons, List.length_cons]
      omega
  have := key (textsOf fs) (fun s hs => by
    simp only [textsOf, List.mem_flatMap] at hs
    obtain ⟨f, hf, hs⟩ := hs
    have hb := hbig f hf
    simp only [List.mem_cons, List.not_mem_nil, or_false] at hs
    rcases hs with rfl | rfl
    · exact hb.1
    · exact hb.2)
  rw [textsOf_len] at this
  omega
set_option maxHeartbeats 2000000 in
theorem tsum_any (v0 : Value) (n0 : Nat) (fs : List FileL) (w : World) (h0 : SliceAt w 2 v0 n0 (fileCells fs)) (hbig : ∀ f ∈ fs, f.1.length ≤ 300 ∧ f.2.length ≤ 300) (hn : fs.length ≤ 60) (ht : PowTab w) :
    Calls Tryd.prog 6 #[v0] w fun e w' => e = .returned (.agg (treeA fs)) ∧ Below w.heap.size w w' := by
  obtain ⟨i0, hi, hz0, hz1, hz2⟩ := info_parts pstr_info
  have HCK := hid (fun W (hW : Below w.heap.size w W) => check_any v0 n0 fs W (h0.below hW (Nat.le_refl _)) (fun f hf => by have := hbig f hf; omega))
  have HFS := hid (fun W (hW : Below w.heap.size w W) => (h0.below hW (Nat.le_refl _)).files)
  obtain ⟨r, hr⟩ : ∃ r, checkL fs = r := ⟨_, rfl⟩
  rw [hr] at HCK
  by_cases hr0 : r = 0
  · subst hr0
    have HRes : Hid (treeA fs = digA (foldB shaK shaH (padL (rowL (textsOf fs)))) 32) := hid (by unfold treeA; rw [if_pos hr])
    have hrow := row_small fs hn hbig
    obtain ⟨rfl, a0, c0, rfl, hc0, hm0, -⟩ := h0.files
    unfold maxLen at hm0
    have HR := hid hr
    clear hr h0 hbig
    go_enter Tryd.func6, Tryd.ntmps6
    go_upto_region 1 with fail
    obtain ⟨Z, hZ⟩ : ∃ Z : Obj, Z = (Obj.cells (digA [] 0) 26) := ⟨_, rfl⟩
    rw [show (Obj.cells #[Value.int IntKind.u8 0, Value.int IntKind.u8 0, Value.int IntKind.u8 0, Value.int IntKind.u8 0, Value.int IntKind.u8 0, Value.int IntKind.u8 0, Value.int IntKind.u8 0, Value.int IntKind.u8 0, Value.int IntKind.u8 0, Value.int IntKind.u8 0, Value.int IntKind.u8 0, Value.int IntKind.u8 0, Value.int IntKind.u8 0, Value.int IntKind.u8 0, Value.int IntKind.u8 0, Value.int IntKind.u8 0, Value.int IntKind.u8 0, Value.int IntKind.u8 0, Value.int IntKind.u8 0, Value.int IntKind.u8 0, Value.int IntKind.u8 0, Value.int IntKind.u8 0, Value.int IntKind.u8 0, Value.int IntKind.u8 0, Value.int IntKind.u8 0, Value.int IntKind.u8 0, Value.int IntKind.u8 0, Value.int IntKind.u8 0, Value.int IntKind.u8 0, Value.int IntKind.u8 0, Value.int IntKind.u8 0, Value.int IntKind.u8 0] 26) = Z by rw [hZ]; rfl]
    obtain ⟨W0, hW0⟩ : ∃ x, x = w.alloc Z := ⟨_, rfl⟩
    have hb0 : Below w.heap.size w W0 := by rw [hW0]; exact below_new w Z
    have hR0 : W0.heap[w.heap.size]? = some (.cells (digA [] 0) 26 (0, 0)) := by rw [hW0, ← hZ]; exact heap_alloc_new w Z
    have hs0 : W0.heap.size = w.heap.size + 1 := by rw [hW0]; simp
    rw [← hW0]
    have HB0 := hid hb0
    have HR0 := hid hR0
    have HS0 := hid hs0
    clear hW0 hZ hb0 hR0 hs0
    go_wp2_with (refine (HCK.out _ HB0.out).mono ?_; rintro e w1 ⟨rfl, hb1⟩)
    have HB1 := hid hb1
    clear hb1
    go_loopw [3, 12] (fun o i wr => ∃ k : Nat, k ≤ fs.length ∧ i = .int .i64 k ∧ wr.ownsRow W0.heap.size 9 1 o (2 * k) (strCells (textsTo fs k)) ∧ Below W0.heap.size W0 wr) (fun _ i _ => fs.length - (intOf i).toNat)
    case atStart => exact ⟨0, by omega, rfl, World.ownsRow_nil _ _ _ _, HB1.out⟩
    case round =>
      obtain ⟨k, hk, rfl, hown, hbr⟩ := hrel
      have HBw := hid (HB0.out.trans (hbr.mono (by have := HS0.out; omega)))
      have hsz := hbr.size
      by_cases hlt : k < fs.length
      · obtain ⟨-, a1, c1, hv, -, -, hx1⟩ := HFS.out wr HBw.out
        obtain ⟨b0, o0, rfl, hb0, hcl0⟩ := hx1 k hlt
        obtain ⟨rfl, rfl⟩ : a0 = some ⟨b0, o0, none⟩ ∧ c0 = c1 := by simpa using hv
        have e0 := (hcl0 k hlt).1
        have e1 := (hcl0 k hlt).2
        clear hcl0 hx1 hv
        have HN : Hid (strCells (textsTo fs (k + 1)) = strCells (textsTo fs k) ++ [.string (bs fs[k].1), .string (bs fs[k].2)]) := hid (by rw [textsTo_succ fs k hlt, strCells_append]; rfl)
        generalize fs[k].1 = p at *
        generalize fs[k].2 = q at *
        go_wp2_with (at_builtin; go_must (refine wpList_append_own _ rfl _ _ 31 rfl W0.heap.size 9 i0 (.string ⟨#[]⟩) 1 16 Tryd.underlying31 hi hz0 hz1 hz2 rfl (by decide) _ _ _ rfl ((hown.alloc _).alloc _) ⟨wr.heap.size + 1, 0, none⟩ 2 2 [.string (bs p), .string (bs q)] rfl rfl ?c1 ?c2 ?c3 ?c4 ?c5 ?_))
        case c1 => have h := new_cells (wr.alloc (.cells #[.string (bs p), .string (bs q)] 30)) #[.string (bs p), .string (bs q)] 9 (0, 0); rw [World.size_alloc] at h; exact h
        case c2 => intro u hu; simp at hu; rcases hu with rfl | rfl <;> rfl
        case c3 => unfold maxLen; omega
        case c4 => omega
        case c5 => simp; omega
        intro v3 w3 hown3 hgrow3 _
        have hb3 : Below W0.heap.size W0 w3 := (((hbr.alloc hsz _).alloc (by simp; omega) _)).grown hgrow3 (by simp; omega) (fun k hk => (hown.lt k hk).1)
        clear hgrow3
        go_wp2_with fail
        refine ⟨?_, by simp [intOf]; omega⟩
        (first | exact ⟨k + 1, by omega, by go_num, by rw [HN.out]; exact hown3, hb3⟩ | ((repeat apply Exists.intro); exact ⟨⟨k + 1, by omega, by go_num, by rw [HN.out]; exact hown3, hb3⟩, rfl⟩))
      · obtain rfl : k = fs.length := by omega
        have e : textsTo fs fs.length = textsOf fs := by unfold textsTo textsOf; rw [List.take_length]
        rw [e] at hown
        have HS := hid (SliceAt.of_owns hown (by unfold maxLen; omega))
        obtain ⟨oa, om, oc, rfl⟩ := owns_slice hown
        have HBr := hid hbr
        obtain ⟨wo, rfl⟩ : ∃ wo : World, wo = wr := ⟨_, rfl⟩
        have HRow := hid (row_any _ _ (textsOf fs) wo HS.out (ht.below HBw.out) (by omega))
        generalize hR : rowL (textsOf fs) = R at *
        have HRq := hid hR
        clear hown hbr e hR
        generalize hG : foldB shaK shaH (padL R) = G at *
        have HGq := hid hG
        clear hG
        have HP := hid (fun W => psum_any (.slice (some ⟨W.heap.size, 0, none⟩) 1 1) 1 [R] (W.alloc (.cells #[.string (bs R)] 9)) (SliceAt.fresh W #[.string (bs R)] 9 (0, 0) 1 1 rfl (by decide)) (by simp; omega))
        rw [show [R].flatten = R by simp, HGq.out] at HP
        go_wp2_with first
          | (go_at_call 12; refine (HRow.out).mono ?_; rintro e w2 ⟨rfl, hb2⟩)
          | (go_at_call 11; refine (HP.out _).mono ?_; rintro e w5 ⟨rfl, hb5⟩; have hB := HBw.out.trans ((Below.chain hb2 (below_call hb5)).mono HBw.out.size); have hg5 := ((Below.chain HBr.out (Below.chain hb2 (below_call hb5))).block w.heap.size (by have := HS0.out; omega)).trans HR0.out)
          | (refine wpList_store_dig rfl _ _ rfl w.heap.size G 32 rfl rfl _ hg5 rfl ?_; intro w6 hg6 hs6 ho6 z1 z2 z3)
        refine bodyPost_ret (results_cell_row rfl _ _ w.heap.size _ _ _ _ rfl hg6 Tryd.underlying26 rfl (by rw [digA_size]; exact dig_info)) rfl ⟨by rw [HRes.out]; (try rw [HRq.out, HGq.out]), ?_⟩
        exact ⟨z1.trans hB.os, z2.trans hB.tape, z3.trans hB.output, by rw [hs6]; exact hB.size, fun k hk => by rw [ho6 k (by omega)]; exact hB.block k hk⟩
  · have HRes : Hid (treeA fs = digA [] 0) := hid (by unfold treeA; rw [if_neg (by rw [hr]; exact hr0)])
    have qr : ((r : Int) != 0) = true := neT (by omega)
    clear hr h0 hbig
    go_enter Tryd.func6, Tryd.ntmps6
    go_upto_region 1 with fail
    obtain ⟨Z, hZ⟩ : ∃ Z : Obj, Z = (Obj.cells (digA [] 0) 26) := ⟨_, rfl⟩
    rw [show (Obj.cells #[Value.int IntKind.u8 0, Value.int IntKind.u8 0, Value.int IntKind.u8 0, Value.int IntKind.u8 0, Value.int IntKind.u8 0, Value.int IntKind.u8 0, Value.int IntKind.u8 0, Value.int IntKind.u8 0, Value.int IntKind.u8 0, Value.int IntKind.u8 0, Value.int IntKind.u8 0, Value.int IntKind.u8 0, Value.int IntKind.u8 0, Value.int IntKind.u8 0, Value.int IntKind.u8 0, Value.int IntKind.u8 0, Value.int IntKind.u8 0, Value.int IntKind.u8 0, Value.int IntKind.u8 0, Value.int IntKind.u8 0, Value.int IntKind.u8 0, Value.int IntKind.u8 0, Value.int IntKind.u8 0, Value.int IntKind.u8 0, Value.int IntKind.u8 0, Value.int IntKind.u8 0, Value.int IntKind.u8 0, Value.int IntKind.u8 0, Value.int IntKind.u8 0, Value.int IntKind.u8 0, Value.int IntKind.u8 0, Value.int IntKind.u8 0] 26) = Z by rw [hZ]; rfl]
    obtain ⟨W0, hW0⟩ : ∃ x, x = w.alloc Z := ⟨_, rfl⟩
    have hb0 : Below w.heap.size w W0 := by rw [hW0]; exact below_new w Z
    have hR0 : W0.heap[w.heap.size]? = some (.cells (digA [] 0) 26 (0, 0)) := by rw [hW0, ← hZ]; exact heap_alloc_new w Z
    have hs0 : W0.heap.size = w.heap.size + 1 := by rw [hW0]; simp
    rw [← hW0]
    have HB0 := hid hb0
    have HR0 := hid hR0
    have HS0 := hid hs0
    clear hW0 hZ hb0 hR0 hs0
    go_wp2_with first
      | (refine (HCK.out _ HB0.out).mono ?_; rintro e w1 ⟨rfl, hb1⟩; have hB := HB0.out.trans (hb1.mono HB0.out.size); have hg5 := (hb1.block w.heap.size (by have := HS0.out; omega)).trans HR0.out)
      | (refine wpList_build_dig rfl rfl ?_)
      | (refine wpList_store_dig rfl _ _ rfl w.heap.size [] 0 rfl rfl _ hg5 rfl ?_; intro w6 hg6 hs6 ho6 z1 z2 z3)
    refine bodyPost_ret (results_cell_row rfl _ _ w.heap.size _ _ _ _ rfl hg6 Tryd.underlying26 rfl (by rw [digA_size]; exact dig_info)) rfl ⟨by rw [HRes.out]; (try rw [HRq.out, HGq.out]), ?_⟩
    exact ⟨z1.trans hB.os, z2.trans hB.tape, z3.trans hB.output, by rw [hs6]; exact hB.size, fun k hk => by rw [ho6 k (by omega)]; exact hB.block k hk⟩
set_option maxHeartbeats 2000000 in
theorem rtsum_any (v0 : Value) (n0 : Nat) (fs : List FileL) (w : World) (h0 : SliceAt w 2 v0 n0 (fileCells fs)) (hbig : ∀ f ∈ fs, f.1.length ≤ 300 ∧ f.2.length ≤ 300) (hn : fs.length ≤ 60) :
    Calls Tryd.prog 7 #[v0] w fun e w' => e = .returned (.agg (treeA fs)) ∧ Below w.heap.size w w' := by
  obtain ⟨i0, hi, hz0, hz1, hz2⟩ := info_parts pstr_info
  have HCK := hid (fun W (hW : Below w.heap.size w W) => refCheck_any v0 n0 fs W (h0.below hW (Nat.le_refl _)) (fun f hf => by have := hbig f hf; omega))
  have HFS := hid (fun W (hW : Below w.heap.size w W) => (h0.below hW (Nat.le_refl _)).files)
  obtain ⟨r, hr⟩ : ∃ r, checkL fs = r := ⟨_, rfl⟩
  rw [hr] at HCK
  by_cases hr0 : r = 0
  · subst hr0
    have HRes : Hid (treeA fs = digA (foldB shaK shaH (padL (rowL (textsOf fs)))) 32) := hid (by unfold treeA; rw [if_pos hr])
    have hrow := row_small fs hn hbig
    obtain ⟨rfl, a0, c0, rfl, hc0, hm0, -⟩ := h0.files
    unfold maxLen at hm0
    have HR := hid hr
    clear hr h0 hbig
    go_enter Tryd.func7, Tryd.ntmps7
    go_upto_region 1 with fail
    obtain ⟨Z, hZ⟩ : ∃ Z : Obj, Z = (Obj.cells (digA [] 0) 26) := ⟨_, rfl⟩
    rw [show (Obj.cells #[Value.int IntKind.u8 0, Value.int IntKind.u8 0, Value.int IntKind.u8 0, Value.int IntKind.u8 0, Value.int IntKind.u8 0, Value.int IntKind.u8 0, Value.int IntKind.u8 0, Value.int IntKind.u8 0, Value.int IntKind.u8 0, Value.int IntKind.u8 0, Value.int IntKind.u8 0, Value.int IntKind.u8 0, Value.int IntKind.u8 0, Value.int IntKind.u8 0, Value.int IntKind.u8 0, Value.int IntKind.u8 0, Value.int IntKind.u8 0, Value.int IntKind.u8 0, Value.int IntKind.u8 0, Value.int IntKind.u8 0, Value.int IntKind.u8 0, Value.int IntKind.u8 0, Value.int IntKind.u8 0, Value.int IntKind.u8 0, Value.int IntKind.u8 0, Value.int IntKind.u8 0, Value.int IntKind.u8 0, Value.int IntKind.u8 0, Value.int IntKind.u8 0, Value.int IntKind.u8 0, Value.int IntKind.u8 0, Value.int IntKind.u8 0] 26) = Z by rw [hZ]; rfl]
    obtain ⟨W0, hW0⟩ : ∃ x, x = w.alloc Z := ⟨_, rfl⟩
    have hb0 : Below w.heap.size w W0 := by rw [hW0]; exact below_new w Z
    have hR0 : W0.heap[w.heap.size]? = some (.cells (digA [] 0) 26 (0, 0)) := by rw [hW0, ← hZ]; exact heap_alloc_new w Z
    have hs0 : W0.heap.size = w.heap.size + 1 := by rw [hW0]; simp
    rw [← hW0]
    have HB0 := hid hb0
    have HR0 := hid hR0
    have HS0 := hid hs0
    clear hW0 hZ hb0 hR0 hs0
    go_wp2_with (refine (HCK.out _ HB0.out).mono ?_; rintro e w1 ⟨rfl, hb1⟩)
    have HB1 := hid hb1
    clear hb1
    have hO0 : (w1.alloc (.cells #[] 9)).ownsRow W0.heap.size 9 1 (.slice (some ⟨w1.heap.size, 0, none⟩) 0 0) 0 [] := ⟨rfl, .inr ⟨_, 0, #[], rfl, HB1.out.size, heap_alloc_new w1 _, Nat.le_refl _, by simp, rfl, rfl⟩⟩
    have HO0 := hid hO0
    have HB2 := hid (HB1.out.alloc (HB1.out.size) (.cells #[] 9))
    clear hO0
    go_loopw [3, 12] (fun o i wr => ∃ k : Nat, k ≤ fs.length ∧ i = .int .i64 k ∧ wr.ownsRow W0.heap.size 9 1 o (2 * k) (strCells (textsTo fs k)) ∧ Below W0.heap.size W0 wr) (fun _ i _ => fs.length - (intOf i).toNat)
    case atStart => exact ⟨0, by omega, rfl, HO0.out, HB2.out⟩
    case round =>
      obtain ⟨k, hk, rfl, hown, hbr⟩ := hrel
      have HBw := hid (HB0.out.trans (hbr.mono (by have := HS0.out; omega)))
      have hsz := hbr.size
      by_cases hlt : k < fs.length
      · obtain ⟨-, a1, c1, hv, -, -, hx1⟩ := HFS.out wr HBw.out
        obtain ⟨b0, o0, rfl, hb0, hcl0⟩ := hx1 k hlt
        obtain ⟨rfl, rfl⟩ : a0 = some ⟨b0, o0, none⟩ ∧ c0 = c1 := by simpa using hv
        have e0 := (hcl0 k hlt).1
        have e1 := (hcl0 k hlt).2
        clear hcl0 hx1 hv
        have HN : Hid (strCells (textsTo fs (k + 1)) = strCells (textsTo fs k) ++ [.string (bs fs[k].1), .string (bs fs[k].2)]) := hid (by rw [textsTo_succ fs k hlt, strCells_append]; rfl)
        generalize fs[k].1 = p at *
        generalize fs[k].2 = q at *
        obtain ⟨oa, om, oc, rfl⟩ := owns_slice hown
        go_upto_region 7 with fail
        refine wp_region_wq_tail1 (v := (.slice oa om oc)) 10 (by kernel_rfl) (by kernel_rfl) (by kernel_rfl) (by kernel_rfl) (fun _ _ _ _ h => h) (by kernel_rfl) (fun W => rfl) (by kernel_rfl) ?_
        simp only [List.take_succ_cons, List.take_zero, List.drop_succ_cons, List.drop_zero]
        repeat (refine WQ.step (fun K hK => ?_); go_simp; first | (refine hK _ ?_; clear hK K) | (apply Exists.intro; refine ⟨fun W hW => ?_, hK _ ?_⟩; (first | (first | with_reducible rfl | (have zz0 := Below.keeps hW e0; have zz1 := Below.keeps hW e1; go_simp; first | rfl | exact ⟨rfl, rfl⟩ | (rw [if_neg (by omega)]; exact ⟨rfl, rfl⟩)))); clear hK K))
        refine WQ.nil ?_
        intro wz hwz
        have hown := ownsRow_below hown hwz
        have hbr := hbr.trans (hwz.mono hsz)
        have hsz := hbr.size
        go_wp2_with (at_builtin; go_must (refine wpList_append_own _ rfl _ _ 31 rfl W0.heap.size 9 i0 (.string ⟨#[]⟩) 1 16 Tryd.underlying31 hi hz0 hz1 hz2 rfl (by decide) _ _ _ rfl (hown.alloc _) ⟨wz.heap.size, 0, none⟩ 2 2 [.string (bs p), .string (bs q)] rfl rfl ?c1 ?c2 ?c3 ?c4 ?c5 ?_))
        case c1 => exact new_cells _ #[_, _] _ _
        case c2 => intro u hu; simp at hu; rcases hu with rfl | rfl <;> rfl
        case c3 => unfold maxLen; omega
        case c4 => omega
        case c5 => simp; omega
        intro v3 w3 hown3 hgrow3 _
        have hb3 : Below W0.heap.size W0 w3 := (((hbr.alloc hsz _))).grown hgrow3 (by simp; omega) (fun k hk => (hown.lt k hk).1)
        clear hgrow3
        go_wp2_with fail
        refine ⟨?_, by simp [intOf]; omega⟩
        (first | exact ⟨k + 1, by omega, by go_num, by rw [HN.out]; exact hown3, hb3⟩ | ((repeat apply Exists.intro); exact ⟨⟨k + 1, by omega, by go_num, by rw [HN.out]; exact hown3, hb3⟩, rfl⟩))
      · obtain rfl : k = fs.length := by omega
        have e : textsTo fs fs.length = textsOf fs := by unfold textsTo textsOf; rw [List.take_length]
        rw [e] at hown
        have HS := hid (SliceAt.of_owns hown (by unfold maxLen; omega))
        obtain ⟨oa, om, oc, rfl⟩ := owns_slice hown
        have HBr := hid hbr
        obtain ⟨wo, rfl⟩ : ∃ wo : World, wo = wr := ⟨_, rfl⟩
        have HRow := hid (refRow_any _ _ (textsOf fs) wo HS.out (by omega))
        generalize hR : rowL (textsOf fs) = R at *
        have HRq := hid hR
        have hRl : R.length ≤ 1000000000 := by omega
        have HP := hid (fun W => rsum_any R hRl W)
        rw [show ((sumL R).map (Value.int .u8)).toArray = digA (foldB shaK shaH (padL R)) 32 from (digA_all _).symm] at HP
        clear hown hbr e hR
        generalize hG : foldB shaK shaH (padL R) = G at *
        have HGq := hid hG
        clear hG
        go_wp2_with first
          | (go_at_call 15; refine (HRow.out).mono ?_; rintro e w2 ⟨rfl, hb2⟩)
          | (go_at_call 14; refine (HP.out _).mono ?_; rintro e w5 ⟨rfl, hb5⟩; have hB := HBw.out.trans ((Below.chain hb2 hb5).mono HBw.out.size); have hg5 := ((Below.chain HBr.out (Below.chain hb2 hb5)).block w.heap.size (by have := HS0.out; omega)).trans HR0.out)
          | (refine wpList_store_dig rfl _ _ rfl w.heap.size G 32 rfl rfl _ hg5 rfl ?_; intro w6 hg6 hs6 ho6 z1 z2 z3)
        refine bodyPost_ret (results_cell_row rfl _ _ w.heap.size _ _ _ _ rfl hg6 Tryd.underlying26 rfl (by rw [digA_size]; exact dig_info)) rfl ⟨by rw [HRes.out]; (try rw [HRq.out, HGq.out]), ?_⟩
        exact ⟨z1.trans hB.os, z2.trans hB.tape, z3.trans hB.output, by rw [hs6]; exact hB.size, fun k hk => by rw [ho6 k (by omega)]; exact hB.block k hk⟩
  · have HRes : Hid (treeA fs = digA [] 0) := hid (by unfold treeA; rw [if_neg (by rw [hr]; exact hr0)])
    have qr : ((r : Int) != 0) = true := neT (by omega)
    clear hr h0 hbig
    go_enter Tryd.func7, Tryd.ntmps7
    go_upto_region 1 with fail
    obtain ⟨Z, hZ⟩ : ∃ Z : Obj, Z = (Obj.cells (digA [] 0) 26) := ⟨_, rfl⟩
    rw [show (Obj.cells #[Value.int IntKind.u8 0, Value.int IntKind.u8 0, Value.int IntKind.u8 0, Value.int IntKind.u8 0, Value.int IntKind.u8 0, Value.int IntKind.u8 0, Value.int IntKind.u8 0, Value.int IntKind.u8 0, Value.int IntKind.u8 0, Value.int IntKind.u8 0, Value.int IntKind.u8 0, Value.int IntKind.u8 0, Value.int IntKind.u8 0, Value.int IntKind.u8 0, Value.int IntKind.u8 0, Value.int IntKind.u8 0, Value.int IntKind.u8 0, Value.int IntKind.u8 0, Value.int IntKind.u8 0, Value.int IntKind.u8 0, Value.int IntKind.u8 0, Value.int IntKind.u8 0, Value.int IntKind.u8 0, Value.int IntKind.u8 0, Value.int IntKind.u8 0, Value.int IntKind.u8 0, Value.int IntKind.u8 0, Value.int IntKind.u8 0, Value.int IntKind.u8 0, Value.int IntKind.u8 0, Value.int IntKind.u8 0, Value.int IntKind.u8 0] 26) = Z by rw [hZ]; rfl]
    obtain ⟨W0, hW0⟩ : ∃ x, x = w.alloc Z := ⟨_, rfl⟩
    have hb0 : Below w.heap.size w W0 := by rw [hW0]; exact below_new w Z
    have hR0 : W0.heap[w.heap.size]? = some (.cells (digA [] 0) 26 (0, 0)) := by rw [hW0, ← hZ]; exact heap_alloc_new w Z
    have hs0 : W0.heap.size = w.heap.size + 1 := by rw [hW0]; simp
    rw [← hW0]
    have HB0 := hid hb0
    have HR0 := hid hR0
    have HS0 := hid hs0
    clear hW0 hZ hb0 hR0 hs0
    go_wp2_with first
      | (refine (HCK.out _ HB0.out).mono ?_; rintro e w1 ⟨rfl, hb1⟩; have hB := HB0.out.trans (hb1.mono HB0.out.size); have hg5 := (hb1.block w.heap.size (by have := HS0.out; omega)).trans HR0.out)
      | (refine wpList_build_dig rfl rfl ?_)
      | (refine wpList_store_dig rfl _ _ rfl w.heap.size [] 0 rfl rfl _ hg5 rfl ?_; intro w6 hg6 hs6 ho6 z1 z2 z3)
    refine bodyPost_ret (results_cell_row rfl _ _ w.heap.size _ _ _ _ rfl hg6 Tryd.underlying26 rfl (by rw [digA_size]; exact dig_info)) rfl ⟨by rw [HRes.out]; (try rw [HRq.out, HGq.out]), ?_⟩
    exact ⟨z1.trans hB.os, z2.trans hB.tape, z3.trans hB.output, by rw [hs6]; exact hB.size, fun k hk => by rw [ho6 k (by omega)]; exact hB.block k hk⟩
end Go.Proofs.YtilkneajohpgiaaDoor
