/- The walks of the reference of paths: Parts, Part, May, Dir, Under. -/
import Derived.Test.YtilkneajohpgiaaDoorPathWalks
import Derived.StillTailTactics
namespace Go.Proofs.YtilkneajohpgiaaDoor
open Go.RowKit

theorem rstr_info : (Tryd.prog.info? 9).map (fun i => (i.zero, i.size, i.bytes)) = some (some (.string ⟨#[]⟩), 1, 16) := by kernel_rfl

def PartsPost (l : List UInt8) (w : World) (e : Ending) (w' : World) : Prop :=
  ∃ v, e = .returned v ∧ SliceAt w' 1 v (splitL l).length (strCells (splitL l)) ∧ Below w.heap.size w w'

theorem owns_some {w : World} {base : Nat} {e : TypeId} {size : Nat} {v : Value} {n : Nat} {xs : List Value} (h : w.ownsRow base e size v (n + 1) xs) : ∃ g cap, v = .slice (some ⟨g, 0, none⟩) (n + 1) cap := by
  rcases h.2 with ⟨_, h0⟩ | ⟨g, cap, cur, hv, _⟩
  · omega
  · exact ⟨g, cap, hv⟩

set_option maxHeartbeats 1000000 in
set_option maxRecDepth 100000 in
theorem parts_any (l : List UInt8) (hl : l.length ≤ 1000000000000) (w : World) :
    Calls Tryd.prog 36 #[.string (bs l)] w (PartsPost l w) := by
  obtain ⟨i0, hi, hz0, hz1, hz2⟩ := info_parts rstr_info
  go_enter Tryd.func36, Tryd.ntmps36
  go_wp2
  go_loopw [3, 4] (fun o i wr => ∃ (k g cap n : Nat), k ≤ l.length ∧ i = .int .i64 k ∧ n ≤ k ∧ o = .slice (some ⟨g, 0, none⟩) (n + 1) cap ∧ wr.ownsRow w.heap.size 9 1 (.slice (some ⟨g, 0, none⟩) (n + 1) cap) (n + 1) (strCells (splitL (l.take k))) ∧ Below w.heap.size w wr) (fun _ i _ => l.length - (intOf i).toNat)
  case atStart => exact ⟨0, _, _, 0, by omega, rfl, by omega, rfl, ⟨rfl, .inr ⟨_, 1, _, rfl, Nat.le_refl _, heap_alloc_new w _, Nat.le_refl _, by simp [maxLen], by simp, by simp [splitL, strCells]; rfl⟩⟩, (Below.refl _ _).alloc (Nat.le_refl _) _⟩
  case round =>
    obtain ⟨k, g, cap, n, hk, rfl, hnk, rfl, hown, hbw⟩ := hrel
    have hsz := hbw.size
    by_cases hlt : k < l.length
    · have Hts := hid (take_at l k hlt)
      by_cases h47 : l[k] = 47
      · have hb : ((l[k].toNat : Int) == 47) = true := eqT (by rw [h47]; rfl)
        have H47 := hid h47; clear h47
        go_wp2_with (at_builtin; go_must (refine wpList_append_own _ rfl _ _ 31 rfl w.heap.size 9 i0 (.string ⟨#[]⟩) 1 16 Tryd.underlying31 hi hz0 hz1 hz2 rfl (by decide) _ _ _ rfl (hown.alloc _) ⟨wr.heap.size, 0, none⟩ 1 1 [.string (bs [])] rfl rfl ?c1 ?c2 ?c3 ?c4 ?c5 ?_))
        case c1 => exact new_cells _ #[_] _ _
        case c2 => intro u hu; simp at hu; subst hu; rfl
        case c3 => unfold maxLen; omega
        case c4 => omega
        case c5 => simp; omega
        intro v1 w1 hown1 hgrow1 _
        have hb1 : Below w.heap.size w w1 := (hbw.alloc (by omega) _).grown hgrow1 (by simp; omega) (fun k hk => (hown.lt k hk).1)
        clear hgrow1
        obtain ⟨g1, cap1, rfl⟩ := owns_some hown1
        go_wp2
        refine ⟨⟨k + 1, g1, cap1, n + 1, by omega, by go_num, by omega, rfl, ?_, hb1⟩, by simp [intOf]; omega⟩
        rw [Hts.out, H47.out, splitL_snoc_sep, strCells_append]; exact hown1
      · have hb : ((l[k].toNat : Int) == 47) = false := eqF (by intro e; apply h47; apply UInt8.toNat_inj.1; show l[k].toNat = 47; omega)
        obtain ⟨init, last, hs1, hs2⟩ := splitL_snoc (l.take k) l[k] h47
        have Hs2 := hid hs2
        have Hs1 := hid hs1
        rw [hs1] at hown
        clear hs1 hs2 h47
        have hni : n = init.length := by have := hown.1; simp [strCells] at this; omega
        subst hni
        have hce : wr.cell? ⟨g, init.length, none⟩ = some (.string (bs last)) := by
          rw [hown.cellAt init.length (by omega), strCells_get _ _ (by simp)]; simp
        have hfr : wr.frozen? ⟨g, init.length, none⟩ = false := hown.frozenAt init.length
        have hd1 : List.take 1 (List.drop k l) = [l[k]] := by rw [drop_at l k hlt]; rfl
        have hlast : last.length ≤ 1000000000000 := by
          have h1 : last ∈ splitL (l.take k) := by rw [Hs1.out]; simp
          have := splitL_mem _ _ h1
          rw [List.length_take] at this; omega
        go_wp2
        go_region
        go_wp2
        have hst := (hown.stored init.length (.string (bs (last ++ [l[k]])))).1
        have hset : (strCells (init ++ [last])).set init.length (.string (bs (last ++ [l[k]]))) = strCells (init ++ [last ++ [l[k]]]) := by
          simp [strCells]
        rw [hset] at hst
        refine ⟨⟨k + 1, g, cap, init.length, by omega, by go_num, by omega, rfl, ?_, ?_⟩, by simp [intOf]; omega⟩
        · rw [Hts.out, Hs2.out]; exact hst
        · exact (hbw.trans ((Below.refl w.heap.size wr).setCell (p := ⟨g, init.length, none⟩) ((hown.lt g rfl).1) _)).drew
    · go_wp2
      go_ret
      refine ⟨_, rfl, ?_, hbw⟩
      rw [List.take_of_length_le (by omega)] at hown
      have hn : n + 1 = (splitL l).length := by have := hown.1; simp [strCells] at this; omega
      rw [← hn]; exact SliceAt.of_owns hown (by unfold maxLen; omega)

set_option maxHeartbeats 1000000 in
set_option maxRecDepth 100000 in
theorem refPart_any (l : List UInt8) (hl : l.length ≤ 1000000000000) (w : World) :
    Calls Tryd.prog 37 #[.string (bs l)] w fun e w' => e = .returned (.bool (partB l)) ∧ w = w' := by
  have hE : l.isEmpty = decide (l = []) := by cases l <;> simp
  have Hp : Hid (partB l = (!decide (l = []) && decide (l.length ≤ 64) && !(l == [46]) && !(l == [46, 46]) && l.all fun b => signN b.toNat)) := by
    apply hid; rw [partB, hE]
  clear hE
  by_cases h0 : l = []
  · subst h0
    go_enter Tryd.func37, Tryd.ntmps37
    go_wp2_with fail
    go_ret
    exact ⟨rfl, rfl⟩
  · have h0' : l.isEmpty = false := by simpa using h0
    have H0 := hid h0; clear h0
    rcases Bool.eq_false_or_eq_true (l == [46]) with h1 | h1
    · go_enter Tryd.func37, Tryd.ntmps37
      go_wp2_with fail
      go_ret
      exact ⟨by rw [Hp.out, h1]; simp, rfl⟩
    · rcases Bool.eq_false_or_eq_true (l == [46, 46]) with h2 | h2
      · go_enter Tryd.func37, Tryd.ntmps37
        go_wp2_with fail
        go_ret
        exact ⟨by rw [Hp.out, h1, h2]; simp, rfl⟩
      · by_cases h64 : 64 < l.length
        · go_enter Tryd.func37, Tryd.ntmps37
          go_wp2_with fail
          go_ret
          exact ⟨by rw [Hp.out, decide_eq_false (by omega : ¬ l.length ≤ 64)]; simp, rfl⟩
        · have Hp2 : Hid (partB l = l.all fun b => signN b.toNat) := by
            apply hid; rw [Hp.out, h1, h2, decide_eq_false H0.out, decide_eq_true (by omega : l.length ≤ 64)]; rfl
          clear Hp
          go_enter Tryd.func37, Tryd.ntmps37
          go_wp2_with fail
          go_loop [3] (fun i => ∃ k : Nat, k ≤ l.length ∧ i = .int .i64 k ∧ partB l = (l.drop k).all fun b => signN b.toNat) (fun i => l.length - (intOf i).toNat)
          case atStart => exact ⟨0, by omega, rfl, Hp2.out⟩
          case round =>
            obtain ⟨k, hk, rfl, hg⟩ := hrel
            have Hg := hid hg; clear hg
            by_cases hlt : k < l.length
            · have Hd := hid (drop_at l k hlt)
              have yes : signN l[k].toNat = true → (∃ k_1, k_1 ≤ l.length ∧ Value.int IntKind.i64 (↑k + 1) = Value.int IntKind.i64 ↑k_1 ∧ partB l = (List.drop k_1 l).all fun b => signN b.toNat) ∧
                  l.length - (intOf (Value.int IntKind.i64 (↑k + 1))).toNat < l.length - (intOf (Value.int IntKind.i64 ↑k)).toNat := fun hs =>
                ⟨⟨k + 1, by omega, by go_num, by rw [Hg.out, Hd.out, List.all_cons, hs, Bool.true_and]⟩, by simp [intOf]; omega⟩
              have no : signN l[k].toNat = false → partB l = false := fun hs => by rw [Hg.out, Hd.out, List.all_cons, hs, Bool.false_and]
              have hsg : signN l[k].toNat = true ↔ (97 ≤ l[k].toNat ∧ l[k].toNat ≤ 122) ∨ (65 ≤ l[k].toNat ∧ l[k].toNat ≤ 90) ∨ (48 ≤ l[k].toNat ∧ l[k].toNat ≤ 57) ∨ l[k].toNat = 95 ∨ l[k].toNat = 46 ∨ l[k].toNat = 45 ∨ l[k].toNat = 43 := by
                simp only [signN, Bool.or_eq_true, Bool.and_eq_true, decide_eq_true_eq, beq_iff_eq]; omega
              have Yes := hid yes
              have No := hid no
              have Hsg := hid hsg
              clear yes no hsg
              by_cases hA : 97 ≤ l[k].toNat ∧ l[k].toNat ≤ 122
              · obtain ⟨h1', h2'⟩ := hA
                have d1 : decide (97 ≤ (l[k].toNat : Int)) = true := decide_eq_true (by omega)
                have d2 : decide ((l[k].toNat : Int) ≤ 122) = true := decide_eq_true (by omega)
                go_wp2_with fail
                exact Yes.out (Hsg.out.2 (by omega))
              by_cases hB : 65 ≤ l[k].toNat ∧ l[k].toNat ≤ 90
              · obtain ⟨h1', h2'⟩ := hB
                clear hA
                have d1 : decide (97 ≤ (l[k].toNat : Int)) = false := decide_eq_false (by omega)
                have d2 : decide (65 ≤ (l[k].toNat : Int)) = true := decide_eq_true (by omega)
                have d3 : decide ((l[k].toNat : Int) ≤ 90) = true := decide_eq_true (by omega)
                go_wp2_with fail
                exact Yes.out (Hsg.out.2 (by omega))
              by_cases hC : 48 ≤ l[k].toNat ∧ l[k].toNat ≤ 57
              · obtain ⟨h1', h2'⟩ := hC
                clear hA hB
                have d1 : decide (97 ≤ (l[k].toNat : Int)) = false := decide_eq_false (by omega)
                have d2 : decide (65 ≤ (l[k].toNat : Int)) = false := decide_eq_false (by omega)
                have d3 : decide (48 ≤ (l[k].toNat : Int)) = true := decide_eq_true (by omega)
                have d4 : decide ((l[k].toNat : Int) ≤ 57) = true := decide_eq_true (by omega)
                go_wp2_with fail
                exact Yes.out (Hsg.out.2 (by omega))
              by_cases h95 : l[k].toNat = 95
              · have q1 : ((l[k].toNat : Int) != 95) = false := neF (by omega)
                have d1 : decide (97 ≤ (l[k].toNat : Int)) = false := decide_eq_false (by omega)
                have d2 : decide (65 ≤ (l[k].toNat : Int)) = true := decide_eq_true (by omega)
                have d3 : decide ((l[k].toNat : Int) ≤ 90) = false := decide_eq_false (by omega)
                have d4 : decide (48 ≤ (l[k].toNat : Int)) = true := decide_eq_true (by omega)
                have d5 : decide ((l[k].toNat : Int) ≤ 57) = false := decide_eq_false (by omega)
                have hs := Hsg.out.2 (by omega)
                clear h95 hA hB hC Hsg
                go_wp2_with fail
                exact Yes.out hs
              have q95 : ((l[k].toNat : Int) != 95) = true := neT (by omega)
              by_cases h46 : l[k].toNat = 46
              · have q1 : ((l[k].toNat : Int) != 46) = false := neF (by omega)
                have d1 : decide (97 ≤ (l[k].toNat : Int)) = false := decide_eq_false (by omega)
                have d2 : decide (65 ≤ (l[k].toNat : Int)) = false := decide_eq_false (by omega)
                have d3 : decide (48 ≤ (l[k].toNat : Int)) = false := decide_eq_false (by omega)
                have hs := Hsg.out.2 (by omega)
                clear h95 h46 hA hB hC Hsg
                go_wp2_with fail
                exact Yes.out hs
              have q46 : ((l[k].toNat : Int) != 46) = true := neT (by omega)
              by_cases h45 : l[k].toNat = 45
              · have q1 : ((l[k].toNat : Int) != 45) = false := neF (by omega)
                have d1 : decide (97 ≤ (l[k].toNat : Int)) = false := decide_eq_false (by omega)
                have d2 : decide (65 ≤ (l[k].toNat : Int)) = false := decide_eq_false (by omega)
                have d3 : decide (48 ≤ (l[k].toNat : Int)) = false := decide_eq_false (by omega)
                have hs := Hsg.out.2 (by omega)
                clear h95 h46 h45 hA hB hC Hsg
                go_wp2_with fail
                exact Yes.out hs
              have q45 : ((l[k].toNat : Int) != 45) = true := neT (by omega)
              by_cases h43 : l[k].toNat = 43
              · have q1 : ((l[k].toNat : Int) != 43) = false := neF (by omega)
                have d1 : decide (97 ≤ (l[k].toNat : Int)) = false := decide_eq_false (by omega)
                have d2 : decide (65 ≤ (l[k].toNat : Int)) = false := decide_eq_false (by omega)
                have d3 : decide (48 ≤ (l[k].toNat : Int)) = false := decide_eq_false (by omega)
                have hs := Hsg.out.2 (by omega)
                clear h95 h46 h45 h43 hA hB hC Hsg
                go_wp2_with fail
                exact Yes.out hs
              have q43 : ((l[k].toNat : Int) != 43) = true := neT (by omega)
              have hns : signN l[k].toNat = false := by
                rw [← Bool.not_eq_true, Hsg.out]; omega
              have hr : l[k].toNat < 48 ∨ (57 < l[k].toNat ∧ l[k].toNat < 65) ∨ (90 < l[k].toNat ∧ l[k].toNat < 97) ∨ 122 < l[k].toNat := by omega
              have Hno := hid (No.out hns)
              clear h95 h46 h45 h43 hA hB hC Hsg hns
              rcases hr with hr | ⟨hr, hr'⟩ | ⟨hr, hr'⟩ | hr
              · have d1 : decide (97 ≤ (l[k].toNat : Int)) = false := decide_eq_false (by omega)
                have d2 : decide (65 ≤ (l[k].toNat : Int)) = false := decide_eq_false (by omega)
                have d3 : decide (48 ≤ (l[k].toNat : Int)) = false := decide_eq_false (by omega)
                go_wp2_with fail
                go_ret
                exact ⟨by rw [Hno.out]; rfl, rfl⟩
              · have d1 : decide (97 ≤ (l[k].toNat : Int)) = false := decide_eq_false (by omega)
                have d2 : decide (65 ≤ (l[k].toNat : Int)) = false := decide_eq_false (by omega)
                have d3 : decide (48 ≤ (l[k].toNat : Int)) = true := decide_eq_true (by omega)
                have d4 : decide ((l[k].toNat : Int) ≤ 57) = false := decide_eq_false (by omega)
                go_wp2_with fail
                go_ret
                exact ⟨by rw [Hno.out]; rfl, rfl⟩
              · have d1 : decide (97 ≤ (l[k].toNat : Int)) = false := decide_eq_false (by omega)
                have d2 : decide (65 ≤ (l[k].toNat : Int)) = true := decide_eq_true (by omega)
                have d3 : decide ((l[k].toNat : Int) ≤ 90) = false := decide_eq_false (by omega)
                have d4 : decide (48 ≤ (l[k].toNat : Int)) = true := decide_eq_true (by omega)
                have d5 : decide ((l[k].toNat : Int) ≤ 57) = false := decide_eq_false (by omega)
                go_wp2_with fail
                go_ret
                exact ⟨by rw [Hno.out]; rfl, rfl⟩
              · have d1 : decide (97 ≤ (l[k].toNat : Int)) = true := decide_eq_true (by omega)
                have d2 : decide ((l[k].toNat : Int) ≤ 122) = false := decide_eq_false (by omega)
                have d3 : decide (65 ≤ (l[k].toNat : Int)) = true := decide_eq_true (by omega)
                have d4 : decide ((l[k].toNat : Int) ≤ 90) = false := decide_eq_false (by omega)
                have d5 : decide (48 ≤ (l[k].toNat : Int)) = true := decide_eq_true (by omega)
                have d6 : decide ((l[k].toNat : Int) ≤ 57) = false := decide_eq_false (by omega)
                go_wp2_with fail
                go_ret
                exact ⟨by rw [Hno.out]; rfl, rfl⟩
            · go_wp2_with fail
              go_ret
              exact ⟨by rw [Hg.out, List.drop_eq_nil_of_le (by omega)]; rfl, rfl⟩
end Go.Proofs.YtilkneajohpgiaaDoor
