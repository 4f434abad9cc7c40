/- The walks of tree.Check and tree.Paths. -/
import Derived.Test.YtilkneajohpgiaaDoorTreeWalks
namespace Go.Proofs.YtilkneajohpgiaaDoor
open Go.RowKit

theorem bytesLess_irrefl (l : List UInt8) : Op.bytesLess l l = false := by
  induction l with
  | nil => rfl
  | cons c l ih => simp [Op.bytesLess, ih]

set_option maxHeartbeats 1000000 in
theorem check_any (v0 : Value) (n0 : Nat) (fs : List FileL) (w : World) (h0 : SliceAt w 2 v0 n0 (fileCells fs)) (hbig : ∀ f ∈ fs, f.1.length ≤ 1000000000000 ∧ f.2.length ≤ 1000000000000) :
    Calls Tryd.prog 10 #[v0] w fun e w' => e = .returned (.int .i64 (checkL fs)) ∧ Below w.heap.size w w' := by
  have h00 := h0
  obtain ⟨rfl, a0, c0, rfl, hc0, hm0, -⟩ := h0.files
  clear h0
  unfold maxLen at hm0
  by_cases h1024 : 1024 < fs.length
  · go_enter Tryd.func10, Tryd.ntmps10
    go_wp2
    go_ret
    exact ⟨by rw [checkL, if_pos h1024]; rfl, Below.refl _ _⟩
  · have Hcl : Hid (checkL fs = checkFrom [] true fs) := by apply hid; rw [checkL, if_neg h1024]
    go_enter Tryd.func10, Tryd.ntmps10
    go_wp2
    go_loopw [3, 12] (fun ah i wr => ∃ (k : Nat) (ahead : List UInt8), k ≤ fs.length ∧ i = .int .i64 k ∧ ah = .string (bs ahead) ∧ checkL fs = checkFrom ahead (k == 0) (fs.drop k) ∧ Below w.heap.size w wr) (fun _ i _ => fs.length - (intOf i).toNat)
    case atStart => exact ⟨0, [], by omega, rfl, rfl, Hcl.out, Below.refl _ _⟩
    case round =>
      obtain ⟨k, ahead, hk, rfl, rfl, hg, hbw⟩ := hrel
      have Hg := hid hg; clear hg
      have hsz := hbw.size
      by_cases hlt : k < fs.length
      · obtain ⟨-, a1, c1, hv, -, -, hx1⟩ := (h00.below hbw (Nat.le_refl _)).files
        obtain ⟨b0, o0, rfl, hb0, hcl0⟩ := hx1 k hlt
        obtain ⟨rfl, rfl⟩ : a0 = some ⟨b0, o0, none⟩ ∧ c0 = c1 := by simpa using hv
        have e0 := (hcl0 k hlt).1
        have e1 := (hcl0 k hlt).2
        have hl := hbig fs[k] (List.getElem_mem hlt)
        clear hcl0 hx1 hv
        have Hd := hid (drop_at fs k hlt)
        obtain ⟨fst, hfst⟩ : ∃ fst, ((k : Int) == 0) = fst := ⟨_, rfl⟩
        have Hfst : Hid ((k == 0) = fst) := by
          apply hid; rw [← hfst]
          by_cases h : k = 0
          · rw [eqT (by omega)]; simp [h]
          · rw [eqF (by omega)]; simp [h]
        obtain ⟨r, hr⟩ : ∃ r, lookE fs[k] ahead fst = r := ⟨_, rfl⟩
        have Hl := hid (look_any fs[k] ahead fst hl.1 hl.2)
        rw [hr] at Hl
        have Hr := hid hr; clear hr
        go_wp2_with fail
        refine (Hl.out _).mono ?_
        rintro e w2 ⟨rfl, hb2⟩
        rw [World.size_alloc] at hb2
        have d0 : w2.cell? ⟨wr.heap.size, 0, none⟩ = some (.string (bs fs[k].1)) := (hb2.cell (by simp)).trans (by rw [World.cell?_alloc_mark]; rfl)
        have hb3 := (hbw.alloc hsz _).trans (hb2.mono (by omega))
        clear hb2
        by_cases h0 : r = 0
        · subst h0
          go_wp2_with fail
          refine ⟨⟨k + 1, fs[k].1, by omega, by go_num, rfl, ?_, hb3⟩, by simp [intOf]; omega⟩
          rw [Hg.out, Hd.out, checkFrom, Hfst.out, if_pos Hr.out, show (k + 1 == 0) = false from by simp]
        · have hne : ((r : Int) != 0) = true := neT (by omega)
          go_wp2_with fail
          go_ret
          exact ⟨by rw [Hg.out, Hd.out, checkFrom, Hfst.out, if_neg (by rw [Hr.out]; exact h0), Hr.out]; rfl, hb3⟩
      · go_wp2
        go_ret
        exact ⟨by rw [Hg.out, List.drop_eq_nil_of_le (by omega)]; rfl, hbw⟩

theorem str_info : (Tryd.prog.info? 9).map (fun i => (i.zero, i.size, i.bytes)) = some (some (.string ⟨#[]⟩), 1, 16) := by kernel_rfl

def pathsL (fs : List FileL) (d : List UInt8) : List (List UInt8) := if checkL fs = 0 then (fs.filter fun f => underB f.1 d).map (·.1) else []
def pathsTo (fs : List FileL) (d : List UInt8) (k : Nat) : List (List UInt8) := ((fs.take k).filter fun f => underB f.1 d).map (·.1)
theorem pathsTo_succ (fs : List FileL) (d : List UInt8) (k : Nat) (h : k < fs.length) : pathsTo fs d (k + 1) = pathsTo fs d k ++ (if underB fs[k].1 d = true then [fs[k].1] else []) := by
  unfold pathsTo
  rw [take_at _ _ h, List.filter_append, List.map_append]
  by_cases hu : underB fs[k].1 d = true
  · rw [if_pos hu, List.filter_cons_of_pos (by exact hu)]; rfl
  · rw [if_neg hu, List.filter_cons_of_neg (by exact hu)]; rfl
theorem pathsTo_len (fs : List FileL) (d : List UInt8) (k : Nat) : (pathsTo fs d k).length ≤ k := by
  unfold pathsTo
  rw [List.length_map]
  exact Nat.le_trans (List.length_filter_le _ _) (List.length_take_le _ _)

def PathsPost (fs : List FileL) (d : List UInt8) (w : World) (e : Ending) (w' : World) : Prop :=
  ∃ v, e = .returned v ∧ SliceAt w' 1 v (pathsL fs d).length (strCells (pathsL fs d)) ∧ Below w.heap.size w w'

set_option maxHeartbeats 1000000 in
theorem paths_any (v0 : Value) (n0 : Nat) (fs : List FileL) (d : List UInt8) (hd : d.length ≤ 1000000000000) (w : World) (h0 : SliceAt w 2 v0 n0 (fileCells fs)) (hbig : ∀ f ∈ fs, f.1.length ≤ 1000000000000 ∧ f.2.length ≤ 1000000000000) :
    Calls Tryd.prog 9 #[v0, .string (bs d)] w (PathsPost fs d w) := by
  obtain ⟨i0, hi, hz0, hz1, hz2⟩ := info_parts str_info
  have h00 := h0
  have Hck := hid (check_any v0 n0 fs w h0 hbig)
  obtain ⟨r, hr⟩ : ∃ r, checkL fs = r := ⟨_, rfl⟩
  rw [hr] at Hck
  have Hr := hid hr; clear hr
  by_cases hr0 : r = 0
  · subst hr0
    have hpl : Hid (pathsL fs d = pathsTo fs d fs.length) := by
      apply hid; unfold pathsL pathsTo; rw [if_pos Hr.out, List.take_length]
    have hlen : fs.length ≤ 1024 := by
      rcases Nat.lt_or_ge 1024 fs.length with h | h
      · have := Hr.out; rw [checkL, if_pos h] at this; cases this
      · exact h
    obtain ⟨rfl, a0, c0, rfl, hc0, hm0, -⟩ := h0.files
    clear h0
    unfold maxLen at hm0
    go_enter Tryd.func9, Tryd.ntmps9
    go_wp2_with fail
    refine Hck.out.mono ?_
    rintro e w1 ⟨rfl, hb1⟩
    go_wp2_with fail
    go_loopw [5, 13] (fun o i wr => ∃ k : Nat, k ≤ fs.length ∧ i = .int .i64 k ∧ wr.ownsRow w.heap.size 9 1 o (pathsTo fs d k).length (strCells (pathsTo fs d k)) ∧ Below w.heap.size w wr) (fun _ i _ => fs.length - (intOf i).toNat)
    case atStart => exact ⟨0, by omega, rfl, World.ownsRow_nil _ _ _ _, hb1⟩
    case round =>
      obtain ⟨k, hk, rfl, hown, hbw⟩ := hrel
      have hsz := hbw.size
      by_cases hlt : k < fs.length
      · obtain ⟨-, a1, c1, hv, -, -, hx1⟩ := (h00.below hbw (Nat.le_refl _)).files
        obtain ⟨b0, o0, rfl, hb0, hcl0⟩ := hx1 k hlt
        obtain ⟨rfl, rfl⟩ : a0 = some ⟨b0, o0, none⟩ ∧ c0 = c1 := by simpa using hv
        have e0 := (hcl0 k hlt).1
        have e1 := (hcl0 k hlt).2
        have hl := (hbig fs[k] (List.getElem_mem hlt)).1
        clear hcl0 hx1 hv
        have Hs := hid (pathsTo_succ fs d k hlt)
        have hpl2 := pathsTo_len fs d k
        obtain ⟨u, hu⟩ : ∃ u, underB fs[k].1 d = u := ⟨_, rfl⟩
        have Hu := hid (under_is fs[k].1 d hl hd u hu)
        rw [hu] at Hs
        clear hu
        go_wp2_with fail
        refine (Hu.out _).mono ?_
        rintro e w2 ⟨rfl, hb2⟩
        rw [World.size_alloc] at hb2
        have d0 : w2.cell? ⟨wr.heap.size, 0, none⟩ = some (.string (bs fs[k].1)) := (hb2.cell (by simp)).trans (by rw [World.cell?_alloc_mark]; rfl)
        have hb3 := (hbw.alloc hsz _).trans (hb2.mono (by omega))
        have hs3 := hb3.size
        have hown2 := ownsRow_below (hown.alloc (.cells #[.string (bs fs[k].1), .string (bs fs[k].2)] 30)) (by rw [World.size_alloc]; exact hb2)
        clear hb2 hown
        cases u with
        | false =>
          go_wp2_with fail
          refine ⟨⟨k + 1, by omega, by go_num, ?_, hb3⟩, by simp [intOf]; omega⟩
          rw [Hs.out]; simpa using hown2
        | true =>
          go_wp2_with (at_builtin; go_must (refine wpList_append_own _ rfl _ _ 31 rfl w.heap.size 9 i0 (.string ⟨#[]⟩) 1 16 Tryd.underlying31 hi hz0 hz1 hz2 rfl (by decide) _ _ _ rfl (hown2.alloc _) ⟨w2.heap.size, 0, none⟩ 1 1 [.string (bs fs[k].1)] rfl rfl ?c1 ?c2 ?c3 ?c4 ?c5 ?_))
          case c1 => exact new_cells _ #[_] _ _
          case c2 => intro u hu; simp at hu; subst hu; rfl
          case c3 => unfold maxLen; omega
          case c4 => omega
          case c5 => simp; omega
          intro v4 w4 hown4 hgrow4 _
          have hb4 : Below w.heap.size w w4 := (hb3.alloc hs3 _).grown hgrow4 (by simp; omega) (fun k hk => (hown2.lt k hk).1)
          clear hgrow4 hown2
          go_wp2_with fail
          refine ⟨⟨k + 1, by omega, by go_num, ?_, hb4⟩, by simp [intOf]; omega⟩
          rw [Hs.out, if_pos trivial, List.length_append, strCells_append]; exact hown4
      · go_wp2_with fail
        go_ret
        have hkk : k = fs.length := by omega
        subst hkk
        refine ⟨_, rfl, ?_, hbw⟩
        rw [hpl.out]
        exact SliceAt.of_owns hown (Nat.le_trans (pathsTo_len _ _ _) (by unfold maxLen; omega))
  · have hne : ((r : Int) != 0) = true := neT (by omega)
    go_enter Tryd.func9, Tryd.ntmps9
    go_wp2_with fail
    refine Hck.out.mono ?_
    rintro e w1 ⟨rfl, hb1⟩
    go_wp2_with fail
    go_ret
    refine ⟨_, rfl, ?_, hb1⟩
    rw [show pathsL fs d = [] from by unfold pathsL; rw [if_neg (by rw [Hr.out]; exact hr0)]]
    exact SliceAt.nil _ _
end Go.Proofs.YtilkneajohpgiaaDoor
