/- The walks of the reference's 'with'. -/
import Derived.Test.YtffmjjocjcomnaaDoorDiffPlain
import Derived.Deep.Onto
namespace Go.Proofs.YtffmjjocjcomnaaDoor
open Go.RowKit

theorem file_info : (Tryd.prog.info? 40).map (fun i => (i.zero, i.size, i.bytes)) = some (some (.agg #[.string ⟨#[]⟩, .string ⟨#[]⟩]), 2, 32) := by kernel_rfl
theorem withGo_cons (f g : FileL) (d : Bool) (t : List FileL) : withGo f d (g :: t) = (if d = false ∧ (less f.1 g.1 || f.1 == g.1) = true then [f] else []) ++ ((if (g.1 == f.1) = true then [] else [g]) ++ withGo f (d || (less f.1 g.1 || f.1 == g.1)) t) := rfl
theorem own_files {w : World} {base e : Nat} {v : Value} {n : Nat} {out : List FileL} (h : w.ownsRow base e 2 v n (fileCells out)) : n = out.length := by
  have := h.1; rw [fileCells_len] at this; omega

def FilesPost (xs : List FileL) (w : World) (e : Ending) (w' : World) : Prop :=
  ∃ v, e = .returned v ∧ w'.ownsRow w.heap.size 40 2 v xs.length (fileCells xs) ∧ Below w.heap.size w w'

set_option maxHeartbeats 4000000 in
set_option maxRecDepth 100000 in
theorem with_any (v0 : Value) (n0 : Nat) (fs : List FileL) (f : FileL) (w : World) (h0 : SliceAt w 2 v0 n0 (fileCells fs)) (hlen : fs.length ≤ 1000000) :
    Calls Tryd.prog 34 #[v0, .agg #[.string (bs f.1), .string (bs f.2)]] w (FilesPost (withL fs f) w) := by
  obtain ⟨i0, hi, hz0, hz1, hz2⟩ := info_parts file_info
  have hW1 : Below w.heap.size w (w.alloc (.cells #[.string (bs f.1), .string (bs f.2)] 40)) := (Below.refl _ _).alloc (Nat.le_refl _) _
  have h00 := h0.below hW1 (Nat.le_refl _)
  have Hq : Hid (∀ W, Below (w.heap.size + 1) (w.alloc (.cells #[.string (bs f.1), .string (bs f.2)] 40)) W → W.cell? ⟨w.heap.size, 0, none⟩ = some (.string (bs f.1)) ∧ W.cell? ⟨w.heap.size, 1, none⟩ = some (.string (bs f.2))) := by
    apply hid; intro W hW
    exact ⟨(hW.cell (by simp)).trans (by rw [World.cell?_alloc_mark]; rfl), (hW.cell (by simp)).trans (by rw [World.cell?_alloc_mark]; rfl)⟩
  have hs1 : (w.alloc (.cells #[.string (bs f.1), .string (bs f.2)] 40)).heap.size = w.heap.size + 1 := by rw [World.size_alloc]
  obtain ⟨rfl, a0, c0, rfl, hc0, hm0, -⟩ := h0.files
  clear h0
  unfold maxLen at hm0
  have HW1 := hid hW1; clear hW1
  have hwl : withL fs f = withGo f false fs := rfl
  have Hwl := hid hwl; clear hwl
  have hwlen := with_len f fs false
  generalize withL fs f = res at Hwl
  obtain ⟨p, d⟩ := f
  go_enter Tryd.func34, Tryd.ntmps34
  go_wp2_with fail
  go_loopw [5, 6, 11] (fun o dn i wr => ∃ (k : Nat) (done : Bool) (out : List FileL), k ≤ fs.length ∧ i = .int .i64 k ∧ dn = .bool done ∧ wr.ownsRow (w.heap.size + 1) 40 2 o out.length (fileCells out) ∧ out.length ≤ 2 * k ∧ res = out ++ withGo (p, d) done (fs.drop k) ∧ Below (w.heap.size + 1) (w.alloc (.cells #[.string (bs p), .string (bs d)] 40)) wr) (fun _ _ i _ => fs.length - (intOf i).toNat)
  case atStart =>
    refine ⟨0, false, [], by omega, rfl, rfl, ?_, by simp, Hwl.out, (Below.refl _ _).alloc (by rw [World.size_alloc]; omega) _⟩
    refine ⟨rfl, .inr ⟨w.heap.size + 1, 0, #[], rfl, Nat.le_refl _, ?_, Nat.le_refl _, by simp [maxLen], by simp, by simp [fileCells]⟩⟩
    have := heap_alloc_new (w.alloc (.cells #[.string (bs p), .string (bs d)] 40)) (.cells #[] 40)
    rwa [World.size_alloc] at this
  case round =>
    obtain ⟨k, done, out, hk, rfl, rfl, hown, hol, hg, hbw⟩ := hrel
    have Hg := hid hg; clear hg
    have hsz := hbw.size
    rw [hs1] at hsz
    have hq := Hq.out wr hbw
    have q0 := hq.1
    have q1 := hq.2
    clear hq
    by_cases hlt : k < fs.length
    · have hsl := h00.below hbw (by rw [hs1]; exact Nat.le_refl _)
      obtain ⟨-, a1, c1, hv, -, -, hx1⟩ := hsl.files
      obtain ⟨b0, o0, rfl, hb0, hcl0⟩ := hx1 k hlt
      obtain ⟨rfl, rfl⟩ : a0 = some ⟨b0, o0, none⟩ ∧ c0 = c1 := by simpa using hv
      have e0 := (hcl0 k hlt).1
      have e1 := (hcl0 k hlt).2
      have Hd := hid (drop_at fs k hlt)
      clear hcl0 hx1 hv hsl
      have Hcl : Hid (∀ W, Below (w.heap.size + 1) (w.alloc (.cells #[.string (bs p), .string (bs d)] 40)) W → W.cell? ⟨b0, o0 + k * 2, none⟩ = some (.string (bs fs[k].1)) ∧ W.cell? ⟨b0, o0 + k * 2 + 1, none⟩ = some (.string (bs fs[k].2))) := by
        apply hid
        intro W hW
        obtain ⟨-, a2, c2, hv2, -, -, hx2⟩ := (h00.below hW (by rw [hs1]; exact Nat.le_refl _)).files
        obtain ⟨b2, o2, rfl, hb2, hcl2⟩ := hx2 k hlt
        obtain ⟨⟨rfl, rfl⟩, rfl⟩ : (b0 = b2 ∧ o0 = o2) ∧ c0 = c2 := by simpa using hv2
        exact hcl2 k hlt
      obtain ⟨g, hg⟩ : ∃ g, fs[k] = g := ⟨_, rfl⟩
      rw [hg] at e0 e1 Hd Hcl
      clear hg
      obtain ⟨gp, gd⟩ := g
      simp only at e0 e1 Hcl
      obtain ⟨b1, hb1⟩ : ∃ b1, Op.bytesLess p gp = b1 := ⟨_, rfl⟩
      obtain ⟨b2, hb2⟩ : ∃ b2, (p == gp) = b2 := ⟨_, rfl⟩
      have hb3 : (gp == p) = b2 := by rw [← hb2]; exact Bool.beq_comm
      have hb12 : b1 = true → b2 = false := fun h => by
        rw [← hb2]; have := less_ne (x := p) (y := gp) (by rw [← h]; exact hb1); simpa using this
      have Hgo : Hid (res = out ++ ((if done = false ∧ (b1 || b2) = true then [(p, d)] else []) ++ ((if b2 = true then [] else [(gp, gd)]) ++ withGo (p, d) (done || (b1 || b2)) (fs.drop (k + 1))))) := by
        apply hid
        rw [Hg.out, Hd.out, withGo_cons]
        show _ = _
        simp only [less, hb1, hb2, hb3]
      clear Hg
      have hbd : ∀ n, Below (w.heap.size + 1) (w.alloc (.cells #[.string (bs p), .string (bs d)] 40)) (wr.drewN n) := fun n => hbw.trans (Drawn.below ⟨n, rfl⟩)
      have Hbd := hid hbd; clear hbd
      have Hown := hid hown
      cases done with
      | true =>
        cases b2 with
        | true =>
          go_wp2_with fail
          any_goals go_quiet (fail)
          any_goals go_wp2_with fail
          any_goals go_quiet (fail)
          any_goals go_wp2_with fail
          refine ⟨⟨k + 1, true, out, by omega, by go_num, rfl, ownsRow_drewN hown _, by omega, ?_, Hbd.out _⟩, by simp [intOf]; omega⟩
          rw [Hgo.out]; simp
        | false =>
          go_wp2_with fail
          any_goals go_quiet (fail)
          any_goals go_wp2_with fail
          any_goals go_quiet (fail)
          go_wp2_with (at_builtin; go_must (refine wpList_append_own _ rfl _ _ 22 rfl (w.heap.size + 1) 40 i0 (.agg #[.string ⟨#[]⟩, .string ⟨#[]⟩]) 2 32 Tryd.underlying22 hi hz0 hz1 hz2 rfl (by decide) _ _ _ rfl ((ownsRow_drewN hown _).alloc _) ⟨_, 0, none⟩ 1 1 [.string (bs gp), .string (bs gd)] rfl rfl ?c1 ?c2 ?c3 ?c4 ?c5 ?_))
          case c1 => exact new_cells _ #[_, _] _ _
          case c2 => intro u hu; simp at hu; rcases hu with rfl | rfl <;> rfl
          case c3 => unfold maxLen; (try simp only [List.length_append, List.length_cons, List.length_nil]); omega
          case c4 => (try simp only [List.length_append, List.length_cons, List.length_nil]); omega
          case c5 => simp; omega
          intro v4 w4 hown4 hgrow4 _
          have hb4 := ((Hbd.out _).alloc (by show w.heap.size + 1 ≤ wr.heap.size; exact hsz) _).grown hgrow4 (by simp; omega) (fun k hk => (hown.lt k hk).1)
          clear hgrow4
          go_wp2_with fail
          refine ⟨⟨k + 1, true, out ++ [(gp, gd)], by omega, by go_num, rfl, ?_, by simp; omega, ?_, hb4⟩, by simp [intOf]; omega⟩
          · rw [List.length_append, fileCells_append]; exact hown4
          · rw [Hgo.out]; simp
      | false =>
        cases b1 with
        | true =>
          obtain rfl := hb12 rfl
          go_wp2_with fail
          any_goals go_quiet (fail)
          go_wp2_with (at_builtin; go_must (refine wpList_append_own _ rfl _ _ 22 rfl (w.heap.size + 1) 40 i0 (.agg #[.string ⟨#[]⟩, .string ⟨#[]⟩]) 2 32 Tryd.underlying22 hi hz0 hz1 hz2 rfl (by decide) _ _ _ rfl ((ownsRow_drewN hown _).alloc _) ⟨_, 0, none⟩ 1 1 [.string (bs p), .string (bs d)] rfl rfl ?c1 ?c2 ?c3 ?c4 ?c5 ?_))
          case c1 => exact new_cells _ #[_, _] _ _
          case c2 => intro u hu; simp at hu; rcases hu with rfl | rfl <;> rfl
          case c3 => unfold maxLen; (try simp only [List.length_append, List.length_cons, List.length_nil]); omega
          case c4 => (try simp only [List.length_append, List.length_cons, List.length_nil]); omega
          case c5 => simp; omega
          intro v4 w4 hown4 hgrow4 _
          have hb4 := ((Hbd.out _).alloc (by show w.heap.size + 1 ≤ wr.heap.size; exact hsz) _).grown hgrow4 (by simp; omega) (fun k hk => (hown.lt k hk).1)
          clear hgrow4
          have hsz4 := hb4.size
          rw [hs1] at hsz4
          obtain ⟨f0, f1⟩ := Hcl.out _ hb4
          obtain ⟨r0, r1⟩ := Hq.out _ hb4
          clear e0 e1 q0 q1
          go_wp2_with fail
          any_goals go_quiet (fail)
          go_wp2_with (at_builtin; go_must (refine wpList_append_own _ rfl _ _ 22 rfl (w.heap.size + 1) 40 i0 (.agg #[.string ⟨#[]⟩, .string ⟨#[]⟩]) 2 32 Tryd.underlying22 hi hz0 hz1 hz2 rfl (by decide) _ _ _ rfl ((ownsRow_drewN hown4 _).alloc _) ⟨_, 0, none⟩ 1 1 [.string (bs gp), .string (bs gd)] rfl rfl ?c1 ?c2 ?c3 ?c4 ?c5 ?_))
          case c1 => exact new_cells _ #[_, _] _ _
          case c2 => intro u hu; simp at hu; rcases hu with rfl | rfl <;> rfl
          case c3 => unfold maxLen; (try simp only [List.length_append, List.length_cons, List.length_nil]); omega
          case c4 => (try simp only [List.length_append, List.length_cons, List.length_nil]); omega
          case c5 => simp; omega
          intro v5 w5 hown5 hgrow5 _
          have hb5 := ((hb4.trans (Drawn.below ⟨_, rfl⟩)).alloc (by show w.heap.size + 1 ≤ w4.heap.size; exact hsz4) _).grown hgrow5 (by simp; omega) (fun k hk => (hown4.lt k hk).1)
          clear hgrow5
          go_wp2_with fail
          refine ⟨⟨k + 1, true, out ++ [(p, d)] ++ [(gp, gd)], by omega, by go_num, rfl, ?_, by simp; omega, ?_, hb5⟩, by simp [intOf]; omega⟩
          · rw [List.length_append, List.length_append, fileCells_append, fileCells_append, List.append_assoc]; exact hown5
          · rw [Hgo.out]; simp
        | false =>
          cases b2 with
          | true =>
            go_wp2_with fail
            any_goals go_quiet (fail)
            go_wp2_with (at_builtin; go_must (refine wpList_append_own _ rfl _ _ 22 rfl (w.heap.size + 1) 40 i0 (.agg #[.string ⟨#[]⟩, .string ⟨#[]⟩]) 2 32 Tryd.underlying22 hi hz0 hz1 hz2 rfl (by decide) _ _ _ rfl ((ownsRow_drewN hown _).alloc _) ⟨_, 0, none⟩ 1 1 [.string (bs p), .string (bs d)] rfl rfl ?c1 ?c2 ?c3 ?c4 ?c5 ?_))
            case c1 => exact new_cells _ #[_, _] _ _
            case c2 => intro u hu; simp at hu; rcases hu with rfl | rfl <;> rfl
            case c3 => unfold maxLen; (try simp only [List.length_append, List.length_cons, List.length_nil]); omega
            case c4 => (try simp only [List.length_append, List.length_cons, List.length_nil]); omega
            case c5 => simp; omega
            intro v4 w4 hown4 hgrow4 _
            have hb4 := ((Hbd.out _).alloc (by show w.heap.size + 1 ≤ wr.heap.size; exact hsz) _).grown hgrow4 (by simp; omega) (fun k hk => (hown.lt k hk).1)
            clear hgrow4
            obtain ⟨f0, f1⟩ := Hcl.out _ hb4
            obtain ⟨r0, r1⟩ := Hq.out _ hb4
            clear e0 e1 q0 q1
            go_wp2_with fail
            any_goals go_quiet (fail)
            any_goals go_wp2_with fail
            refine ⟨⟨k + 1, true, out ++ [(p, d)], by omega, by go_num, rfl, ?_, by simp; omega, ?_, hb4.trans (Drawn.below ⟨_, rfl⟩)⟩, by simp [intOf]; omega⟩
            · rw [List.length_append, fileCells_append]; exact ownsRow_drewN hown4 _
            · rw [Hgo.out]; simp
          | false =>
            go_wp2_with fail
            any_goals go_quiet (fail)
            any_goals go_wp2_with fail
            any_goals go_quiet (fail)
            go_wp2_with (at_builtin; go_must (refine wpList_append_own _ rfl _ _ 22 rfl (w.heap.size + 1) 40 i0 (.agg #[.string ⟨#[]⟩, .string ⟨#[]⟩]) 2 32 Tryd.underlying22 hi hz0 hz1 hz2 rfl (by decide) _ _ _ rfl ((ownsRow_drewN hown _).alloc _) ⟨_, 0, none⟩ 1 1 [.string (bs gp), .string (bs gd)] rfl rfl ?c1 ?c2 ?c3 ?c4 ?c5 ?_))
            case c1 => exact new_cells _ #[_, _] _ _
            case c2 => intro u hu; simp at hu; rcases hu with rfl | rfl <;> rfl
            case c3 => unfold maxLen; (try simp only [List.length_append, List.length_cons, List.length_nil]); omega
            case c4 => (try simp only [List.length_append, List.length_cons, List.length_nil]); omega
            case c5 => simp; omega
            intro v4 w4 hown4 hgrow4 _
            have hb4 := ((Hbd.out _).alloc (by show w.heap.size + 1 ≤ wr.heap.size; exact hsz) _).grown hgrow4 (by simp; omega) (fun k hk => (hown.lt k hk).1)
            clear hgrow4
            go_wp2_with fail
            refine ⟨⟨k + 1, false, out ++ [(gp, gd)], by omega, by go_num, rfl, ?_, by simp; omega, ?_, hb4⟩, by simp [intOf]; omega⟩
            · rw [List.length_append, fileCells_append]; exact hown4
            · rw [Hgo.out]; simp
    · have hke : fs.drop k = [] := List.drop_eq_nil_of_le (by omega)
      cases done with
      | true =>
        go_wp2_with fail
        go_ret
        refine ⟨_, rfl, ?_, HW1.out.trans (hbw.mono (by omega))⟩
        rw [Hg.out, hke, withGo, if_pos rfl, List.append_nil]
        exact hown.mono (by omega)
      | false =>
        go_wp2_with (at_builtin; go_must (refine wpList_append_own _ rfl _ _ 22 rfl (w.heap.size + 1) 40 i0 (.agg #[.string ⟨#[]⟩, .string ⟨#[]⟩]) 2 32 Tryd.underlying22 hi hz0 hz1 hz2 rfl (by decide) _ _ _ rfl (hown.alloc _) ⟨_, 0, none⟩ 1 1 [.string (bs p), .string (bs d)] rfl rfl ?c1 ?c2 ?c3 ?c4 ?c5 ?_))
        case c1 => exact new_cells _ #[_, _] _ _
        case c2 => intro u hu; simp at hu; rcases hu with rfl | rfl <;> rfl
        case c3 => unfold maxLen; (try simp only [List.length_append, List.length_cons, List.length_nil]); omega
        case c4 => (try simp only [List.length_append, List.length_cons, List.length_nil]); omega
        case c5 => simp; omega
        intro v4 w4 hown4 hgrow4 _
        have hb4 := (hbw.alloc hsz _).grown hgrow4 (by simp; omega) (fun k hk => (hown.lt k hk).1)
        clear hgrow4
        go_wp2_with fail
        go_ret
        refine ⟨_, rfl, ?_, HW1.out.trans (hb4.mono (by omega))⟩
        rw [Hg.out, hke, withGo, if_neg (by decide), List.length_append, fileCells_append]
        exact World.ownsRow.mono hown4 (by omega)
end Go.Proofs.YtffmjjocjcomnaaDoor
