/- The walk of the reference's Drop. -/
import Derived.Test.YtffmjjocjcomnaaDoorPutRef
namespace Go.Proofs.YtffmjjocjcomnaaDoor
set_option maxRecDepth 100000
open Go.RowKit

def dropT (t : List FileL) (p : List UInt8) : List FileL := if checkL t = 0 then dropL t p else []
theorem drop_succ (fs : List FileL) (p : List UInt8) (k : Nat) (h : k < fs.length) : dropL (fs.take (k + 1)) p = dropL (fs.take k) p ++ if (fs[k].1 == p) = true then [] else [fs[k]] := by
  unfold dropL
  rw [take_at fs k h, List.filter_append]
  congr 1
  cases hq : (fs[k].1 == p) <;> simp [hq]
theorem drop_len (fs : List FileL) (p : List UInt8) : (dropL fs p).length ≤ fs.length := List.length_filter_le _ _

set_option maxHeartbeats 2000000 in
theorem refDrop_any (v0 : Value) (n0 : Nat) (fs : List FileL) (p : List UInt8) (w : World) (h0 : SliceAt w 2 v0 n0 (fileCells fs)) (hlen : fs.length ≤ 1000)
    (hbig : ∀ g ∈ fs, g.1.length ≤ 1000000000000 ∧ g.2.length ≤ 1000000000000) :
    Calls Tryd.prog 24 #[v0, .string (bs p)] w (FilesAt (dropT fs p) w) := by
  obtain ⟨i0, hi, hz0, hz1, hz2⟩ := info_parts file_info
  obtain ⟨c, hc⟩ : ∃ c, checkL fs = c := ⟨_, rfl⟩
  have Hc := hid (fun W (hW : Below w.heap.size w W) => refCheck_any v0 n0 fs W (h0.below hW (Nat.le_refl _)) hbig)
  rw [hc] at Hc
  have hW1 : Below w.heap.size w (w.alloc (.cells #[] 40)) := (Below.refl _ _).alloc (Nat.le_refl _) _
  by_cases h1 : c = 0
  · subst h1
    have Hd : Hid (dropT fs p = dropL fs p) := by apply hid; rw [dropT, if_pos hc]
    have h00 := h0
    obtain ⟨rfl, a0, c0, rfl, hc0, hm0, -⟩ := h0.files
    clear h0 hc
    unfold maxLen at hm0
    have H00 := hid h00
    clear h00
    go_enter Tryd.func24, Tryd.ntmps24
    go_wp2_with fail
    refine (Hc.out _ hW1).mono ?_
    rintro e w1 ⟨rfl, hb1⟩
    have hown1 := ownsRow_below (World.ownsRow_made (e := 40) (size := 2) w #[] 0 (Nat.le_refl w.heap.size) (Nat.zero_le _) (by simp)) hb1
    have hB1 : Below w.heap.size w w1 := hW1.trans (hb1.mono (by simp))
    clear hb1
    go_wp2_with fail
    go_loopw [5, 14] (fun o i wr => ∃ (k : Nat) (out : List FileL), k ≤ fs.length ∧ i = .int .i64 k ∧ wr.ownsRow w.heap.size 40 2 o out.length (fileCells out) ∧ out = dropL (fs.take k) p ∧ Below w.heap.size w wr) (fun _ i _ => fs.length - (intOf i).toNat)
    case atStart => exact ⟨0, [], by omega, rfl, hown1, rfl, hB1⟩
    case round =>
      obtain ⟨k, out, hk, rfl, hown, hout, hbw⟩ := hrel
      have hsz := hbw.size
      have hol : out.length ≤ k := by rw [hout]; exact Nat.le_trans (drop_len _ _) (by simp; omega)
      by_cases hlt : k < fs.length
      · obtain ⟨-, a1, c1, hv, -, -, hx1⟩ := (H00.out.below hbw (Nat.le_refl _)).files
        obtain ⟨b0, o0, rfl, hb0, hcl0⟩ := hx1 k hlt
        obtain ⟨rfl, rfl⟩ : a0 = some ⟨b0, o0, none⟩ ∧ c0 = c1 := by simpa using hv
        have e0 := (hcl0 k hlt).1
        have e1 := (hcl0 k hlt).2
        clear hcl0 hx1 hv
        have Hs := hid (drop_succ fs p k hlt)
        rw [← hout] at Hs
        clear hout
        obtain ⟨g, hg⟩ : ∃ g, fs[k] = g := ⟨_, rfl⟩
        rw [hg] at e0 e1 Hs
        clear hg
        obtain ⟨gp, gd⟩ := g
        simp only [] at e0 e1
        cases q0 : (gp == p) with
        | true =>
          go_wp2_with fail
          refine ⟨⟨k + 1, out, by omega, by go_num, hown, ?_, hbw⟩, by simp [intOf]; omega⟩
          rw [Hs.out]; simp [q0]
        | false =>
          go_wp2_with (at_builtin; go_must (refine wpList_append_own _ rfl _ _ 22 rfl w.heap.size 40 i0 (.agg #[.string ⟨#[]⟩, .string ⟨#[]⟩]) 2 32 Tryd.underlying22 hi hz0 hz1 hz2 rfl (by decide) _ _ _ rfl (hown.alloc _) ⟨_, 0, none⟩ 1 1 [.string (bs gp), .string (bs gd)] rfl rfl ?c1 ?c2 ?c3 ?c4 ?c5 ?_))
          case c2 => exact ⟨rfl, rfl⟩
          case c3 => unfold maxLen; omega
          case c4 => omega
          case c5 => omega
          intro v4 w4 hown4 hgrow4 _
          have hb4 := (hbw.alloc hsz _).grown hgrow4 (by simp; omega) (fun k hk => (hown.lt k hk).1)
          clear hgrow4
          go_wp2_with fail
          refine ⟨⟨k + 1, out ++ [(gp, gd)], by omega, by go_num, ?_, ?_, hb4⟩, by simp [intOf]; omega⟩
          · rw [List.length_append, fileCells_append]; exact hown4
          · rw [Hs.out]; simp [q0]
      · have hkk : k = fs.length := by omega
        subst hkk
        rw [List.take_length] at hout
        subst hout
        have hs := SliceAt.of_owns hown (by unfold maxLen; omega)
        go_wp2_with fail
        go_ret
        exact ⟨_, rfl, by rw [Hd.out]; exact hs, hbw⟩
  · have Hd : Hid (dropT fs p = []) := by apply hid; rw [dropT, if_neg (by rw [hc]; exact h1)]
    have q0 : ((c : Int) != 0) = true := neT (by omega)
    clear h1 hc
    go_enter Tryd.func24, Tryd.ntmps24
    go_wp2_with fail
    refine (Hc.out _ hW1).mono ?_
    rintro e w1 ⟨rfl, hb1⟩
    go_wp2_with fail
    go_ret
    exact ⟨_, rfl, by rw [Hd.out]; exact none_at _ _, hW1.trans (hb1.mono (by simp))⟩
end Go.Proofs.YtffmjjocjcomnaaDoor
