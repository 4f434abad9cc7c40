/- strings.NewReplacer at the six texts. -/
import Derived.Test.YtnfjlimecoikpaaGreatDoorOnce
namespace Go.Proofs.YtnfjlimecoikpaaGreatDoor
set_option maxRecDepth 100000
open Go.RowKit

theorem str_info : (Tryz.prog.info? 9).map (fun i => (i.zero, i.size, i.bytes)) = some (some (.string ⟨#[]⟩), 1, 16) := by kernel_rfl
def sixT : List (List UInt8) := [[34], [92, 34], [92], [92, 92], [10], [92, 110]]
structure Six (w : World) (b o : Nat) : Prop where
  lt : b < w.heap.size
  s0 : w.cell? ⟨b, o, none⟩ = some (.string (bs [34]))
  s1 : w.cell? ⟨b, o + 1, none⟩ = some (.string (bs [92, 34]))
  s2 : w.cell? ⟨b, o + 2, none⟩ = some (.string (bs [92]))
  s3 : w.cell? ⟨b, o + 3, none⟩ = some (.string (bs [92, 92]))
  s4 : w.cell? ⟨b, o + 4, none⟩ = some (.string (bs [10]))
  s5 : w.cell? ⟨b, o + 5, none⟩ = some (.string (bs [92, 110]))
theorem six_open {w : World} {v : Value} (h : SliceAt w 1 v 6 (strCells sixT)) : ∃ (b o c : Nat), v = .slice (some ⟨b, o, none⟩) 6 c ∧ 6 ≤ c ∧ c ≤ maxLen ∧ Six w b o := by
  obtain ⟨_, a, c, rfl, hc, hm, hx⟩ := h.str
  obtain ⟨b, o, rfl, hlt, hcell⟩ := hx 0 (by decide)
  exact ⟨b, o, c, rfl, hc, hm, hlt, hcell 0 (by decide), hcell 1 (by decide), hcell 2 (by decide), hcell 3 (by decide), hcell 4 (by decide), hcell 5 (by decide)⟩
structure Repl (w : World) (b : Nat) (done st : Int) (r v : Value) : Prop where
  c0 : w.cell? ⟨b, 0, none⟩ = some (.int .u32 done)
  c1 : w.cell? ⟨b, 1, none⟩ = some (.int .i32 st)
  c2 : w.cell? ⟨b, 2, none⟩ = some (.int .u32 0)
  c3 : w.cell? ⟨b, 3, none⟩ = some r
  c4 : w.cell? ⟨b, 4, none⟩ = some v
  fr : Free w b
theorem Repl.past {B : Nat} {w w' : World} {b : Nat} {done st : Int} {r v : Value} (h : Repl w b done st r v) (hb : Below B w w') (hlt : b < B) : Repl w' b done st r v :=
  ⟨(hb.cell (p := ⟨b, 0, none⟩) hlt).trans h.1, (hb.cell (p := ⟨b, 1, none⟩) hlt).trans h.2, (hb.cell (p := ⟨b, 2, none⟩) hlt).trans h.3, (hb.cell (p := ⟨b, 3, none⟩) hlt).trans h.4, (hb.cell (p := ⟨b, 4, none⟩) hlt).trans h.5, h.fr.past hb hlt⟩
theorem repl_new (w : World) (x0 x1 x2 x3 x4 : Value) (e : TypeId) : (w.alloc (.cells #[x0, x1, x2, x3, x4] e)).cell? ⟨w.heap.size, 0, none⟩ = some x0 ∧ (w.alloc (.cells #[x0, x1, x2, x3, x4] e)).cell? ⟨w.heap.size, 1, none⟩ = some x1 ∧ (w.alloc (.cells #[x0, x1, x2, x3, x4] e)).cell? ⟨w.heap.size, 2, none⟩ = some x2 ∧ (w.alloc (.cells #[x0, x1, x2, x3, x4] e)).cell? ⟨w.heap.size, 3, none⟩ = some x3 ∧ (w.alloc (.cells #[x0, x1, x2, x3, x4] e)).cell? ⟨w.heap.size, 4, none⟩ = some x4 :=
  ⟨by rw [World.cell?_alloc_mark]; rfl, by rw [World.cell?_alloc_mark]; rfl, by rw [World.cell?_alloc_mark]; rfl, by rw [World.cell?_alloc_mark]; rfl, by rw [World.cell?_alloc_mark]; rfl⟩
/-- A replacer not yet built, over the six texts. -/
def Unbuilt (w : World) (b : Nat) : Prop := ∃ (v : Value) (w1 : World), Repl w b 0 0 .nilIface v ∧ SliceAt w1 1 v 6 (strCells sixT) ∧ w1.heap.size ≤ b ∧ Below b w1 w

set_option maxHeartbeats 1000000 in
theorem new_any (v : Value) (w : World) (h : SliceAt w 1 v 6 (strCells sixT)) :
    Calls Tryz.prog 59 #[v] w fun e w' => ∃ b, e = .returned (.pointer (some ⟨b, 0, none⟩)) ∧ Unbuilt w' b ∧ w.heap.size ≤ b ∧ b < w'.heap.size ∧ Below w.heap.size w w' := by
  obtain ⟨i0, hi, hz0, hz1, hz2⟩ := info_parts str_info
  obtain ⟨b0, o0, c, rfl, hc, hm, _⟩ := six_open h
  have Hs := hid h
  clear h
  go_enter Tryz.func59, Tryz.ntmps59
  go_wp2_with (at_builtin; go_must (refine wpList_append_src rfl _ _ 23 rfl w.heap.size 9 i0 (.string ⟨#[]⟩) 1 16 Tryz.underlying23 hi hz0 hz1 hz2 rfl (by decide) _ 0 [] rfl ?c1 _ 6 (strCells sixT) rfl ?c2 ?c3 ?c4 ?c5 ?c6 ?_))
  case c1 => exact ⟨rfl, .inl ⟨rfl, rfl⟩⟩
  case c2 => exact Hs.out
  case c3 => exact strCells_one _
  case c4 => unfold maxLen; omega
  case c5 => omega
  case c6 => simp
  intro v' w1 hown hgrow
  have hb1 : Below w.heap.size w w1 := (Below.refl _ w).grown hgrow (by simp) (by intro k hk; simp [Value.ownBlock] at hk)
  have hsl : SliceAt w1 1 v' 6 (strCells sixT) := SliceAt.of_owns (n := 6) (by exact hown) (by decide)
  obtain ⟨b1, o1, c1, rfl, hc1, hm1, _⟩ := six_open hsl
  have Hs1 := hid hsl
  clear hown hsl
  have HR := hid (repl_new w1 (.int .u32 0) (.int .i32 0) (.int .u32 0) .nilIface (.slice (some ⟨b1, o1, none⟩) 6 c1) 104)
  have HF := hid (free_new w1 #[.int .u32 0, .int .i32 0, .int .u32 0, .nilIface, .slice (some ⟨b1, o1, none⟩) 6 c1] 104)
  go_wp2_with fail
  go_ret
  exact ⟨w1.heap.size, rfl, ⟨_, w1, ⟨HR.out.1, HR.out.2.1, HR.out.2.2.1, HR.out.2.2.2.1, HR.out.2.2.2.2, HF.out⟩, Hs1.out, Nat.le_refl _, (Below.refl _ _).alloc (Nat.le_refl _) _⟩, hb1.size, by simp, hb1.trans ((Below.refl _ _).alloc hb1.size _)⟩
end Go.Proofs.YtnfjlimecoikpaaGreatDoor
