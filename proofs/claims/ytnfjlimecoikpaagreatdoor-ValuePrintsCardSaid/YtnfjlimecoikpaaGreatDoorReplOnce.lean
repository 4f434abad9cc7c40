/- The replacer's build, once: buildOnce, doSlow, Do. -/
import Derived.Test.YtnfjlimecoikpaaGreatDoorReplWalk
namespace Go.Proofs.YtnfjlimecoikpaaGreatDoor
set_option maxRecDepth 100000
open Go.RowKit

theorem Repl.put0 {w : World} {b : Nat} {d st : Int} {r v : Value} (h : Repl w b d st r v) (n : Int) : Repl (w.setCell ⟨b, 0, none⟩ (.int .u32 n)) b n st r v :=
  ⟨World.cell?_setCell_same' _ _ _ (by rw [h.c0]; rfl), (World.cell?_setCell_other _ _ _ _ (by simp)).trans h.c1, (World.cell?_setCell_other _ _ _ _ (by simp)).trans h.c2, (World.cell?_setCell_other _ _ _ _ (by simp)).trans h.c3, (World.cell?_setCell_other _ _ _ _ (by simp)).trans h.c4, fun j => by rw [World.frozen?_setCell]; exact h.fr j⟩
theorem Repl.put1 {w : World} {b : Nat} {d st : Int} {r v : Value} (h : Repl w b d st r v) (n : Int) : Repl (w.setCell ⟨b, 1, none⟩ (.int .i32 n)) b d n r v :=
  ⟨(World.cell?_setCell_other _ _ _ _ (by simp)).trans h.c0, World.cell?_setCell_same' _ _ _ (by rw [h.c1]; rfl), (World.cell?_setCell_other _ _ _ _ (by simp)).trans h.c2, (World.cell?_setCell_other _ _ _ _ (by simp)).trans h.c3, (World.cell?_setCell_other _ _ _ _ (by simp)).trans h.c4, fun j => by rw [World.frozen?_setCell]; exact h.fr j⟩
theorem Repl.put3 {w : World} {b : Nat} {d st : Int} {r v : Value} (h : Repl w b d st r v) (x : Value) : Repl (w.setCell ⟨b, 3, none⟩ x) b d st x v :=
  ⟨(World.cell?_setCell_other _ _ _ _ (by simp)).trans h.c0, (World.cell?_setCell_other _ _ _ _ (by simp)).trans h.c1, (World.cell?_setCell_other _ _ _ _ (by simp)).trans h.c2, World.cell?_setCell_same' _ _ _ (by rw [h.c3]; rfl), (World.cell?_setCell_other _ _ _ _ (by simp)).trans h.c4, fun j => by rw [World.frozen?_setCell]; exact h.fr j⟩
theorem Repl.put4 {w : World} {b : Nat} {d st : Int} {r v : Value} (h : Repl w b d st r v) (x : Value) : Repl (w.setCell ⟨b, 4, none⟩ x) b d st r x :=
  ⟨(World.cell?_setCell_other _ _ _ _ (by simp)).trans h.c0, (World.cell?_setCell_other _ _ _ _ (by simp)).trans h.c1, (World.cell?_setCell_other _ _ _ _ (by simp)).trans h.c2, (World.cell?_setCell_other _ _ _ _ (by simp)).trans h.c3, World.cell?_setCell_same' _ _ _ (by rw [h.c4]; rfl), fun j => by rw [World.frozen?_setCell]; exact h.fr j⟩
/-- A replacer that is built. -/
def Ready (w : World) (b : Nat) (d st : Int) : Prop := ∃ r, Repl w b d st (.iface 147 (.pointer (some ⟨r, 0, none⟩))) (.slice none 0 0) ∧ ∃ lo, b < lo ∧ Built w lo r

set_option maxHeartbeats 1000000 in
theorem buildOnce_any (b b1 o1 c1 : Nat) (d st : Int) (r0 : Value) (w : World) (hr : Repl w b d st r0 (.slice (some ⟨b1, o1, none⟩) 6 c1)) (h6 : Six w b1 o1) :
    Calls Tryz.prog 77 #[.pointer (some ⟨b, 0, none⟩)] w fun e w' => e = .returned (.tuple #[]) ∧ Ready w' b d st ∧ Below b w w' := by
  have hlt : b < w.heap.size := World.block_lt_of_cell? w _ hr.c0
  have Hr := hid hr
  have H6 := hid h6
  clear hr h6
  go_enter Tryz.func77, Tryz.ntmps77
  go_wp2_with (go_at_call 90; refine (build_any b b1 o1 c1 _ Hr.out.c4 H6.out).mono ?_; rintro e w1 ⟨r, rfl, hB, hb1⟩; have HR1 := hid (Hr.out.past hb1 hlt); have HBu := hid hB; have q3 := HR1.out.c3; have q4 := HR1.out.c4; have z3 := HR1.out.fr 3; have z4 := HR1.out.fr 4; clear hB)
  go_end0
  exact ⟨rfl, ⟨r, (HR1.out.put3 _).put4 _, w.heap.size, hlt, (HBu.out.store hlt 3 _).store hlt 4 _⟩, ((hb1.mono (Nat.le_of_lt hlt)).setCell (Nat.le_refl _) _).setCell (Nat.le_refl _) _⟩

theorem bload_any (a : Addr) (x : Int) (w : World) (hc : w.cell? a = some (.int .u32 x)) :
    Calls Tryz.prog 88 #[.pointer (some a)] w fun e w' => e = .returned (.bool (x != 0)) ∧ w' = w := by
  have hl := run_call_load (P := Tryz.prog) Tryz.func107 (by kernel_rfl) (by kernel_rfl) (by kernel_rfl) .u32 (by kernel_rfl) (w := w) (a := a) (x := x) hc
  go_enter Tryz.func88, Tryz.ntmps88
  go_wp2
  go_ret
  exact ⟨rfl, rfl⟩
end Go.Proofs.YtnfjlimecoikpaaGreatDoor
