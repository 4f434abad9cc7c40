/- sync.Once's Do at the replacer. -/
import Derived.Test.YtnfjlimecoikpaaGreatDoorReplOnce
namespace Go.Proofs.YtnfjlimecoikpaaGreatDoor
set_option maxRecDepth 100000
open Go.RowKit

set_option maxHeartbeats 2000000 in
theorem slow_any (b b1 o1 c1 : Nat) (r0 : Value) (w : World) (hr : Repl w b 0 0 r0 (.slice (some ⟨b1, o1, none⟩) 6 c1)) (h6 : Six w b1 o1) (hb1b : b1 ≠ b) :
    Calls Tryz.prog 89 #[.pointer (some ⟨b, 0, none⟩), .func (.func 77) #[.pointer (some ⟨b, 0, none⟩)] #[]] w fun e w' => e = .returned (.tuple #[]) ∧ Ready w' b 1 0 ∧ Below b w w' := by
  have Hr := hid hr
  have hc1' := hr.c1
  have hz1' := hr.fr 1
  have HrL := hid (hr.put1 1)
  have H6L : Hid (Six (w.setCell ⟨b, 1, none⟩ (.int .i32 1)) b1 o1) := hid (by
    have hn : ∀ j : Nat, (⟨b, 1, none⟩ : Addr) ≠ ⟨b1, j, none⟩ := fun j e => hb1b (congrArg Addr.block e).symm
    exact ⟨by simpa using h6.lt, (World.cell?_setCell_other _ _ _ _ (hn _)).trans h6.s0, (World.cell?_setCell_other _ _ _ _ (hn _)).trans h6.s1, (World.cell?_setCell_other _ _ _ _ (hn _)).trans h6.s2, (World.cell?_setCell_other _ _ _ _ (hn _)).trans h6.s3, (World.cell?_setCell_other _ _ _ _ (hn _)).trans h6.s4, (World.cell?_setCell_other _ _ _ _ (hn _)).trans h6.s5⟩)
  clear hr h6
  have hnot : ∀ (x : Bool) (w : World), (Op.unary .not (.bool x)).run Tryz.prog w = .ok (.bool (!x)) w := fun _ _ => rfl
  go_enter_defers Tryz.func89, Tryz.ntmps89
  go_wp2_with (first
    | (go_at_call 108; refine (lock_free ⟨b, 1, none⟩ _ hc1' hz1').mono ?_; rintro e w' ⟨rfl, rfl⟩)
    | (go_at_call 88; refine (bload_any ⟨b, 0, none⟩ 0 _ HrL.out.c0).mono ?_; rintro e w' ⟨rfl, rfl⟩)
    | (go_at_call 77; refine (buildOnce_any b b1 o1 c1 0 1 r0 _ HrL.out H6L.out).mono ?_; rintro e w2 ⟨rfl, hrd, hb2⟩))
  obtain ⟨r, hR2, lo, hlo, hBu⟩ := hrd
  have hlt2 : b < w2.heap.size := World.block_lt_of_cell? w2 _ hR2.c0
  have hR2d := hR2.past ((Below.refl w2.heap.size w2).drew) hlt2
  have hR3 := hR2d.put0 1
  have hB3 := (hBu.past ((Below.refl w2.heap.size w2).drew) (Nat.le_refl _)).store hlo 0 (.int .u32 1)
  refine leaves_cons (f := 110) (args := #[.pointer (some ⟨b, 0, none⟩), .bool true]) (by simp) (by simp [go_sem]) ?_
  refine (store_deferred ⟨b, 0, none⟩ (.int .u32 0) .returning _ hR2.c0 (hR2.fr 0)).mono ?_
  rintro e u' w'' ⟨rfl, rfl, rfl⟩
  refine leaves_cons (f := 109) (args := #[.pointer (some ⟨b, 1, none⟩)]) (by simp [settle]) (by simp [go_sem]) ?_
  refine (unlock_deferred ⟨b, 1, none⟩ _ _ hR3.c1 (hR3.fr 1)).mono ?_
  rintro e u' w'' ⟨rfl, rfl, rfl⟩
  have HE : Hid (Ready ((w2.drew.setCell ⟨b, 0, none⟩ (.int .u32 1)).setCell ⟨b, 1, none⟩ (.int .i32 0)) b 1 0 ∧ Below b w ((w2.drew.setCell ⟨b, 0, none⟩ (.int .u32 1)).setCell ⟨b, 1, none⟩ (.int .i32 0))) :=
    hid ⟨⟨r, hR3.put1 0, lo, hlo, hB3.store hlo 1 _⟩, (((((Below.refl b w).setCell (p := ⟨b, 1, none⟩) (Nat.le_refl _) _).trans hb2).drew).setCell (p := ⟨b, 0, none⟩) (Nat.le_refl _) _).setCell (p := ⟨b, 1, none⟩) (Nat.le_refl _) _⟩
  simp [Leaves, settle, results, Tryz.f89]
  exact HE.out
set_option maxHeartbeats 1000000 in
theorem do_any (b b1 o1 c1 : Nat) (r0 : Value) (w : World) (hr : Repl w b 0 0 r0 (.slice (some ⟨b1, o1, none⟩) 6 c1)) (h6 : Six w b1 o1) (hb1b : b1 ≠ b) :
    Calls Tryz.prog 76 #[.pointer (some ⟨b, 0, none⟩), .func (.func 77) #[.pointer (some ⟨b, 0, none⟩)] #[]] w fun e w' => e = .returned (.tuple #[]) ∧ Ready w' b 1 0 ∧ Below b w w' := by
  have Hr := hid hr
  have H6 := hid h6
  clear hr h6
  go_enter Tryz.func76, Tryz.ntmps76
  go_wp2_with (first
    | (go_at_call 88; refine (bload_any ⟨b, 0, none⟩ 0 _ Hr.out.c0).mono ?_; rintro e w' ⟨rfl, rfl⟩)
    | (go_at_call 89; refine (slow_any b b1 o1 c1 r0 _ Hr.out H6.out hb1b).mono ?_; rintro e w2 ⟨rfl, hrd, hb2⟩))
  go_end0
  exact ⟨rfl, hrd, hb2⟩
end Go.Proofs.YtnfjlimecoikpaaGreatDoor
