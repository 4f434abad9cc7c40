/- slices.Grow and slices.Concat at values. -/
import Derived.Test.YtnfjlimecoikpaaGreatDoorValDep
import Derived.Test.YtnfjlimecoikpaaGreatDoorValOf
import Derived.Lib.AppendZeros
namespace Go.Proofs.YtnfjlimecoikpaaGreatDoor
set_option maxRecDepth 100000
open Go.RowKit

theorem cells_one {w : World} : ∀ {l : List VM}, HeldL w l → ∀ u ∈ vmCells l, u.oneCell' = true
  | [], _, u, h => by cases h
  | v :: r, hl, u, h => by
    unfold HeldL at hl
    have h' : u ∈ v.cells ++ vmCells r := h
    rcases List.mem_append.1 h' with h | h
    · obtain ⟨⟨a1, n1, c1, e1⟩, a2, n2, c2, e2⟩ := held_slices hl.1
      cases v with
      | mk k n s lv kv l ks =>
        obtain rfl : lv = .slice a1 n1 c1 := e1
        obtain rfl : kv = .slice a2 n2 c2 := e2
        simp [VM.cells] at h
        rcases h with rfl | rfl | rfl | rfl | rfl <;> rfl
    · exact cells_one hl.2 u h
set_option maxHeartbeats 1000000 in
theorem grow_val (n : Nat) (hn : n ≤ 1000000) (w : World) : Calls Tryz.prog 67 #[.slice none 0 0, .int .i64 n] w fun e w' => ∃ v, e = .returned v ∧ w'.ownsRow w.heap.size 25 5 v 0 [] ∧ Below w.heap.size w w' := by
  obtain ⟨i1, hi1, hy0, hy1, hy2⟩ := info_parts pval_info
  by_cases h0 : n = 0
  · subst h0
    go_enter Tryz.func67, Tryz.ntmps67
    go_wp2_with fail
    go_ret
    exact ⟨_, rfl, World.ownsRow_nil _ _ _ _, Below.refl _ _⟩
  have hpos : 0 < (n : Int) := by omega
  have hr := hid (Lib.run_append_nil_zeros (P := Tryz.prog) w 22 3 22 25 i1 (.agg #[.int .i64 0, .int .i64 0, .string ⟨#[]⟩, .slice none 0 0, .slice none 0 0]) .i64 .i64 Tryz.underlying22 Tryz.underlying3 hi1 hy0 n (by omega) (by rw [hy1]; omega) (by omega) (by rw [hy2]; omega))
  have hg1 := grownCap_ge w n 0 25
  have hg2 := grownCap_le_maxLen w n 0 25 (by unfold maxLen; omega)
  generalize grownCap w n 0 25 = cap at *
  have hsz : (Builtin.zeroCells (Value.cells (.agg #[.int .i64 0, .int .i64 0, .string ⟨#[]⟩, .slice none 0 0, .slice none 0 0])) n ++ Builtin.zeroCells (Value.cells (.agg #[.int .i64 0, .int .i64 0, .string ⟨#[]⟩, .slice none 0 0, .slice none 0 0])) (cap - n)).size = cap * 5 := by
    rw [Array.size_append, size_zeroCells, size_zeroCells]
    show n * 5 + (cap - n) * 5 = cap * 5
    omega
  have HM := hid (World.ownsRow_made (base := w.heap.size) (e := 25) (size := 5) w.drew _ cap (Nat.le_refl _) hg2 hsz)
  have hbl : Below w.heap.size w (w.drew.alloc (.cells (Builtin.zeroCells (Value.cells (.agg #[.int .i64 0, .int .i64 0, .string ⟨#[]⟩, .slice none 0 0, .slice none 0 0])) n ++ Builtin.zeroCells (Value.cells (.agg #[.int .i64 0, .int .i64 0, .string ⟨#[]⟩, .slice none 0 0, .slice none 0 0])) (cap - n)) 25)) := (Below.refl _ _).drew.alloc (Nat.le_refl _) _
  have HB := hid hbl
  generalize Builtin.zeroCells (Value.cells (.agg #[.int .i64 0, .int .i64 0, .string ⟨#[]⟩, .slice none 0 0, .slice none 0 0])) n ++ Builtin.zeroCells (Value.cells (.agg #[.int .i64 0, .int .i64 0, .string ⟨#[]⟩, .slice none 0 0, .slice none 0 0])) (cap - n) = cells at *
  obtain ⟨W, hW⟩ : ∃ W, W = w.drew.alloc (.cells cells 25) := ⟨_, rfl⟩
  rw [← hW] at HB hr HM
  have HM' : Hid (W.ownsRow w.heap.size 25 5 (.slice (some ⟨w.heap.size, 0, none⟩) 0 cap) 0 []) := HM
  clear hbl hsz HM h0 hW
  go_enter Tryz.func67, Tryz.ntmps67
  go_wp2_with (at_builtin; refine Lib.wpList_append_run _ rfl _ _ _ _ rfl _ _ rfl rfl _ _ hr.out ?_)
  go_wp2_with fail
  go_ret
  exact ⟨_, rfl, HM'.out, HB.out⟩
set_option maxHeartbeats 1000000 in
theorem concat_val (a b : List VM) (va vb : Value) (w : World) (ha : SliceAt w 5 va a.length (vmCells a)) (hb : SliceAt w 5 vb b.length (vmCells b)) (hHa : HeldL w a) (hHb : HeldL w b) (hl : a.length + b.length ≤ 1000000) (g : Nat) (h0 : w.cell? ⟨g, 0, none⟩ = some va) (h1 : w.cell? ⟨g, 1, none⟩ = some vb) :
    Calls Tryz.prog 46 #[.slice (some ⟨g, 0, none⟩) 2 2] w fun e w' => ∃ v, e = .returned v ∧ w'.ownsRow w.heap.size 25 5 v (a.length + b.length) (vmCells (a ++ b)) ∧ Below w.heap.size w w' := by
  obtain ⟨i1, hi1, hy0, hy1, hy2⟩ := info_parts pval_info
  have HA := hid (fun W (hW : Below w.heap.size w W) => ha.below hW (Nat.le_refl _))
  have HB := hid (fun W (hW : Below w.heap.size w W) => hb.below hW (Nat.le_refl _))
  have K0 := hid (fun W (hW : Below w.heap.size w W) => keeps_of hW h0)
  have K1 := hid (fun W (hW : Below w.heap.size w W) => keeps_of hW h1)
  obtain ⟨-, xa, xc, rfl, hxc, hxm, -⟩ := ha.vms
  obtain ⟨-, ya, yc, rfl, hyc, hym, -⟩ := hb.vms
  unfold maxLen at hxm hym
  have H1a := hid (cells_one hHa)
  have H1b := hid (cells_one hHb)
  have HG0 := grow_val (a.length + b.length) hl w
  rw [Int.natCast_add] at HG0
  have HG := hid HG0
  clear HG0
  clear ha hb hHa hHb h0 h1
  go_enter Tryz.func46, Tryz.ntmps46
  go_wp2_with fail
  go_loopw [3, 11] (fun sm i wr => wr = w ∧ ((i = .int .i64 0 ∧ sm = .int .i64 0) ∨ (i = .int .i64 1 ∧ sm = .int .i64 a.length) ∨ (i = .int .i64 2 ∧ sm = .int .i64 ((a.length : Int) + b.length)))) (fun _ i _ => 2 - (intOf i).toNat)
  case atStart => exact ⟨rfl, .inl ⟨rfl, rfl⟩⟩
  case round =>
    obtain ⟨rfl, ⟨rfl, rfl⟩ | ⟨rfl, rfl⟩ | ⟨rfl, rfl⟩⟩ := hrel
    · have k0 := K0.out _ (Below.refl _ _)
      have q : ¬ (a.length : Int) < 0 := by omega
      go_wp2_with fail
      exact ⟨⟨trivial, .inr (.inl ⟨rfl, by simp⟩)⟩, by simp [intOf]⟩
    · have k1 := K1.out _ (Below.refl _ _)
      have q : ¬ (a.length : Int) + b.length < 0 := by omega
      go_wp2_with fail
      exact ⟨⟨trivial, .inr (.inr ⟨rfl, rfl⟩)⟩, by simp [intOf]⟩
    · go_wp2_with fail
      refine HG.out.mono ?_
      rintro e w1 ⟨v, rfl, hown0, hb1⟩
      have HB1 := hid hb1
      have HO := hid hown0
      clear hown0 hb1
      go_wp2_with fail
      obtain ⟨wo, hwo⟩ : ∃ wo : World, wo = wr := ⟨wr, rfl⟩
      subst hwo
      go_loopw [6, 27] (fun o i w3 => Below wo.heap.size wo w3 ∧ ((i = .int .i64 0 ∧ w3.ownsRow wo.heap.size 25 5 o 0 []) ∨ (i = .int .i64 1 ∧ w3.ownsRow wo.heap.size 25 5 o a.length (vmCells a)) ∨ (i = .int .i64 2 ∧ w3.ownsRow wo.heap.size 25 5 o (a.length + b.length) (vmCells (a ++ b))))) (fun _ i _ => 2 - (intOf i).toNat)
      case atStart => exact ⟨HB1.out, .inl ⟨rfl, HO.out⟩⟩
      case round =>
        obtain ⟨hbw, ⟨rfl, hown⟩ | ⟨rfl, hown⟩ | ⟨rfl, hown⟩⟩ := hrel
        · have k0 := K0.out _ hbw
          go_wp2_with (at_builtin; go_must (refine wpList_append_src rfl _ _ 22 rfl wo.heap.size 25 i1 (.agg #[.int .i64 0, .int .i64 0, .string ⟨#[]⟩, .slice none 0 0, .slice none 0 0]) 5 80 Tryz.underlying22 hi1 hy0 hy1 hy2 rfl (by decide) _ 0 (vmCells []) rfl hown _ a.length (vmCells a) rfl (HA.out _ hbw) H1a.out ?c4 ?c5 ?c6 ?_))
          case c4 => unfold maxLen; omega
          case c5 => omega
          case c6 => exact hbw.size
          intro v2 w2 hown2 hgrow2
          have hb2 : Below wo.heap.size wo w2 := hbw.grown hgrow2 hbw.size (fun k hk => (hown.lt k hk).1)
          clear hgrow2
          go_wp2_with fail
          exact ⟨⟨hb2, .inr (.inl ⟨rfl, hown2⟩)⟩, by simp [intOf]⟩
        · have k1 := K1.out _ hbw
          go_wp2_with (at_builtin; go_must (refine wpList_append_src rfl _ _ 22 rfl wo.heap.size 25 i1 (.agg #[.int .i64 0, .int .i64 0, .string ⟨#[]⟩, .slice none 0 0, .slice none 0 0]) 5 80 Tryz.underlying22 hi1 hy0 hy1 hy2 rfl (by decide) _ a.length (vmCells a) rfl hown _ b.length (vmCells b) rfl (HB.out _ hbw) H1b.out ?c4 ?c5 ?c6 ?_))
          case c4 => unfold maxLen; omega
          case c5 => omega
          case c6 => exact hbw.size
          intro v2 w2 hown2 hgrow2
          have hb2 : Below wo.heap.size wo w2 := hbw.grown hgrow2 hbw.size (fun k hk => (hown.lt k hk).1)
          clear hgrow2
          go_wp2_with fail
          exact ⟨⟨hb2, .inr (.inr ⟨rfl, by rw [vmCells_app]; exact hown2⟩)⟩, by simp [intOf]⟩
        · go_wp2_with fail
          go_ret
          exact ⟨_, rfl, hown, hbw⟩
end Go.Proofs.YtnfjlimecoikpaaGreatDoor
