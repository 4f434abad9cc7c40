/- pack.Texts: the row is the call's own. -/
import Derived.Test.YtnfjlimecoikpaaGreatDoorMPack
namespace Go.Proofs.YtnfjlimecoikpaaGreatDoor
set_option maxRecDepth 100000
open Go.RowKit

def TextsOwn (l : List UInt8) (w : World) (e : Ending) (w' : World) : Prop :=
  ∃ v, e = .returned (.tuple #[v, .int .i64 (textsL l).2]) ∧ w'.ownsRow w.heap.size 9 1 v (textsL l).1.length (strCells (textsL l).1) ∧ Below w.heap.size w w'
set_option maxHeartbeats 400000 in
theorem texts_own (l : List UInt8) (w : World) (hs : l.length ≤ 1000000000000) :
    Calls Tryz.prog 52 #[.string (bs l)] w (TextsOwn l w) := by
  obtain ⟨i0, hi, hz0, hz1, hz2⟩ := info_parts pstr_info
  go_enter Tryz.func52, Tryz.ntmps52
  go_wp2
  go_loopw [0, 4] (fun s o wr => ∃ (out : List (List UInt8)) (rest : List UInt8), s = .string (bs rest) ∧ textsL l = fin out (textsL rest) ∧ out.length + rest.length ≤ l.length ∧ wr.ownsRow w.heap.size 9 1 o out.length (strCells out) ∧ Below w.heap.size w wr) (fun s _ _ => strSize s)
  case atStart => exact ⟨[], l, rfl, (fin_nil l).symm, by simp, World.ownsRow_nil _ _ _ _, Below.refl _ _⟩
  case round =>
    obtain ⟨out, rest, rfl, ht, hlen, hown, hbw⟩ := hrel
    have Ht := hid ht; clear ht
    have hsz := hbw.size
    by_cases hr : rest = []
    · subst hr
      go_wp2
      go_ret2
      have hx : textsL l = (out, 0) := by rw [Ht.out, textsL_nil]; simp [fin]
      refine ⟨_, by rw [hx]; rfl, ?_, hbw⟩
      rw [hx]; exact hown
    · have hr' : rest.isEmpty = false := by simpa using hr
      have hmax : rest.length ≤ maxLen := by unfold maxLen; omega
      obtain ⟨n, t, c, hh⟩ : ∃ n t c, headFrom 0 0 rest = (n, t, c) := ⟨_, _, _, rfl⟩
      have Hh := hid hh; clear hh
      by_cases hc : c = 0
      · subst hc
        have htl : t.length < rest.length := by have := headFrom_len rest 0 0 (by rw [Hh.out]); rw [Hh.out] at this; exact this
        by_cases hlt : t.length < n
        · go_wp2_with (go_at_call 72; refine (head_any _ _ hmax).mono ?_; rintro e w' ⟨n', t', c', rfl, hh', hn, d, rfl⟩; obtain ⟨rfl, rfl, rfl⟩ : n = n' ∧ t = t' ∧ 0 = c' := by (rw [Hh.out] at hh'; simpa using hh'))
          go_ret2
          refine ⟨_, by rw [Ht.out, textsL_short Hh.out hr hlt]; rfl, ?_, hbw.trans (Drawn.below ⟨_, rfl⟩)⟩
          rw [Ht.out, textsL_short Hh.out hr hlt]; exact World.ownsRow_nil _ _ _ _
        · have hnt : n ≤ t.length := by omega
          go_wp2_with first
            | (go_at_call 72; refine (head_any _ _ hmax).mono ?_; rintro e w' ⟨n', t', c', rfl, hh', hn, d, rfl⟩; obtain ⟨rfl, rfl, rfl⟩ : n = n' ∧ t = t' ∧ 0 = c' := by (rw [Hh.out] at hh'; simpa using hh'))
            | (at_builtin; go_must (refine wpList_append_own _ rfl _ _ 23 rfl w.heap.size 9 i0 (.string ⟨#[]⟩) 1 16 Tryz.underlying23 hi hz0 hz1 hz2 rfl (by decide) _ _ _ rfl ((ownsRow_drewN hown d).alloc _) ⟨wr.heap.size, 0, none⟩ 1 1 [.string (bs (t.take n))] rfl rfl ?c1 ?c2 ?c3 ?c4 ?c5 ?_))
          case c1 => exact new_cells _ #[_] _ _
          case c2 => intro u hu; simp at hu; subst hu; rfl
          case c3 => unfold maxLen; omega
          case c4 => omega
          case c5 => simp; omega
          intro v1 w1 hown1 hgrow1 _
          have hb1 : Below w.heap.size w w1 := ((hbw.trans (Drawn.below ⟨d, rfl⟩)).alloc (by simp; omega) _).grown hgrow1 (by simp; omega) (fun k hk => (hown.lt k hk).1)
          clear hgrow1
          go_wp2
          refine ⟨⟨out ++ [t.take n], List.drop n t, ?_, ?_, ?_, ?_, hb1⟩, ?_⟩
          · exact congrArg (fun x => Value.string (bs x)) (List.take_of_length_le (by simp))
          · rw [Ht.out, textsL_more Hh.out hr hlt, fin_fin]
          · simp; omega
          · rw [strCells_append, List.length_append]; exact hown1
          · simp [strSize, bs_size]; omega
      · have hc' : ((c : Int) != 0) = true := by simp; omega
        go_wp2_with (go_at_call 72; refine (head_any _ _ hmax).mono ?_; rintro e w' ⟨n', t', c', rfl, hh', hn, d, rfl⟩; obtain ⟨rfl, rfl, rfl⟩ : n = n' ∧ t = t' ∧ c = c' := by (rw [Hh.out] at hh'; simpa using hh'))
        go_ret2
        have hx : textsL l = ([], c) := by rw [Ht.out, textsL_err Hh.out hr hc]; simp [fin, hc]
        refine ⟨_, by rw [hx]; rfl, ?_, hbw.trans (Drawn.below ⟨_, rfl⟩)⟩
        rw [hx]; exact World.ownsRow_nil _ _ _ _
end Go.Proofs.YtnfjlimecoikpaaGreatDoor
