/- The program's walk over values: all; strings.Join. -/
import Derived.Test.YtnfjlimecoikpaaGreatDoorValCheck
import Derived.Test.YtnfjlimecoikpaaGreatDoorMPlain
import Derived.Test.YtnfjlimecoikpaaGreatDoorMPack
namespace Go.Proofs.YtnfjlimecoikpaaGreatDoor
set_option maxRecDepth 100000
open Go.RowKit

theorem held_slices {w : World} : ∀ {v : VM}, Held w v → (∃ a n c, v.lv = .slice a n c) ∧ ∃ a n c, v.kv = .slice a n c
  | .mk k n s lv kv l ks, h => by
    obtain ⟨h1, h2, -⟩ := held_mk h
    obtain ⟨-, a, c, e, -⟩ := h1
    obtain ⟨-, a', c', e', -⟩ := h2
    exact ⟨⟨a, _, c, e⟩, a', _, c', e'⟩
def RowRet (ts : List (List UInt8)) (w : World) (e : Ending) (w' : World) : Prop :=
  ∃ v, e = .returned v ∧ w'.ownsRow w.heap.size 9 1 v ts.length (strCells ts) ∧ Below w.heap.size w w'
set_option maxHeartbeats 1000000 in
theorem all_text (out : VM → List UInt8) (l : List VM) (lv : Value) (w : World) (hl : SliceAt w 5 lv l.length (vmCells l)) (hH : HeldL w l) (hlen : l.length ≤ 1000000)
    (h : ∀ j (hj : j < l.length) W, Below w.heap.size w W → Calls Tryz.prog 23 #[l[j].val] W fun e w' => e = .returned (.string (bs (out l[j]))) ∧ Below W.heap.size W w') :
    Calls Tryz.prog 41 #[lv, .func (.func 23) #[] #[]] w (RowRet (l.map out) w) := by
  obtain ⟨i0, hi, hz0, hz1, hz2⟩ := info_parts pstr_info
  have HS := hid (fun W (hW : Below w.heap.size w W) => hl.below hW (Nat.le_refl _))
  have HC := hid h
  have HE := hid (fun j hj => held_slices (heldL_get hH j hj))
  obtain ⟨-, la, lc, rfl, hlc, hlm, -⟩ := hl.vms
  unfold maxLen at hlm
  clear hl h hH
  go_enter Tryz.func41, Tryz.ntmps41
  go_wp2_with fail
  go_loopw [5, 10] (fun o i wr => ∃ j : Nat, j ≤ l.length ∧ i = .int .i64 j ∧ wr.ownsRow w.heap.size 9 1 o j (strCells ((l.map out).take j)) ∧ Below w.heap.size w wr) (fun _ i _ => l.length - (intOf i).toNat)
  case atStart => exact ⟨0, by omega, rfl, World.ownsRow_nil _ _ _ _, Below.refl _ _⟩
  case round =>
    obtain ⟨j, hj, rfl, hown, hbw⟩ := hrel
    have hsz := hbw.size
    by_cases hlt : j < l.length
    · obtain ⟨-, la', lc', hv, -, -, hx⟩ := (HS.out _ hbw).vms
      obtain ⟨lb, lo, rfl, hlb, hcl⟩ := hx j hlt
      obtain ⟨rfl, rfl⟩ : la = some ⟨lb, lo, none⟩ ∧ lc = lc' := by simpa using hv
      have hfc := hcl j hlt
      have hb1 := Below.chain hbw (below_new wr (.cells #[.int .i64 l[j].k, .int .i64 l[j].n, .string (bs l[j].s), l[j].lv, l[j].kv] 25))
      have HCj := hid (HC.out j hlt _ hb1)
      have e0 : l[j].val = valA l[j].k l[j].n l[j].s l[j].lv l[j].kv := by cases l[j]; rfl
      have htk : (l.map out).take (j + 1) = (l.map out).take j ++ [out l[j]] := by rw [take_at (l.map out) j (by simpa using hlt), List.getElem_map]
      have HTK := hid htk
      rw [e0] at HCj
      generalize out l[j] = t at *
      obtain ⟨c0, c1, c2, c3, c4⟩ := hfc
      obtain ⟨hs1, hs2⟩ := HE.out j hlt
      generalize l[j].k = xk at *
      generalize l[j].n = xn at *
      generalize l[j].s = xs at *
      generalize l[j].lv = xl at *
      generalize l[j].kv = xv at *
      obtain ⟨la2, ln2, lc2, rfl⟩ := hs1
      obtain ⟨ka2, kn2, kc2, rfl⟩ := hs2
      clear hcl hx hv e0 htk
      go_wp2_with fail
      refine HCj.out.mono ?_
      rintro e w1 ⟨rfl, hb2⟩
      have hbx := below_call hb2
      have hown1 := ownsRow_below hown hbx
      have hz := hbx.size
      clear hown
      go_wp2_with (at_builtin; go_must (refine wpList_append_own _ rfl _ _ 23 rfl w.heap.size 9 i0 (.string ⟨#[]⟩) 1 16 Tryz.underlying23 hi hz0 hz1 hz2 rfl (by decide) _ _ _ rfl (hown1.alloc _) ⟨w1.heap.size, 0, none⟩ 1 1 [.string (bs t)] rfl rfl ?c1 ?c2 ?c3 ?c4 ?c5 ?_))
      case c1 => exact new_cells _ #[_] _ _
      case c2 => intro u hu; simp at hu; subst hu; rfl
      case c3 => unfold maxLen; omega
      case c4 => omega
      case c5 => simp; omega
      intro v1 w2 hown2 hgrow2 _
      have hb3 : Below w.heap.size w w2 := ((hbw.trans (hbx.mono hsz)).alloc (by omega) _).grown hgrow2 (by (try simp); omega) (fun k hk => (hown1.lt k hk).1)
      clear hgrow2 hown1
      go_wp2_with fail
      exact ⟨⟨j + 1, by omega, by go_num, by rw [HTK.out, strCells_append]; exact hown2, hb3⟩, by simp [intOf]; omega⟩
    · obtain rfl : j = l.length := by omega
      go_wp2_with fail
      go_ret
      refine ⟨_, rfl, ?_, hbw⟩
      rw [List.take_of_length_le (by simp)] at hown
      rw [List.length_map]; exact hown
set_option maxHeartbeats 1000000 in
theorem all_row (out : VM → List UInt8) (l : List VM) (lv : Value) (w : World) (hl : SliceAt w 5 lv l.length (vmCells l)) (hH : HeldL w l) (hlen : l.length ≤ 1000000)
    (h : ∀ j (hj : j < l.length) W, Below w.heap.size w W → Calls Tryz.prog 30 #[l[j].val] W fun e w' => e = .returned (.string (bs (out l[j]))) ∧ Below W.heap.size W w') :
    Calls Tryz.prog 41 #[lv, .func (.func 30) #[] #[]] w (RowRet (l.map out) w) := by
  obtain ⟨i0, hi, hz0, hz1, hz2⟩ := info_parts pstr_info
  have HS := hid (fun W (hW : Below w.heap.size w W) => hl.below hW (Nat.le_refl _))
  have HC := hid h
  have HE := hid (fun j hj => held_slices (heldL_get hH j hj))
  obtain ⟨-, la, lc, rfl, hlc, hlm, -⟩ := hl.vms
  unfold maxLen at hlm
  clear hl h hH
  go_enter Tryz.func41, Tryz.ntmps41
  go_wp2_with fail
  go_loopw [5, 10] (fun o i wr => ∃ j : Nat, j ≤ l.length ∧ i = .int .i64 j ∧ wr.ownsRow w.heap.size 9 1 o j (strCells ((l.map out).take j)) ∧ Below w.heap.size w wr) (fun _ i _ => l.length - (intOf i).toNat)
  case atStart => exact ⟨0, by omega, rfl, World.ownsRow_nil _ _ _ _, Below.refl _ _⟩
  case round =>
    obtain ⟨j, hj, rfl, hown, hbw⟩ := hrel
    have hsz := hbw.size
    by_cases hlt : j < l.length
    · obtain ⟨-, la', lc', hv, -, -, hx⟩ := (HS.out _ hbw).vms
      obtain ⟨lb, lo, rfl, hlb, hcl⟩ := hx j hlt
      obtain ⟨rfl, rfl⟩ : la = some ⟨lb, lo, none⟩ ∧ lc = lc' := by simpa using hv
      have hfc := hcl j hlt
      have hb1 := Below.chain hbw (below_new wr (.cells #[.int .i64 l[j].k, .int .i64 l[j].n, .string (bs l[j].s), l[j].lv, l[j].kv] 25))
      have HCj := hid (HC.out j hlt _ hb1)
      have e0 : l[j].val = valA l[j].k l[j].n l[j].s l[j].lv l[j].kv := by cases l[j]; rfl
      have htk : (l.map out).take (j + 1) = (l.map out).take j ++ [out l[j]] := by rw [take_at (l.map out) j (by simpa using hlt), List.getElem_map]
      have HTK := hid htk
      rw [e0] at HCj
      generalize out l[j] = t at *
      obtain ⟨c0, c1, c2, c3, c4⟩ := hfc
      obtain ⟨hs1, hs2⟩ := HE.out j hlt
      generalize l[j].k = xk at *
      generalize l[j].n = xn at *
      generalize l[j].s = xs at *
      generalize l[j].lv = xl at *
      generalize l[j].kv = xv at *
      obtain ⟨la2, ln2, lc2, rfl⟩ := hs1
      obtain ⟨ka2, kn2, kc2, rfl⟩ := hs2
      clear hcl hx hv e0 htk
      go_wp2_with fail
      refine HCj.out.mono ?_
      rintro e w1 ⟨rfl, hb2⟩
      have hbx := below_call hb2
      have hown1 := ownsRow_below hown hbx
      have hz := hbx.size
      clear hown
      go_wp2_with (at_builtin; go_must (refine wpList_append_own _ rfl _ _ 23 rfl w.heap.size 9 i0 (.string ⟨#[]⟩) 1 16 Tryz.underlying23 hi hz0 hz1 hz2 rfl (by decide) _ _ _ rfl (hown1.alloc _) ⟨w1.heap.size, 0, none⟩ 1 1 [.string (bs t)] rfl rfl ?c1 ?c2 ?c3 ?c4 ?c5 ?_))
      case c1 => exact new_cells _ #[_] _ _
      case c2 => intro u hu; simp at hu; subst hu; rfl
      case c3 => unfold maxLen; omega
      case c4 => omega
      case c5 => simp; omega
      intro v1 w2 hown2 hgrow2 _
      have hb3 : Below w.heap.size w w2 := ((hbw.trans (hbx.mono hsz)).alloc (by omega) _).grown hgrow2 (by (try simp); omega) (fun k hk => (hown1.lt k hk).1)
      clear hgrow2 hown1
      go_wp2_with fail
      exact ⟨⟨j + 1, by omega, by go_num, by rw [HTK.out, strCells_append]; exact hown2, hb3⟩, by simp [intOf]; omega⟩
    · obtain rfl : j = l.length := by omega
      go_wp2_with fail
      go_ret
      refine ⟨_, rfl, ?_, hbw⟩
      rw [List.take_of_length_le (by simp)] at hown
      rw [List.length_map]; exact hown
/-- strings.Join, commas between. -/
theorem joined (v : Value) (n : Nat) (ss : List (List UInt8)) (w : World) (h : SliceAt w 1 v n (strCells ss)) (hlen : (joinC ss).length ≤ 140737488355328) (hn : ss.length ≤ 1000000) :
    Calls Tryz.prog 40 #[v, .string ⟨#[44, 32]⟩] w fun e w' => e = .returned (.string (bs (joinC ss))) ∧ Below w.heap.size w w' := by
  obtain ⟨-, a, c, rfl, hc, hm, hx⟩ := h.str
  cases ss with
  | nil =>
    refine (Any.strings_Join_none Tryz.lays156 Tryz.Builder_Extra_156 a c ⟨#[44, 32]⟩ w).mono ?_
    rintro e w' ⟨rfl, hw⟩
    exact ⟨rfl, hw ▸ Below.refl _ _⟩
  | cons s0 r =>
    obtain ⟨b, o, rfl, hb, hcell⟩ := hx 0 (by simp)
    have hxs : ((s0 :: r).map bs).map (·.data.toList) = s0 :: r := by
      rw [List.map_map]
      have : (fun x => x.data.toList) ∘ bs = id := by funext x; rfl
      rw [this, List.map_id]
    have := Tryz.strings_Join b o c ((s0 :: r).map bs) ⟨#[44, 32]⟩ w (fun j x hj => by
      rw [List.getElem?_map, Option.map_eq_some_iff] at hj
      obtain ⟨y, hy, rfl⟩ := hj
      obtain ⟨hjl, rfl⟩ := List.getElem?_eq_some_iff.1 hy
      exact hcell j hjl) hb (by rw [List.length_map]; omega) (by rw [List.length_map]; exact hc) (by rw [hxs]; show (Lib.join (s0 :: r) [44, 32]).length ≤ _; rw [join_is]; exact hlen)
    rw [hxs, List.length_map] at this
    refine this.mono ?_
    rintro e w' ⟨rfl, hb'⟩
    refine ⟨?_, hb'⟩
    show Ending.returned (Value.string (bs (Lib.join (s0 :: r) [44, 32]))) = _
    rw [join_is]
end Go.Proofs.YtnfjlimecoikpaaGreatDoor
