/- The walk of label.Read. -/
import Derived.Test.YtijgcoedohhlnaaGreatDoorLabelWalks
import Derived.OwnWalk
namespace Go.Proofs.YtijgcoedohhlnaaGreatDoor
open Go.RowKit

set_option maxHeartbeats 400000 in
theorem cutL_none (l : List UInt8) (c : UInt8) (h : Lib.indexByte l c = -1) (w : World) :
    Calls Tryz.prog 43 #[.string (bs l), .string ⟨#[c]⟩] w fun e w' => e = .returned (.tuple #[.string (bs l), .string ⟨#[]⟩, .bool false]) ∧ Drawn w w' := by
  have Hi := hid (Tryz.stringslite_Index_one (bs l) c)
  rw [list_bs, h] at Hi
  go_enter Tryz.func43, Tryz.ntmps43
  go_wp2_with fail
  refine (Hi.out _).mono ?_
  rintro e w1 ⟨rfl, rfl⟩
  go_wp2_with fail
  go_ret3
  exact ⟨rfl, Drawn.refl _⟩
set_option maxHeartbeats 400000 in
theorem cutL_some (l : List UInt8) (c : UInt8) (i : Nat) (h : Lib.indexByte l c = i) (hi : i < l.length) (hl : l.length ≤ 1000000000000) (w : World) :
    Calls Tryz.prog 43 #[.string (bs l), .string ⟨#[c]⟩] w fun e w' => e = .returned (.tuple #[.string (bs (l.take i)), .string (bs (l.drop (i + 1))), .bool true]) ∧ Drawn w w' := by
  have Hi := hid (Tryz.stringslite_Index_one (bs l) c)
  rw [list_bs, h] at Hi
  clear h
  go_enter Tryz.func43, Tryz.ntmps43
  go_wp2_with fail
  refine (Hi.out _).mono ?_
  rintro e w1 ⟨rfl, rfl⟩
  go_wp2_with fail
  any_goals go_quiet (fail)
  any_goals go_wp2_with fail
  go_ret3
  refine ⟨?_, ⟨_, rfl⟩⟩
  show Ending.returned (.tuple #[.string (bs (l.take i)), .string (bs ((l.drop (i + 1)).take (l.length - (i + 1)))), .bool true]) = _
  rw [List.take_of_length_le (i := l.length - (i + 1)) (l := l.drop (i + 1)) (by simp)]
theorem cut_none (l : List UInt8) (c : UInt8) (h : Lib.indexByte l c = -1) (w : World) :
    Calls Tryz.prog 20 #[.string (bs l), .string ⟨#[c]⟩] w fun e w' => e = .returned (.tuple #[.string (bs l), .string ⟨#[]⟩, .bool false]) ∧ Drawn w w' := by
  have Hi := hid (cutL_none l c h)
  go_enter Tryz.func20, Tryz.ntmps20
  go_wp2_with fail
  refine (Hi.out _).mono ?_
  rintro e w1 ⟨rfl, hd⟩
  go_wp2_with fail
  go_ret3
  exact ⟨rfl, hd⟩
theorem cut_some (l : List UInt8) (c : UInt8) (i : Nat) (h : Lib.indexByte l c = i) (hi : i < l.length) (hl : l.length ≤ 1000000000000) (w : World) :
    Calls Tryz.prog 20 #[.string (bs l), .string ⟨#[c]⟩] w fun e w' => e = .returned (.tuple #[.string (bs (l.take i)), .string (bs (l.drop (i + 1))), .bool true]) ∧ Drawn w w' := by
  have Hi := hid (cutL_some l c i h hi hl)
  clear h
  go_enter Tryz.func20, Tryz.ntmps20
  go_wp2_with fail
  refine (Hi.out _).mono ?_
  rintro e w1 ⟨rfl, hd⟩
  go_wp2_with fail
  go_ret3
  exact ⟨rfl, hd⟩

theorem read_res {w : World} {tmps : Array Value} {b : Nat} {p n : List UInt8} {k : Int} (h4 : tmps[4]?.getD undef = .pointer (some ⟨b, 0, none⟩)) (h5 : tmps[5]?.getD undef = .int .i64 k) (h0 : w.cell? ⟨b, 0, none⟩ = some (.string (bs p))) (h1 : w.cell? ⟨b, 1, none⟩ = some (.string (bs n))) :
    (results Tryz.f9 tmps).run Tryz.prog w = .ok (.tuple #[labV p n, .int .i64 k]) w := by
  simp [results, Tryz.f9, go_sem, h4, h5, h0, h1]

theorem res_cells {w w4 : World} {e e2 : TypeId} {fr2 : Nat × Nat} {a b p n : List UInt8} {d : Nat}
    (hb : Below ((((w.alloc (.cells #[.string (bs a), .string (bs b)] e)).drewN d).alloc (.cells #[.string (bs p), .string (bs n)] e2 fr2))).heap.size (((w.alloc (.cells #[.string (bs a), .string (bs b)] e)).drewN d).alloc (.cells #[.string (bs p), .string (bs n)] e2 fr2)) w4) :
    (w4.cell? ⟨w.heap.size, 0, none⟩ = some (.string (bs a)) ∧ w4.cell? ⟨w.heap.size, 1, none⟩ = some (.string (bs b)) ∧ w4.frozen? ⟨w.heap.size, 0, none⟩ = false ∧ w4.frozen? ⟨w.heap.size, 1, none⟩ = false) ∧
    (w4.cell? ⟨w.heap.size + 1, 0, none⟩ = some (.string (bs p)) ∧ w4.cell? ⟨w.heap.size + 1, 1, none⟩ = some (.string (bs n))) ∧ Below w.heap.size w w4 := by
  have hz : (((w.alloc (.cells #[.string (bs a), .string (bs b)] e)).drewN d).alloc (.cells #[.string (bs p), .string (bs n)] e2 fr2)).heap.size = w.heap.size + 2 := by simp [World.drewN]
  rw [hz] at hb
  have h0 : w4.heap[w.heap.size]? = some (.cells #[.string (bs a), .string (bs b)] e) := by
    rw [hb.block _ (by omega), Below.heap_alloc _ _ _ (by simp [World.drewN])]
    show (w.alloc _).heap[w.heap.size]? = _
    exact World.alloc_heap_new w _
  have h1 : w4.heap[w.heap.size + 1]? = some (.cells #[.string (bs p), .string (bs n)] e2 fr2) := by
    rw [hb.block _ (by omega)]
    have h := World.alloc_heap_new ((w.alloc (.cells #[.string (bs a), .string (bs b)] e)).drewN d) (.cells #[.string (bs p), .string (bs n)] e2 fr2)
    rw [show ((w.alloc (.cells #[.string (bs a), .string (bs b)] e)).drewN d).heap.size = w.heap.size + 1 by simp [World.drewN]] at h
    exact h
  refine ⟨⟨?_, ?_, ?_, ?_⟩, ⟨?_, ?_⟩, ?_⟩
  · simp [World.cell?, h0]
  · simp [World.cell?, h0]
  · simp [World.frozen?, h0]
  · simp [World.frozen?, h0]
  · simp [World.cell?, h1]
  · simp [World.cell?, h1]
  · exact ((((Below.refl w.heap.size w).alloc (Nat.le_refl _) _).trans (Drawn.below ⟨d, rfl⟩)).alloc (by simp [World.drewN]) _).trans (hb.mono (by omega))

theorem size_drewN' (w : World) (d : Nat) : (w.drewN d).heap.size = w.heap.size := rfl
theorem res_new {w : World} {e : TypeId} {a b : List UInt8} (d : Nat) :
    ((w.alloc (.cells #[.string (bs a), .string (bs b)] e)).drewN d).cell? ⟨w.heap.size, 0, none⟩ = some (.string (bs a)) ∧ ((w.alloc (.cells #[.string (bs a), .string (bs b)] e)).drewN d).cell? ⟨w.heap.size, 1, none⟩ = some (.string (bs b)) ∧
    ((w.alloc (.cells #[.string (bs a), .string (bs b)] e)).drewN d).frozen? ⟨w.heap.size, 0, none⟩ = false ∧ ((w.alloc (.cells #[.string (bs a), .string (bs b)] e)).drewN d).frozen? ⟨w.heap.size, 1, none⟩ = false ∧
    Below w.heap.size w ((w.alloc (.cells #[.string (bs a), .string (bs b)] e)).drewN d) := by
  have h := World.alloc_heap_new w (.cells #[.string (bs a), .string (bs b)] e)
  have h' : ((w.alloc (.cells #[.string (bs a), .string (bs b)] e)).drewN d).heap[w.heap.size]? = some (.cells #[.string (bs a), .string (bs b)] e) := h
  have hB : Below w.heap.size w ((w.alloc (.cells #[.string (bs a), .string (bs b)] e)).drewN d) := ((Below.refl w.heap.size w).alloc (Nat.le_refl _) _).trans (Drawn.below ⟨d, rfl⟩)
  clear h
  generalize (w.alloc (.cells #[.string (bs a), .string (bs b)] e)).drewN d = W at h' hB
  exact ⟨by simp [World.cell?, h'], by simp [World.cell?, h'], by simp [World.frozen?, h'], by simp [World.frozen?, h'], hB⟩
theorem res_set {w : World} {B : Nat} {a b : List UInt8} (k0 : w.cell? ⟨B, 0, none⟩ = some (.string (bs a))) (k1 : w.cell? ⟨B, 1, none⟩ = some (.string (bs b))) (x y : Value) :
    ((w.setCell ⟨B, 0, none⟩ x).setCell ⟨B, 1, none⟩ y).cell? ⟨B, 0, none⟩ = some x ∧ ((w.setCell ⟨B, 0, none⟩ x).setCell ⟨B, 1, none⟩ y).cell? ⟨B, 1, none⟩ = some y := by
  have e1 : (w.setCell ⟨B, 0, none⟩ x).cell? ⟨B, 1, none⟩ = some (.string (bs b)) := by
    rw [World.cell?_setCell_other _ _ _ _ (by simp)]; exact k1
  constructor
  · rw [World.cell?_setCell_other _ _ _ _ (by simp)]
    exact World.cell?_setCell_same' _ _ _ (by rw [k0]; rfl)
  · exact World.cell?_setCell_same' _ _ _ (by rw [e1]; rfl)

def readV (x : List UInt8 × List UInt8 × Nat) : Value := .tuple #[labV x.1 x.2.1, .int .i64 x.2.2]

set_option maxHeartbeats 1000000 in
theorem read_own (r pkg : List UInt8) (hr : r.length + 1 ≤ 1000000000000) (hp : pkg.length ≤ 1000000000000) (w : World) :
    Calls Tryz.prog 9 #[.string (bs (58 :: r)), .string (bs pkg)] w fun e w' => e = .returned (readV (readL (58 :: r) pkg)) ∧ Below w.heap.size w w' := by
  have Hh := hid (Tryz.strings_HasPrefix (bs (58 :: r)) (bs [58]))
  rw [list_bs, list_bs, show Lib.hasPrefix (58 :: r) [58] = true by rfl] at Hh
  have Hc := hid (Tryz.strings_CutPrefix (bs (58 :: r)) (bs [47, 47]))
  have hf : Lib.hasPrefix (58 :: r) [47, 47] = false := by rfl
  rw [list_bs, list_bs, hf, show Lib.trimPrefix (58 :: r) [47, 47] = 58 :: r by simp [Lib.trimPrefix, hf]] at Hc
  have Hcut := hid (cut_some (58 :: r) 58 0 (byte_zero.2 ⟨r, rfl⟩) (by simp) (by simp; omega))
  obtain ⟨b, hb⟩ : ∃ b, pkgB pkg = b := ⟨_, rfl⟩
  have Hb := hid (isPkg_is pkg hp b hb)
  obtain ⟨c, hc⟩ : ∃ c, labB pkg r = c := ⟨_, rfl⟩
  have Hm := hid (lmay_is pkg r hp (by omega) c hc)
  have Hr : Hid (readL (58 :: r) pkg = if b = true then (if c = true then (pkg, r, 0) else ([], [], 7)) else ([], [], 1)) := by
    apply hid; rw [readL_own, hb, ← hc, labB, hb]; cases b <;> simp
  clear hb hc hf
  cases b with
  | false =>
    go_enter Tryz.func9, Tryz.ntmps9
    go_wp2_with fail
    refine (Hh.out _).mono ?_
    rintro e w1 ⟨rfl, rfl⟩
    go_wp2_with fail
    refine (Hc.out _).mono ?_
    rintro e w2 ⟨rfl, rfl⟩
    go_wp2_with fail
    refine (Hcut.out _).mono ?_
    rintro e w3 ⟨rfl, d3, rfl⟩
    go_wp2_with fail
    refine (Hb.out _).mono ?_
    rintro e w4 ⟨rfl, hb4⟩
    obtain ⟨⟨k0, k1, f0, f1⟩, ⟨l0, l1⟩, hbx⟩ := res_cells (a := []) (b := []) hb4
    clear hb4
    go_wp2_with fail
    refine bodyPost_ret (read_res rfl rfl (res_set k0 k1 _ _).1 (res_set k0 k1 _ _).2) rfl ⟨?_, (hbx.setCell (p := ⟨w.heap.size, 0, none⟩) (Nat.le_refl _) _).setCell (p := ⟨w.heap.size, 1, none⟩) (Nat.le_refl _) _⟩
    rw [Hr.out]; rfl
  | true =>
    cases c with
    | false =>
      go_enter Tryz.func9, Tryz.ntmps9
      go_wp2_with fail
      refine (Hh.out _).mono ?_
      rintro e w1 ⟨rfl, rfl⟩
      go_wp2_with fail
      refine (Hc.out _).mono ?_
      rintro e w2 ⟨rfl, rfl⟩
      go_wp2_with fail
      refine (Hcut.out _).mono ?_
      rintro e w3 ⟨rfl, d3, rfl⟩
      go_wp2_with fail
      refine (Hb.out _).mono ?_
      rintro e w4 ⟨rfl, hb4⟩
      have hz4 := hb4.size
      simp only [World.size_alloc, size_drewN'] at hz4
      obtain ⟨⟨k0, k1, f0, f1⟩, ⟨l0, l1⟩, hbx⟩ := res_cells (a := []) (b := []) hb4
      clear hb4
      go_wp2_with fail
      refine (Hm.out _).mono ?_
      rintro e w5 ⟨rfl, hb5⟩
      have hlt := hbx.size
      have hz5 : w.heap.size + 1 < w4.heap.size := hz4
      have m0 := (hb5.cell (p := ⟨w.heap.size, 0, none⟩) (by show w.heap.size < _; omega)).trans k0
      have m1 := (hb5.cell (p := ⟨w.heap.size, 1, none⟩) (by show w.heap.size < _; omega)).trans k1
      have g0 := (hb5.frozen (p := ⟨w.heap.size, 0, none⟩) (by show w.heap.size < _; omega)).trans f0
      have g1 := (hb5.frozen (p := ⟨w.heap.size, 1, none⟩) (by show w.heap.size < _; omega)).trans f1
      have n0 := (hb5.cell (p := ⟨w.heap.size + 1, 0, none⟩) (by show w.heap.size + 1 < _; omega)).trans l0
      have n1 := (hb5.cell (p := ⟨w.heap.size + 1, 1, none⟩) (by show w.heap.size + 1 < _; omega)).trans l1
      have hby := Below.chain hbx hb5
      clear hb5 hbx k0 k1 f0 f1 l0 l1 hlt hz5
      go_wp2_with fail
      refine bodyPost_ret (read_res rfl rfl (res_set m0 m1 _ _).1 (res_set m0 m1 _ _).2) rfl ⟨?_, (hby.setCell (p := ⟨w.heap.size, 0, none⟩) (Nat.le_refl _) _).setCell (p := ⟨w.heap.size, 1, none⟩) (Nat.le_refl _) _⟩
      rw [Hr.out]; rfl
    | true =>
      go_enter Tryz.func9, Tryz.ntmps9
      go_wp2_with fail
      refine (Hh.out _).mono ?_
      rintro e w1 ⟨rfl, rfl⟩
      go_wp2_with fail
      refine (Hc.out _).mono ?_
      rintro e w2 ⟨rfl, rfl⟩
      go_wp2_with fail
      refine (Hcut.out _).mono ?_
      rintro e w3 ⟨rfl, d3, rfl⟩
      go_wp2_with fail
      refine (Hb.out _).mono ?_
      rintro e w4 ⟨rfl, hb4⟩
      have hz4 := hb4.size
      simp only [World.size_alloc, size_drewN'] at hz4
      obtain ⟨⟨k0, k1, f0, f1⟩, ⟨l0, l1⟩, hbx⟩ := res_cells (a := []) (b := []) hb4
      clear hb4
      go_wp2_with fail
      refine (Hm.out _).mono ?_
      rintro e w5 ⟨rfl, hb5⟩
      have hlt := hbx.size
      have hz5 : w.heap.size + 1 < w4.heap.size := hz4
      have m0 := (hb5.cell (p := ⟨w.heap.size, 0, none⟩) (by show w.heap.size < _; omega)).trans k0
      have m1 := (hb5.cell (p := ⟨w.heap.size, 1, none⟩) (by show w.heap.size < _; omega)).trans k1
      have g0 := (hb5.frozen (p := ⟨w.heap.size, 0, none⟩) (by show w.heap.size < _; omega)).trans f0
      have g1 := (hb5.frozen (p := ⟨w.heap.size, 1, none⟩) (by show w.heap.size < _; omega)).trans f1
      have n0 := (hb5.cell (p := ⟨w.heap.size + 1, 0, none⟩) (by show w.heap.size + 1 < _; omega)).trans l0
      have n1 := (hb5.cell (p := ⟨w.heap.size + 1, 1, none⟩) (by show w.heap.size + 1 < _; omega)).trans l1
      have hby := Below.chain hbx hb5
      clear hb5 hbx k0 k1 f0 f1 l0 l1 hlt hz5
      go_wp2_with fail
      refine bodyPost_ret (read_res rfl rfl (res_set m0 m1 _ _).1 (res_set m0 m1 _ _).2) rfl ⟨?_, (hby.setCell (p := ⟨w.heap.size, 0, none⟩) (Nat.le_refl _) _).setCell (p := ⟨w.heap.size, 1, none⟩) (Nat.le_refl _) _⟩
      rw [Hr.out]; rfl

set_option maxHeartbeats 1000000 in
theorem read_farNo (t pkg : List UInt8) (hi : Lib.indexByte t 58 = -1) (w : World) :
    Calls Tryz.prog 9 #[.string (bs (47 :: 47 :: t)), .string (bs pkg)] w fun e w' => e = .returned (readV (readL (47 :: 47 :: t) pkg)) ∧ Below w.heap.size w w' := by
  have Hh := hid (Tryz.strings_HasPrefix (bs (47 :: 47 :: t)) (bs [58]))
  rw [list_bs, list_bs, show Lib.hasPrefix (47 :: 47 :: t) [58] = false by rfl] at Hh
  have Hc := hid (Tryz.strings_CutPrefix (bs (47 :: 47 :: t)) (bs [47, 47]))
  have hf : Lib.hasPrefix (47 :: 47 :: t) [47, 47] = true := by rfl
  rw [list_bs, list_bs, hf, show Lib.trimPrefix (47 :: 47 :: t) [47, 47] = t by simp [Lib.trimPrefix, hf]] at Hc
  have Hcut := hid (cut_none t 58 hi)
  have Hr := hid (readL_farNo t pkg hi)
  clear hf hi
  go_enter Tryz.func9, Tryz.ntmps9
  go_wp2_with fail
  refine (Hh.out _).mono ?_
  rintro e w1 ⟨rfl, rfl⟩
  go_wp2_with fail
  refine (Hc.out _).mono ?_
  rintro e w2 ⟨rfl, rfl⟩
  go_wp2_with fail
  refine (Hcut.out _).mono ?_
  rintro e w3 ⟨rfl, d3, rfl⟩
  go_wp2_with fail
  obtain ⟨k0, k1, f0, f1, hbx⟩ := res_new (w := w) (e := 23) (a := []) (b := []) d3
  go_wp2_with fail
  refine bodyPost_ret (read_res rfl rfl (res_set k0 k1 _ _).1 (res_set k0 k1 _ _).2) rfl ⟨?_, (hbx.setCell (p := ⟨w.heap.size, 0, none⟩) (Nat.le_refl _) _).setCell (p := ⟨w.heap.size, 1, none⟩) (Nat.le_refl _) _⟩
  rw [Hr.out]; rfl

set_option maxHeartbeats 1000000 in
theorem read_far (t pkg : List UInt8) (ht : t.length + 2 ≤ 1000000000000) (i : Nat) (hi : Lib.indexByte t 58 = i) (w : World) :
    Calls Tryz.prog 9 #[.string (bs (47 :: 47 :: t)), .string (bs pkg)] w fun e w' => e = .returned (readV (readL (47 :: 47 :: t) pkg)) ∧ Below w.heap.size w w' := by
  have Hh := hid (Tryz.strings_HasPrefix (bs (47 :: 47 :: t)) (bs [58]))
  rw [list_bs, list_bs, show Lib.hasPrefix (47 :: 47 :: t) [58] = false by rfl] at Hh
  have Hc := hid (Tryz.strings_CutPrefix (bs (47 :: 47 :: t)) (bs [47, 47]))
  have hf : Lib.hasPrefix (47 :: 47 :: t) [47, 47] = true := by rfl
  rw [list_bs, list_bs, hf, show Lib.trimPrefix (47 :: 47 :: t) [47, 47] = t by simp [Lib.trimPrefix, hf]] at Hc
  have Hcut := hid (cut_some t 58 i hi (byte_at hi).2.2 (by omega))
  have hr := readL_far t pkg i hi
  have hl1 : (t.take i).length ≤ 1000000000000 := by rw [List.length_take]; omega
  have hl2 : (t.drop (i + 1)).length ≤ 1000000000000 := by rw [List.length_drop]; omega
  generalize t.take i = p at Hcut hr hl1
  generalize t.drop (i + 1) = n at Hcut hr hl2
  obtain ⟨c, hc⟩ : ∃ c, labB p n = c := ⟨_, rfl⟩
  have Hm := hid (lmay_is p n hl1 hl2 c hc)
  rw [hc] at hr
  have Hr := hid hr
  clear hf hi hc hr
  cases c with
  | false =>
    go_enter Tryz.func9, Tryz.ntmps9
    go_wp2_with fail
    refine (Hh.out _).mono ?_
    rintro e w1 ⟨rfl, rfl⟩
    go_wp2_with fail
    refine (Hc.out _).mono ?_
    rintro e w2 ⟨rfl, rfl⟩
    go_wp2_with fail
    refine (Hcut.out _).mono ?_
    rintro e w3 ⟨rfl, d3, rfl⟩
    go_wp2_with fail
    refine (Hm.out _).mono ?_
    rintro e w4 ⟨rfl, hb4⟩
    obtain ⟨⟨k0, k1, f0, f1⟩, ⟨l0, l1⟩, hbx⟩ := res_cells (a := []) (b := []) hb4
    clear hb4
    go_wp2_with fail
    refine bodyPost_ret (read_res rfl rfl (res_set k0 k1 _ _).1 (res_set k0 k1 _ _).2) rfl ⟨?_, (hbx.setCell (p := ⟨w.heap.size, 0, none⟩) (Nat.le_refl _) _).setCell (p := ⟨w.heap.size, 1, none⟩) (Nat.le_refl _) _⟩
    rw [Hr.out]; rfl
  | true =>
    go_enter Tryz.func9, Tryz.ntmps9
    go_wp2_with fail
    refine (Hh.out _).mono ?_
    rintro e w1 ⟨rfl, rfl⟩
    go_wp2_with fail
    refine (Hc.out _).mono ?_
    rintro e w2 ⟨rfl, rfl⟩
    go_wp2_with fail
    refine (Hcut.out _).mono ?_
    rintro e w3 ⟨rfl, d3, rfl⟩
    go_wp2_with fail
    refine (Hm.out _).mono ?_
    rintro e w4 ⟨rfl, hb4⟩
    obtain ⟨⟨k0, k1, f0, f1⟩, ⟨l0, l1⟩, hbx⟩ := res_cells (a := []) (b := []) hb4
    clear hb4
    go_wp2_with fail
    refine bodyPost_ret (read_res rfl rfl (res_set k0 k1 _ _).1 (res_set k0 k1 _ _).2) rfl ⟨?_, (hbx.setCell (p := ⟨w.heap.size, 0, none⟩) (Nat.le_refl _) _).setCell (p := ⟨w.heap.size, 1, none⟩) (Nat.le_refl _) _⟩
    rw [Hr.out]; rfl

set_option maxHeartbeats 1000000 in
theorem read_no (s pkg : List UInt8) (hs : s.length ≤ 1000000000000) (h1 : Lib.indexByte s 58 ≠ 0) (h2 : Lib.hasPrefix s [47, 47] = false) (w : World) :
    Calls Tryz.prog 9 #[.string (bs s), .string (bs pkg)] w fun e w' => e = .returned (readV (readL s pkg)) ∧ Below w.heap.size w w' := by
  have Hh := hid (Tryz.strings_HasPrefix (bs s) (bs [58]))
  have hf : Lib.hasPrefix s [58] = false := by
    rw [← Bool.not_eq_true, prefix_iff]
    rintro ⟨r, rfl⟩
    exact h1 (byte_zero.2 ⟨r, rfl⟩)
  rw [list_bs, list_bs, hf] at Hh
  have Hc := hid (Tryz.strings_CutPrefix (bs s) (bs [47, 47]))
  rw [list_bs, list_bs, h2, show Lib.trimPrefix s [47, 47] = s by simp [Lib.trimPrefix, h2]] at Hc
  have Hr := hid (readL_no s pkg h1 h2)
  have hcut : ∃ a b c, ∀ w, Calls Tryz.prog 20 #[.string (bs s), .string ⟨#[58]⟩] w fun e w' => e = .returned (.tuple #[.string a, .string b, .bool c]) ∧ Drawn w w' := by
    have hg := indexByte_ge s 58
    by_cases h : Lib.indexByte s 58 = -1
    · exact ⟨_, _, _, cut_none s 58 h⟩
    · obtain ⟨i, hi⟩ : ∃ i : Nat, Lib.indexByte s 58 = i := ⟨(Lib.indexByte s 58).toNat, by omega⟩
      exact ⟨_, _, _, cut_some s 58 i hi (byte_at hi).2.2 hs⟩
  obtain ⟨ca, cb, cc, hcut⟩ := hcut
  have Hcut := hid hcut
  clear hf h1 h2 hcut
  go_enter Tryz.func9, Tryz.ntmps9
  go_wp2_with fail
  refine (Hh.out _).mono ?_
  rintro e w1 ⟨rfl, rfl⟩
  go_wp2_with fail
  refine (Hc.out _).mono ?_
  rintro e w2 ⟨rfl, rfl⟩
  go_wp2_with fail
  refine (Hcut.out _).mono ?_
  rintro e w3 ⟨rfl, d3, rfl⟩
  go_wp2_with fail
  obtain ⟨k0, k1, f0, f1, hbx⟩ := res_new (w := w) (e := 23) (a := []) (b := []) d3
  go_wp2_with fail
  refine bodyPost_ret (read_res rfl rfl (res_set k0 k1 _ _).1 (res_set k0 k1 _ _).2) rfl ⟨?_, (hbx.setCell (p := ⟨w.heap.size, 0, none⟩) (Nat.le_refl _) _).setCell (p := ⟨w.heap.size, 1, none⟩) (Nat.le_refl _) _⟩
  rw [Hr.out]; rfl

theorem read_any (s pkg : List UInt8) (hs : s.length ≤ 1000000000000) (hp : pkg.length ≤ 1000000000000) (w : World) :
    Calls Tryz.prog 9 #[.string (bs s), .string (bs pkg)] w fun e w' => e = .returned (readV (readL s pkg)) ∧ Below w.heap.size w w' := by
  by_cases h0 : Lib.indexByte s 58 = 0
  · obtain ⟨r, rfl⟩ := byte_zero.1 h0
    exact read_own r pkg (by simpa using hs) hp w
  · cases h2 : Lib.hasPrefix s [47, 47] with
    | false => exact read_no s pkg hs h0 h2 w
    | true =>
      obtain ⟨t, rfl⟩ := prefix2.1 h2
      have hg := indexByte_ge t 58
      by_cases h : Lib.indexByte t 58 = -1
      · exact read_farNo t pkg h w
      · exact read_far t pkg (by simpa using hs) (Lib.indexByte t 58).toNat (by omega) w
theorem read_is (s pkg : List UInt8) (hs : s.length ≤ 1000000000000) (hp : pkg.length ≤ 1000000000000) (p n : List UInt8) (k : Nat) (h : readL s pkg = (p, n, k)) (w : World) :
    Calls Tryz.prog 9 #[.string (bs s), .string (bs pkg)] w fun e w' => e = .returned (.tuple #[labV p n, .int .i64 k]) ∧ Below w.heap.size w w' := by
  have := read_any s pkg hs hp w
  rw [h] at this; exact this
end Go.Proofs.YtijgcoedohhlnaaGreatDoor
