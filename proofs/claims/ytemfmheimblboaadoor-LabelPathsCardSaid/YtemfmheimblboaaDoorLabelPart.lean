/- The law LabelPaths: a path's directory and last part are a label. -/
import Derived.Test.YtemfmheimblboaaDoorLabelTexts
import Derived.Test.YtemfmheimblboaaDoorQuietHeld
namespace Go.Proofs.YtemfmheimblboaaDoor
open Go.RowKit

theorem path_parts {p : List UInt8} (h : mayB p = true) : ∃ d b, labB d b = true ∧ ((d = [] ∧ p = b) ∨ (d ≠ [] ∧ mayB d = true ∧ p = d ++ 47 :: b)) := by
  have hall : ∀ x ∈ splitL p, partB x = true := by
    unfold mayB at h; simp only [Bool.and_eq_true, List.all_eq_true] at h; exact h.2
  by_cases h1 : (splitL p).length ≠ 1
  · obtain ⟨hs, hm, -, hne, -⟩ := dir_cut h h1
    refine ⟨dirL p, (splitL p).getLast (splitL_ne p), ?_, .inr ⟨hne, hm, hs⟩⟩
    rw [labB, pkgB, hm, hall _ (List.getLast_mem _)]; simp
  · have h1 : (splitL p).length = 1 := by omega
    obtain ⟨x, hx⟩ := List.length_eq_one_iff.1 h1
    have hp : p = x := by rw [← joinL_splitL p, hx]; rfl
    refine ⟨[], p, ?_, .inl ⟨rfl, rfl⟩⟩
    rw [labB, pkgB, hall p (by rw [hx, hp]; simp)]; simp
theorem last_none {l : List UInt8} (h : (47 : UInt8) ∉ l) : Lib.lastIndexByte (bs l) 47 = -1 := by
  unfold Lib.lastIndexByte
  rcases Lib.lastIdx_spec (bs l) 47 (bs l).size with ⟨h1, -⟩ | ⟨i, hi, -, hc, -⟩
  · exact h1
  · have hi' : i < l.length := hi
    have hg : (bs l).data[i]! = l[i] := by simp [bs, hi']
    rw [hg] at hc
    have : l[i] = 47 := by apply UInt8.toNat_inj.1; have h47 : (47 : UInt8).toNat = 47 := rfl; omega
    exact absurd (this ▸ List.getElem_mem hi') h
theorem last_some {d b : List UInt8} (h : (47 : UInt8) ∉ b) : Lib.lastIndexByte (bs (d ++ 47 :: b)) 47 = d.length := by
  unfold Lib.lastIndexByte
  have hs : (bs (d ++ 47 :: b)).size = d.length + 1 + b.length := by rw [bs_size]; simp; omega
  have hd : (bs (d ++ 47 :: b)).data[d.length]! = 47 := by simp [bs]
  rcases Lib.lastIdx_spec (bs (d ++ 47 :: b)) 47 (bs (d ++ 47 :: b)).size with ⟨-, h2⟩ | ⟨i, hi, he, hc, hno⟩
  · have := h2 d.length (by omega); rw [hd] at this; exact absurd rfl this
  · rw [he]
    rcases Nat.lt_trichotomy i d.length with hlt | heq | hgt
    · have := hno d.length hlt (by omega); rw [hd] at this; exact absurd rfl this
    · rw [heq]
    · exfalso
      have hi' : i < (d ++ 47 :: b).length := hi
      have hg : (bs (d ++ 47 :: b)).data[i]! = (d ++ 47 :: b)[i] := bs_get! _ i hi'
      rw [hg] at hc
      have h47 : (d ++ 47 :: b)[i] = 47 := by apply UInt8.toNat_inj.1; have h47 : (47 : UInt8).toNat = 47 := rfl; omega
      have hx : (d ++ 47 :: b)[i] = b[i - d.length - 1]'(by simp at hi'; omega) := by
        rw [List.getElem_append_right (by omega), List.getElem_cons, dif_neg (by omega)]
      rw [hx] at h47
      exact h (h47 ▸ List.getElem_mem _)

/-- p's directory and last part are d and b. -/
def Parted (p d b : List UInt8) : Prop := mayB p = true ∧ (47 : UInt8) ∉ b ∧ ((d = [] ∧ p = b) ∨ (d ≠ [] ∧ mayB d = true ∧ p = d ++ 47 :: b))
set_option maxHeartbeats 1000000 in
theorem pcut_any (p d b : List UInt8) (hp : p.length ≤ 1000000000000) (h : Parted p d b) (w : World) : Calls Tryd.prog 30 #[.string (bs p)] w fun e w' => e = .returned (.tuple #[.string (bs d), .string (bs b)]) ∧ Below w.heap.size w w' := by
  obtain ⟨hm, h47, h⟩ := h
  have Hm := hid (may_is p hp true hm)
  rcases h with ⟨rfl, rfl⟩ | ⟨hne, hmd, rfl⟩
  · have Hi := hid (Tryd.strings_LastIndexByte (bs p) 47 (by rw [bs_size]; omega))
    rw [last_none h47] at Hi
    clear hm h47
    go_enter Tryd.func30, Tryd.ntmps30
    go_wp2_with fail
    refine (Hm.out _).mono ?_
    rintro e w1 ⟨rfl, hb1⟩
    go_wp2_with fail
    refine (Hi.out _).mono ?_
    rintro e w2 ⟨rfl, rfl⟩
    go_wp2_with fail
    go_ret2
    exact ⟨rfl, hb1⟩
  · have Hi := hid (Tryd.strings_LastIndexByte (bs (d ++ 47 :: b)) 47 (by rw [bs_size]; omega))
    rw [last_some h47] at Hi
    have hl : d.length < (d ++ 47 :: b).length := by simp
    have e1 : List.take d.length (d ++ 47 :: b) = d := by simp
    have e2 : List.take ((d ++ 47 :: b).length - (d.length + 1)) (List.drop (d.length + 1) (d ++ 47 :: b)) = b := by
      rw [show List.drop (d.length + 1) (d ++ 47 :: b) = b by simp [List.drop_append], List.take_of_length_le (by simp; omega)]
    have E1 := hid e1
    have E2 := hid e2
    generalize hs : d ++ 47 :: b = s at *
    generalize d.length = k at *
    clear hm h47 hne hmd hs e1 e2
    go_enter Tryd.func30, Tryd.ntmps30
    go_wp2_with fail
    refine (Hm.out _).mono ?_
    rintro e w1 ⟨rfl, hb1⟩
    go_wp2_with fail
    refine (Hi.out _).mono ?_
    rintro e w2 ⟨rfl, rfl⟩
    go_wp2_with fail
    any_goals go_quiet (fail)
    any_goals go_wp2_with fail
    go_ret2
    refine ⟨?_, hb1.trans (Drawn.below ⟨_, rfl⟩)⟩
    show Ending.returned (.tuple #[.string (bs (List.take k s)), .string (bs (List.take (s.length - (k + 1)) (List.drop (k + 1) s)))]) = _
    rw [E1.out, E2.out]
set_option maxHeartbeats 400000 in
theorem pdir_any (p d b : List UInt8) (hp : p.length ≤ 1000000000000) (h : Parted p d b) (w : World) : Calls Tryd.prog 15 #[.string (bs p)] w fun e w' => e = .returned (.string (bs d)) ∧ Below w.heap.size w w' := by
  have H := hid (pcut_any p d b hp h)
  go_enter Tryd.func15, Tryd.ntmps15
  go_wp2_with fail
  refine (H.out _).mono ?_
  rintro e w1 ⟨rfl, hb1⟩
  go_wp2_with fail
  go_ret
  exact ⟨rfl, hb1⟩
set_option maxHeartbeats 400000 in
theorem pbase_any (p d b : List UInt8) (hp : p.length ≤ 1000000000000) (h : Parted p d b) (w : World) : Calls Tryd.prog 16 #[.string (bs p)] w fun e w' => e = .returned (.string (bs b)) ∧ Below w.heap.size w w' := by
  have H := hid (pcut_any p d b hp h)
  go_enter Tryd.func16, Tryd.ntmps16
  go_wp2_with fail
  refine (H.out _).mono ?_
  rintro e w1 ⟨rfl, hb1⟩
  go_wp2_with fail
  go_ret
  exact ⟨rfl, hb1⟩
theorem SliceAt.one_cell {W : World} {K : Nat} {v : Value} (h : W.cell? ⟨K, 0, none⟩ = some v) : SliceAt W 1 (.slice (some ⟨K, 0, none⟩) 1 1) 1 [v] := by
  refine ⟨rfl, _, 1, rfl, Nat.le_refl _, by simp [maxLen], fun h => (by cases h), fun _ => ⟨K, 0, rfl, World.block_lt_of_cell? W _ h, fun j u hj => ?_⟩⟩
  match j with
  | 0 => simp only [List.getElem?_cons_zero, Option.some.injEq] at hj; rw [← hj]; exact h
  | j + 1 => simp at hj
/-- Sees, at one pattern that lies in a cell. -/
def SeesC (pat pkg : List UInt8) (b : Bool) : Prop := ∀ (K : Nat) (W : World), W.cell? ⟨K, 0, none⟩ = some (.string (bs pat)) →
  Calls Tryd.prog 18 #[.slice (some ⟨K, 0, none⟩) 1 1, .string (bs pkg)] W fun e w' => e = .returned (.bool b) ∧ Below W.heap.size W w'
theorem sees_allC (pkg : List UInt8) (hp : pkg.length ≤ 1000000000000) (hk : pkgB pkg = true) : SeesC [47, 47, 46, 46, 46] pkg true :=
  fun _ W h => sees_one _ pkg hp hk true _ _ W (SliceAt.one_cell h) (fun q W hq hqs => clo_all pkg q W hq hqs)
theorem sees_dirC (d pkg : List UInt8) (hp : pkg.length ≤ 1000000000000) (hd : d.length ≤ 1000000000000) (hk : pkgB pkg = true) (hm : mayB d = true) (b : Bool) (hb : (pkg == d || underB pkg d) = b) : SeesC (47 :: 47 :: (d ++ [47, 46, 46, 46])) pkg b :=
  fun _ W h => sees_one _ pkg hp hk b _ _ W (SliceAt.one_cell h) (fun q W hq hqs => clo_dir pkg d hp hd hm b hb q W hq hqs)
theorem one_then {w w6 : World} {a : Value} {e : TypeId} {G : Prop} (hb : Below (w.alloc (.cells #[a] e)).heap.size (w.alloc (.cells #[a] e)) w6) (g : w6.cell? ⟨w.heap.size, 0, none⟩ = some a → G) : G :=
  g (by rw [hb.cell (p := ⟨w.heap.size, 0, none⟩) (by simp), World.cell?_alloc_mark]; rfl)
theorem grow0 {w0 W W' : World} {K : Nat} {v : Value} {G : Prop} (h : Below w0.heap.size w0 W) (hb : Below W.heap.size W W') (d0 : w0.cell? ⟨K, 0, none⟩ = some v) (g : Below w0.heap.size w0 W' → W'.cell? ⟨K, 0, none⟩ = some v → K < W'.heap.size → G) : G :=
  g (Below.chain h hb) (Below.keeps (Below.chain h hb) d0) (World.block_lt_of_cell? W' _ (Below.keeps (Below.chain h hb) d0))
theorem grow1 {w0 W W' : World} {K : Nat} {v : Value} {o : Obj} {G : Prop} (h : Below w0.heap.size w0 W) (hb : Below (W.alloc o).heap.size (W.alloc o) W') (d0 : w0.cell? ⟨K, 0, none⟩ = some v) (g : Below w0.heap.size w0 W' → W'.cell? ⟨K, 0, none⟩ = some v → K < W'.heap.size → G) : G :=
  grow0 (h.alloc h.size o) hb d0 g
theorem s_first {w : World} {a : Addr} {v : Value} (h : w.cell? a = some v) : w.drew.cell? a = some v ∧ Below w.heap.size w w.drew := ⟨h, keep_drew w⟩
theorem s_call {w0 W W' : World} {a : Addr} {v : Value} (h : W.cell? a = some v ∧ Below w0.heap.size w0 W) (hb : Below W.heap.size W W') : W'.cell? a = some v ∧ Below w0.heap.size w0 W' := ⟨Below.keeps hb h.1, Below.chain h.2 hb⟩
theorem s_alloc {w0 W : World} {a : Addr} {v : Value} {o : Obj} (h : W.cell? a = some v ∧ Below w0.heap.size w0 W) : (W.alloc o).cell? a = some v ∧ Below w0.heap.size w0 (W.alloc o) := s_call h ((Below.refl _ _).alloc (Nat.le_refl _) o)
theorem one_new (w : World) (a : Value) (e : TypeId) : (w.alloc (.cells #[a] e)).cell? ⟨w.heap.size, 0, none⟩ = some a := by rw [World.cell?_alloc_mark]; rfl

end Go.Proofs.YtemfmheimblboaaDoor
