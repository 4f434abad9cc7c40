/- The walk of lex.pass. -/
import Derived.Test.YtijgcoedohhlnaaGreatDoorLexBytes
import Derived.Deep.RegionWith
namespace Go.Proofs.YtijgcoedohhlnaaGreatDoor
set_option maxRecDepth 100000
open Go.RowKit

def plV (l c : Nat) : Value := .agg #[.int .i64 l, .int .i64 c]
/-- Places, by lines. -/
theorem advs_snoc (p : Pl) (s : List UInt8) (c : UInt8) : advs p (s ++ [c]) = adv (advs p s) c := by rw [advs_append]; rfl
theorem advs_line (p : Pl) : ∀ s : List UInt8, (advs p s).1 = p.1 + s.count 10
  | [] => by simp [advs]
  | c :: s => by
    rw [advs_cons, advs_line (adv p c) s, List.count_cons]
    unfold adv
    by_cases h : c.toNat = 10
    · have : c = 10 := UInt8.toNat_inj.1 (h.trans rfl)
      subst this; simp; omega
    · have : (c == 10) = false := by rw [beq_eq_false_iff_ne]; intro e; apply h; rw [e]; rfl
      rw [if_neg h, this]; simp
theorem advs_none (p : Pl) : ∀ s : List UInt8, s.count 10 = 0 → (advs p s).2 = p.2 + s.length
  | [], _ => by simp [advs]
  | c :: s, hc => by
    rw [List.count_cons] at hc
    have h : ¬ c.toNat = 10 := fun h => by
      have : c = 10 := UInt8.toNat_inj.1 (h.trans rfl)
      subst this; simp at hc
    rw [advs_cons, advs_none _ s (by omega)]
    unfold adv; rw [if_neg h]; simp; omega
theorem advs_tail (p : Pl) (s : List UInt8) (i : Nat) (hi : i < s.length) (h1 : s[i].toNat = 10) (h2 : ∀ j, i < j → (hj : j < s.length) → s[j].toNat ≠ 10) : (advs p s).2 = s.length - i := by
  have e : s = s.take i ++ s[i] :: s.drop (i + 1) := by rw [← drop_at s i hi, List.take_append_drop]
  have hz : (s.drop (i + 1)).count 10 = 0 := by
    rw [List.count_eq_zero]
    intro hm
    obtain ⟨j, hj, he⟩ := List.getElem_of_mem hm
    rw [List.getElem_drop] at he
    exact h2 (i + 1 + j) (by omega) (by rw [List.length_drop] at hj; omega) (by rw [he]; rfl)
  have h3 := advs_none (adv (advs p (s.take i)) s[i]) (s.drop (i + 1)) hz
  have h4 : advs p s = advs (adv (advs p (s.take i)) s[i]) (s.drop (i + 1)) := by
    conv => lhs; rw [e]
    rw [advs_append, advs_cons]
  rw [h4, h3]
  unfold adv; rw [if_pos h1, List.length_drop]; simp; omega
theorem last_is (s : List UInt8) (h : 0 < s.count 10) (p : Pl) : ((advs p s).2 : Int) = s.length - Lib.lastIndexByte (bs s) 10 ∧ Lib.lastIndexByte (bs s) 10 ≤ s.length ∧ 0 ≤ Lib.lastIndexByte (bs s) 10 := by
  have hg : ∀ j, j < s.length → ((bs s).data[j]!) = s[j]! := fun j hj => by simp [bs]
  rcases Lib.lastIdx_spec (bs s) 10 (bs s).size with ⟨-, h2⟩ | ⟨i, hi, h1, h2, h3⟩
  · exfalso
    have : s.count 10 = 0 := by
      rw [List.count_eq_zero]
      intro hm
      obtain ⟨j, hj, he⟩ := List.getElem_of_mem hm
      have := h2 j hj
      rw [hg j hj, getElem!_pos s j hj, he] at this
      exact this rfl
    omega
  · have hi' : i < s.length := hi
    rw [hg i hi', getElem!_pos s i hi'] at h2
    have ht := advs_tail p s i hi' (by omega) (fun j hj hjl => by
      have := h3 j hj hjl
      rw [hg j hjl, getElem!_pos s j hjl] at this; omega)
    have e : Lib.lastIndexByte (bs s) 10 = i := h1
    rw [ht, e]
    exact ⟨by omega, by omega, by omega⟩
theorem count_is (s : List UInt8) (W : World) : Calls Tryz.prog 36 #[.string (bs s), .string ⟨#[10]⟩] W fun e w' => e = .returned (.int .i64 (s.count 10 : Nat)) ∧ W = w' := by
  refine (Tryz.strings_Count_one (bs s) 10 W).mono ?_
  rintro e w' ⟨rfl, rfl⟩
  exact ⟨rfl, rfl⟩
theorem pass_res {w : World} {tmps : Array Value} {b : Nat} {x y : Int} (h4 : tmps[4]?.getD undef = .pointer (some ⟨b, 0, none⟩)) (h0 : w.cell? ⟨b, 0, none⟩ = some (.int .i64 x)) (h1 : w.cell? ⟨b, 1, none⟩ = some (.int .i64 y)) :
    (results Tryz.f14 tmps).run Tryz.prog w = .ok (.agg #[.int .i64 x, .int .i64 y]) w := by
  simp [results, Tryz.f14, go_sem, h4, h0, h1]

theorem box2 (w : World) (A : Obj) (x y : Value) (e : TypeId) : ((w.alloc A).alloc (.cells #[x, y] e)).cell? ⟨w.heap.size + 1, 0, none⟩ = some x ∧ ((w.alloc A).alloc (.cells #[x, y] e)).cell? ⟨w.heap.size + 1, 1, none⟩ = some y := by
  have h := fun j => World.cell?_alloc_mark (w.alloc A) #[x, y] e (0, 0) j
  simp only [World.size_alloc] at h
  exact ⟨(h 0).trans rfl, (h 1).trans rfl⟩
theorem below2 (w : World) (A B : Obj) : Below w.heap.size w ((w.alloc A).alloc B) := ((Below.refl _ _).alloc (Nat.le_refl _) _).alloc (by simp) _
theorem plV_eq {a b : Int} {x : Pl} (h1 : (x.1 : Int) = a) (h2 : (x.2 : Int) = b) : Ending.returned (.agg #[.int .i64 a, .int .i64 b]) = .returned (.agg #[.int .i64 x.1, .int .i64 x.2]) := by rw [h1, h2]
set_option maxHeartbeats 2000000 in
theorem pass_any (s : List UInt8) (hs : s.length ≤ 1000000000000) (p : Pl) (hp : p.1 ≤ 1000000000000 ∧ p.2 ≤ 1000000000000) (w : World) :
    Calls Tryz.prog 14 #[plV p.1 p.2, .string (bs s)] w fun e w' => e = .returned (plV (advs p s).1 (advs p s).2) ∧ Below w.heap.size w w' := by
  obtain ⟨l, c⟩ := p
  simp only at hp
  obtain ⟨hp1, hp2⟩ := hp
  have HC := hid (count_is s)
  have hl1 := advs_line (l, c) s
  have hcl : s.count 10 ≤ s.length := List.count_le_length
  unfold plV
  by_cases hz : s.count 10 = 0
  · have hl2 := advs_none (l, c) s hz
    rw [hz] at HC hl1
    simp only at hl1 hl2
    have H1 := hid hl1
    have H2 := hid hl2
    clear hl1 hl2 hz hcl
    go_enter Tryz.func14, Tryz.ntmps14
    go_wp2_with fail
    refine (HC.out _).mono ?_
    rintro e wx ⟨rfl, rfl⟩
    go_wp2_with fail
    refine bodyPost_ret (pass_res rfl (box2 w _ _ _ _).1 (box2 w _ _ _ _).2) rfl ⟨plV_eq ?_ ?_, below2 w _ _⟩
    · rw [H1.out]; simp
    · rw [H2.out]; simp
  · have hlast := last_is s (by omega) (l, c)
    obtain ⟨h2, h3, h4⟩ := hlast
    have HL := hid (Tryz.strings_LastIndexByte (bs s) 10 (by rw [bs_size]; omega))
    simp only at hl1
    generalize Lib.lastIndexByte (bs s) 10 = v at *
    have H1 := hid hl1
    have H2 := hid h2
    have hn : (0 : Int) < (s.count 10 : Int) := by omega
    generalize s.count 10 = n at *
    clear hl1 h2
    go_enter Tryz.func14, Tryz.ntmps14
    go_wp2_with fail
    refine (HC.out _).mono ?_
    rintro e wx ⟨rfl, rfl⟩
    go_wp2_with fail
    go_region_with (go_at_call 37; refine (HL.out _).mono ?_; rintro e wx ⟨rfl, rfl⟩)
    all_goals (try go_wp2_with fail)
    all_goals
      refine bodyPost_ret (pass_res rfl (box2 w _ _ _ _).1 (box2 w _ _ _ _).2) rfl ⟨plV_eq ?_ ?_, (below2 w _ _).drew⟩
      · rw [H1.out, IntKind.wrap_i64]; omega
      · rw [H2.out, IntKind.wrap_i64]; omega
end Go.Proofs.YtijgcoedohhlnaaGreatDoor
