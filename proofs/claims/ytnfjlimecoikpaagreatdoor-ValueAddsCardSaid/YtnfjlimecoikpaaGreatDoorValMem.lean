/- Values in memory. -/
import Derived.Test.YtnfjlimecoikpaaGreatDoorMPlain
import Derived.Test.YtnfjlimecoikpaaGreatDoorChecked
namespace Go.Proofs.YtnfjlimecoikpaaGreatDoor
set_option maxRecDepth 100000
open Go.RowKit

mutual
/-- What a value holds lies in memory. -/
def Held (w : World) : VM → Prop
  | .mk _ _ _ lv kv l ks => SliceAt w 5 lv l.length (vmCells l) ∧ SliceAt w 1 kv ks.length (strCells ks) ∧ HeldL w l
def HeldL (w : World) : List VM → Prop
  | [] => True
  | v :: r => Held w v ∧ HeldL w r
end
theorem held_mk {w : World} {k n : Int} {s : List UInt8} {lv kv : Value} {l : List VM} {ks : List (List UInt8)} (h : Held w (.mk k n s lv kv l ks)) :
    SliceAt w 5 lv l.length (vmCells l) ∧ SliceAt w 1 kv ks.length (strCells ks) ∧ HeldL w l := by unfold Held at h; exact h
theorem mk_held {w : World} {k n : Int} {s : List UInt8} {lv kv : Value} {l : List VM} {ks : List (List UInt8)} (h1 : SliceAt w 5 lv l.length (vmCells l)) (h2 : SliceAt w 1 kv ks.length (strCells ks)) (h3 : HeldL w l) :
    Held w (.mk k n s lv kv l ks) := by unfold Held; exact ⟨h1, h2, h3⟩
theorem heldL_get {w : World} : ∀ {l : List VM}, HeldL w l → ∀ k (h : k < l.length), Held w l[k]
  | [], _, k, h => by simp at h
  | v :: r, hl, k, h => by
    unfold HeldL at hl
    cases k with
    | zero => exact hl.1
    | succ k => exact heldL_get hl.2 k (by simpa using h)
mutual
theorem Held.below {w w' : World} {B : Nat} (hb : Below B w w') (hB : w.heap.size ≤ B) : ∀ {v : VM}, Held w v → Held w' v
  | .mk k n s lv kv l ks, h => by
    unfold Held at h ⊢
    exact ⟨h.1.below hb hB, h.2.1.below hb hB, HeldL.below hb hB h.2.2⟩
theorem HeldL.below {w w' : World} {B : Nat} (hb : Below B w w') (hB : w.heap.size ≤ B) : ∀ {l : List VM}, HeldL w l → HeldL w' l
  | [], _ => by unfold HeldL; trivial
  | v :: r, h => by
    unfold HeldL at h ⊢
    exact ⟨Held.below hb hB h.1, HeldL.below hb hB h.2⟩
end
def VM.k : VM → Int | .mk k _ _ _ _ _ _ => k
def VM.n : VM → Int | .mk _ n _ _ _ _ _ => n
def VM.s : VM → List UInt8 | .mk _ _ s _ _ _ _ => s
def VM.lv : VM → Value | .mk _ _ _ lv _ _ _ => lv
def VM.kv : VM → Value | .mk _ _ _ _ kv _ _ => kv
abbrev valA (k n : Int) (s : List UInt8) (lv kv : Value) : Value := .agg #[.int .i64 k, .int .i64 n, .string (bs s), lv, kv]
def VM.val : VM → Value | .mk k n s lv kv _ _ => valA k n s lv kv
theorem vmCells_get (l : List VM) : ∀ k (h : k < l.length), (vmCells l)[k * 5]? = some (.int .i64 l[k].k) ∧ (vmCells l)[k * 5 + 1]? = some (.int .i64 l[k].n) ∧ (vmCells l)[k * 5 + 2]? = some (.string (bs l[k].s)) ∧ (vmCells l)[k * 5 + 3]? = some l[k].lv ∧ (vmCells l)[k * 5 + 4]? = some l[k].kv := by
  induction l with
  | nil => intro k h; simp at h
  | cons v l ih =>
    intro k h
    cases v with
    | mk vk vn vs vl vkv l' ks' =>
    have e : vmCells (.mk vk vn vs vl vkv l' ks' :: l) = .int .i64 vk :: .int .i64 vn :: .string (bs vs) :: vl :: vkv :: vmCells l := rfl
    cases k with
    | zero => rw [e]; exact ⟨rfl, rfl, rfl, rfl, rfl⟩
    | succ k =>
      have := ih k (by simpa using h)
      rw [e, show (k + 1) * 5 = k * 5 + 1 + 1 + 1 + 1 + 1 by omega]
      simpa using this
/-- Five cells. -/
structure FiveC (w : World) (b o : Nat) (v : VM) : Prop where
  c0 : w.cell? ⟨b, o, none⟩ = some (.int .i64 v.k)
  c1 : w.cell? ⟨b, o + 1, none⟩ = some (.int .i64 v.n)
  c2 : w.cell? ⟨b, o + 2, none⟩ = some (.string (bs v.s))
  c3 : w.cell? ⟨b, o + 3, none⟩ = some v.lv
  c4 : w.cell? ⟨b, o + 4, none⟩ = some v.kv
theorem SliceAt.vms {w : World} {v : Value} {n : Nat} {fs : List VM} (h : SliceAt w 5 v n (vmCells fs)) : n = fs.length ∧ ∃ a c, v = .slice a fs.length c ∧ fs.length ≤ c ∧ c ≤ maxLen ∧
    (∀ k, k < fs.length → ∃ b off, a = some ⟨b, off, none⟩ ∧ b < w.heap.size ∧ ∀ j (hj : j < fs.length), FiveC w b (off + j * 5) fs[j]) := by
  obtain ⟨hl, a, c, rfl, hc, hm, -, hx⟩ := h
  have hn : n = fs.length := by rw [vmCells_len] at hl; omega
  subst hn
  refine ⟨rfl, a, c, rfl, hc, hm, fun k hk => ?_⟩
  obtain ⟨b, off, rfl, hlt, hcell⟩ := hx (by intro e; have := vmCells_len fs; rw [e] at this; simp at this; omega)
  refine ⟨b, off, rfl, hlt, fun j hj => ?_⟩
  have hg := vmCells_get fs j hj
  exact ⟨hcell _ _ hg.1, by rw [Nat.add_assoc]; exact hcell _ _ hg.2.1, by rw [Nat.add_assoc]; exact hcell _ _ hg.2.2.1, by rw [Nat.add_assoc]; exact hcell _ _ hg.2.2.2.1, by rw [Nat.add_assoc]; exact hcell _ _ hg.2.2.2.2⟩
/-- The box of a value that was handed over. -/
structure Box (w : World) (b : Nat) (k n : Int) (s : List UInt8) (lv kv : Value) : Prop where
  c0 : w.cell? ⟨b, 0, none⟩ = some (.int .i64 k)
  c1 : w.cell? ⟨b, 1, none⟩ = some (.int .i64 n)
  c2 : w.cell? ⟨b, 2, none⟩ = some (.string (bs s))
  c3 : w.cell? ⟨b, 3, none⟩ = some lv
  c4 : w.cell? ⟨b, 4, none⟩ = some kv
theorem box_new (w : World) (k n : Int) (s : List UInt8) (lv kv : Value) (e : TypeId) (fr : Nat × Nat) : Box (w.alloc (.cells #[.int .i64 k, .int .i64 n, .string (bs s), lv, kv] e fr)) w.heap.size k n s lv kv :=
  ⟨by rw [World.cell?_alloc_mark]; rfl, by rw [World.cell?_alloc_mark]; rfl, by rw [World.cell?_alloc_mark]; rfl, by rw [World.cell?_alloc_mark]; rfl, by rw [World.cell?_alloc_mark]; rfl⟩
theorem Box.keeps {w w' : World} {b : Nat} {k n : Int} {s : List UInt8} {lv kv : Value} (h : Box w b k n s lv kv) (hb : Below w.heap.size w w') : Box w' b k n s lv kv :=
  ⟨keeps_of hb h.c0, keeps_of hb h.c1, keeps_of hb h.c2, keeps_of hb h.c3, keeps_of hb h.c4⟩
theorem dep_get {l : List VM} {N : Nat} (h : depL l ≤ N) : ∀ k (hk : k < l.length), dep l[k] ≤ N := by
  induction l with
  | nil => intro k hk; simp at hk
  | cons v r ih =>
    have hd : depL (v :: r) = max (dep v) (depL r) := by simp [depL]
    rw [hd] at h
    intro k hk
    cases k with
    | zero => show dep v ≤ N; omega
    | succ k => exact ih (by omega) k (by simpa using hk)
theorem dep_mk (k n : Int) (s : List UInt8) (lv kv : Value) (l : List VM) (ks : List (List UInt8)) : dep (.mk k n s lv kv l ks) = 1 + depL l := by simp [dep]
theorem cnt_mk (k n : Int) (s : List UInt8) (lv kv : Value) (l : List VM) (ks : List (List UInt8)) : cnt (.mk k n s lv kv l ks) = 1 + cntL l := by simp [cnt]
theorem cntL_app (a b : List VM) : cntL (a ++ b) = cntL a + cntL b := by
  induction a with
  | nil => simp [cntL]
  | cons v r ih => simp [cntL, ih, Nat.add_assoc]
theorem depL_app (a b : List VM) : depL (a ++ b) = max (depL a) (depL b) := by
  induction a with
  | nil => simp [depL]
  | cons v r ih => simp [depL, ih, Nat.max_assoc]
theorem nodesL_app (a b : List VM) : nodesL (a ++ b) = (nodesL a && nodesL b) := by
  induction a with
  | nil => simp [nodesL]
  | cons v r ih => simp [nodesL, ih, Bool.and_assoc]
theorem cntL_one (v : VM) : cntL [v] = cnt v := by simp [cntL]
theorem depL_one (v : VM) : depL [v] = dep v := by simp [depL]
theorem nodesL_one (v : VM) : nodesL [v] = nodesB v := by simp [nodesL]
theorem cntL_take (l : List VM) (k : Nat) (h : k < l.length) : cntL (l.take (k + 1)) = cntL (l.take k) + cnt l[k] := by rw [take_at l k h, cntL_app, cntL_one]
theorem depL_take (l : List VM) (k : Nat) (h : k < l.length) : depL (l.take (k + 1)) = max (depL (l.take k)) (dep l[k]) := by rw [take_at l k h, depL_app, depL_one]
theorem nodesL_take (l : List VM) (k : Nat) (h : k < l.length) : nodesL (l.take (k + 1)) = (nodesL (l.take k) && nodesB l[k]) := by rw [take_at l k h, nodesL_app, nodesL_one]
theorem cntL_le (l : List VM) (k : Nat) : cntL (l.take k) ≤ cntL l := by
  have : cntL l = cntL (l.take k) + cntL (l.drop k) := by rw [← cntL_app, List.take_append_drop]
  omega
theorem nodesL_bad {l : List VM} {k : Nat} (hk : k < l.length) (h : nodesB l[k] = false) : nodesL l = false := by
  have : l = l.take k ++ (l[k] :: l.drop (k + 1)) := by rw [← drop_at l k hk, List.take_append_drop]
  rw [this, nodesL_app]; simp [nodesL, h]
end Go.Proofs.YtnfjlimecoikpaaGreatDoor
