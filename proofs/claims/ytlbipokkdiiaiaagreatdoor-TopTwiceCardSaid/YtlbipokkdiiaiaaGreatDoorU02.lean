/- Lemmas for TopTwice: ExecSound, ExecSound2, ExecOps1, ExecOps2. -/
import Derived.Test.YtlbipokkdiiaiaaGreatDoorU01
namespace Go.Proofs.YtlbipokkdiiaiaaGreatDoor.Exec
theorem Tr.get_leaf {α : Type} (f n : Nat) : Tr.get f (.leaf : Tr α) n = none := rfl
theorem Tr.get_zero {α : Type} (f : Nat) (l r : Tr α) (o : Option α) : Tr.get f (.node l o r) 0 = o := rfl
theorem Tr.get_succ {α : Type} (f : Nat) (l r : Tr α) (o : Option α) (n : Nat) : Tr.get f (.node l o r) (n + 1) = if n % 2 = 0 then Tr.get f l (n / 2) else Tr.get f r (n / 2) := by
 show (bif Nat.beq (n % 2) 0 then Tr.get f l (n / 2) else Tr.get f r (n / 2)) = _
 rcases Nat.mod_two_eq_zero_or_one n with h | h <;> rw [h] <;> rfl
theorem Tr.get_path {α : Type} (x : Option α) (g : Nat) : ∀ (f n k : Nat), n + 2 ≤ 2 ^ f → Tr.get g (Tr.path x f n) k = if k = n then x else none := by
 intro f
 induction f with
 | zero => intro n k h; simp at h
 | succ f ih =>
   intro n k h
   have h2 : 2 ^ (f + 1) = 2 * 2 ^ f := by rw [Nat.pow_succ]; omega
   cases n with
   | zero =>
     show Tr.get g (.node .leaf x .leaf) k = _
     cases k with
     | zero => rfl
     | succ k => rw [Tr.get_succ]; simp [Tr.get_leaf]
   | succ n =>
     show Tr.get g (bif Nat.beq (n % 2) 0 then .node (Tr.path x f (n / 2)) none .leaf else .node .leaf none (Tr.path x f (n / 2))) k = _
     rcases Nat.mod_two_eq_zero_or_one n with hn | hn <;> rw [hn]
     ·show Tr.get g (.node (Tr.path x f (n / 2)) none .leaf) k = _
      cases k with
      | zero => rw [Tr.get_zero]; simp
      | succ k =>
        rw [Tr.get_succ]
        rcases Nat.mod_two_eq_zero_or_one k with hk | hk <;> rw [hk]
        ·rw [if_pos rfl, ih (n / 2) (k / 2) (by omega)]
         by_cases e : k = n
         ·subst e; simp
         ·rw [if_neg (by omega), if_neg (by omega)]
        ·rw [if_neg (by omega), Tr.get_leaf, if_neg (by omega)]
     ·show Tr.get g (.node .leaf none (Tr.path x f (n / 2))) k = _
      cases k with
      | zero => rw [Tr.get_zero]; simp
      | succ k =>
        rw [Tr.get_succ]
        rcases Nat.mod_two_eq_zero_or_one k with hk | hk <;> rw [hk]
        ·rw [if_pos rfl, Tr.get_leaf, if_neg (by omega)]
        ·rw [if_neg (by omega), ih (n / 2) (k / 2) (by omega)]
         by_cases e : k = n
         ·subst e; simp
         ·rw [if_neg (by omega), if_neg (by omega)]
theorem Tr.get_set {α : Type} (f : Nat) (t : Tr α) : ∀ (n k : Nat) (x : Option α), n + 2 ≤ 2 ^ f → Tr.get f (Tr.set f t n x) k = if k = n then x else Tr.get f t k := by
 induction t with
 | leaf => intro n k x h; exact Tr.get_path x f f n k h
 | node l o r ihl ihr =>
   intro n k x h
   cases n with
   | zero =>
     show Tr.get f (.node l x r) k = _
     cases k with
     | zero => rfl
     | succ k => rw [Tr.get_succ, Tr.get_succ, if_neg (Nat.succ_ne_zero k)]
   | succ n =>
     show Tr.get f (bif Nat.beq (n % 2) 0 then .node (Tr.set f l (n / 2) x) o r else .node l o (Tr.set f r (n / 2) x)) k = _
     rcases Nat.mod_two_eq_zero_or_one n with hn | hn <;> rw [hn]
     ·show Tr.get f (.node (Tr.set f l (n / 2) x) o r) k = _
      cases k with
      | zero => rw [Tr.get_zero, Tr.get_zero]; simp
      | succ k =>
        rw [Tr.get_succ, Tr.get_succ]
        rcases Nat.mod_two_eq_zero_or_one k with hk | hk <;> rw [hk]
        ·rw [if_pos rfl, if_pos rfl, ihl (n / 2) (k / 2) x (by omega)]
         by_cases e : k = n
         ·subst e; simp
         ·rw [if_neg (by omega), if_neg (by omega)]
        ·rw [if_neg (by omega), if_neg (by omega), if_neg (by omega)]
     ·show Tr.get f (.node l o (Tr.set f r (n / 2) x)) k = _
      cases k with
      | zero => rw [Tr.get_zero, Tr.get_zero]; simp
      | succ k =>
        rw [Tr.get_succ, Tr.get_succ]
        rcases Nat.mod_two_eq_zero_or_one k with hk | hk <;> rw [hk]
        ·rw [if_pos rfl, if_pos rfl, if_neg (by omega)]
        ·simp only [Nat.one_ne_zero, if_false]
         rw [ihr (n / 2) (k / 2) x (by omega)]
         by_cases e : k = n
         ·subst e; simp
         ·rw [if_neg (by omega), if_neg (by omega)]
structure WRel (m : Bij) (h : H) (W : World) : Prop where
 obj : ∀ n o, h.get n = some o → ∃ b o', m.r n b ∧ W.heap[b]? = some o' ∧ NRel m n o o'
 fresh : ∀ n, h.next ≤ n → n < h.lim → ∀ b, ¬ m.r n b
 ran : ∀ n b, m.r n b → b < W.heap.size
 inj : ∀ n k b, m.r n b → m.r k b → h.get n ≠ none → h.get k ≠ none → n = k
 room : h.lim + 2 ≤ 2 ^ D
 le : h.next ≤ h.lim
structure Snd (m : Bij) (h : H) (W : World) (m' : Bij) (h' : H) (W' : World) : Prop where
 le : m ≤ m'
 rel : WRel m' h' W'
 size : W.heap.size ≤ W'.heap.size
 block : ∀ b, b < W.heap.size → (∀ n, m.r n b → h.get n = none) → W'.heap[b]? = W.heap[b]?
 next : h.next ≤ h'.next
 lim : h'.lim = h.lim
 dead : ∀ n, n < h.next → h.get n = none → h'.get n = none
 new : ∀ n b, m'.r n b → m.r n b ∨ (h.next ≤ n ∧ n < h'.next ∧ (W.heap.size ≤ b ∨ ∃ k, m.r k b ∧ h.get k ≠ none))
 rest : W'.os = W.os ∧ W'.tape = W.tape ∧ W'.output = W.output
theorem H.get_ge {h : H} {n : Nat} (hn : h.next ≤ n) : h.get n = none := by unfold H.get; rw [if_neg (by omega)]
theorem H.get_lt {h : H} {n : Nat} {o : AObj} (hg : h.get n = some o) : n < h.next := by
 unfold H.get at hg; split at hg
 ·assumption
 ·simp at hg
theorem Snd.refl {m : Bij} {h : H} {W : World} (hw : WRel m h W) : Snd m h W m h W :=
 ⟨Bij.le_refl m, hw, Nat.le_refl _, fun _ _ _ => rfl, Nat.le_refl _, rfl, fun _ _ k => k, fun _ _ k => .inl k, rfl, rfl, rfl⟩
theorem Snd.trans {m m' m2 : Bij} {h h' h2 : H} {W W' W2 : World} (hw : WRel m h W) (a : Snd m h W m' h' W') (b : Snd m' h' W' m2 h2 W2) : Snd m h W m2 h2 W2 := by
 have dead : ∀ n b, m.r n b → h.get n = none → h'.get n = none := fun n b hr hg => by
  rcases Nat.lt_or_ge n h.next with h1 | h1
  ·exact a.dead n h1 hg
  ·have h2 : h.lim ≤ n := by
    rcases Nat.lt_or_ge n h.lim with h3 | h3
    ·exact absurd hr (hw.fresh n h1 h3 b)
    ·exact h3
   exact H.get_ge (by have := a.rel.le; rw [a.lim] at this; omega)
 refine ⟨Bij.le_trans a.le b.le, b.rel, Nat.le_trans a.size b.size, ?_, Nat.le_trans a.next b.next, b.lim.trans a.lim, ?_, ?_, b.rest.1.trans a.rest.1, b.rest.2.1.trans a.rest.2.1, b.rest.2.2.trans a.rest.2.2⟩
 ·intro x hx hn
  refine (b.block x (Nat.lt_of_lt_of_le hx a.size) fun n hr => ?_).trans (a.block x hx hn)
  rcases a.new n x hr with k | ⟨k1, k2, k3 | ⟨q, k3, k4⟩⟩
  ·exact dead n x k (hn n k)
  ·omega
  ·exact absurd (hn q k3) k4
 ·intro n hn hg; exact b.dead n (Nat.lt_of_lt_of_le hn a.next) (a.dead n hn hg)
 ·intro n x hr
  rcases b.new n x hr with k | ⟨k1, k2, k3⟩
  ·rcases a.new n x k with q | ⟨q1, q2, q3⟩
   ·exact .inl q
   ·exact .inr ⟨q1, Nat.lt_of_lt_of_le q2 b.next, q3⟩
  ·refine .inr ⟨Nat.le_trans a.next k1, k2, ?_⟩
   rcases k3 with k3 | ⟨q, k3, k4⟩
   ·exact .inl (Nat.le_trans a.size k3)
   ·rcases a.new q x k3 with z | ⟨z1, z2, z3⟩
    ·exact .inr ⟨q, z, fun hg => k4 (dead q x z hg)⟩
    ·exact z3
theorem H.get_put {h : H} {n : Nat} (hr : h.lim + 2 ≤ 2 ^ D) (hl : h.next ≤ h.lim) (hn : n < h.next) (o : AObj) (k : Nat) : (h.put n o).get k = if k = n then some o else h.get k := by
 unfold H.get H.put
 simp only
 rw [Tr.get_set D h.t n k (some o) (by omega)]
 by_cases hk : k = n
 ·subst hk; simp [hn]
 ·simp [hk]
theorem H.get_kill {h : H} {n : Nat} (hr : h.lim + 2 ≤ 2 ^ D) (hl : h.next ≤ h.lim) (hn : n < h.next) (k : Nat) : (h.kill n).get k = if k = n then none else h.get k := by
 unfold H.get H.kill
 simp only
 rw [Tr.get_set D h.t n k none (by omega)]
 by_cases hk : k = n
 ·subst hk; simp
 ·simp [hk]
theorem H.get_push {h : H} (hr : h.lim + 2 ≤ 2 ^ D) (hl : h.next ≤ h.lim) (o : AObj) (k : Nat) : (h.push o).get k = if k = h.next then some o else h.get k := by
 unfold H.get H.push
 simp only
 rw [Tr.get_set D h.t h.next k (some o) (by omega)]
 by_cases hk : k = h.next
 ·subst hk; simp
 ·simp only [hk, if_false]
  by_cases h2 : k < h.next
  ·rw [if_pos h2, if_pos (by omega)]
  ·rw [if_neg h2, if_neg (by omega)]
theorem WRel.at_ {m : Bij} {h : H} {W : World} (hw : WRel m h W) {n b : Nat} (hb : m.r n b) {o : AObj} (hg : h.get n = some o) : ∃ o', W.heap[b]? = some o' ∧ NRel m n o o' := by
 obtain ⟨c, o', h1, h2, h3⟩ := hw.obj n o hg
 have : c = b := m.fn h1 hb
 subst this
 exact ⟨o', h2, h3⟩
theorem NRel.row {m : Bij} {n : Nat} {c : Array Value} {t : TypeId} {fr : Nat × Nat} {g : Bool} {o' : Obj} (h : NRel m n ⟨.cells c t fr, g⟩ o') :
  ∃ c' fr', o' = .cells c' t fr' ∧ HeadRel m c c' ∧ FrRel c'.size fr fr' ∧ (g = false → c'.size = c.size) ∧ (g = true → c'.size = m.gr n ∧ c'.size < BIG) := by
 cases h with
 | obj h => cases h with
   | @cells c c' fr fr' t hf hr => exact ⟨c', fr', rfl, ⟨Nat.le_of_eq hr.size, hr.at_⟩, hf, fun _ => hr.size.symm, fun h => by simp at h⟩
 | @grow c c' fr fr' t hf hr hs hb => exact ⟨c', fr', rfl, hr, hf, fun h => by simp at h, fun _ => ⟨hs, hb⟩⟩
theorem WRel.cell {m : Bij} {h : H} {W : World} (hw : WRel m h W) {a a' : Addr} (ha : ARel m a a') {v : Value} (hv : h.cell? a = some v) : ∃ v', W.cell? a' = some v' ∧ VRel m v v' := by
 cases ha with
 | @mk b b' o s hb =>
   unfold H.cell? at hv
   split at hv
   ·rename_i c t fr g hg
    obtain ⟨o', h2, h3⟩ := hw.at_ hb hg
    obtain ⟨c', fr', rfl, h4, h5, _, _⟩ := h3.row
    cases s with
    | some x => simp at hv
    | none =>
      simp only [Option.isSome_none, Bool.false_eq_true, if_false] at hv
      obtain ⟨hl, rfl⟩ := Array.getElem?_eq_some_iff.1 hv
      have hl' : o < c'.size := Nat.lt_of_lt_of_le hl h4.size
      exact ⟨c'[o], by simp [World.cell?, h2, Array.getElem?_eq_getElem hl'], h4.at_ o hl hl'⟩
   ·simp at hv
theorem ORel.mono {m m' : Bij} (h : m ≤ m') {o o' : Obj} : ORel m o o' → ORel m' o o'
 | .cells t fr k => .cells t fr (k.mono h)
 | .map n hs k => .map n hs fun i a b => ⟨(k i a b).key.mono h, (k i a b).val.mono h, (k i a b).born⟩
 | .stringIter s p => .stringIter s p
 | .mapIter a b c k => .mapIter a b c (k.mono fun _ _ k => (h _ _ k).1)
 | .loop h1 h2 h4 h5 h6 h7 h8 => .loop h1 h2 (h4.mono h) h5 h6 h7 (h _ _ h8).1
 | .deferred => .deferred
 | .taken => .taken
theorem HeadRel.mono {m m' : Bij} (h : m ≤ m') {c c' : Array Value} (k : HeadRel m c c') : HeadRel m' c c' := ⟨k.size, fun i a b => (k.at_ i a b).mono h⟩
theorem NRel.mono {m m' : Bij} (h : m ≤ m') {n b : Nat} (hb : m.r n b) {o : AObj} {o' : Obj} (k : NRel m n o o') : NRel m' n o o' := by
 cases k with
 | obj k => exact .obj (k.mono h)
 | grow t k1 k2 k3 k4 => exact .grow t k1 (k2.mono h) (by rw [(h _ _ hb).2]; exact k3) k4
def Bij.add (m : Bij) (n b g : Nat) (hn : ∀ x, ¬ m.r n x) : Bij where
 r x y := m.r x y ∨ (x = n ∧ y = b)
 gr x := if x = n then g else m.gr x
 fn := by
  rintro a x y (h | ⟨rfl, rfl⟩) (k | ⟨h1, rfl⟩)
  ·exact m.fn h k
  ·subst h1; exact absurd h (hn _)
  ·exact absurd k (hn _)
  ·rfl
theorem Bij.le_add (m : Bij) (n b g : Nat) (hn : ∀ x, ¬ m.r n x) : m ≤ m.add n b g hn := fun x y hr => ⟨.inl hr, by
 show (if x = n then g else m.gr x) = m.gr x
 rw [if_neg (by rintro rfl; exact hn _ hr)]⟩
theorem Snd.push {m : Bij} {h : H} {W : World} (hw : WRel m h W) (hr : h.next < h.lim) (g : Nat) {o : AObj} {o' : Obj} (ho : ∀ m', m ≤ m' → m'.gr h.next = g → NRel m' h.next o o') :
  ∃ m', m'.r h.next W.heap.size ∧ m'.gr h.next = g ∧ Snd m h W m' (h.push o) { W with heap := W.heap.push o' } := by
 have hn : ∀ x, ¬ m.r h.next x := hw.fresh _ (Nat.le_refl _) hr
 have hm := m.le_add h.next W.heap.size g hn
 have hgr : (m.add h.next W.heap.size g hn).gr h.next = g := by simp [Bij.add]
 refine ⟨m.add h.next W.heap.size g hn, .inr ⟨rfl, rfl⟩, hgr, hm, ⟨?_, ?_, ?_, ?_, hw.room, ?_⟩, by simp, ?_, by simp [H.push], rfl, ?_, ?_, rfl, rfl, rfl⟩
 ·intro n x hx
  rw [H.get_push hw.room hw.le] at hx
  by_cases hk : n = h.next
  ·subst hk; simp only [if_true, Option.some.injEq] at hx; subst hx
   exact ⟨W.heap.size, o', .inr ⟨rfl, rfl⟩, by simp, ho _ hm hgr⟩
  ·rw [if_neg hk] at hx
   obtain ⟨b, y, h1, h2, h3⟩ := hw.obj n x hx
   have := hw.ran _ _ h1
   exact ⟨b, y, .inl h1, by simp [Array.getElem?_push, h2]; omega, h3.mono hm h1⟩
 ·rintro n hn1 hn2 b (k | ⟨rfl, rfl⟩)
  ·exact hw.fresh n (by simp [H.push] at hn1; omega) hn2 b k
  ·simp [H.push] at hn1; omega
 ·rintro n b (k | ⟨rfl, rfl⟩)
  ·have := hw.ran _ _ k; simp; omega
  ·simp
 ·rintro n k b (h1 | ⟨rfl, rfl⟩) (h2 | ⟨rfl, h3⟩) g1 g2
  ·rw [H.get_push hw.room hw.le] at g1 g2
   have e1 : n ≠ h.next := by rintro rfl; exact hn _ h1
   have e2 : k ≠ h.next := by rintro rfl; exact hn _ h2
   rw [if_neg e1] at g1; rw [if_neg e2] at g2
   exact hw.inj n k b h1 h2 g1 g2
  ·subst h3; have := hw.ran _ _ h1; omega
  ·have := hw.ran _ _ h2; omega
  ·rfl
 ·simp [H.push]; omega
 ·intro c hc _; simp [Array.getElem?_push]; omega
 ·intro n hn1 hg; rw [H.get_push hw.room hw.le, if_neg (by omega)]; exact hg
 ·rintro n b (k | ⟨rfl, rfl⟩)
  ·exact .inl k
  ·exact .inr ⟨Nat.le_refl _, by simp [H.push], .inl (Nat.le_refl _)⟩
theorem Snd.put {m : Bij} {h : H} {W : World} (hw : WRel m h W) {n b : Nat} {x : AObj} (hg : h.get n = some x) (hb : m.r n b) {o : AObj} {o' : Obj} (ho : NRel m n o o') :
  Snd m h W m (h.put n o) { W with heap := W.heap.setIfInBounds b o' } := by
 have hlt := H.get_lt hg
 have hbl := hw.ran _ _ hb
 refine ⟨Bij.le_refl m, ⟨?_, hw.fresh, fun a c k => by simpa using hw.ran a c k, ?_, hw.room, hw.le⟩, by simp, ?_, Nat.le_refl _, rfl, ?_, fun _ _ k => .inl k, rfl, rfl, rfl⟩
 ·intro k y hy
  rw [H.get_put hw.room hw.le hlt] at hy
  by_cases hk : k = n
  ·subst hk; simp only [if_true, Option.some.injEq] at hy; subst hy
   exact ⟨b, o', hb, by simp [hbl], ho⟩
  ·rw [if_neg hk] at hy
   obtain ⟨c, z, h1, h2, h3⟩ := hw.obj k y hy
   have hne : b ≠ c := fun e => hk (hw.inj k n c h1 (e ▸ hb) (by rw [hy]; simp) (by rw [hg]; simp))
   exact ⟨c, z, h1, by simp [hne, h2], h3⟩
 ·intro k l c h1 h2 g1 g2
  rw [H.get_put hw.room hw.le hlt] at g1 g2
  refine hw.inj k l c h1 h2 ?_ ?_
  ·split at g1
   ·subst_vars; rw [hg]; simp
   ·exact g1
  ·split at g2
   ·subst_vars; rw [hg]; simp
   ·exact g2
 ·intro c _ hn
  have : b ≠ c := fun e => by have := hn n (e ▸ hb); rw [hg] at this; simp at this
  simp [this]
 ·intro k _ hk
  rw [H.get_put hw.room hw.le hlt]
  by_cases e : k = n
  ·subst e; rw [hg] at hk; simp at hk
  ·rw [if_neg e]; exact hk
end Go.Proofs.YtlbipokkdiiaiaaGreatDoor.Exec
namespace Go.Proofs.YtlbipokkdiiaiaaGreatDoor.Exec
theorem RowRel.set {m : Bij} {c c' : Array Value} (h : RowRel m c c') {v v' : Value} (hv : VRel m v v') (i : Nat) : RowRel m (c.setIfInBounds i v) (c'.setIfInBounds i v') :=
 ⟨by simp [h.size], fun j a b => by
  simp only [Array.size_setIfInBounds] at a b
  by_cases hij : i = j
  ·subst hij; simpa using hv
  ·have e1 : (c.setIfInBounds i v)[j]? = c[j]? := Array.getElem?_setIfInBounds_ne hij
   have e2 : (c'.setIfInBounds i v')[j]? = c'[j]? := Array.getElem?_setIfInBounds_ne hij
   have := h.at_ j a b
   rw [Array.getElem?_eq_getElem (by simpa using a), Array.getElem?_eq_getElem a, Option.some.injEq] at e1
   rw [Array.getElem?_eq_getElem (by simpa using b), Array.getElem?_eq_getElem b, Option.some.injEq] at e2
   rw [e1, e2]; exact this⟩
theorem HeadRel.set {m : Bij} {c c' : Array Value} (h : HeadRel m c c') {v v' : Value} (hv : VRel m v v') (i : Nat) : HeadRel m (c.setIfInBounds i v) (c'.setIfInBounds i v') :=
 ⟨by simpa using h.size, fun j a b => by
  simp only [Array.size_setIfInBounds] at a b
  by_cases hij : i = j
  ·subst hij; simpa using hv
  ·have e1 : (c.setIfInBounds i v)[j]? = c[j]? := Array.getElem?_setIfInBounds_ne hij
   have e2 : (c'.setIfInBounds i v')[j]? = c'[j]? := Array.getElem?_setIfInBounds_ne hij
   have := h.at_ j a b
   rw [Array.getElem?_eq_getElem (by simpa using a), Array.getElem?_eq_getElem a, Option.some.injEq] at e1
   rw [Array.getElem?_eq_getElem (by simpa using b), Array.getElem?_eq_getElem b, Option.some.injEq] at e2
   rw [e1, e2]; exact this⟩
theorem NRel.of_row {m : Bij} {n : Nat} {c c' : Array Value} {t : TypeId} {fr fr' : Nat × Nat} {g : Bool} (h1 : HeadRel m c c') (h2 : FrRel c'.size fr fr') (h3 : g = false → c'.size = c.size) (h4 : g = true → c'.size = m.gr n ∧ c'.size < BIG) :
  NRel m n ⟨.cells c t fr, g⟩ (.cells c' t fr') := by
 cases g with
 | true => exact .grow t h2 h1 (h4 rfl).1 (h4 rfl).2
 | false => exact .obj (.cells t h2 ⟨(h3 rfl).symm, h1.at_⟩)
theorem H.open_spec {h : H} {a : Addr} {k : Nat} {c : Array Value} {t : TypeId} {fr : Nat × Nat} {g : Bool} (he : h.open? a k = some (c, t, fr, g)) :
  h.get a.block = some ⟨.cells c t fr, g⟩ ∧ a.spot = none ∧ a.off + k ≤ c.size ∧ ¬ (fr.1 < a.off + k ∧ a.off < fr.2) := by
 unfold H.open? at he
 split at he
 ·rename_i c0 t0 lo hi g0 hg
  split at he
  ·simp at he
  ·rename_i hc
   simp only [Option.some.injEq, Prod.mk.injEq] at he
   obtain ⟨rfl, rfl, rfl, rfl⟩ := he
   refine ⟨hg, ?_, ?_, ?_⟩
   ·cases hs : a.spot <;> simp_all
   ·simp only [Bool.or_eq_true, not_or] at hc; have := hc.1.2; simpa using this
   ·simp only [Bool.or_eq_true, not_or] at hc; have := hc.2; simpa using this
 ·simp at he
theorem FrRel.clear {n i : Nat} {f f' : Nat × Nat} (h : FrRel n f f') (hi : i < n) (hc : ¬ (f.1 < i + 1 ∧ i < f.2)) : ¬ (f'.1 ≤ i ∧ i < f'.2) := by
 rintro ⟨h1, h2⟩
 have hne : f'.1 ≠ f'.2 := by omega
 obtain ⟨h3, h4⟩ := h.2 hne
 apply hc
 omega
theorem setCell_eq {W : World} {b i : Nat} {c : Array Value} {t : TypeId} {fr : Nat × Nat} (hb : W.heap[b]? = some (.cells c t fr)) (v : Value) :
  W.setCell ⟨b, i, none⟩ v = { W with heap := W.heap.setIfInBounds b (.cells (c.setIfInBounds i v) t fr) } := by
 have hbl : b < W.heap.size := (Array.getElem?_eq_some_iff.1 hb).1
 unfold World.setCell
 congr 1
 apply Array.ext_getElem?
 intro j
 by_cases hi2 : b = j
 ·subst hi2; rw [Array.getElem?_modify, Array.getElem?_setIfInBounds_self_of_lt hbl, if_pos rfl, hb]; rfl
 ·simp [Array.getElem?_modify, hi2]
theorem freeze_eq {W : World} {b i n : Nat} {c : Array Value} {t : TypeId} {lo hi : Nat} (hb : W.heap[b]? = some (.cells c t (lo, hi))) (s : Option Nat) (hn : n ≠ 0) :
  W.freeze ⟨b, i, s⟩ n = { W with heap := W.heap.setIfInBounds b (.cells c t (if lo == hi then (i, i + n) else (min lo i, max hi (i + n)))) } := by
 have hbl : b < W.heap.size := (Array.getElem?_eq_some_iff.1 hb).1
 unfold World.freeze
 rw [if_neg hn]
 congr 1
 apply Array.ext_getElem?
 intro j
 by_cases hi2 : b = j
 ·subst hi2; rw [Array.getElem?_modify, Array.getElem?_setIfInBounds_self_of_lt hbl, if_pos rfl, hb]; rfl
 ·simp [Array.getElem?_modify, hi2]
theorem FrRel.freeze {k lo hi lo' hi' i n : Nat} (hn : n ≠ 0) (h : FrRel k (lo, hi) (lo', hi')) :
  FrRel k (if lo == hi then (i, i + n) else (min lo i, max hi (i + n))) (if lo' == hi' then (i, i + n) else (min lo' i, max hi' (i + n))) := by
 obtain ⟨h1, h2⟩ := h
 simp only at h1 h2
 by_cases e : lo = hi
 ·have e' := h1 e
  subst e; subst e'
  simp only [beq_self_eq_true, if_true]
  exact ⟨fun h => h, fun _ => ⟨.inl (Nat.le_refl _), Nat.le_refl _⟩⟩
 ·rw [if_neg (by simpa using e)]
  by_cases e' : lo' = hi'
  ·subst e'
   simp only [beq_self_eq_true, if_true]
   exact ⟨fun h => by simp only at h; omega, fun _ => ⟨.inl (by simp only; omega), by simp only; omega⟩⟩
  ·rw [if_neg (by simpa using e')]
   obtain ⟨h3, h4⟩ := h2 e'
   refine ⟨fun h => by simp only at h; omega, fun _ => ⟨?_, by simp only; omega⟩⟩
   simp only
   rcases h3 with h3 | h3
   ·left; omega
   ·by_cases hik : i ≤ lo'
    ·left; omega
    ·right; omega
theorem ARun.sound {P : Program} {α β : Type} {R : Bij → α → β → Prop} {m : Bij} {s : Sem α} {s' : Sem β} (hs : SRel P R m s s') :
  ∀ {h h1 : H} {a : α} {W : World}, ARun P s h = some (a, h1) → WRel m h W →
    ∃ m' b W', s'.run P W = .ok b W' ∧ R m' a b ∧ Snd m h W m' h1 W' := by
 induction hs with
 | @pure m a b hr =>
   intro h h1 a' W he hw
   simp only [ARun, Option.some.injEq, Prod.mk.injEq] at he
   obtain ⟨rfl, rfl⟩ := he
   exact ⟨m, b, W, rfl, hr, Snd.refl hw⟩
 | @load m md a a' k k' ha _ ih =>
   intro h h1 x W he hw
   simp only [ARun] at he
   cases hc : h.cell? a with
   | none => simp [hc] at he
   | some v =>
     simp only [hc] at he
     obtain ⟨v', hv1, hv2⟩ := hw.cell ha hc
     obtain ⟨m', b, W', r2, r3, r4⟩ := ih v v' hv2 he hw
     exact ⟨m', b, W', by simp only [Sem.run, hv1]; exact r2, r3, r4⟩
 | @new m o o' k k' ho _ ih =>
   intro h h1 x W he hw
   simp only [ARun] at he
   split at he
   ·rename_i hr
    obtain ⟨m1, p1, p2, p3⟩ := Snd.push hw hr 0 (o := ⟨o, false⟩) (o' := o') fun m' hm _ => .obj (ho.mono hm)
    obtain ⟨m', b, W', r2, r3, r4⟩ := ih m1 _ _ p3.le p1 he p3.rel
    exact ⟨m', b, W', by simp only [Sem.run]; exact r2, r3, p3.trans hw r4⟩
   ·simp at he
 | @shape m r r' k k' hr _ ih =>
   intro h h1 x W he hw
   simp only [ARun] at he
   split at he
   ·rename_i c t fr hg
    obtain ⟨o', q1, q2⟩ := hw.at_ hr hg
    obtain ⟨c', fr', rfl, q3, q4, q5, _⟩ := q2.row
    obtain ⟨m', b, W', r2, r3, r4⟩ := ih _ he hw
    refine ⟨m', b, W', ?_, r3, r4⟩
    simp only [Sem.run, World.shape?, q1]
    rw [q5 rfl]; exact r2
   ·rename_i e c g hg
    obtain ⟨o', q1, q2⟩ := hw.at_ hr hg
    cases q2 with
    | obj q2 => cases q2 with
      | map n q3 q4 =>
        obtain ⟨m', b, W', r2, r3, r4⟩ := ih _ he hw
        exact ⟨m', b, W', by simp only [Sem.run, World.shape?, q1]; exact r2, r3, r4⟩
   ·simp at he
 | @program m k k' _ ih =>
   intro h h1 x W he hw
   simp only [ARun] at he
   obtain ⟨m', b, W', r2, r3, r4⟩ := ih he hw
   exact ⟨m', b, W', by simp only [Sem.run]; exact r2, r3, r4⟩
 | @mark m x y k k' _ ih =>
   intro h h1 z W he hw
   simp only [ARun] at he
   obtain ⟨m', b, W', r2, r3, r4⟩ := ih he hw
   exact ⟨m', b, W', by simp only [Sem.run]; exact r2, r3, r4⟩
 | @choose m q k k' _ ih =>
   intro h h1 z W he hw
   simp only [ARun] at he
   split at he
   ·rename_i hq
    obtain ⟨m', b, W', r2, r3, r4⟩ := ih hq he hw
    exact ⟨m', b, W', by simp only [Sem.run, hq, if_true]; exact r2, r3, r4⟩
   ·simp at he
 | dead hd => intro h h1 z W he hw; rw [hd h] at he; simp at he
 | @store m md a a' v v' k k' ha hv _ ih =>
   intro h h1 x W he hw
   cases ha with
   | @mk b b' o s hb =>
     have hva : ∀ c, v ≠ .agg c := by rintro c rfl; simp [ARun] at he
     have hvt : ∀ c, v ≠ .tuple c := by rintro c rfl; simp [ARun] at he
     have he2 : ∃ c t fr g, h.open? ⟨b, o, s⟩ 1 = some (c, t, fr, g) ∧ ARun P k (h.put b ⟨.cells (c.setIfInBounds o v) t fr, g⟩) = some (x, h1) := by
      cases v <;> first | exact absurd rfl (hva _) | exact absurd rfl (hvt _) | (
       simp only [ARun] at he
       split at he
       ·rename_i c t fr g hg; exact ⟨c, t, fr, g, hg, he⟩
       ·simp at he)
     obtain ⟨c, t, fr, g, ho, he3⟩ := he2
     obtain ⟨hg, hs, hl, hf⟩ := H.open_spec ho
     simp only at hg hs hl hf
     subst hs
     obtain ⟨o', q1, q2⟩ := hw.at_ hb hg
     obtain ⟨c', fr', rfl, q3, q4, q5, q6⟩ := q2.row
     have hl0 : o < c.size := by omega
     have hl' : o < c'.size := Nat.lt_of_lt_of_le hl0 q3.size
     have hp := Snd.put hw hg hb (NRel.of_row (n := b) (t := t) (fr := fr) (fr' := fr') (g := g) (q3.set hv o) (by simpa using q4) (fun e => by simpa using q5 e) (fun e => by simpa using q6 e))
     obtain ⟨m', z, W', r2, r3, r4⟩ := ih he3 hp.rel
     have hcell : W.cell? ⟨b', o, none⟩ = some c'[o] := by simp [World.cell?, q1, Array.getElem?_eq_getElem hl']
     have hfr : W.frozen? ⟨b', o, none⟩ = false := by
      have := q4.clear hl' hf
      simp only [World.frozen?, q1]; simpa using this
     refine ⟨m', z, W', ?_, r3, hp.trans hw r4⟩
     cases hv <;> first | exact absurd rfl (hva _) | exact absurd rfl (hvt _) | (simp only [Sem.run, hcell, hfr]; rw [if_neg (by simp), setCell_eq q1]; exact r2)
 | @frozen m a a' k k' ha _ ih =>
   intro h h1 x W he hw
   simp only [ARun] at he
   split at he
   ·rename_i c t lo hi g hg
    split at he
    ·simp at he
    ·rename_i hc
     cases ha with
     | @mk b b' o s hb =>
       simp only at hg hc
       obtain ⟨o', q1, q2⟩ := hw.at_ hb hg
       obtain ⟨c', ⟨lo', hi'⟩, rfl, q3, q4, q5, q6⟩ := q2.row
       obtain ⟨m', y, W', r2, r3, r4⟩ := ih _ he hw
       refine ⟨m', y, W', ?_, r3, r4⟩
       simp only [Bool.or_eq_true, not_or] at hc
       have hl : o < c.size := by have := hc.1; simpa using this
       have hf := q4.clear (Nat.lt_of_lt_of_le hl q3.size) (by have := hc.2; simpa using this)
       have : W.frozen? ⟨b', o, s⟩ = false := by
        simp only [World.frozen?, q1]; simpa using hf
       simp only [Sem.run, this]; exact r2
   ·simp at he
 | @freeze m a a' n k k' ha _ ih =>
   intro h h1 x W he hw
   simp only [ARun] at he
   split at he
   ·rename_i c t lo hi g hg
    cases ha with
    | @mk b b' o s hb =>
      simp only at hg he
      obtain ⟨o', q1, q2⟩ := hw.at_ hb hg
      obtain ⟨c', ⟨lo', hi'⟩, rfl, q3, q4, q5, q6⟩ := q2.row
      by_cases hn : n = 0
      ·subst hn
       simp only [if_true] at he
       obtain ⟨m', y, W', r2, r3, r4⟩ := ih he hw
       exact ⟨m', y, W', by simp only [Sem.run, World.freeze, if_true]; exact r2, r3, r4⟩
      ·rw [if_neg hn] at he
       have hp := Snd.put hw hg hb (NRel.of_row (n := b) (t := t) (g := g) q3 (q4.freeze (i := o) hn) q5 q6)
       obtain ⟨m', y, W', r2, r3, r4⟩ := ih he hp.rel
       exact ⟨m', y, W', by simp only [Sem.run]; rw [freeze_eq q1 s hn]; exact r2, r3, hp.trans hw r4⟩
   ·simp at he
 | @getObj m r r' k k' hr _ ih =>
   intro h h1 x W he hw
   simp only [ARun] at he
   split at he
   ·simp at he
   ·rename_i o g hne hg
    obtain ⟨o', q1, q2⟩ := hw.at_ hr hg
    cases q2 with
    | grow t _ _ _ _ => exact (hne _ _ _ rfl).elim
    | obj q2 =>
      obtain ⟨m', b, W', r2, r3, r4⟩ := ih o o' q2 he hw
      refine ⟨m', b, W', ?_, r3, r4⟩
      simp only [Sem.run, q1]
      cases q2 with
      | cells t fr _ => exact (hne _ _ _ rfl).elim
      | _ => exact r2
   ·simp at he
 | @setObj m r r' o o' k k' hr ho _ ih =>
   intro h h1 x W he hw
   cases hg : h.get r with
   | none => simp [ARun, hg] at he
   | some y =>
     obtain ⟨y, g⟩ := y
     have hy : ∀ c t f, y ≠ .cells c t f := by rintro c t f rfl; simp [ARun, hg] at he
     have ho2 : ∀ c t f, o ≠ .cells c t f := by
      rintro c t f rfl; cases y <;> simp [ARun, hg] at he
     have he' : ARun P k (h.put r ⟨o, false⟩) = some (x, h1) := by
      cases y <;> cases o <;> first | exact absurd rfl (hy _ _ _) | exact absurd rfl (ho2 _ _ _) | simpa [ARun, hg] using he
     obtain ⟨y', q1, q2⟩ := hw.at_ hr hg
     have hp := Snd.put hw hg hr (.obj ho)
     obtain ⟨m', z, W', r2, r3, r4⟩ := ih he' hp.rel
     refine ⟨m', z, W', ?_, r3, hp.trans hw r4⟩
     simp only [Sem.run, q1]
     cases q2 with
     | grow t _ _ _ _ => exact absurd rfl (hy _ _ _)
     | obj q2 => cases q2 with
       | cells t fr _ => exact absurd rfl (hy _ _ _)
       | _ => exact r2
end Go.Proofs.YtlbipokkdiiaiaaGreatDoor.Exec
namespace Go.Proofs.YtlbipokkdiiaiaaGreatDoor.Exec
variable {P : Program} {m : Bij}
theorem sem_assoc {α β γ : Type} (s : Sem α) (f : α → Sem β) (g : β → Sem γ) : (s >>= f) >>= g = s >>= fun a => f a >>= g := by
 show (s.bind f).bind g = s.bind fun a => (f a).bind g
 induction s with
 | pure a => rfl
 | halt h => rfl
 | frozen a k ih => simp only [Sem.bind]; congr 1; funext b; exact ih b
 | _ => simp_all [Sem.bind]
theorem sem_pure {α β : Type} (a : α) (f : α → Sem β) : (Pure.pure a >>= f : Sem β) = f a := rfl
theorem sem_bind_pure {α : Type} (s : Sem α) : s.bind Sem.pure = s := by
 induction s with
 | pure a => rfl
 | halt h => rfl
 | frozen a k ih => simp only [Sem.bind]; congr 1; funext b; exact ih b
 | _ => simp_all [Sem.bind]
theorem sem_lawful : LawfulMonad Sem := LawfulMonad.mk' Sem (id_map := fun s => sem_bind_pure s) (pure_bind := fun _ _ => rfl) (bind_assoc := fun s f g => sem_assoc s f g)
def EqR {α : Type} : Bij → α → α → Prop := fun _ a b => a = b
theorem rel_eq {α : Type} (a : α) : SRel P EqR m (Pure.pure a) (Pure.pure a) := SRel.pure (R := EqR) (show a = a from rfl)
theorem rel_info_bind {α β : Type} {R : Bij → α → β → Prop} (t : TypeId) {k : TypeInfo → Sem α} {k' : TypeInfo → Sem β} (h : ∀ i, P.info? t = some i → SRel P R m (k i) (k' i)) :
  SRel P R m (typeInfo t >>= k) (typeInfo t >>= k') := by
 refine .program ?_
 show SRel P R m (Sem.bind (match P.info? t with | some i => Sem.pure i | none => stuck "no such type") k) (Sem.bind (match P.info? t with | some i => Sem.pure i | none => stuck "no such type") k')
 cases hi : P.info? t with
 | none => exact .halt
 | some i => exact h i hi
theorem rel_under_bind {α β : Type} {R : Bij → α → β → Prop} (t : TypeId) {k : TypeDesc → Sem α} {k' : TypeDesc → Sem β} (h : ∀ i, P.underlying t = some i → SRel P R m (k i) (k' i)) :
  SRel P R m (underlying t >>= k) (underlying t >>= k') := by
 refine .program ?_
 show SRel P R m (Sem.bind (match P.underlying t with | some i => Sem.pure i | none => stuck "no such type") k) (Sem.bind (match P.underlying t with | some i => Sem.pure i | none => stuck "no such type") k')
 cases hi : P.underlying t with
 | none => exact .halt
 | some i => exact h i hi
theorem rel_size_bind {α β : Type} {R : Bij → α → β → Prop} (t : TypeId) {k : Nat → Sem α} {k' : Nat → Sem β} (h : ∀ i, P.info? t = some i → SRel P R m (k i.size) (k' i.size)) :
  SRel P R m (sizeOf t >>= k) (sizeOf t >>= k') := by
 unfold sizeOf
 rw [sem_assoc, sem_assoc]
 exact rel_info_bind t fun i hi => h i hi
theorem rel_agg_bind {α β : Type} {R : Bij → α → β → Prop} (t : TypeId) {k : Bool → Sem α} {k' : Bool → Sem β} (h : ∀ b, SRel P R m (k b) (k' b)) :
  SRel P R m (isAgg t >>= k) (isAgg t >>= k') := by
 unfold isAgg
 rw [sem_assoc, sem_assoc]
 exact rel_under_bind t fun d _ => by cases d <;> exact h _
theorem rel_zero_bind {α β : Type} {R : Bij → α → β → Prop} (t : TypeId) {k : Value → Sem α} {k' : Value → Sem β} (h : ∀ i v, P.info? t = some i → i.zero = some v → SRel P R m (k v) (k' v)) :
  SRel P R m (zeroValue t >>= k) (zeroValue t >>= k') := by
 unfold zeroValue
 rw [sem_assoc, sem_assoc]
 refine rel_info_bind t fun i hi => ?_
 cases hz : i.zero with
 | none => exact .halt
 | some v => exact h i v hi hz
theorem rel_int_bind {α β : Type} {R : Bij → α → β → Prop} {v v' : Value} (hv : VRel m v v') {k : Int → Sem α} {k' : Int → Sem β} (h : ∀ c n, v = .int c n → v' = .int c n → SRel P R m (k n) (k' n)) :
  SRel P R m (asInt v >>= k) (asInt v' >>= k') := by
 cases hv with
 | int c n => exact h c n rfl rfl
 | pointer hp => cases hp <;> exact .halt
 | _ => exact .halt
theorem rel_intOf_bind {α β : Type} {R : Bij → α → β → Prop} {v v' : Value} (hv : VRel m v v') {k : IntKind × Int → Sem α} {k' : IntKind × Int → Sem β} (h : ∀ c n, v = .int c n → v' = .int c n → SRel P R m (k (c, n)) (k' (c, n))) :
  SRel P R m (asIntOf v >>= k) (asIntOf v' >>= k') := by
 cases hv with
 | int c n => exact h c n rfl rfl
 | pointer hp => cases hp <;> exact .halt
 | _ => exact .halt
theorem rel_bool_bind {α β : Type} {R : Bij → α → β → Prop} {v v' : Value} (hv : VRel m v v') {k : Bool → Sem α} {k' : Bool → Sem β} (h : ∀ b, v = .bool b → v' = .bool b → SRel P R m (k b) (k' b)) :
  SRel P R m (asBool v >>= k) (asBool v' >>= k') := by
 cases hv with
 | bool b => exact h b rfl rfl
 | _ => exact .halt
theorem rel_sure_bind {α β : Type} {R : Bij → α → β → Prop} {v v' : Value} (hv : VRel m v v') {k : Addr → Sem α} {k' : Addr → Sem β} (h : ∀ a a', ARel m a a' → SRel P R m (k a) (k' a')) :
  SRel P R m (Instr.sureAddr v >>= k) (Instr.sureAddr v' >>= k') := by
 cases hv with
 | pointer hp => cases hp with
   | none => exact .halt
   | some ha => exact h _ _ ha
 | _ => exact .halt
theorem rel_aggOf_bind {α β : Type} {R : Bij → α → β → Prop} {v v' : Value} (hv : VRel m v v') {k : Array Value → Sem α} {k' : Array Value → Sem β} (h : ∀ a a', RowRel m a a' → SRel P R m (k a) (k' a')) :
  SRel P R m (asAgg v >>= k) (asAgg v' >>= k') := by
 cases hv with
 | agg hs hc => exact h _ _ ⟨hs, hc⟩
 | _ => exact .halt
theorem ARel.add {a a' : Addr} (h : ARel m a a') (n : Nat) : ARel m (a.add n) (a'.add n) := by
 cases h with
 | mk k => unfold Addr.add; split <;> exact .mk k
theorem RowRel.push {c c' : Array Value} (h : RowRel m c c') {v v' : Value} (hv : VRel m v v') : RowRel m (c.push v) (c'.push v') :=
 ⟨by simp [h.size], fun i a b => by
  simp only [Array.size_push] at a b
  by_cases hi : i < c.size
  ·rw [Array.getElem_push_lt hi, Array.getElem_push_lt (h.size ▸ hi)]; exact h.at_ i hi (h.size ▸ hi)
  ·have h1 : i = c.size := by omega
   have h2 : i = c'.size := by rw [← h.size]; exact h1
   simp only [h1, Array.getElem_push_eq]
   have : (c'.push v')[c.size]'(by simp; have := h.size; omega) = v' := by simp [h.size]
   rw [this]; exact hv⟩
theorem RowRel.nil : RowRel m #[] #[] := ⟨rfl, fun i h => by simp at h⟩
theorem RowRel.one {v v' : Value} (hv : VRel m v v') : RowRel m #[v] #[v'] := RowRel.nil.push hv
theorem RowRel.get {c c' : Array Value} (h : RowRel m c c') (i : Nat) : OptRel (VRel m) c[i]? c'[i]? := by
 by_cases hi : i < c.size
 ·rw [Array.getElem?_eq_getElem hi, Array.getElem?_eq_getElem (h.size ▸ hi)]; exact .some (h.at_ i hi _)
 ·rw [Array.getElem?_eq_none (by omega), Array.getElem?_eq_none (by have := h.size; omega)]; exact .none
theorem RowRel.of_get {c c' : Array Value} (hs : c.size = c'.size) (h : ∀ (i : Nat) (v v' : Value), c[i]? = some v → c'[i]? = some v' → VRel m v v') : RowRel m c c' :=
 ⟨hs, fun i a b => h i _ _ (Array.getElem?_eq_getElem a) (Array.getElem?_eq_getElem b)⟩
theorem RowRel.append {a a' b b' : Array Value} (h : RowRel m a a') (k : RowRel m b b') : RowRel m (a ++ b) (a' ++ b') := by
 refine .of_get (by simp [h.size, k.size]) fun i v v' h1 h2 => ?_
 rw [Array.getElem?_append] at h1 h2
 have hs := h.size
 by_cases hi : i < a.size
 ·rw [if_pos hi] at h1; rw [if_pos (by omega)] at h2
  have := h.get i; rw [h1, h2] at this; cases this with | some q => exact q
 ·rw [if_neg hi] at h1; rw [if_neg (by omega)] at h2
  have := k.get (i - a.size); rw [h1] at this; rw [hs, h2] at this; cases this with | some q => exact q
theorem RowRel.extract {a a' : Array Value} (h : RowRel m a a') (i j : Nat) : RowRel m (a.extract i j) (a'.extract i j) := by
 refine .of_get (by simp [h.size]) fun k v v' h1 h2 => ?_
 rw [Array.getElem?_extract] at h1 h2
 have hs := h.size
 rw [← hs] at h2
 split at h1
 ·rename_i hk; rw [if_pos hk] at h2
  have := h.get (i + k); rw [h1, h2] at this; cases this with | some q => exact q
 ·simp at h1
theorem RowRel.of_cells {v v' : Value} (h : VRel m v v') : RowRel m v.cells v'.cells := by
 cases h with
 | agg hs hc => exact ⟨hs, hc⟩
 | _ => exact .one (by first | assumption | (constructor <;> assumption) | constructor)
inductive LRel (m : Bij) : List Value → List Value → Prop
 | nil : LRel m [] []
 | cons {v v' : Value} {l l' : List Value} : VRel m v v' → LRel m l l' → LRel m (v :: l) (v' :: l')
theorem LRel.of_get : ∀ {l l' : List Value}, l.length = l'.length → (∀ (i : Nat) v v', l[i]? = some v → l'[i]? = some v' → VRel m v v') → LRel m l l'
 | [], [], _, _ => .nil
 | v :: l, v' :: l', hs, h => .cons (h 0 v v' rfl rfl) (LRel.of_get (by simpa using hs) fun i a b h1 h2 => h (i + 1) a b (by simpa using h1) (by simpa using h2))
theorem RowRel.toList {a a' : Array Value} (h : RowRel m a a') : LRel m a.toList a'.toList :=
 LRel.of_get (by simpa using h.size) fun i v v' h1 h2 => by
  have := h.get i
  rw [Array.getElem?_toList] at h1 h2
  rw [h1, h2] at this; cases this with | some q => exact q
theorem LRel.length {l l' : List Value} (h : LRel m l l') : l.length = l'.length := by
 induction h with
 | nil => rfl
 | cons _ _ ih => simp [ih]
theorem LRel.get {l l' : List Value} (h : LRel m l l') (i : Nat) : OptRel (VRel m) l[i]? l'[i]? := by
 induction h generalizing i with
 | nil => exact .none
 | cons hv _ ih => cases i with
   | zero => exact .some hv
   | succ i => exact ih i
theorem LRel.toArray {l l' : List Value} (h : LRel m l l') : RowRel m l.toArray l'.toArray :=
 .of_get (by simpa using h.length) fun i v v' h1 h2 => by
  have := h.get i
  rw [List.getElem?_toArray] at h1 h2
  rw [h1, h2] at this; cases this with | some q => exact q
theorem RowRel.map {α : Type} {f g : α → Value} (x : Array α) (h : ∀ a ∈ x, VRel m (f a) (g a)) : RowRel m (x.map f) (x.map g) :=
 .of_get (by simp) fun i v v' h1 h2 => by
  rw [Array.getElem?_map] at h1 h2
  cases hx : x[i]? with
  | none => rw [hx] at h1; simp at h1
  | some a =>
    rw [hx] at h1 h2
    simp only [Option.map_some, Option.some.injEq] at h1 h2
    subst h1; subst h2
    exact h a (Array.mem_of_getElem? hx)
theorem rel_loadCellsFrom {a a' : Addr} (n : Nat) : ∀ {m : Bij} (_ : ARel m a a') (i : Nat) {acc acc' : Array Value}, RowRel m acc acc' → SRel P RowRel m (loadCellsFrom a i n acc) (loadCellsFrom a' i n acc') := by
 induction n with
 | zero => intro m ha i acc acc' h; exact .pure h
 | succ n ih => intro m ha i acc acc' h; exact .load _ (ha.add i) fun v v' hv => ih ha (i + 1) (h.push hv)
theorem rel_loadVar (t : TypeId) {a a' : Addr} (ha : ARel m a a') : SRel P VRel m (loadVar t a) (loadVar t a') := by
 refine rel_agg_bind t fun b => ?_
 cases b with
 | false => exact .load _ ha fun v v' hv => .pure hv
 | true => exact rel_size_bind t fun i _ => (rel_loadCellsFrom i.size ha 0 .nil).bind fun _ _ _ _ h => .pure (.agg h.size h.at_)
end Go.Proofs.YtlbipokkdiiaiaaGreatDoor.Exec
namespace Go.Proofs.YtlbipokkdiiaiaaGreatDoor.Exec
variable {P : Program} {m : Bij}
inductive Calm (P : Program) {α : Type} : Sem α → Option α → Prop
 | pure (a : α) : Calm P (.pure a) (some a)
 | program {k : Program → Sem α} {r : Option α} : Calm P (k P) r → Calm P (.program k) r
 | halt (h : Halt) : Calm P (.halt h) none
def Still (P : Program) {α : Type} (s : Sem α) : Prop := ∃ r, Calm P s r
theorem Calm.bind {α β : Type} {s : Sem α} {r : Option α} (h : Calm P s r) {f : α → Sem β} (hf : ∀ a, r = some a → Still P (f a)) : Still P (s >>= f) := by
 show Still P (s.bind f)
 induction h with
 | pure a => exact hf a rfl
 | program _ ih => obtain ⟨r, hr⟩ := ih hf; exact ⟨r, .program hr⟩
 | halt h => exact ⟨none, .halt h⟩
theorem Still.bind {α β : Type} {s : Sem α} (h : Still P s) {f : α → Sem β} (hf : ∀ a, Still P (f a)) : Still P (s >>= f) := let ⟨_, h⟩ := h; h.bind fun a _ => hf a
theorem Still.pure {α : Type} (a : α) : Still P (Pure.pure a : Sem α) := ⟨some a, .pure a⟩
theorem Still.stuck {α : Type} (w : String) : Still P (Go.stuck w : Sem α) := ⟨none, .halt _⟩
theorem Still.typeInfo (t : TypeId) : Still P (Go.typeInfo t) := Still.bind (s := Go.program) ⟨_, .program (.pure P)⟩ fun p => by cases p.info? t <;> first | exact .stuck _ | exact .pure _
theorem Still.underlying (t : TypeId) : Still P (Go.underlying t) := Still.bind (s := Go.program) ⟨_, .program (.pure P)⟩ fun p => by cases p.underlying t <;> first | exact .stuck _ | exact .pure _
theorem Still.sizeOf (t : TypeId) : Still P (Go.sizeOf t) := (Still.typeInfo t).bind fun _ => .pure _
theorem Still.isAgg (t : TypeId) : Still P (Go.isAgg t) := (Still.underlying t).bind fun d => by cases d <;> exact .pure _
theorem rel_still_bind {α β γ : Type} {R : Bij → β → γ → Prop} {s : Sem α} (h : Still P s) {k : α → Sem β} {k' : α → Sem γ} (hk : ∀ a, SRel P R m (k a) (k' a)) : SRel P R m (s >>= k) (s >>= k') := by
 obtain ⟨r, h⟩ := h
 show SRel P R m (s.bind k) (s.bind k')
 induction h with
 | pure a => exact hk a
 | program _ ih => exact .program ih
 | halt h => exact .halt
theorem Still.mapM {α β : Type} {f : α → Sem β} (h : ∀ a, Still P (f a)) (x : Array α) : Still P (x.mapM f) := by
 have := sem_lawful
 rw [Array.mapM_eq_foldlM, ← Array.foldlM_toList]
 generalize #[] = acc
 induction x.toList generalizing acc with
 | nil => exact .pure _
 | cons a l ih => rw [List.foldlM_cons]; exact Still.bind (Still.bind (h a) fun b => .pure _) fun b => ih b
theorem rel_storeCells {a a' : Addr} (ha : ARel m a a') {l l' : List Value} (h : LRel m l l') : ∀ i, SRel P (fun _ _ _ => True) m (storeCells a l i) (storeCells a' l' i) := by
 induction h with
 | nil => intro i; exact .pure trivial
 | cons hv _ ih => intro i; exact .store _ (ha.add i) hv (ih (i + 1))
theorem rel_storeVar (t : TypeId) {a a' : Addr} (ha : ARel m a a') {v v' : Value} (hv : VRel m v v') : SRel P (fun _ _ _ => True) m (storeVar t a v) (storeVar t a' v') := by
 have hc := RowRel.of_cells hv
 unfold storeVar
 refine rel_size_bind t fun i _ => ?_
 rw [hc.size]
 split
 ·exact .halt
 ·exact rel_storeCells ha hc.toList 0
theorem rel_newRow (t : TypeId) {c c' : Array Value} (h : RowRel m c c') : SRel P ARel m (newRow t c) (newRow t c') :=
 .new (.cells t ⟨fun _ => rfl, fun h => absurd rfl h⟩ h) fun _ _ _ _ hr => .pure (.mk hr)
theorem rel_newVar (t : TypeId) {v v' : Value} (h : VRel m v v') : SRel P ARel m (newVar t v) (newVar t v') := rel_newRow t (.of_cells h)
theorem rel_part (t : TypeId) {c c' : Array Value} (h : RowRel m c c') (off : Nat) : SRel P VRel m (part t c off) (part t c' off) := by
 refine rel_agg_bind t fun b => ?_
 cases b with
 | true => exact rel_size_bind t fun i _ => .pure (.agg (h.extract _ _).size (h.extract _ _).at_)
 | false =>
   have := h.get off
   show SRel P VRel m (match c[off]? with | some v => Pure.pure v | none => stuck "part: no such cell") (match c'[off]? with | some v => Pure.pure v | none => stuck "part: no such cell")
   cases hc : c[off]? <;> cases hc' : c'[off]? <;> rw [hc, hc'] at this <;> cases this
   ·exact .halt
   ·rename_i q; exact .pure q
inductive NxRel (m : Bij) : Next → Next → Prop
 | value {v v' : Value} : VRel m v v' → NxRel m (.value v) (.value v')
 | skip : NxRel m .skip .skip
 | enter (f : FuncId) {a a' : Array Value} : RowRel m a a' → NxRel m (.enter f a) (.enter f a')
 | round {l l' : Nat} {f f' : FuncId} {t t' : Array Value} (x y : Code) : m.r l l' → RowRel m t t' → NxRel m (.round l f t x y) (.round l' f' t' x y)
theorem NxRel.mono {m' : Bij} (h : m ≤ m') {x y : Next} : NxRel m x y → NxRel m' x y
 | .value k => .value (k.mono h)
 | .skip => .skip
 | .enter f k => .enter f (k.mono h)
 | .round x y k l => .round x y (h _ _ k).1 (l.mono h)
theorem rel_v {s s' : Sem Value} (h : SRel P VRel m s s') : SRel P NxRel m (do pure (.value (← s))) (do pure (.value (← s'))) := h.bind fun _ _ _ _ k => .pure (.value k)
theorem rel_u {s s' : Sem Unit} (h : SRel P (fun _ _ _ => True) m s s') : SRel P NxRel m (do s; pure .skip) (do s'; pure .skip) := h.bind fun _ _ _ _ _ => .pure .skip
def Zeros (P : Program) : Prop := ∀ t i v, P.info? t = some i → i.zero = some v → ∀ m : Bij, VRel m v v
theorem rel_alloc (hz : Zeros P) (t : TypeId) : SRel P VRel m (Instr.alloc t true (.tuple #[])) (Instr.alloc t true (.tuple #[])) :=
 rel_zero_bind t fun i v h1 h2 => (rel_newVar t (hz t i v h1 h2 m)).bind fun _ _ _ _ k => .pure (.pointer (.some k))
theorem rel_box (t : TypeId) {v v' : Value} (h : VRel m v v') : SRel P VRel m (Instr.box t v) (Instr.box t v') := (rel_newVar t h).bind fun _ _ _ _ k => .pure (.pointer (.some k))
theorem rel_loadAt (t : TypeId) {v v' : Value} (h : VRel m v v') : SRel P VRel m (Instr.loadAt t v) (Instr.loadAt t v') := rel_sure_bind h fun _ _ k => rel_loadVar t k
theorem rel_storeAt (t : TypeId) {v v' x x' : Value} (h : VRel m v v') (hx : VRel m x x') : SRel P (fun _ _ _ => True) m (Instr.storeAt t v x) (Instr.storeAt t v' x') := rel_sure_bind h fun _ _ k => rel_storeVar t k hx
theorem rel_extract {v v' : Value} (h : VRel m v v') (i : Nat) : SRel P VRel m (Instr.extract v i) (Instr.extract v' i) := by
 cases h with
 | @tuple c c' hs hc =>
   have := RowRel.get (m := m) (c := c) (c' := c') ⟨hs, hc⟩ i
   unfold Instr.extract
   cases hc : c[i]? <;> cases hc' : c'[i]? <;> rw [hc, hc'] at this <;> cases this
   ·simp only [hc]; exact .halt
   ·rename_i q; simp only [hc, hc']; exact .pure q
 | _ => exact .halt
theorem rel_makeFunc (f : Fn) (hf : FnRel m f f) {x x' c c' : Array Value} (h1 : RowRel m x x') (h2 : RowRel m c c') : SRel P VRel m (Instr.makeFunc f x c) (Instr.makeFunc f x' c') :=
 .pure (.func hf h1.size h1.at_ h2.size h2.at_)
theorem rel_makeInterface (t : TypeId) {v v' : Value} (h : VRel m v v') : SRel P VRel m (Instr.makeInterface t v) (Instr.makeInterface t v') :=
 rel_under_bind t fun d _ => by cases d <;> first | exact .halt | exact .pure (.iface t h)
end Go.Proofs.YtlbipokkdiiaiaaGreatDoor.Exec
