/- Lemmas for TopTwice: W20, W21, W22. -/
import Derived.Test.YtlbipokkdiiaiaaGreatDoorU12
import Derived.Test.YtlbipokkdiiaiaaGreatDoorU19
open List renaming setIfInBounds_toArray → sA, set_cons_zero → sB, set_cons_succ → sC
namespace Go.Proofs.YtlbipokkdiiaiaaGreatDoor
open Go.RowKit Go.Proofs.YtlbipokkdiiaiaaGreatDoor.Exec
set_option maxRecDepth 100000
abbrev Plc := Nat × Nat
def Plc.ad (x : Plc) : Addr := ⟨x.1, x.2, none⟩
def ptr (x : Plc) : Value := .pointer (some ⟨x.1, x.2, none⟩)
def olderAt (x : Plc) : Addr := ⟨x.1, x.2 + 33, none⟩
def newerAt (x : Plc) : Addr := ⟨x.1, x.2 + 34, none⟩
structure Link (w : World) (x y : Plc) : Prop where
 nw : w.cell? (newerAt x) = some (ptr y)
 ol : w.cell? (olderAt y) = some (ptr x)
def Chain (w : World) : Plc → List Plc → Plc → Prop
 | x, [], z => Link w x z
 | x, y :: l, z => Link w x y ∧ Chain w y l z
theorem chain_app {w : World} : ∀ {l : List Plc} {x y z : Plc} {r : List Plc}, Chain w x (l ++ y :: r) z ↔ Chain w x l y ∧ Chain w y r z
 | [], x, y, z, r => Iff.rfl
 | a :: l, x, y, z, r => by
   simp only [List.cons_append, Chain, chain_app (l := l), and_assoc]
theorem Chain.keep {w w' : World} : ∀ {l : List Plc} {x z : Plc}, (∀ a ∈ x :: l, w'.cell? (newerAt a) = w.cell? (newerAt a)) → (∀ a ∈ l ++ [z], w'.cell? (olderAt a) = w.cell? (olderAt a)) → Chain w x l z → Chain w' x l z
 | [], x, z, h1, h2, h => ⟨(h1 x (by simp)).trans h.nw, (h2 z (by simp)).trans h.ol⟩
 | y :: l, x, z, h1, h2, h => ⟨⟨(h1 x (by simp)).trans h.1.nw, (h2 y (by simp)).trans h.1.ol⟩, Chain.keep (fun a ha => h1 a (by simp only [List.mem_cons] at ha ⊢; exact .inr ha)) (fun a ha => h2 a (by simp only [List.cons_append, List.mem_cons]; exact .inr ha)) h.2⟩
theorem Chain.last {w : World} {l : List Plc} {x z : Plc} (h : Chain w x l z) : ∃ p, Link w p z ∧ ((l = [] ∧ p = x) ∨ ∃ l', l = l' ++ [p] ∧ Chain w x l' p) := by
 rcases List.eq_nil_or_concat l with rfl | ⟨l', p, rfl⟩
 ·exact ⟨x, h, .inl ⟨rfl, rfl⟩⟩
 ·rw [List.concat_eq_append] at h ⊢
  obtain ⟨h1, h2⟩ := chain_app.1 h
  exact ⟨p, h2, .inr ⟨l', rfl, h1⟩⟩
theorem Chain.first {w : World} {l : List Plc} {x z : Plc} (h : Chain w x l z) : ∃ q, Link w x q ∧ ((l = [] ∧ q = z) ∨ ∃ l', l = q :: l' ∧ Chain w q l' z) := by
 cases l with
 | nil => exact ⟨z, h, .inl ⟨rfl, rfl⟩⟩
 | cons q l' => exact ⟨q, h.1, .inr ⟨l', rfl, h.2⟩⟩
theorem chain_drop {w w' : World} {S r p q : Plc} {l1 l2 : List Plc} (h : Chain w S (l1 ++ r :: l2) S) (hd : ((S :: (l1 ++ r :: l2)).map (·.1)).Nodup) (hp : Link w p r) (hq : Link w r q)
  (h1 : w'.cell? (newerAt p) = some (ptr q)) (h2 : w'.cell? (olderAt q) = some (ptr p))
  (k1 : ∀ a ∈ S :: (l1 ++ r :: l2), a.1 ≠ p.1 → w'.cell? (newerAt a) = w.cell? (newerAt a)) (k2 : ∀ a ∈ S :: (l1 ++ r :: l2), a.1 ≠ q.1 → w'.cell? (olderAt a) = w.cell? (olderAt a)) : Chain w' S (l1 ++ l2) S := by
 obtain ⟨c1, c2⟩ := chain_app.1 h
 obtain ⟨p', hp', e1⟩ := c1.last
 obtain ⟨q', hq', e2⟩ := c2.first
 have hpp : p' = p := by
  have := hp'.ol.symm.trans hp.ol
  unfold ptr at this
  simp only [Option.some.injEq, Value.pointer.injEq, Addr.mk.injEq] at this
  exact Prod.ext this.1 this.2.1
 have hqq : q' = q := by
  have := hq'.nw.symm.trans hq.nw
  unfold ptr at this
  simp only [Option.some.injEq, Value.pointer.injEq, Addr.mk.injEq] at this
  exact Prod.ext this.1 this.2.1
 subst hpp hqq
 clear hp hq
 have L : Link w' p' q' := ⟨h1, h2⟩
 simp only [List.map_cons, List.map_append, List.nodup_cons, List.nodup_append, List.mem_append, List.mem_map, List.mem_cons, not_or, not_exists, not_and] at hd
 obtain ⟨hS, hd1, ⟨hd2, hd3⟩, hd4⟩ := hd
 rcases e1 with ⟨rfl, rfl⟩ | ⟨l1', rfl, c1'⟩
 ·rcases e2 with ⟨rfl, rfl⟩ | ⟨l2', rfl, c2'⟩
  ·exact L
  ·refine ⟨L, Chain.keep (fun a ha => k1 a (by simp only [List.nil_append, List.mem_cons] at ha ⊢; exact .inr (.inr ha)) ?_) (fun a ha => k2 a (by simp only [List.mem_append, List.mem_cons, List.not_mem_nil, or_false, List.nil_append] at ha ⊢; rcases ha with ha | ha; exact .inr (.inr (.inr ha)); exact .inl ha) ?_) c2'⟩
   ·exact hS.2.2 a ha
   ·simp only [List.mem_append, List.mem_singleton] at ha
    rcases ha with ha | rfl
    ·exact fun e => (List.nodup_cons.1 hd3).1 (List.mem_map.2 ⟨a, ha, e⟩)
    ·exact fun e => hS.2.2 q' (by simp) e.symm
 ·have hp1 : ∀ a ∈ S :: l1', a.1 ≠ p'.1 := fun a ha e => by
   rcases List.mem_cons.1 ha with rfl | ha
   ·exact hS.1 p' (by simp) e.symm
   ·simp only [List.map_append, List.map_cons, List.map_nil, List.nodup_append, List.mem_map, List.mem_singleton] at hd1
    exact hd1.2.2 a.1 ⟨a, ha, rfl⟩ p'.1 rfl e
  have m1 : ∀ a ∈ S :: l1', a ∈ S :: ((l1' ++ [p']) ++ r :: l2) := fun a ha => by
   simp only [List.mem_cons, List.mem_append] at ha ⊢
   rcases ha with ha | ha
   ·exact .inl ha
   ·exact .inr (.inl (.inl ha))
  have m2 : ∀ a ∈ l1' ++ [p'], a ∈ S :: ((l1' ++ [p']) ++ r :: l2) := fun a ha => by
   simp only [List.mem_cons, List.mem_append] at ha ⊢
   exact .inr (.inl ha)
  rcases e2 with ⟨rfl, rfl⟩ | ⟨l2', rfl, c2'⟩
  ·rw [List.append_nil]
   refine chain_app.2 ⟨Chain.keep (fun a ha => k1 a (m1 a ha) (hp1 a ha)) (fun a ha => k2 a (m2 a ha) ?_) c1', L⟩
   exact fun e => hS.1 a ha e
  ·rw [List.append_assoc]
   refine chain_app.2 ⟨Chain.keep (fun a ha => k1 a (m1 a ha) (hp1 a ha)) (fun a ha => k2 a (m2 a ha) ?_) c1', L, Chain.keep (fun a ha => k1 a (by simp only [List.mem_cons, List.mem_append] at ha ⊢; exact .inr (.inr (.inr ha))) ?_) (fun a ha => k2 a (by simp only [List.mem_append, List.mem_cons, List.not_mem_nil, or_false] at ha ⊢; rcases ha with ha | ha; exact .inr (.inr (.inr (.inr ha))); exact .inl ha) ?_) c2'⟩
   ·exact fun e => hd4 a.1 ⟨a, ha, rfl⟩ q'.1 (.inr ⟨q', by simp, rfl⟩) e
   ·exact fun e => hd4 p'.1 ⟨p', by simp, rfl⟩ a.1 (.inr ⟨a, ha, rfl⟩) e.symm
   ·simp only [List.mem_append, List.mem_singleton] at ha
    rcases ha with ha | rfl
    ·exact fun e => (List.nodup_cons.1 hd3).1 (List.mem_map.2 ⟨a, ha, e⟩)
    ·exact fun e => hS.2.2 q' (by simp) e.symm
theorem chain_put {w w' : World} {S r p : Plc} {l : List Plc} (h : Chain w S l S) (hd : ((S :: l).map (·.1)).Nodup) (hp : Link w p S)
  (h1 : w'.cell? (newerAt p) = some (ptr r)) (h2 : w'.cell? (olderAt r) = some (ptr p)) (h3 : w'.cell? (newerAt r) = some (ptr S)) (h4 : w'.cell? (olderAt S) = some (ptr r))
  (k1 : ∀ a ∈ S :: l, a.1 ≠ p.1 → w'.cell? (newerAt a) = w.cell? (newerAt a)) (k2 : ∀ a ∈ l, w'.cell? (olderAt a) = w.cell? (olderAt a)) : Chain w' S (l ++ [r]) S := by
 obtain ⟨p', hp', e1⟩ := h.last
 have hpp : p' = p := by
  have := hp'.ol.symm.trans hp.ol
  unfold ptr at this
  simp only [Option.some.injEq, Value.pointer.injEq, Addr.mk.injEq] at this
  exact Prod.ext this.1 this.2.1
 subst hpp
 refine chain_app.2 ⟨?_, ⟨h3, h4⟩⟩
 rcases e1 with ⟨rfl, rfl⟩ | ⟨l', rfl, c⟩
 ·exact ⟨h1, h2⟩
 ·refine chain_app.2 ⟨Chain.keep (fun a ha => k1 a ?_ ?_) (fun a ha => k2 a ha) c, ⟨h1, h2⟩⟩
  ·simp only [List.mem_cons, List.mem_append] at ha ⊢
   rcases ha with ha | ha
   ·exact .inl ha
   ·exact .inr (.inl ha)
  ·simp only [List.map_cons, List.map_append, List.map_nil, List.nodup_cons, List.nodup_append, List.mem_append, List.mem_map, List.mem_singleton, not_or] at hd
   rcases List.mem_cons.1 ha with rfl | ha
   ·exact hd.1.2
   ·exact hd.2.2.2 a.1 ⟨a, ha, rfl⟩ p'.1 rfl
end Go.Proofs.YtlbipokkdiiaiaaGreatDoor
namespace Go.Proofs.YtlbipokkdiiaiaaGreatDoor
open Go.RowKit Go.Proofs.YtlbipokkdiiaiaaGreatDoor.Exec
set_option maxRecDepth 100000
abbrev Rw := Nat × Dg × List UInt8
def Rw.p (r : Rw) : Plc := (r.1, 0)
def sizeL (l : List Rw) : Nat := (l.map fun r => r.2.2.length).sum
structure RowIs (w : World) (r : Rw) : Prop where
 ob : ∃ cur, w.heap[r.1]? = some (.cells cur 113 (0, 0)) ∧ cur.size = 35
 sum : w.rangeAt r.1 0 (dgc r.2.1)
 data : w.cell? ⟨r.1, 32, none⟩ = some (.string (bs r.2.2))
structure RingIs (B : Nat) (R : Nat → Prop) (w : World) (cb rb dp most : Nat) (l : List Rw) : Prop where
 ob : ∃ cur, w.heap[cb]? = some (.cells cur 115 (0, 0)) ∧ cur.size = 39
 cm : w.cell? ⟨cb, 0, none⟩ = some (.int .i64 most)
 cs : w.cell? ⟨cb, 1, none⟩ = some (.int .i64 (sizeL l))
 cd : w.cell? ⟨cb, 2, none⟩ = some (.pointer (some ⟨dp, 0, none⟩))
 cr : w.cell? ⟨cb, 3, none⟩ = some (.map (some rb))
 row : ∀ r ∈ l, RowIs w r
 ch : Chain w (cb, 4) (l.map Rw.p) (cb, 4)
 mp : ∃ o M, w.heap[rb]? = some o ∧ MapIs dgv M o ∧ ∀ d v, M d = some v ↔ ∃ r ∈ l, r.2.1 = d ∧ v = ptr (Rw.p r)
 dist : (l.map (·.2.1)).Nodup
 bl : (cb :: rb :: l.map (·.1)).Nodup
 fit : sizeL l ≤ most
 mx : most ≤ 1073741824
 sm : ∀ r ∈ l, r.2.2.length ≤ 1000
 rc : R cb
 rr : R rb
 rl : ∀ r ∈ l, R r.1
 bd : ∀ k, R k → B ≤ k ∧ k < w.heap.size
theorem RowIs.keep {w w' : World} {r : Rw} (h : RowIs w r) (hk : w'.heap[r.1]? = w.heap[r.1]?) : RowIs w' r := by
 obtain ⟨cur, hc, hs⟩ := h.ob
 exact ⟨⟨cur, hk.trans hc, hs⟩, fun j v hv => (World.cell?_of_block hk).trans (h.sum j v hv), (World.cell?_of_block hk).trans h.data⟩
theorem Chain.same {w w' : World} {l : List Plc} {x z : Plc} (h : Chain w x l z) (hk : ∀ a ∈ x :: (l ++ [z]), w'.heap[a.1]? = w.heap[a.1]?) : Chain w' x l z := by
 refine Chain.keep (fun a ha => World.cell?_of_block (hk a ?_)) (fun a ha => World.cell?_of_block (hk a ?_)) h
 ·simp only [List.mem_cons, List.mem_append] at ha ⊢
  rcases ha with ha | ha
  ·exact .inl ha
  ·exact .inr (.inl ha)
 ·exact List.mem_cons_of_mem _ ha
theorem RingIs.keep {B : Nat} {R F : Nat → Prop} {w w' : World} {cb rb dp most : Nat} {l : List Rw} (h : RingIs B R w cb rb dp most l) (hf : Foot F w w') (hF : ∀ k, R k → ¬ F k) : RingIs B R w' cb rb dp most l := by
 have hk : ∀ k, R k → w'.heap[k]? = w.heap[k]? := fun k hk => hf.block k (h.bd k hk).2 (hF k hk)
 obtain ⟨cur, hc, hs⟩ := h.ob
 obtain ⟨o, M, ho, hM, hMl⟩ := h.mp
 refine ⟨⟨cur, (hk cb h.rc).trans hc, hs⟩, (World.cell?_of_block (hk cb h.rc)).trans h.cm, (World.cell?_of_block (hk cb h.rc)).trans h.cs, (World.cell?_of_block (hk cb h.rc)).trans h.cd, (World.cell?_of_block (hk cb h.rc)).trans h.cr,
  fun r hr => (h.row r hr).keep (hk _ (h.rl r hr)), h.ch.same fun a ha => ?_, ⟨o, M, (hk rb h.rr).trans ho, hM, hMl⟩, h.dist, h.bl, h.fit, h.mx, h.sm, h.rc, h.rr, h.rl, fun k hr => ⟨(h.bd k hr).1, Nat.lt_of_lt_of_le (h.bd k hr).2 hf.size⟩⟩
 simp only [List.mem_cons, List.mem_append, List.mem_map, List.not_mem_nil, or_false] at ha
 rcases ha with rfl | ⟨r, hr, rfl⟩ | rfl
 ·exact hk cb h.rc
 ·exact hk _ (h.rl r hr)
 ·exact hk cb h.rc
theorem RingIs.below {B : Nat} {R : Nat → Prop} {w w' : World} {cb rb dp most : Nat} {l : List Rw} (h : RingIs B R w cb rb dp most l) (hb : Below w.heap.size w w') : RingIs B R w' cb rb dp most l :=
 h.keep (Foot.of_below (D := fun _ => False) hb) fun _ _ e => e
theorem sizeL_app (a b : List Rw) : sizeL (a ++ b) = sizeL a + sizeL b := by simp [sizeL]
theorem sizeL_cons (r : Rw) (b : List Rw) : sizeL (r :: b) = r.2.2.length + sizeL b := by simp [sizeL]
theorem RingIs.free {B : Nat} {R : Nat → Prop} {w : World} {cb rb dp most : Nat} {l : List Rw} (h : RingIs B R w cb rb dp most l) (x : Plc) (hx : x = (cb, 4) ∨ x ∈ l.map Rw.p) (j : Nat) : w.frozen? ⟨x.1, j, none⟩ = false := by
 rcases hx with rfl | hx
 ·obtain ⟨cur, hc, _⟩ := h.ob
  exact Lib.frozen_of_heap hc j
 ·obtain ⟨r, hr, rfl⟩ := List.mem_map.1 hx
  obtain ⟨cur, hc, _⟩ := (h.row r hr).ob
  exact Lib.frozen_of_heap hc j
end Go.Proofs.YtlbipokkdiiaiaaGreatDoor
namespace Go.Proofs.YtlbipokkdiiaiaaGreatDoor
open Go.RowKit Go.Proofs.YtlbipokkdiiaiaaGreatDoor.Exec
set_option maxRecDepth 100000
theorem cell_ne {w : World} {b o b' o' : Nat} (v : Value) (h : ¬ (b = b' ∧ o = o')) : (w.setCell ⟨b, o, none⟩ v).cell? ⟨b', o', none⟩ = w.cell? ⟨b', o', none⟩ :=
 World.cell?_setCell_other _ _ _ _ (fun e => h ⟨congrArg Addr.block e, congrArg Addr.off e⟩)
theorem set_ob {w : World} {x : Addr} {v : Value} {b : Nat} {t : TypeId} {n : Nat} (h : ∃ cur, w.heap[b]? = some (.cells cur t (0, 0)) ∧ cur.size = n) : ∃ cur, (w.setCell x v).heap[b]? = some (.cells cur t (0, 0)) ∧ cur.size = n := by
 obtain ⟨cur, h, hs⟩ := h
 unfold World.setCell
 simp only [Array.getElem?_modify, h]
 split
 ·split
  all_goals (simp only [Option.map_some]; exact ⟨_, rfl, by simpa using hs⟩)
 ·exact ⟨cur, rfl, hs⟩
set_option maxHeartbeats 4000000 in
theorem drop_any {B : Nat} {R : Nat → Prop} {w : World} {cb rb dp most : Nat} {l1 l2 : List Rw} {r : Rw} (hR : RingIs B R w cb rb dp most (l1 ++ r :: l2)) :
  Calls Tryz.prog 116 #[.pointer (some ⟨cb, 0, none⟩), .pointer (some ⟨r.1, 0, none⟩)] w fun e w' => e = .returned (.tuple #[]) ∧ RingIs B R w' cb rb dp most (l1 ++ l2) ∧ Foot R w w' ∧ w'.cell? ⟨r.1, 32, none⟩ = some (.string (bs r.2.2)) := by
 have hch := hR.ch
 rw [List.map_append, List.map_cons] at hch
 obtain ⟨c1, c2⟩ := chain_app.1 hch
 obtain ⟨p, hp, hpm⟩ := c1.last
 obtain ⟨q, hq, hqm⟩ := c2.first
 have hpm' : p = (cb, 4) ∨ p ∈ l1.map Rw.p := by
  rcases hpm with ⟨_, rfl⟩ | ⟨l', h, _⟩
  ·exact .inl rfl
  ·exact .inr (by rw [h]; simp)
 have hqm' : q = (cb, 4) ∨ q ∈ l2.map Rw.p := by
  rcases hqm with ⟨_, rfl⟩ | ⟨l', h, _⟩
  ·exact .inl rfl
  ·exact .inr (by rw [h]; simp)
 obtain ⟨pb, po⟩ := p
 obtain ⟨qb, qo⟩ := q
 obtain ⟨rk, d, data⟩ := r
 have hmemr : ((rk, d, data) : Rw) ∈ l1 ++ (rk, d, data) :: l2 := by simp
 have hrow := hR.row _ hmemr
 have co : w.cell? ⟨rk, 33, none⟩ = some (.pointer (some ⟨pb, po, none⟩)) := hp.ol
 have cn : w.cell? ⟨rk, 34, none⟩ = some (.pointer (some ⟨qb, qo, none⟩)) := hq.nw
 have pn : w.cell? ⟨pb, po + 34, none⟩ = some (.pointer (some ⟨rk, 0, none⟩)) := hp.nw
 have qo' : w.cell? ⟨qb, qo + 33, none⟩ = some (.pointer (some ⟨rk, 0, none⟩)) := hq.ol
 have fp : w.frozen? ⟨pb, po + 34, none⟩ = false := hR.free (pb, po) (by rcases hpm' with h | h; exact .inl h; exact .inr (by simp only [List.map_append, List.mem_append]; exact .inl h)) _
 have fq : w.frozen? ⟨qb, qo + 33, none⟩ = false := hR.free (qb, qo) (by rcases hqm' with h | h; exact .inl h; exact .inr (by simp only [List.map_append, List.map_cons, List.mem_append, List.mem_cons]; exact .inr (.inr h))) _
 have hbl := hR.bl
 simp only [List.map_append, List.map_cons, List.nodup_cons, List.nodup_append, List.mem_append, List.mem_cons, List.mem_map, not_or, not_exists, not_and] at hbl
 obtain ⟨⟨hcrb, hc1, hck, hc2⟩, ⟨hr1, hrk, hr2⟩, hn1, ⟨hk2, hn2⟩, h12⟩ := hbl
 have hpk : pb ≠ rk ∧ pb ≠ rb := by
  rcases hpm' with h | h
  ·obtain ⟨rfl, -⟩ := Prod.mk.inj h
   exact ⟨hck, hcrb⟩
  ·obtain ⟨x, hx, he⟩ := List.mem_map.1 h
   obtain ⟨rfl, -⟩ := Prod.mk.inj he
   exact ⟨h12 x.1 ⟨x, hx, rfl⟩ rk (.inl rfl), hr1 x hx⟩
 have hqk : qb ≠ rk ∧ qb ≠ rb := by
  rcases hqm' with h | h
  ·obtain ⟨rfl, -⟩ := Prod.mk.inj h
   exact ⟨hck, hcrb⟩
  ·obtain ⟨x, hx, he⟩ := List.mem_map.1 h
   obtain ⟨rfl, -⟩ := Prod.mk.inj he
   exact ⟨hk2 x hx, hr2 x hx⟩
 have hpo : (pb = cb ∧ po = 4) ∨ (pb ≠ cb ∧ po = 0) := by
  rcases hpm' with h | h
  ·exact .inl (Prod.mk.inj h)
  ·obtain ⟨x, hx, he⟩ := List.mem_map.1 h
   obtain ⟨rfl, rfl⟩ := Prod.mk.inj he
   exact .inr ⟨hc1 x hx, rfl⟩
 have hqo2 : (qb = cb ∧ qo = 4) ∨ (qb ≠ cb ∧ qo = 0) := by
  rcases hqm' with h | h
  ·exact .inl (Prod.mk.inj h)
  ·obtain ⟨x, hx, he⟩ := List.mem_map.1 h
   obtain ⟨rfl, rfl⟩ := Prod.mk.inj he
   exact .inr ⟨hc2 x hx, rfl⟩
 have hpq : ¬ (pb = qb ∧ po + 34 = qo + 33) := by omega
 have hpc : ¬ (pb = cb ∧ po + 34 = 1) := by omega
 have hqc : ¬ (qb = cb ∧ qo + 33 = 1) := by omega
 have hpc3 : ¬ (pb = cb ∧ po + 34 = 3) := by omega
 have hqc3 : ¬ (qb = cb ∧ qo + 33 = 3) := by omega
 have HR := hid hR
 have HLP := hid (And.intro hp hq)
 have HRP : Hid (R pb) := hid (by
  rcases hpm' with h | h
  ·obtain ⟨rfl, -⟩ := Prod.mk.inj h; exact hR.rc
  ·obtain ⟨x, hx, he⟩ := List.mem_map.1 h
   obtain ⟨rfl, -⟩ := Prod.mk.inj he
   exact hR.rl x (by simp [hx]))
 have HRQ : Hid (R qb) := hid (by
  rcases hqm' with h | h
  ·obtain ⟨rfl, -⟩ := Prod.mk.inj h; exact hR.rc
  ·obtain ⟨x, hx, he⟩ := List.mem_map.1 h
   obtain ⟨rfl, -⟩ := Prod.mk.inj he
   exact hR.rl x (by simp [hx]))
 have HPM := hid (And.intro hpm' hqm')
 have hsz : sizeL (l1 ++ (rk, d, data) :: l2) = data.length + sizeL (l1 ++ l2) := by simp only [sizeL_app, sizeL_cons]; omega
 have hfit := hR.fit
 have hmx := hR.mx
 have hsm := hR.sm _ hmemr
 have kcs := hR.cs
 have kcr := hR.cr
 rw [hsz] at kcs hfit
 have HSZ := hid hsz
 have HROW := hid hrow
 have cwb := fun {W : World} (h : Below w.heap.size w W) (b j : Nat) (hb : b < w.heap.size) (v : Bool) (hf : w.frozen? ⟨b, j, none⟩ = v) => (World.frozen?_of_block (a := ⟨b, j, none⟩) (h.block b hb)).trans hf
 have hpw : pb < w.heap.size := World.block_lt_of_cell? w _ pn
 have hqw : qb < w.heap.size := World.block_lt_of_cell? w _ qo'
 have hcw : cb < w.heap.size := World.block_lt_of_cell? w _ kcs
 have hkw : rk < w.heap.size := World.block_lt_of_cell? w _ co
 have fcb : w.frozen? ⟨cb, 1, none⟩ = false := hR.free (cb, 4) (.inl rfl) 1
 have dtr := hrow.data
 have sumr := hrow.sum
 simp only at dtr sumr hsm
 have hwrap : IntKind.i64.wrap ((data.length : Int) + (sizeL (l1 ++ l2) : Int) - (data.length : Int)) = (sizeL (l1 ++ l2) : Int) := by
  rw [IntKind.wrap_i64]; omega
 clear hch c1 c2 hp hq hpm hqm hpm' hqm' hR hrow hmemr hsz hn1 hn2 hc1 hc2 hr1 hr2 hk2 h12 hrk hpo hqo2 hsm hmx
 have HNE := hid (And.intro hpk (And.intro hqk (And.intro hcrb (And.intro hck (And.intro hpc (And.intro hqc (And.intro hpc3 hqc3)))))))
 have HW := hid (And.intro hpw (And.intro hqw (And.intro hcw hkw)))
 have HCW := hid (fun (W : World) (h : Below w.heap.size w W) => And.intro (cwb h pb (po + 34) hpw _ fp) (And.intro (cwb h qb (qo + 33) hqw _ fq) (cwb h cb 1 hcw _ fcb)))
 have HPQ := hid hpq
 have HSUM := hid sumr
 clear cwb hpk hqk hcrb hck hpc hqc hpc3 hqc3 hpw hqw hcw hkw hpq sumr
 go_enter Tryz.func116, Tryz.ntmps116
 go_wp2_with fail
 refine wp_region_wq_tail 16 (by kernel_rfl) (by kernel_rfl) ?_
 simp only [List.take_succ_cons, List.take_zero, List.drop_succ_cons, List.drop_zero]
 repeat (refine WQ.step (fun K hK => ?_); go_simp; first | (refine hK _ ?_; clear hK K) | (apply Exists.intro; refine ⟨fun W hW => ?_, hK _ ?_⟩; (first | (first | with_reducible rfl | (have zz0 := Below.keeps hW co; have zz1 := Below.keeps hW cn; go_simp; first | rfl | exact ⟨rfl, rfl⟩ | (rw [if_neg (by omega)]; exact ⟨rfl, rfl⟩)))); clear hK K))
 refine WQ.nil ?_
 intro wq hwq
 have pn1 := Below.keeps hwq pn
 have fp1 := (HCW.out wq hwq).1
 have qo1 := (cell_ne (w := wq) (.pointer (some ⟨qb, qo, none⟩)) HPQ.out).trans (Below.keeps hwq qo')
 have fq1 : (wq.setCell ⟨pb, po + 34, none⟩ (.pointer (some ⟨qb, qo, none⟩))).frozen? ⟨qb, qo + 33, none⟩ = false := by rw [World.frozen?_setCell]; exact (HCW.out wq hwq).2.1
 go_wp2_with fail
 obtain ⟨W1, hW1⟩ : ∃ W, W = (wq.setCell ⟨pb, po + 34, none⟩ (.pointer (some ⟨qb, qo, none⟩))).setCell ⟨qb, qo + 33, none⟩ (.pointer (some ⟨pb, po, none⟩)) := ⟨_, rfl⟩
 rw [← hW1]
 obtain ⟨hpk, hqk, hcrb, hck, hpc, hqc, hpc3, hqc3⟩ := HNE.out
 obtain ⟨hpw, hqw, hcw, hkw⟩ := HW.out
 have sumr := HSUM.out
 have hB1 : Foot R w W1 := by
  rw [hW1]
  exact ((Foot.of_below (D := R) hwq).trans (turned_cell (b := pb) _ _ (by have := hwq.size; omega)).foot (fun b _ e => by rw [e]; exact HRP.out)).trans (turned_cell (b := qb) _ _ (by have := hwq.size; simp [World.setCell]; omega)).foot (fun b _ e => by rw [e]; exact HRQ.out)
 have c1k : ∀ b j, ¬ (pb = b ∧ po + 34 = j) → ¬ (qb = b ∧ qo + 33 = j) → b < w.heap.size → W1.cell? ⟨b, j, none⟩ = w.cell? ⟨b, j, none⟩ := fun b j h1 h2 hb => by
  rw [hW1, cell_ne _ h2, cell_ne _ h1]
  exact World.cell?_of_block (hwq.block b hb)
 have s1 := (c1k cb 1 hpc hqc hcw).trans kcs
 have dt := (c1k rk 32 (fun e => hpk.1 e.1) (fun e => hqk.1 e.1) hkw).trans dtr
 have s3 := (c1k cb 3 hpc3 hqc3 hcw).trans kcr
 have sm1 : W1.rangeAt rk 0 (dgc d) := fun j v hv => (c1k rk (0 + j) (fun e => hpk.1 e.1) (fun e => hqk.1 e.1) hkw).trans (sumr j v hv)
 have hz1 := hB1.size
 have o1 : W1.heap[rb]? = w.heap[rb]? := by rw [hW1, heap_set_ne _ _ _ _ _ (Ne.symm hqk.2), heap_set_ne _ _ _ _ _ (Ne.symm hpk.2)]; exact hwq.block rb (HR.out.bd rb HR.out.rr).2
 have fcb1 : W1.frozen? ⟨cb, 1, none⟩ = false := by rw [hW1, World.frozen?_setCell, World.frozen?_setCell]; exact (HCW.out wq hwq).2.2
 have HB1 := hid hB1
 have HC1 := hid c1k
 have HW1 := hid hW1
 have HPN := hid (show W1.cell? ⟨pb, po + 34, none⟩ = some (.pointer (some ⟨qb, qo, none⟩)) ∧ W1.cell? ⟨qb, qo + 33, none⟩ = some (.pointer (some ⟨pb, po, none⟩)) from by
  rw [hW1]
  exact ⟨(cell_ne _ (fun e => HPQ.out ⟨e.1.symm, e.2.symm⟩)).trans (World.cell?_setCell_same _ _ _ pn1), World.cell?_setCell_same _ _ _ qo1⟩)
 have HOB1 := hid (fun (b : Nat) (t : TypeId) (n : Nat) (hb : b < w.heap.size) (h : ∃ cur, w.heap[b]? = some (.cells cur t (0, 0)) ∧ cur.size = n) => show ∃ cur, W1.heap[b]? = some (.cells cur t (0, 0)) ∧ cur.size = n from by
  rw [hW1]
  exact set_ob (set_ob (by rw [hwq.block b hb]; exact h)))
 have HS3 := hid (And.intro s3 (And.intro sm1 o1))
 have hcw1 : cb < W1.heap.size := by omega
 clear hB1 c1k hW1 pn1 fp1 qo1 fq1 pn fp qo' fq co cn s3 sm1 o1 hpk hqk hcrb hck hpc hqc hpc3 hqc3 hpw hqw hcw hkw sumr fcb dtr
 go_wp2_with fail
 refine wp_region_wq_tail 10 (by kernel_rfl) (by kernel_rfl) ?_
 simp only [List.take_succ_cons, List.take_zero, List.drop_succ_cons, List.drop_zero]
 repeat (refine WQ.step (fun K hK => ?_); go_simp; first | (refine hK _ ?_; clear hK K) | (apply Exists.intro; refine ⟨fun W hW => ?_, hK _ ?_⟩; (first | (first | with_reducible rfl | (have zz0 := Below.keeps hW s1; have zz1 := Below.keeps hW dt; go_simp; first | rfl | exact ⟨rfl, rfl⟩ | (rw [if_neg (by omega)]; exact ⟨rfl, rfl⟩)))); clear hK K))
 refine WQ.nil ?_
 intro wr hwr
 have s1' := Below.keeps hwr s1
 have fcb2 := (World.frozen?_of_block (a := ⟨cb, 1, none⟩) (hwr.block cb hcw1)).trans fcb1
 go_wp2_with fail
 obtain ⟨W2, hW2⟩ : ∃ W, W = wr.setCell ⟨cb, 1, none⟩ (.int .i64 (sizeL (l1 ++ l2))) := ⟨_, rfl⟩
 rw [← hW2]
 have hT2 : Turned cb wr W2 := by rw [hW2]; exact turned_cell 1 _ (by have := hwr.size; omega)
 have hB2 := hid ((HB1.out.then hwr).trans hT2.foot fun b _ e => by rw [e]; exact HR.out.rc)
 obtain ⟨hpk, hqk, hcrb, hck, hpc, hqc, hpc3, hqc3⟩ := HNE.out
 obtain ⟨hpw, hqw, hcw, hkw⟩ := HW.out
 obtain ⟨s3, sm1, o1⟩ := HS3.out
 have c2k : ∀ b j, ¬ (cb = b ∧ 1 = j) → b < W1.heap.size → W2.cell? ⟨b, j, none⟩ = W1.cell? ⟨b, j, none⟩ := fun b j h1 hb => by
  rw [hW2, cell_ne _ h1]
  exact World.cell?_of_block (hwr.block b hb)
 have g1 : W2.cell? ⟨cb, 1, none⟩ = some (.int .i64 (sizeL (l1 ++ l2))) := by
  rw [hW2]
  exact World.cell?_setCell_same _ _ _ s1'
 have g3 := (c2k cb 3 (by omega) (by omega)).trans s3
 have gd : W2.rangeAt rk 0 (dgc d) := fun j v hv => (c2k rk (0 + j) (fun e => hck e.1) (by omega)).trans (sm1 j v hv)
 have hz2 := hB2.out.size
 have o2 : W2.heap[rb]? = w.heap[rb]? := by rw [hW2, heap_set_ne _ _ _ _ _ (Ne.symm hcrb)]; exact (hwr.block rb (by have := (HR.out.bd rb HR.out.rr).2; omega)).trans o1
 obtain ⟨ob, M, hob, hM, hMl⟩ := HR.out.mp
 have HMM := hid (And.intro hM hMl)
 have ht110 : Tryz.prog.underlying 110 = some (.map 31 111) := by kernel_rfl
 have HDel := hid (fun (W : World) (hb : Below W2.heap.size W2 W) => show ∃ o', (∀ ty, (Builtin.delete_ #[110, 31] ty #[.map (some rb), .agg (dgc d).toArray]).run Tryz.prog W = .ok (.tuple #[]) (putObj W rb o')) ∧ MapIs dgv (fun x => if x = d then none else M x) o' from by
  obtain ⟨o', h1, h2⟩ := hM.del keyDg ((hb.block rb (by have := (HR.out.bd rb HR.out.rr).2; omega)).trans (o2.trans hob)) ht110 d 0
  exact ⟨o', fun ty => h1, h2⟩)
 have HC2 := hid c2k
 have HG1 := hid g1
 have HO2 := hid o2
 have HOB := hid (fun (b : Nat) (t : TypeId) (n : Nat) (hb : b < w.heap.size) (h : ∃ cur, w.heap[b]? = some (.cells cur t (0, 0)) ∧ cur.size = n) => show ∃ cur, W2.heap[b]? = some (.cells cur t (0, 0)) ∧ cur.size = n from by
  rw [hW2]
  exact set_ob (by rw [hwr.block b (by omega)]; exact HOB1.out b t n hb h))
 clear hpk hqk hcrb hck hpc hqc hpc3 hqc3 hpw hqw hcw hkw hcw1 o1
 clear c2k hW2 hT2 s1 s1' fcb1 fcb2 dt s3 sm1 hM hMl hob o2 g1 kcs kcr
 refine wp_region_wl (fun W => W.cell? ⟨cb, 3, none⟩ = some (.map (some rb)) ∧ W.rangeAt rk 0 (dgc d)) 8 (by kernel_rfl) ?_
 intro Wd hbd
 have hS := And.intro (Below.keeps hbd g3) (range_keeps hbd gd)
 refine WL.tp 0 (some 36) (hi := rfl) (.inr hS) ?_
 apply Exists.intro
 refine ⟨fun W => ?_, ?_⟩
 ·go_simp
  try rfl
 try simp only [Act.put, sA, sB, sC]
 refine WL.tp 1 (some 37) (hi := rfl) (.inr hS) ?_
 apply Exists.intro
 refine ⟨fun W => ?_, ?_⟩
 ·go_simp
  try rfl
 try simp only [Act.put, sA, sB, sC]
 refine WL.tp 2 (some 38) (hi := rfl) (.inr hS) ?_
 apply Exists.intro
 refine ⟨fun W => ?_, ?_⟩
 ·go_simp
  try rfl
 try simp only [Act.put, sA, sB, sC]
 refine WL.te 3 (some 39) (hi := rfl) hS ?_
 apply Exists.intro
 refine ⟨fun W hW => ?_, ?_⟩
 ·have e0 := hW.1
  go_simp
  try rfl
 try simp only [Act.put, sA, sB, sC]
 refine WL.tp 4 (some 40) (hi := rfl) (.inr hS) ?_
 apply Exists.intro
 refine ⟨fun W => ?_, ?_⟩
 ·go_simp
  try rfl
 try simp only [Act.put, sA, sB, sC]
 refine WL.tp 5 (some 41) (hi := rfl) (.inr hS) ?_
 apply Exists.intro
 refine ⟨fun W => ?_, ?_⟩
 ·go_simp
  try rfl
 try simp only [Act.put, sA, sB, sC]
 refine WL.tp 6 (some 42) (hi := rfl) (.inr hS) ?_
 apply Exists.intro
 refine ⟨fun W => ?_, ?_⟩
 ·go_simp
  try rfl
 try simp only [Act.put, sA, sB, sC]
 refine WL.ld 7 (some 43) rt31 (fun W hW => hW.2) (dgc_len _) (hi := rfl) hS ?_
 try simp only [Act.put, sA, sB, sC]
 refine WL.o 8 (hi := rfl) ?_
 intro K hK
 obtain ⟨o2, hdl, hM2⟩ := HDel.out Wd hbd
 go_simp
 refine hK.out _ _ (.inl (by kernel_rfl)) ?_
 clear hK K
 try simp only [Act.put, sA, sB, sC]
 refine WL.d ?_
 go_wp2_with fail
 go_end0
 obtain ⟨hpk, hqk, hcrb, hck, hpc, hqc, hpc3, hqc3⟩ := HNE.out
 obtain ⟨hpw, hqw, hcw, hkw⟩ := HW.out
 have hR := HR.out
 have hrbw := (hR.bd rb hR.rr).2
 have hz5 := hbd.size
 have hT : Turned rb Wd (putObj Wd rb o2) := putObj_turned (by omega) _
 have FF : Foot R w (putObj Wd rb o2) := (hB2.out.then hbd).trans hT.foot fun b _ e => by rw [e]; exact hR.rr
 have hz6 := FF.size
 have hnd := hR.bl
 -- a cell of a block other than the map's
 have cc : ∀ b j, b ≠ rb → b < w.heap.size → ¬ (cb = b ∧ 1 = j) → ¬ (pb = b ∧ po + 34 = j) → ¬ (qb = b ∧ qo + 33 = j) → (putObj Wd rb o2).cell? ⟨b, j, none⟩ = w.cell? ⟨b, j, none⟩ := fun b j h1 h2 h3 h4 h5 => by
  have e1 : (putObj Wd rb o2).cell? ⟨b, j, none⟩ = Wd.cell? ⟨b, j, none⟩ := World.cell?_of_block (hT.foot.block b (by omega) h1)
  have e2 : Wd.cell? ⟨b, j, none⟩ = W2.cell? ⟨b, j, none⟩ := World.cell?_of_block (hbd.block b (by omega))
  exact e1.trans (e2.trans ((HC2.out b j h3 (by omega)).trans (HC1.out b j h4 h5 h2)))
 have ob : ∀ b t n, b ≠ rb → b < w.heap.size → (∃ cur, w.heap[b]? = some (.cells cur t (0, 0)) ∧ cur.size = n) → ∃ cur, (putObj Wd rb o2).heap[b]? = some (.cells cur t (0, 0)) ∧ cur.size = n := fun b t n h1 h2 h3 => by
  have e1 : (putObj Wd rb o2).heap[b]? = Wd.heap[b]? := hT.foot.block b (by omega) h1
  have e2 : Wd.heap[b]? = W2.heap[b]? := hbd.block b (by omega)
  rw [e1, e2]
  exact HOB.out b t n h2 h3
 have hmem : ∀ x ∈ l1 ++ l2, x ∈ l1 ++ ((rk, d, data) : Rw) :: l2 := fun x hx => by
  simp only [List.mem_append, List.mem_cons] at hx ⊢
  rcases hx with hx | hx
  ·exact .inl hx
  ·exact .inr (.inr hx)
 have hbl := hnd
 simp only [List.map_append, List.map_cons, List.nodup_cons, List.nodup_append, List.mem_append, List.mem_cons, List.mem_map, not_or, not_exists, not_and] at hbl
 obtain ⟨⟨-, hc1, -, hc2⟩, ⟨hr1, hrk, hr2⟩, hn1, ⟨hk2, hn2⟩, h12⟩ := hbl
 have hxb : ∀ x ∈ l1 ++ l2, x.1 ≠ cb ∧ x.1 ≠ rb ∧ x.1 ≠ rk := fun x hx => by
  rcases List.mem_append.1 hx with hx | hx
  ·exact ⟨hc1 x hx, hr1 x hx, h12 x.1 ⟨x, hx, rfl⟩ rk (.inl rfl)⟩
  ·exact ⟨hc2 x hx, hr2 x hx, hk2 x hx⟩
 have hpo : (pb = cb ∧ po = 4) ∨ (pb ≠ cb ∧ po = 0) := by
  rcases HPM.out.1 with h | h
  ·exact .inl (Prod.mk.inj h)
  ·obtain ⟨x, hx, he⟩ := List.mem_map.1 h
   obtain ⟨rfl, rfl⟩ := Prod.mk.inj he
   exact .inr ⟨hc1 x hx, rfl⟩
 have hqo2 : (qb = cb ∧ qo = 4) ∨ (qb ≠ cb ∧ qo = 0) := by
  rcases HPM.out.2 with h | h
  ·exact .inl (Prod.mk.inj h)
  ·obtain ⟨x, hx, he⟩ := List.mem_map.1 h
   obtain ⟨rfl, rfl⟩ := Prod.mk.inj he
   exact .inr ⟨hc2 x hx, rfl⟩
 refine ⟨rfl, ⟨ob cb 115 39 hcrb hcw hR.ob, (cc cb 0 hcrb hcw (by omega) (by omega) (by omega)).trans hR.cm, ?_, (cc cb 2 hcrb hcw (by omega) (by omega) (by omega)).trans hR.cd, (cc cb 3 hcrb hcw (by omega) (by omega) (by omega)).trans hR.cr, fun x hx => ?_, ?_, ⟨o2, _, putObj_at (by omega) _, hM2, fun e v => ?_⟩, ?_, ?_, by have := HSZ.out; omega, hR.mx, fun x hx => hR.sm x (hmem x hx), hR.rc, hR.rr, fun x hx => hR.rl x (hmem x hx), fun k hk => ⟨(hR.bd k hk).1, by have := (hR.bd k hk).2; omega⟩⟩, FF, (cc rk 32 (fun e => hrk e.symm) hkw (fun e => hck e.1) (fun e => hpk.1 e.1) (fun e => hqk.1 e.1)).trans HROW.out.data⟩
 ·have e1 : (putObj Wd rb o2).cell? ⟨cb, 1, none⟩ = Wd.cell? ⟨cb, 1, none⟩ := World.cell?_of_block (hT.foot.block cb (by omega) hcrb)
  have e2 : Wd.cell? ⟨cb, 1, none⟩ = W2.cell? ⟨cb, 1, none⟩ := World.cell?_of_block (hbd.block cb (by omega))
  exact e1.trans (e2.trans HG1.out)
 ·have hxr := hR.row x (hmem x hx)
  have hxw := (hR.bd _ (hR.rl x (hmem x hx))).2
  obtain ⟨h1, h2, h3⟩ := hxb x hx
  exact ⟨ob x.1 113 35 h2 hxw hxr.ob, fun j v hv => by
   have hj : j < 32 := by rw [← dgc_len x.2.1]; exact (List.getElem?_eq_some_iff.1 hv).1
   exact (cc x.1 (0 + j) h2 hxw (by omega) (by omega) (by omega)).trans (hxr.sum j v hv), (cc x.1 32 h2 hxw (by omega) (by omega) (by omega)).trans hxr.data⟩
 ·rw [List.map_append]
  have hch := hR.ch
  rw [List.map_append, List.map_cons] at hch
  have hplc : ∀ a ∈ (cb, 4) :: (l1.map Rw.p ++ Rw.p (rk, d, data) :: l2.map Rw.p), a.1 ≠ rb ∧ a.1 < w.heap.size ∧ ((a.1 = cb ∧ a.2 = 4) ∨ (a.1 ≠ cb ∧ a.2 = 0)) := fun a ha => by
   simp only [List.mem_cons, List.mem_append, List.mem_map] at ha
   rcases ha with rfl | ⟨x, hx, rfl⟩ | rfl | ⟨x, hx, rfl⟩
   ·exact ⟨hcrb, hcw, .inl ⟨rfl, rfl⟩⟩
   ·exact ⟨hr1 x hx, (hR.bd _ (hR.rl x (by simp [hx]))).2, .inr ⟨hc1 x hx, rfl⟩⟩
   ·exact ⟨fun e => hrk e.symm, hkw, .inr ⟨fun e => hck e.symm, rfl⟩⟩
   ·exact ⟨hr2 x hx, (hR.bd _ (hR.rl x (by simp [hx]))).2, .inr ⟨hc2 x hx, rfl⟩⟩
  have hnd2 : (((cb, 4) :: (l1.map Rw.p ++ Rw.p (rk, d, data) :: l2.map Rw.p)).map (·.1)).Nodup := by
   have e : ((cb, 4) :: (l1.map Rw.p ++ Rw.p (rk, d, data) :: l2.map Rw.p)).map (·.1) = cb :: (l1 ++ ((rk, d, data) : Rw) :: l2).map (·.1) := by simp [Rw.p, Function.comp_def]
   rw [e]
   exact List.nodup_cons.2 ⟨fun h => (List.nodup_cons.1 hnd).1 (List.mem_cons_of_mem _ h), (List.nodup_cons.1 (List.nodup_cons.1 hnd).2).2⟩
  have w1 : ∀ b j, (b = pb ∧ j = po + 34) ∨ (b = qb ∧ j = qo + 33) → (putObj Wd rb o2).cell? ⟨b, j, none⟩ = W1.cell? ⟨b, j, none⟩ := fun b j h => by
   have hb : b ≠ rb ∧ b < w.heap.size ∧ ¬ (cb = b ∧ 1 = j) := by
    rcases h with ⟨rfl, rfl⟩ | ⟨rfl, rfl⟩
    ·exact ⟨hpk.2, hpw, by omega⟩
    ·exact ⟨hqk.2, hqw, by omega⟩
   have e1 : (putObj Wd rb o2).cell? ⟨b, j, none⟩ = Wd.cell? ⟨b, j, none⟩ := World.cell?_of_block (hT.foot.block b (by omega) hb.1)
   have e2 : Wd.cell? ⟨b, j, none⟩ = W2.cell? ⟨b, j, none⟩ := World.cell?_of_block (hbd.block b (by omega))
   exact e1.trans (e2.trans (HC2.out b j hb.2.2 (by omega)))
  refine chain_drop (p := (pb, po)) (q := (qb, qo)) hch hnd2 HLP.out.1 HLP.out.2 ((w1 pb _ (.inl ⟨rfl, rfl⟩)).trans HPN.out.1) ((w1 qb _ (.inr ⟨rfl, rfl⟩)).trans HPN.out.2) (fun a ha hne => ?_) (fun a ha hne => ?_)
  ·obtain ⟨h1, h2, h3⟩ := hplc a ha
   exact cc a.1 _ h1 h2 (by omega) (fun e => hne e.1.symm) (by rcases h3 with h3 | h3 <;> omega)
  ·obtain ⟨h1, h2, h3⟩ := hplc a ha
   exact cc a.1 _ h1 h2 (by omega) (by rcases h3 with h3 | h3 <;> omega) (fun e => hne e.1.symm)
 ·have hdist := hR.dist
  simp only [List.map_append, List.map_cons, List.nodup_append, List.nodup_cons, List.mem_map, List.mem_cons] at hdist
  obtain ⟨-, ⟨hd2, -⟩, hd12⟩ := hdist
  have hMl := HMM.out.2
  by_cases he : e = d
  ·simp only [if_pos he, reduceCtorEq, false_iff]
   rintro ⟨x, hx, hxe, -⟩
   rcases List.mem_append.1 hx with hx | hx
   ·exact hd12 x.2.1 ⟨x, hx, rfl⟩ d (.inl rfl) (hxe.trans he)
   ·exact hd2 ⟨x, hx, hxe.trans he⟩
  ·simp only [if_neg he]
   rw [hMl]
   constructor
   ·rintro ⟨x, hx, hxe, hv⟩
    simp only [List.mem_append, List.mem_cons] at hx
    rcases hx with hx | rfl | hx
    ·exact ⟨x, List.mem_append.2 (.inl hx), hxe, hv⟩
    ·exact absurd hxe.symm he
    ·exact ⟨x, List.mem_append.2 (.inr hx), hxe, hv⟩
   ·rintro ⟨x, hx, hxe, hv⟩
    exact ⟨x, hmem x hx, hxe, hv⟩
 ·have hdist := hR.dist
  refine List.Nodup.sublist ?_ hdist
  exact List.Sublist.map _ (List.Sublist.append_left (List.sublist_cons_self _ _) _)
 ·refine List.Nodup.sublist ?_ hnd
  exact List.Sublist.cons_cons _ (List.Sublist.cons_cons _ (List.Sublist.map _ (List.Sublist.append_left (List.sublist_cons_self _ _) _)))
end Go.Proofs.YtlbipokkdiiaiaaGreatDoor
