/- Lemmas for TopTwice: ExecReg2, ExecReg3, ExecReg4, ExecReg5, ExecReg6. -/
import Derived.Test.YtlbipokkdiiaiaaGreatDoorU07
namespace Go.Proofs.YtlbipokkdiiaiaaGreatDoor.Exec
variable {P : Program}
theorem bump_spec : ∀ (n : Nat) (h : H), h.lim + 2 ≤ 2 ^ D → h.next + n ≤ h.lim → (bump n h).next = h.next + n ∧ (bump n h).lim = h.lim ∧ ∀ k, (bump n h).get k = h.get k
 | 0, h, _, _ => ⟨rfl, rfl, fun _ => rfl⟩
 | n + 1, h, h1, h2 => by
   obtain ⟨q1, q2, q3⟩ := bump_spec n { t := Tr.set D h.t h.next none, next := h.next + 1, lim := h.lim } h1 (by simp only; omega)
   refine ⟨by rw [bump, q1]; simp only; omega, q2, fun k => ?_⟩
   rw [bump, q3]
   unfold H.get
   simp only
   rw [Tr.get_set D h.t h.next k none (by omega)]
   by_cases hk : k = h.next
   ·subst hk; simp
   ·rw [if_neg hk]
    by_cases h3 : k < h.next
    ·rw [if_pos h3, if_pos (by omega)]
    ·rw [if_neg h3, if_neg (by omega)]
theorem Tput_get {t : T} (hr : t.n + 2 ≤ 2 ^ D) (d : Tmp) (v : Value) (x : Nat) (hd : @LT.lt Nat _ d t.n) : (t.put (some d) v).get x = if x = d then v else t.get x := by
 unfold T.put
 have hd' : d < t.n := hd
 simp only [hd', if_true]
 simp only [T.get]
 rw [Tr.get_set D t.t d x (some v) (by omega)]
 by_cases hx : x = d
 ·simp [hx]
 ·simp [hx]
theorem Tput_n (t : T) (d : Option Tmp) (v : Value) : (t.put d v).n = t.n ∧ (t.put d v).round = t.round ∧ (t.put d v).marks = t.marks := by
 cases d with
 | none => exact ⟨rfl, rfl, rfl⟩
 | some d => unfold T.put; simp only; split <;> exact ⟨rfl, rfl, rfl⟩
structure Rg (hk : Hook) (P : Program) (rec : Rec) (ops : Array Oper) (bef : Array Nat) (base : Nat) (t : T) (h0 : H) (es : List Ent) (t' : T) (h' : H) (p' : List (Nat × AObj)) (st : Nat → T × H × List (Nat × AObj)) : Prop where
 tr : Trace hk P rec ops bef base ops.toList 0 t h0 [] es t' h' p' st
 ok : OkR ops t.n bef
 chk : chkE P bef es = true
 room : t.n + 2 ≤ 2 ^ D
section
variable {hk : Hook} {rec : Rec} {ops : Array Oper} {bef : Array Nat} {base : Nat} {t : T} {h0 : H} {es : List Ent} {t' : T} {h' : H} {p' : List (Nat × AObj)} {st : Nat → T × H × List (Nat × AObj)}
theorem Rg.make (R : Rg hk P rec ops bef base t h0 es t' h' p' st) {i : Nat} {o : Oper} (ho : ops[i]? = some o) : ∃ e, es[i]? = some e ∧ o.op.operands.toList.all okOperand = true ∧ Make hk P rec ops bef base o i (st i).1 (st i).2.1 (st i).2.2 e (st (i + 1)).2.2 ∧
  (st (i + 1)).1 = (st i).1.put o.dst e.v ∧ (st (i + 1)).2.1 = e.g := by
 obtain ⟨e, h1, h2, h3, h4⟩ := R.tr.step i o (by simpa using ho)
 rw [Nat.zero_add] at h2
 obtain ⟨q1, q2⟩ := aent_make h2
 exact ⟨e, h1, q1, q2, h3, h4⟩
theorem Rg.get (_R : Rg hk P rec ops bef base t h0 es t' h' p' st) {i : Nat} (hi : i < ops.size) : ∃ o, ops[i]? = some o := ⟨ops[i], Array.getElem?_eq_getElem hi⟩
theorem Rg.lt (R : Rg hk P rec ops bef base t h0 es t' h' p' st) {i : Nat} {e : Ent} (he : es[i]? = some e) : i < ops.size := by
 have := (List.getElem?_eq_some_iff.1 he).1
 have h2 := R.tr.len
 simp at h2; omega
def Chain (es : List Ent) (k : Nat) : Prop := ∃ e, es[k]? = some e ∧ e.ch = true
theorem Make.same {o : Oper} {i : Nat} {tt : T} {hh : H} {pd pd' : List (Nat × AObj)} {e : Ent} (hm : Make hk P rec ops bef base o i tt hh pd e pd') : e.o = o ∧ e.t = tt ∧ e.h = hh ∧ (e.ch = false → e.g = hh) := by
 cases hm <;> simp
theorem Rg.const (R : Rg hk P rec ops bef base t h0 es t' h' p' st) : ∀ (b a : Nat), a ≤ b → b ≤ ops.size → (∀ k, a ≤ k → k < b → ¬ Chain es k) → (st a).2.1 = (st b).2.1 := by
 intro b
 induction b with
 | zero => intro a h1 _ _; rw [Nat.le_zero.1 h1]
 | succ b ih =>
   intro a h1 h2 h3
   rcases Nat.lt_or_ge a (b + 1) with hab | hab
   ·rw [ih a (by omega) (by omega) (fun k k1 k2 => h3 k k1 (by omega))]
    obtain ⟨o, ho⟩ := R.get (i := b) (by omega)
    obtain ⟨e, q1, _, q3, _, q5⟩ := R.make ho
    have hch : e.ch = false := by
     cases hce : e.ch with
     | false => rfl
     | true => exact absurd ⟨e, q1, hce⟩ (h3 b (by omega) (by omega))
    rw [q5, q3.same.2.2.2 hch]
   ·have : a = b + 1 := by omega
    rw [this]
theorem Rg.tn (R : Rg hk P rec ops bef base t h0 es t' h' p' st) : ∀ (j : Nat), j ≤ ops.size → (st j).1.n = t.n ∧ (st j).1.round = t.round ∧ (st j).1.marks = t.marks := by
 intro j
 induction j with
 | zero => intro _; rw [R.tr.first]; exact ⟨rfl, rfl, rfl⟩
 | succ j ih =>
   intro hj
   obtain ⟨o, ho⟩ := R.get (i := j) (by omega)
   obtain ⟨e, _, _, _, q4, _⟩ := R.make ho
   rw [q4]
   obtain ⟨a, b, c⟩ := Tput_n (st j).1 o.dst e.v
   obtain ⟨a2, b2, c2⟩ := ih (by omega)
   exact ⟨a.trans a2, b.trans b2, c.trans c2⟩
theorem Rg.tin (R : Rg hk P rec ops bef base t h0 es t' h' p' st) {i : Nat} {o : Oper} {e : Ent} {d : Tmp} (ho : ops[i]? = some o) (he : es[i]? = some e) (hd : o.dst = some d) : ∀ (j : Nat), i < j → j ≤ ops.size → (st j).1.get d = e.v := by
 intro j
 induction j with
 | zero => intro h; omega
 | succ j ih =>
   intro h1 h2
   obtain ⟨p, hp⟩ := R.get (i := j) (by omega)
   obtain ⟨f, q1, _, _, q4, _⟩ := R.make hp
   have hn := (R.tn j (by omega)).1
   rw [q4]
   by_cases hij : i = j
   ·subst hij
    rw [ho] at hp; cases hp
    rw [he] at q1; cases q1
    rw [hd, Tput_get (by rw [hn]; exact R.room) d e.v d (by rw [hn]; exact R.ok.dst i o d ho hd), if_pos rfl]
   ·rw [← ih (by omega) (by omega)]
    cases hpd : p.dst with
    | none => rfl
    | some d2 =>
      have hne : d ≠ d2 := by
       rintro rfl
       exact hij (R.ok.one i j o p d ho hp hd hpd)
      rw [Tput_get (by rw [hn]; exact R.room) d2 f.v d (by rw [hn]; exact R.ok.dst j p d2 hp hpd), if_neg hne]
theorem Rg.tout (R : Rg hk P rec ops bef base t h0 es t' h' p' st) {d : Tmp} : ∀ (j : Nat), j ≤ ops.size → (∀ i o, i < j → ops[i]? = some o → o.dst ≠ some d) → (st j).1.get d = t.get d := by
 intro j
 induction j with
 | zero => intro _ _; rw [R.tr.first]
 | succ j ih =>
   intro h2 h3
   obtain ⟨p, hp⟩ := R.get (i := j) (by omega)
   obtain ⟨f, q1, _, _, q4, _⟩ := R.make hp
   have hn := (R.tn j (by omega)).1
   rw [q4, ← ih (by omega) (fun i o hi ho => h3 i o (by omega) ho)]
   cases hpd : p.dst with
   | none => rfl
   | some d2 =>
     have hne : d ≠ d2 := by
      rintro rfl
      exact h3 j p (by omega) hp hpd
     rw [Tput_get (by rw [hn]; exact R.room) d2 f.v d (by rw [hn]; exact R.ok.dst j p d2 hp hpd), if_neg hne]
theorem Rg.pd (R : Rg hk P rec ops bef base t h0 es t' h' p' st) : ∀ (j : Nat), j ≤ ops.size → ∀ i ob, (i, ob) ∈ (st j).2.2 → i < j ∧ (∃ e, es[i]? = some e ∧ e.ob = some ob) ∧ ∀ k, k < j → Chain es k → (bef.getD k 0).testBit i = false := by
 intro j
 induction j with
 | zero => intro _ i ob hm; rw [R.tr.first] at hm; cases hm
 | succ j ih =>
   intro hj i ob hm
   obtain ⟨p, hp⟩ := R.get (i := j) (by omega)
   obtain ⟨f, q1, _, q3, _, _⟩ := R.make hp
   have old : f.ch = false → (i, ob) ∈ (st j).2.2 → i < j + 1 ∧ (∃ e, es[i]? = some e ∧ e.ob = some ob) ∧ ∀ k, k < j + 1 → Chain es k → (bef.getD k 0).testBit i = false := by
    intro hch hmem
    obtain ⟨z1, z2, z3⟩ := ih (by omega) i ob hmem
    refine ⟨by omega, z2, fun k hk hc => ?_⟩
    by_cases hkj : k = j
    ·subst hkj
     obtain ⟨e2, c1, c2⟩ := hc
     rw [q1] at c1; cases c1
     rw [hch] at c2; simp at c2
    ·exact z3 k (by omega) hc
   generalize hpd : (st (j + 1)).2.2 = pd' at *
   cases q3 with
   | no _ => exact old rfl hm
   | ld _ _ _ _ _ _ => exact old rfl hm
   | flt v h2 hw hop =>
     cases hg : h2.get (base + j) with
     | none => rw [hg] at hm; exact old rfl hm
     | some ob2 =>
       rw [hg] at hm
       rcases List.mem_cons.1 hm with heq | hmem
       ·simp only [Prod.mk.injEq] at heq
        obtain ⟨rfl, rfl⟩ := heq
        refine ⟨by omega, ⟨_, q1, hg⟩, fun k hk hc => ?_⟩
        cases hb : (bef.getD k 0).testBit i with
        | false => rfl
        | true =>
          obtain ⟨o2, ho2⟩ := R.get (i := k) (by omega)
          have := R.ok.lt k ho2 hb
          omega
       ·exact old rfl hmem
   | ch nx h2 v h3 hw hop hn =>
     rw [List.mem_filter] at hm
     obtain ⟨hmem, hbit⟩ := hm
     obtain ⟨z1, z2, z3⟩ := ih (by omega) i ob hmem
     refine ⟨by omega, z2, fun k hk hc => ?_⟩
     by_cases hkj : k = j
     ·subst hkj; simpa using hbit
     ·exact z3 k (by omega) hc
end
end Go.Proofs.YtlbipokkdiiaiaaGreatDoor.Exec
namespace Go.Proofs.YtlbipokkdiiaiaaGreatDoor.Exec
variable {P : Program} {m : Bij} {W : World}
structure Pd (N base : Nat) (m : Bij) (hH : H) (W : World) (i : Nat) (ob : AObj) : Prop where
 lt : base + i < hH.next
 iN : i < N
 ex : ∃ b o', m.r (base + i) b ∧ W.heap[b]? = some o' ∧ NRel m (base + i) ob o' ∧ ∀ n, m.r n b → n = base + i ∨ (hH.get n = none ∧ ∀ i2, i2 < N → n ≠ base + i2)
theorem Pd.put {N base : Nat} {hH : H} {i : Nat} {ob : AObj} (hw : WRel m hH W) (hp : Pd N base m hH W i ob) :
  WRel m (hH.put (base + i) ob) W ∧ (∀ n, (hH.put (base + i) ob).get n = if n = base + i then some ob else hH.get n) ∧ ∀ i2 ob2, i2 ≠ i → Pd N base m hH W i2 ob2 → Pd N base m (hH.put (base + i) ob) W i2 ob2 := by
 obtain ⟨hlt, hN, b, o', h1, h2, h3, h4⟩ := hp
 have hg : ∀ n, (hH.put (base + i) ob).get n = if n = base + i then some ob else hH.get n := fun n => H.get_put hw.room hw.le hlt ob n
 refine ⟨⟨fun n o ho => ?_, hw.fresh, hw.ran, fun n k c g1 g2 g3 g4 => ?_, hw.room, hw.le⟩, hg, fun i2 ob2 hne hp2 => ?_⟩
 ·rw [hg] at ho
  split at ho
  ·rename_i e; subst e
   simp only [Option.some.injEq] at ho; subst ho
   exact ⟨b, o', h1, h2, h3⟩
  ·exact hw.obj n o ho
 ·rw [hg] at g3 g4
  by_cases e1 : n = base + i
  ·subst e1
   by_cases e2 : k = base + i
   ·exact e2.symm
   ·rw [if_neg e2] at g4
    have : b = c := m.fn h1 g1
    subst this
    rcases h4 k g2 with q | ⟨q, _⟩
    ·exact q.symm
    ·exact absurd q g4
  ·rw [if_neg e1] at g3
   by_cases e2 : k = base + i
   ·subst e2
    have : b = c := m.fn h1 g2
    subst this
    rcases h4 n g1 with q | ⟨q, _⟩
    ·exact q
    ·exact absurd q g3
   ·rw [if_neg e2] at g4
    exact hw.inj n k c g1 g2 g3 g4
 ·obtain ⟨k1, k2, b2, o2, q1, q2, q3, q4⟩ := hp2
  refine ⟨k1, k2, b2, o2, q1, q2, q3, fun n hn => ?_⟩
  rcases q4 n hn with q | ⟨q, q5⟩
  ·exact .inl q
  ·refine .inr ⟨?_, q5⟩
   rw [hg, if_neg (q5 i hN)]; exact q
theorem adopt_spec {N base bj : Nat} : ∀ (pd : List (Nat × AObj)) (hH : H), WRel m hH W → (∀ i ob, (i, ob) ∈ pd → bj.testBit i = true → Pd N base m hH W i ob) → (pd.map (·.1)).Nodup →
  WRel m (adopt base bj pd hH) W ∧ (adopt base bj pd hH).next = hH.next ∧ (adopt base bj pd hH).lim = hH.lim ∧ (∀ n, hH.get n = none → (∀ i, i < N → bj.testBit i = true → n ≠ base + i) → (adopt base bj pd hH).get n = none) ∧
   ∀ i ob, Pd N base m hH W i ob → (∀ ob2, (i, ob2) ∈ pd → bj.testBit i = false) → Pd N base m (adopt base bj pd hH) W i ob
 | [], hH, hw, _, _ => ⟨hw, rfl, rfl, fun n hn _ => hn, fun i ob hp _ => hp⟩
 | (i, ob) :: pd, hH, hw, hp, hnd => by
   simp only [List.map_cons, List.nodup_cons] at hnd
   simp only [adopt]
   split
   ·rename_i hb
    obtain ⟨w1, g1, k1⟩ := Pd.put hw (hp i ob (by simp) hb)
    have hne : ∀ i2 ob2, (i2, ob2) ∈ pd → i2 ≠ i := fun i2 ob2 hm e => by
     subst e; exact hnd.1 (List.mem_map.2 ⟨_, hm, rfl⟩)
    obtain ⟨a1, a2, a3, a4, a5⟩ := adopt_spec pd (hH.put (base + i) ob) w1 (fun i2 ob2 hm hb2 => k1 i2 ob2 (hne i2 ob2 hm) (hp i2 ob2 (by simp [hm]) hb2)) hnd.2
    refine ⟨a1, a2, a3, fun n hn hne2 => a4 n ?_ hne2, fun i2 ob2 hp2 hnb => a5 i2 ob2 (k1 i2 ob2 ?_ hp2) fun ob3 hm => hnb ob3 (by simp [hm])⟩
    ·rw [g1, if_neg (hne2 i (hp i ob (by simp) hb).iN hb)]; exact hn
    ·rintro rfl
     rw [hnb ob (by simp)] at hb; simp at hb
   ·rename_i hb
    obtain ⟨a1, a2, a3, a4, a5⟩ := adopt_spec pd hH hw (fun i2 ob2 hm hb2 => hp i2 ob2 (by simp [hm]) hb2) hnd.2
    exact ⟨a1, a2, a3, a4, fun i2 ob2 hp2 hnb => a5 i2 ob2 hp2 fun ob3 hm => hnb ob3 (by simp [hm])⟩
section
variable {hk : Hook} {rec : Rec} {ops : Array Oper} {bef : Array Nat} {base : Nat} {t : T} {h0 : H} {es : List Ent} {t' : T} {h' : H} {p' : List (Nat × AObj)} {st : Nat → T × H × List (Nat × AObj)}
theorem Rg.nodup (R : Rg hk P rec ops bef base t h0 es t' h' p' st) : ∀ (j : Nat), j ≤ ops.size → ((st j).2.2.map (·.1)).Nodup := by
 intro j
 induction j with
 | zero => intro _; rw [R.tr.first]; simp
 | succ j ih =>
   intro hj
   have hnd := ih (by omega)
   obtain ⟨p, hp⟩ := R.get (i := j) (by omega)
   obtain ⟨f, q1, _, q3, _, _⟩ := R.make hp
   generalize hpd : (st (j + 1)).2.2 = pd' at *
   cases q3 with
   | no _ => exact hnd
   | ld _ _ _ _ _ _ => exact hnd
   | flt v h2 hw hop =>
     cases hg : h2.get (base + j) with
     | none => exact hnd
     | some ob2 =>
       simp only [List.map_cons, List.nodup_cons]
       refine ⟨fun hm => ?_, hnd⟩
       obtain ⟨⟨i, ob⟩, h1, h2⟩ := List.mem_map.1 hm
       simp only at h2; subst h2
       have := (R.pd i (by omega) i ob h1).1
       omega
   | ch nx h2 v h3 hw hop hn => exact (hnd.sublist ((List.filter_sublist).map _))
structure Inv (N : Nat) (bef : Array Nat) (base : Nat) (t : T) (es : List Ent) (ops : Array Oper) (hH : H) (m0 : Bij) (h : H) (W0 : World) (ro : Option Nat) (listed : Array Bool) (c : Nat) (m : Bij) (a : Act) (W : World) : Prop where
 size : listed.size = N
 cle : c ≤ N
 cut : ∀ k, Chain es k → (listed.getD k false = true ↔ k < c)
 down : ∀ j, j < N → listed.getD j false = true → ∀ k, (bef.getD j 0).testBit k = true → listed.getD k false = true
 snd : Snd m0 h W0 m hH W
 tin : ∀ i o e d, ops[i]? = some o → es[i]? = some e → o.dst = some d → listed.getD i false = true → VRel m e.v (a.tmps.getD d undef)
 tout : ∀ x, (∀ i o, ops[i]? = some o → o.dst = some x → listed.getD i false = false) → VRel m (t.get x) (a.tmps.getD x undef)
 asz : t.n = a.tmps.size
 marks : MRel m t.marks a.defers
 round : OptRel m.r t.round ro
 next : base + N ≤ hH.next
 dead : ∀ i, i < N → (∀ k, Chain es k → k < c → (bef.getD k 0).testBit i = false) → hH.get (base + i) = none
 new : ∀ i, i < N → listed.getD i false = false → ∀ b, ¬ m.r (base + i) b
 pend : ∀ i e ob, listed.getD i false = true → es[i]? = some e → e.ob = some ob → (∀ k, Chain es k → k < c → (bef.getD k 0).testBit i = false) → Pd N base m hH W i ob
end
end Go.Proofs.YtlbipokkdiiaiaaGreatDoor.Exec
namespace Go.Proofs.YtlbipokkdiiaiaaGreatDoor.Exec
variable {P : Program} {m : Bij} {W : World}
theorem put_getD (a : Act) (d : Tmp) (v : Value) (x : Nat) (hd : @LT.lt Nat _ d a.tmps.size) : (a.put (some d) v).tmps.getD x undef = if x = d then v else a.tmps.getD x undef := by
 show (a.tmps.setIfInBounds d v).getD x undef = _
 rw [Array.getD_eq_getD_getElem?]
 by_cases hx : x = d
 ·subst hx; rw [if_pos rfl, Array.getElem?_setIfInBounds_self_of_lt hd]; rfl
 ·rw [if_neg hx, Array.getElem?_setIfInBounds_ne (fun e => hx e.symm), ← Array.getD_eq_getD_getElem?]
theorem getD_self (l : Array Bool) (i : Nat) (hi : i < l.size) : (l.setIfInBounds i true).getD i false = true := by
 rw [Array.getD_eq_getD_getElem?, Array.getElem?_setIfInBounds_self_of_lt hi]; rfl
theorem getD_other (l : Array Bool) (i j : Nat) (h : i ≠ j) : (l.setIfInBounds i true).getD j false = l.getD j false := by
 rw [Array.getD_eq_getD_getElem?, Array.getElem?_setIfInBounds_ne h, ← Array.getD_eq_getD_getElem?]
theorem getD_ft (l : Array Bool) (i : Nat) (hi : i < l.size) : l.getD i true = l.getD i false := by
 rw [Array.getD_eq_getD_getElem?, Array.getD_eq_getD_getElem?, Array.getElem?_eq_getElem hi]; rfl
section
variable {hk : Hook} {rec : Rec} {ops : Array Oper} {bef : Array Nat} {base : Nat} {t : T} {h0 : H} {es : List Ent} {t' : T} {h' : H} {p' : List (Nat × AObj)} {st : Nat → T × H × List (Nat × AObj)}
 {hH : H} {m0 : Bij} {h : H} {W0 : World} {ro : Option Nat} {listed : Array Bool} {c : Nat} {a : Act}
theorem Inv.bits (R : Rg hk P rec ops bef base t h0 es t' h' p' st) (I : Inv ops.size bef base t es ops hH m0 h W0 ro listed c m a W) {i : Nat} {o : Oper} (ho : ops[i]? = some o)
  (hr : ∀ e ∈ o.after, Region.binds .any e = true → listed.getD e.on false = true) {k : Nat} (hb : (bef.getD i 0).testBit k = true) : listed.getD k false = true := by
 obtain ⟨e, h1, h2, h3⟩ := R.ok.bit ho hb
 have hl := hr e h1 h2
 rcases h3 with rfl | h3
 ·exact hl
 ·have := R.ok.low i o ho e h1 h2
  have hi := (Array.getElem?_eq_some_iff.1 ho).1
  exact I.down e.on (by omega) hl k h3
theorem Inv.look (R : Rg hk P rec ops bef base t h0 es t' h' p' st) (I : Inv ops.size bef base t es ops hH m0 h W0 ro listed c m a W) {i : Nat} {o : Oper} (ho : ops[i]? = some o)
  (hr : ∀ e ∈ o.after, Region.binds .any e = true → listed.getD e.on false = true) {y : Tmp} (hy : (.tmp y ∈ o.op.operands) ∨ ∃ g b, o.guard = some (g, b) ∧ (ops[g]?).bind (·.dst) = some y) :
  VRel m ((st i).1.get y) (a.tmps.getD y undef) := by
 have hi := (Array.getElem?_eq_some_iff.1 ho).1
 by_cases hex : ∃ (j : Nat) (p : Oper), ops[j]? = some p ∧ p.dst = some y
 ·obtain ⟨j, p, hp, hd⟩ := hex
  have hb := R.ok.looks i o ho y hy j p hp hd
  have hl := I.bits R ho hr hb
  have hlt := R.ok.lt i ho hb
  obtain ⟨e, q1, _⟩ := R.make hp
  rw [R.tin hp q1 hd i hlt (by omega)]
  exact I.tin j p e y hp q1 hd hl
 ·rw [R.tout i (by omega) fun j p _ hp hd => hex ⟨j, p, hp, hd⟩]
  exact I.tout y fun j p hp hd => absurd ⟨j, p, hp, hd⟩ hex
theorem Inv.operands (R : Rg hk P rec ops bef base t h0 es t' h' p' st) (I : Inv ops.size bef base t es ops hH m0 h W0 ro listed c m a W) {i : Nat} {o : Oper} (ho : ops[i]? = some o)
  (hr : ∀ e ∈ o.after, Region.binds .any e = true → listed.getD e.on false = true) (hok : o.op.operands.toList.all okOperand = true) : ∀ x ∈ o.op.operands, VRel m ((st i).1.eval x) (a.eval x) := by
 intro x hx
 have hxk := List.all_eq_true.1 hok x (by simpa using hx)
 cases x with
 | tmp y => exact I.look R ho hr (.inl hx)
 | const v => exact flat_rel hxk
 | global g => simp [okOperand] at hxk
 | func f => exact .func (.func f) rfl (fun i h => by simp at h) rfl (fun i h => by simp at h)
theorem Inv.wanted (R : Rg hk P rec ops bef base t h0 es t' h' p' st) (I : Inv ops.size bef base t es ops hH m0 h W0 ro listed c m a W) {i : Nat} {o : Oper} (ho : ops[i]? = some o)
  (hr : ∀ e ∈ o.after, Region.binds .any e = true → listed.getD e.on false = true) : Region.wanted o (yielded ops a.tmps) = wantedT ops (st i).1 o := by
 have hi := (Array.getElem?_eq_some_iff.1 ho).1
 have hn := (R.tn i (by omega)).1
 have hs := I.asz
 unfold Region.wanted wantedT
 cases hg : o.guard with
 | none => rfl
 | some g =>
   obtain ⟨j, w⟩ := g
   simp only [yielded]
   cases hd : (ops[j]?).bind (·.dst) with
   | none => rfl
   | some d =>
     simp only [Option.bind_some]
     have this := I.look R ho hr (y := d) (.inr ⟨j, w, hg, hd⟩)
     by_cases hlt : d < (st i).1.n
     ·have hd' : @LT.lt Nat _ d (st i).1.n := hlt
      have hl : @LT.lt Nat _ d a.tmps.size := by omega
      rw [Array.getD_eq_getD_getElem?, Array.getElem?_eq_getElem hl] at this
      simp only [Option.getD_some] at this
      rw [Array.getElem?_eq_getElem hl, if_pos hlt]
      generalize (st i).1.get d = x at *
      generalize a.tmps[d] = y at *
      cases this <;> simp
     ·have hd' : ¬ @LT.lt Nat _ d (st i).1.n := hlt
      rw [Array.getElem?_eq_none (by omega), if_neg hlt]; simp
theorem Inv.next_ (R : Rg hk P rec ops bef base t h0 es t' h' p' st) (I : Inv ops.size bef base t es ops hH m0 h W0 ro listed c m a W) {i : Nat} {o : Oper} {e : Ent} (ho : ops[i]? = some o) (he : es[i]? = some e)
  (hun : listed.getD i false = false) (hr : ∀ e ∈ o.after, Region.binds .any e = true → listed.getD e.on false = true) {m' : Bij} (hm : m ≤ m') {v' : Value} (hv : VRel m' e.v v') {c' : Nat} {hH' : H} {W' : World} (h1 : c' ≤ ops.size)
  (h2 : ∀ k, Chain es k → ((listed.setIfInBounds i true).getD k false = true ↔ k < c')) (h3 : Snd m0 h W0 m' hH' W') (h4 : base + ops.size ≤ hH'.next)
  (h5 : ∀ i, i < ops.size → (∀ k, Chain es k → k < c' → (bef.getD k 0).testBit i = false) → hH'.get (base + i) = none)
  (h6 : ∀ j, j < ops.size → (listed.setIfInBounds i true).getD j false = false → ∀ b, ¬ m'.r (base + j) b)
  (h7 : ∀ j e ob, (listed.setIfInBounds i true).getD j false = true → es[j]? = some e → e.ob = some ob → (∀ k, Chain es k → k < c' → (bef.getD k 0).testBit j = false) → Pd ops.size base m' hH' W' j ob) :
  Inv ops.size bef base t es ops hH' m0 h W0 ro (listed.setIfInBounds i true) c' m' (a.put o.dst v') W' := by
 have hi := (Array.getElem?_eq_some_iff.1 ho).1
 have hil : i < listed.size := by rw [I.size]; exact hi
 have hsz := I.asz
 refine ⟨by simpa using I.size, h1, h2, ?_, h3, ?_, ?_, ?_, ?_, I.round.mono fun _ _ q => (hm _ _ q).1, h4, h5, h6, h7⟩
 ·intro j hj hl k hb
  by_cases hki : i = k
  ·subst hki; exact getD_self _ _ hil
  ·rw [getD_other _ _ _ hki]
   by_cases hji : i = j
   ·subst hji; exact I.bits R ho hr hb
   ·rw [getD_other _ _ _ hji] at hl; exact I.down j hj hl k hb
 ·intro j p f d hp hf hd hl
  by_cases hji : i = j
  ·subst hji
   rw [ho] at hp; cases hp
   rw [he] at hf; cases hf
   have hlt : @LT.lt Nat _ d t.n := R.ok.dst i o d ho hd
   rw [hd, put_getD a d v' d (by omega), if_pos rfl]; exact hv
  ·rw [getD_other _ _ _ hji] at hl
   have hold := (I.tin j p f d hp hf hd hl).mono hm
   cases hod : o.dst with
   | none => exact hold
   | some d2 =>
     have hlt : @LT.lt Nat _ d2 t.n := R.ok.dst i o d2 ho hod
     rw [put_getD a d2 v' d (by omega), if_neg (by rintro rfl; exact hji (R.ok.one i j o p d ho hp hod hd))]; exact hold
 ·intro x hx
  have hold := (I.tout x fun j p hp hd => by
   have := hx j p hp hd
   by_cases hji : i = j
   ·subst hji; exact hun
   ·rwa [getD_other _ _ _ hji] at this).mono hm
  cases hod : o.dst with
  | none => exact hold
  | some d2 =>
    have hlt : @LT.lt Nat _ d2 t.n := R.ok.dst i o d2 ho hod
    rw [put_getD a d2 v' x (by omega), if_neg (by
     rintro rfl
     have := hx i o ho hod
     rw [getD_self _ _ hil] at this; simp at this)]
    exact hold
 ·cases hod : o.dst with
  | none => exact hsz
  | some d2 => show t.n = (a.tmps.setIfInBounds d2 v').size; simpa using hsz
 ·cases hod : o.dst with
  | none => exact I.marks.mono hm
  | some d2 => exact I.marks.mono hm
end
end Go.Proofs.YtlbipokkdiiaiaaGreatDoor.Exec
namespace Go.Proofs.YtlbipokkdiiaiaaGreatDoor.Exec
variable {P : Program} {m : Bij} {W : World}
theorem same_eq : ∀ (n : Nat) {x y : Value}, same n x y = true → x = y := by
 intro n
 induction n with
 | zero =>
   intro x y h
   unfold same at h
   split at h <;> first | (simp at h; done) | (exfalso; omega) | skip
   ·simpa using h
   ·simpa using h
   ·rename_i a b; congr 1; exact ByteArray.ext (by simpa using h)
   ·simpa using h
   ·simp only [Bool.and_eq_true, beq_iff_eq] at h; obtain ⟨⟨rfl, rfl⟩, rfl⟩ := h; rfl
   ·simpa using h
   ·rfl
   ·rfl
   all_goals (rename_i e; simp at e)
 | succ n ih =>
   have all : ∀ (l k : List Value), l.length = k.length → ((l.zip k).all fun (a, b) => same n a b) = true → l = k := by
    intro l
    induction l with
    | nil => intro k h _; cases k <;> simp_all
    | cons a l ih2 =>
      intro k h1 h2
      cases k with
      | nil => simp at h1
      | cons b k =>
        simp only [List.zip_cons_cons, List.all_cons, Bool.and_eq_true] at h2
        rw [ih h2.1, ih2 k (by simpa using h1) h2.2]
   have arr : ∀ (a b : Array Value), a.size = b.size → ((a.toList.zip b.toList).all fun (a, b) => same n a b) = true → a = b := fun a b h1 h2 => by
    have := all a.toList b.toList (by simpa using h1) h2
    exact Array.ext' this
   intro x y h
   unfold same at h
   split at h <;> first | (simp at h; done) | skip
   ·simpa using h
   ·simpa using h
   ·rename_i a b; congr 1; exact ByteArray.ext (by simpa using h)
   ·simpa using h
   ·simp only [Bool.and_eq_true, beq_iff_eq] at h; obtain ⟨⟨rfl, rfl⟩, rfl⟩ := h; rfl
   ·simpa using h
   ·rfl
   ·rfl
   ·rename_i e
    obtain rfl : n = _ := by simpa using e
    simp only [Bool.and_eq_true, beq_iff_eq] at h
    obtain ⟨⟨⟨⟨rfl, h2⟩, h3⟩, h4⟩, h5⟩ := h
    rw [arr _ _ h2 h4, arr _ _ h3 h5]
   ·rename_i e
    obtain rfl : n = _ := by simpa using e
    simp only [Bool.and_eq_true, beq_iff_eq] at h
    rw [h.1, ih h.2]
   ·rename_i e
    obtain rfl : n = _ := by simpa using e
    simp only [Bool.and_eq_true, beq_iff_eq] at h
    rw [arr _ _ h.1 h.2]
theorem loadAt_true {ρ ρ' : Operand → Value} {o : Oper} {ty : TypeId} {x : Operand} (hop : o.op = .load ty x) {hH : H} {v : Value} (hl : loadAt P ρ o hH = some v) (hx : VRel m (ρ x) (ρ' x)) (hw : WRel m hH W) :
  ∃ v', (execOp ρ' o).run P W = .ok (.value v') W ∧ VRel m v v' := by
 have hd : ∀ ρ : Operand → Value, execOp ρ o = (do pure (.value (← Instr.loadAt ty (ρ x)))) := fun ρ => by
  obtain ⟨_, op, _, _, _, _⟩ := o
  simp only at hop
  subst hop
  rfl
 unfold loadAt at hl
 split at hl
 ·rename_i v2 h2 hr
  simp only [Option.some.injEq] at hl
  subst hl
  rw [hd] at hr
  rw [hd]
  generalize hX : ρ' x = X at hx
  generalize ρ x = Y at hx hr
  have hp : ∃ ad, Y = .pointer (some ad) := by
   cases Y with
   | pointer ad => cases ad with
     | some ad => exact ⟨ad, rfl⟩
     | none => simp [Instr.loadAt, Instr.sureAddr, stuck, Bind.bind, Sem.bind, ARun] at hr
   | _ => simp [Instr.loadAt, Instr.sureAddr, stuck, Bind.bind, Sem.bind, ARun] at hr
  obtain ⟨ad, rfl⟩ := hp
  cases hx with
  | pointer hp => cases hp with
    | @some _ ad' ha =>
      have hr2 : ARun P ((loadVar ty ad).bind fun v => Sem.pure (Next.value v)) hH = some (Next.value v2, h2) := hr
      have hsome : ∃ q, ARun P (loadVar ty ad) hH = some q := by
       cases hq : ARun P (loadVar ty ad) hH with
       | some q => exact ⟨q, rfl⟩
       | none => rw [ARun.bind_none _ _ _ hq] at hr2; simp at hr2
      obtain ⟨⟨u, h3⟩, hq⟩ := hsome
      rw [ARun.bind_ok _ _ _ hq] at hr2
      simp only [ARun, Option.some.injEq, Prod.mk.injEq, Next.value.injEq] at hr2
      obtain ⟨rfl, rfl⟩ := hr2
      obtain ⟨_, v', k1, k2⟩ := load_true hq ha hw
      refine ⟨v', ?_, k2⟩
      show ((loadVar ty ad').bind fun v => Sem.pure (Next.value v)).run P W = _
      have : (loadVar ty ad' >>= fun v => (pure (.value v) : Sem Next)).run P W = .ok (.value v') W := by rw [Sem.run_bind, k1]; rfl
      exact this
 ·simp at hl
section
variable {hk : Hook} {rec : Rec} {ops : Array Oper} {bef : Array Nat} {base : Nat} {t : T} {h0 : H} {es : List Ent} {t' : T} {h' : H} {p' : List (Nat × AObj)} {st : Nat → T × H × List (Nat × AObj)}
 {m0 : Bij} {h : H} {W0 : World} {ro : Option Nat} {listed : Array Bool} {c : Nat} {a : Act}
theorem chk_pair (R : Rg hk P rec ops bef base t h0 es t' h' p' st) {j k : Nat} {e f : Ent} (he : es[j]? = some e) (hf : es[k]? = some f) (hc : f.ch = true) :
  (k < j → e.ch = true → (bef.getD j 0).testBit k = true) ∧
  (k < j → e.ch = false → e.ld = true → (bef.getD j 0).testBit k = true ∨ ∃ v, loadAt P e.t.eval e.o f.h = some v ∧ same 3 e.v v = true) ∧
  (j < k → e.ld = true → (bef.getD k 0).testBit j = true ∨ ∃ v, loadAt P e.t.eval e.o f.g = some v ∧ same 3 e.v v = true) := by
 have h1 := List.all_eq_true.1 R.chk (e, j) (by rw [List.mem_zipIdx_iff_getElem?]; simpa using he)
 have h2 := List.all_eq_true.1 h1 (f, k) (by rw [List.mem_zipIdx_iff_getElem?]; simpa using hf)
 simp only [hc, Bool.not_true, Bool.false_or] at h2
 refine ⟨fun hkj hce => ?_, fun hkj hce hld => ?_, fun hjk hld => ?_⟩
 ·rw [if_pos hkj, if_pos hce] at h2; exact h2
 ·rw [if_pos hkj, if_neg (by simp [hce]), if_pos hld] at h2
  rcases Bool.or_eq_true_iff.1 h2 with h3 | h3
  ·exact .inl h3
  ·right
   cases hl : loadAt P e.t.eval e.o f.h with
   | none => rw [hl] at h3; simp at h3
   | some v => rw [hl] at h3; exact ⟨v, rfl, by simpa using h3⟩
 ·rw [if_neg (by omega), if_pos hjk, if_pos hld] at h2
  rcases Bool.or_eq_true_iff.1 h2 with h3 | h3
  ·exact .inl h3
  ·right
   cases hl : loadAt P e.t.eval e.o f.g with
   | none => rw [hl] at h3; simp at h3
   | some v => rw [hl] at h3; exact ⟨v, rfl, by simpa using h3⟩
theorem load_now (R : Rg hk P rec ops bef base t h0 es t' h' p' st) (I : Inv ops.size bef base t es ops (st c).2.1 m0 h W0 ro listed c m a W) {i : Nat} {o : Oper} {e : Ent} (ho : ops[i]? = some o) (he : es[i]? = some e)
  (hun : listed.getD i false = false) (hr : ∀ e ∈ o.after, Region.binds .any e = true → listed.getD e.on false = true) (hch : e.ch = false) (hld : e.ld = true) (hl : loadAt P e.t.eval e.o (st i).2.1 = some e.v) :
  loadAt P e.t.eval e.o (st c).2.1 = some e.v := by
 have hi := (Array.getElem?_eq_some_iff.1 ho).1
 have fin : ∀ {hX : H}, (∃ v, loadAt P e.t.eval e.o hX = some v ∧ same 3 e.v v = true) → loadAt P e.t.eval e.o hX = some e.v := fun ⟨v, h1, h2⟩ => by rw [h1, same_eq 3 h2]
 rcases Nat.lt_or_ge i c with hic | hic
 ·by_cases hex : ∃ k, i ≤ k ∧ k < c ∧ Chain es k
  ·-- the last acting one
   have hlast : ∃ k, i ≤ k ∧ k < c ∧ Chain es k ∧ ∀ k2, k < k2 → k2 < c → ¬ Chain es k2 := by
    obtain ⟨k, h1, h2, h3⟩ := hex
    have : ∃ q, (q < c - i ∧ Chain es (c - 1 - q)) ∧ ∀ q2, (q2 < c - i ∧ Chain es (c - 1 - q2)) → q ≤ q2 := exists_least ⟨c - 1 - k, by omega, by rw [show c - 1 - (c - 1 - k) = k by omega]; exact h3⟩
    obtain ⟨q, ⟨q1, q2⟩, q3⟩ := this
    refine ⟨c - 1 - q, by omega, by omega, q2, fun k2 z1 z2 z3 => ?_⟩
    have := q3 (c - 1 - k2) ⟨by omega, by rw [show c - 1 - (c - 1 - k2) = k2 by omega]; exact z3⟩
    omega
   obtain ⟨k, h1, h2, h3, h4⟩ := hlast
   obtain ⟨f, f1, f2⟩ := h3
   have hki : i < k := by
    rcases Nat.lt_or_ge i k with q | q
    ·exact q
    ·have : k = i := by omega
     subst this
     rw [he] at f1; cases f1; rw [hch] at f2; simp at f2
   have hkl := (I.cut k ⟨f, f1, f2⟩).2 h2
   have hkN := R.lt f1
   obtain ⟨p, hp⟩ := R.get hkN
   obtain ⟨f', g1, _, g3, _, g5⟩ := R.make hp
   rw [f1] at g1; cases g1
   have heq : (st c).2.1 = f.g := by
    rw [← R.const c (k + 1) (by omega) I.cle (fun k2 z1 z2 => h4 k2 (by omega) z2), g5]
   rw [heq]
   rcases (chk_pair R he f1 f2).2.2 hki hld with q | q
   ·have := I.down k hkN hkl i q
    rw [hun] at this; simp at this
   ·exact fin q
  ·rw [← R.const c i (by omega) I.cle (fun k z1 z2 z3 => hex ⟨k, z1, z2, z3⟩)]; exact hl
 ·by_cases hex : ∃ k, c ≤ k ∧ k < i ∧ Chain es k
  ·obtain ⟨k, ⟨h1, h2, h3⟩, h4⟩ := exists_least hex
   obtain ⟨f, f1, f2⟩ := h3
   have hnl : listed.getD k false = false := by
    cases hq : listed.getD k false with
    | false => rfl
    | true => have := (I.cut k ⟨f, f1, f2⟩).1 hq; omega
   obtain ⟨p, hp⟩ := R.get (R.lt f1)
   obtain ⟨f', g1, _, g3, _, g5⟩ := R.make hp
   rw [f1] at g1; cases g1
   have heq : (st c).2.1 = f.h := by
    rw [R.const k c h1 (by omega) (fun k2 z1 z2 z3 => by have := h4 k2 ⟨z1, by omega, z3⟩; omega), g3.same.2.2.1]
   rw [heq]
   rcases (chk_pair R he f1 f2).2.1 h2 hch hld with q | q
   ·have := I.bits R ho hr q
    rw [hnl] at this; simp at this
   ·exact fin q
  ·rw [R.const i c hic (by omega) (fun k z1 z2 z3 => hex ⟨k, z1, z2, z3⟩)]; exact hl
end
end Go.Proofs.YtlbipokkdiiaiaaGreatDoor.Exec
namespace Go.Proofs.YtlbipokkdiiaiaaGreatDoor.Exec
variable {P : Program} {m : Bij} {W : World}
section
variable {hk : Hook} {rec : Rec} {ops : Array Oper} {bef : Array Nat} {base : Nat} {t : T} {h0 : H} {es : List Ent} {t' : T} {h' : H} {p' : List (Nat × AObj)} {st : Nat → T × H × List (Nat × AObj)}
 {m0 : Bij} {h : H} {W0 : World} {ro : Option Nat} {listed : Array Bool} {c : Nat} {a : Act}
theorem cut_same (I : Inv ops.size bef base t es ops (st c).2.1 m0 h W0 ro listed c m a W) {i : Nat} {e : Ent} (he : es[i]? = some e) (hch : e.ch = false) : ∀ k, Chain es k → ((listed.setIfInBounds i true).getD k false = true ↔ k < c) := fun k hc => by
 have hki : i ≠ k := by
  rintro rfl
  obtain ⟨f, f1, f2⟩ := hc
  rw [he] at f1; cases f1
  rw [hch] at f2; simp at f2
 rw [getD_other _ _ _ hki]; exact I.cut k hc
theorem new_same (I : Inv ops.size bef base t es ops (st c).2.1 m0 h W0 ro listed c m a W) {i : Nat} (hi : i < ops.size) : ∀ j, j < ops.size → (listed.setIfInBounds i true).getD j false = false → i ≠ j ∧ ∀ b, ¬ m.r (base + j) b := fun j hj hl => by
 by_cases hij : i = j
 ·subst hij; rw [getD_self _ _ (by rw [I.size]; exact hi)] at hl; simp at hl
 ·rw [getD_other _ _ _ hij] at hl; exact ⟨hij, I.new j hj hl⟩
theorem step_ (g : Good P) (hs : Sound P rec) (hh : HookOk P hk) (R : Rg hk P rec ops bef base t h0 es t' h' p' st) (hbase : h.next = base) (hw0 : WRel m0 h W0) (hlim : base + ops.size ≤ h.lim)
  (I : Inv ops.size bef base t es ops (st c).2.1 m0 h W0 ro listed c m a W) {i : Nat} {o : Oper} (ho : ops[i]? = some o) (hun : listed.getD i false = false) (hr : ∀ e ∈ o.after, Region.binds .any e = true → listed.getD e.on false = true)
  {K : Act → World → Prop} {Q : Exit → Act → World → Prop} (hK : ∀ c' m' a' W', Inv ops.size bef base t es ops (st c').2.1 m0 h W0 ro (listed.setIfInBounds i true) c' m' a' W' → K a' W') : wpOpIn (Fr ro) 0 P ops Q i K a W := by
 have hi := (Array.getElem?_eq_some_iff.1 ho).1
 obtain ⟨e, he, hok, hm, htt, hhh⟩ := R.make ho
 have hρ := I.operands R ho hr hok
 have hwant := I.wanted R ho hr
 have hwr := I.snd.rel
 unfold wpOpIn
 simp only [ho, hwant]
 -- an operation that changes nothing of the heap of names
 have still : ∀ (m' : Bij) (v' : Value) (W' : World), m ≤ m' → VRel m' e.v v' → e.ch = false → Snd m0 h W0 m' (st c).2.1 W' → (∀ j, j < ops.size → i ≠ j → listed.getD j false = false → ∀ b, ¬ m'.r (base + j) b) →
   (∀ ob, e.ob = some ob → (∀ k, Chain es k → k < c → (bef.getD k 0).testBit i = false) → Pd ops.size base m' (st c).2.1 W' i ob) →
   (∀ j f ob, i ≠ j → Pd ops.size base m (st c).2.1 W j ob → es[j]? = some f → f.ob = some ob → Pd ops.size base m' (st c).2.1 W' j ob) → K (a.put o.dst v') W' := by
  intro m' v' W' k1 k2 k3 k4 k5 k6 k7
  refine hK c m' _ W' (I.next_ R ho he hun hr k1 k2 I.cle (cut_same I he k3) k4 I.next I.dead ?_ ?_)
  ·intro j hj hl
   obtain ⟨q1, q2⟩ := new_same I hi j hj hl
   rw [getD_other _ _ _ q1] at hl
   exact k5 j hj q1 hl
  ·intro j f ob hl hf hob hno
   by_cases hij : i = j
   ·subst hij
    rw [he] at hf; cases hf
    exact k6 ob hob hno
   ·rw [getD_other _ _ _ hij] at hl
    exact k7 j f ob hij (I.pend j f ob hl hf hob hno) hf hob
 generalize hpd' : (st (i + 1)).2.2 = pd' at hm
 cases hm with
 | no hw =>
   rw [hw]
   simp only [Bool.false_eq_true, if_false]
   exact ⟨fun _ _ => trivial, still m undef W (Bij.le_refl m) rel_undef rfl I.snd (fun j hj _ hl => I.new j hj hl) (fun ob h => by simp at h) (fun j f ob _ h _ _ => h)⟩
 | ld v ty x hw hop hl =>
   rw [hw]
   simp only [if_true]
   have hnow := load_now R I ho he hun hr rfl rfl hl
   obtain ⟨v', r1, r2⟩ := loadAt_true hop hnow (hρ x (by rw [hop]; simp [Op.operands])) hwr
   refine ⟨fun _ _ => trivial, ?_⟩
   rw [Oper.semAt_eq _ _ _ (fun c hc => by rw [hop] at hc; cases hc), r1]
   exact still m v' W (Bij.le_refl m) r2 rfl I.snd (fun j hj _ hl => I.new j hj hl) (fun ob h => by simp at h) (fun j f ob _ h _ _ => h)
 | flt v h2 hw hop =>
   rw [hw]
   simp only [if_true]
   have hnew := I.new i hi hun
   have htiny : WRel m ⟨.leaf, base + i, base + i + 1⟩ W := by
    have hg : ∀ n, (⟨.leaf, base + i, base + i + 1⟩ : H).get n = none := fun n => by unfold H.get; simp [Tr.get_leaf]
    refine ⟨fun n o ho => (by rw [hg] at ho; simp at ho), fun n h1 h2 => ?_, hwr.ran, fun n k b _ _ g1 _ => absurd (hg n) g1, ?_, by simp⟩
    ·have : n = base + i := by simp only at h1 h2; omega
     subst this; exact hnew
    ·have := hw0.room
     simp only; omega
   have hge : ∀ n, (⟨.leaf, base + i, base + i + 1⟩ : H).get n = none := fun n => by unfold H.get; simp [Tr.get_leaf]
   obtain ⟨m1, nx', W1, r1, r2, r3⟩ := aop_sound g hρ htiny hop
   refine ⟨fun _ _ => trivial, ?_⟩
   rw [Oper.semAt_eq _ _ _ (no_defer hop), r1]
   cases r2 with
   | @value _ v' hv =>
   have hnewp : ∀ n b, m1.r n b → m.r n b ∨ (n = base + i ∧ W.heap.size ≤ b) := fun n b hn => by
    rcases r3.new n b hn with q | ⟨q1, q2, q3⟩
    ·exact .inl q
    ·have hl := r3.rel.le
     rw [r3.lim] at hl
     simp only at q1 hl
     refine .inr ⟨by omega, ?_⟩
     rcases q3 with q3 | ⟨k, _, q4⟩
     ·exact q3
     ·exact absurd (hge k) q4
   have hblk : ∀ b, b < W.heap.size → W1.heap[b]? = W.heap[b]? := fun b hb => r3.block b hb fun n _ => hge n
   have hnx := I.next
   have hsnd : Snd m0 h W0 m1 (st c).2.1 W1 := by
    refine ⟨Bij.le_trans I.snd.le r3.le, ⟨fun n x hx => ?_, fun n h1 h2 b hb => ?_, r3.rel.ran, fun n k b h1 h2 g1 g2 => ?_, hwr.room, hwr.le⟩, Nat.le_trans I.snd.size r3.size, fun b hb hn => ?_, I.snd.next, I.snd.lim, I.snd.dead, fun n b hn => ?_, r3.rest.1.trans I.snd.rest.1, r3.rest.2.1.trans I.snd.rest.2.1, r3.rest.2.2.trans I.snd.rest.2.2⟩
    ·obtain ⟨b, o', q1, q2, q3⟩ := hwr.obj n x hx
     exact ⟨b, o', (r3.le _ _ q1).1, by rw [hblk b (hwr.ran _ _ q1)]; exact q2, q3.mono r3.le q1⟩
    ·rcases hnewp n b hb with q | ⟨q1, _⟩
     ·exact hwr.fresh n h1 h2 b q
     ·omega
    ·have dead : (∃ k, Chain es k ∧ k < c ∧ (bef.getD k 0).testBit i = true) ∨ (st c).2.1.get (base + i) = none := by
      by_cases hq : ∃ k, Chain es k ∧ k < c ∧ (bef.getD k 0).testBit i = true
      ·exact .inl hq
      ·right
       refine I.dead i hi fun k hk1 hk2 => ?_
       cases hb : (bef.getD k 0).testBit i with
       | false => rfl
       | true => exact absurd ⟨k, hk1, hk2, hb⟩ hq
     have hdead : (st c).2.1.get (base + i) = none := by
      rcases dead with ⟨k, k1, k2, k3⟩ | q
      ·have := I.down k (by have := R.lt k1.choose_spec.1; exact this) ((I.cut k k1).2 k2) i k3
       rw [hun] at this; simp at this
      ·exact q
     rcases hnewp n b h1 with q | ⟨rfl, _⟩
     ·rcases hnewp k b h2 with q2 | ⟨rfl, _⟩
      ·exact hwr.inj n k b q q2 g1 g2
      ·exact absurd hdead g2
     ·exact absurd hdead g1
    ·rw [hblk b (Nat.lt_of_lt_of_le hb I.snd.size)]; exact I.snd.block b hb hn
    ·rcases hnewp n b hn with q | ⟨rfl, q⟩
     ·exact I.snd.new n b q
     ·exact .inr ⟨by rw [hbase]; omega, by omega, .inl (Nat.le_trans I.snd.size q)⟩
   refine still m1 v' W1 r3.le hv rfl hsnd (fun j hj hij hl b hb => ?_) (fun ob hob hno => ?_) (fun j f ob hij hp _ _ => ?_)
   ·rcases hnewp _ b hb with q | ⟨q, _⟩
    ·exact I.new j hj hl b q
    ·omega
   ·simp only at hob
    obtain ⟨b, o', q1, q2, q3⟩ := r3.rel.obj _ _ hob
    have hbw : W.heap.size ≤ b := by
     rcases hnewp _ b q1 with q | ⟨_, q⟩
     ·exact absurd q (hnew b)
     ·exact q
    refine ⟨by omega, hi, b, o', q1, q2, q3, fun n hn => ?_⟩
    rcases hnewp n b hn with q | ⟨q, _⟩
    ·have := hwr.ran _ _ q; omega
    ·exact .inl q
   ·obtain ⟨k1, k2, b, o', q1, q2, q3, q4⟩ := hp
    have hbw := hwr.ran _ _ q1
    refine ⟨k1, k2, b, o', (r3.le _ _ q1).1, by rw [hblk b hbw]; exact q2, q3.mono r3.le q1, fun n hn => ?_⟩
    rcases hnewp n b hn with q | ⟨_, q⟩
    ·exact q4 n q
    ·omega
 | ch nx h2 v h3 hw hop hn =>
   rw [hw]
   simp only [if_true]
   -- of the acting operations, just those ahead of it are listed
   have hchain : Chain es i := ⟨_, he, rfl⟩
   have hcut : ∀ k, Chain es k → (k < c ↔ k < i) := fun k hk => by
    obtain ⟨f, f1, f2⟩ := id hk
    constructor
    ·intro hkc
     have hl := (I.cut k hk).2 hkc
     rcases Nat.lt_trichotomy k i with q | q | q
     ·exact q
     ·subst q; rw [hun] at hl; simp at hl
     ·have hb := (chk_pair R f1 he rfl).1 q f2
      have := I.down k (R.lt f1) hl i hb
      rw [hun] at this; simp at this
    ·intro hki
     exact (I.cut k hk).1 (I.bits R ho hr ((chk_pair R he f1 f2).1 hki rfl))
   have hHi : (st c).2.1 = (st i).2.1 := by
    rcases Nat.lt_or_ge i c with q | q
    ·exact (R.const c i (by omega) I.cle fun k z1 z2 z3 => by
      have := (hcut k z3).1 z2
      omega).symm
    ·exact R.const i c q (by omega) fun k z1 z2 z3 => by
      have := (hcut k z3).2 z2
      omega
   have hpdf : ∀ j ob, (j, ob) ∈ (st i).2.2 → (bef.getD i 0).testBit j = true → Pd ops.size base m (st i).2.1 W j ob := fun j ob hmem hb => by
    obtain ⟨z1, ⟨f, f1, f2⟩, z3⟩ := R.pd i (by omega) j ob hmem
    have hl := I.bits R ho hr hb
    rw [← hHi]
    exact I.pend j f ob hl f1 f2 fun k hk hkc => z3 k ((hcut k hk).1 hkc) hk
   have hwi : WRel m (st i).2.1 W := by rw [← hHi]; exact hwr
   obtain ⟨a1, a2, a3, a4, a5⟩ := adopt_spec (N := ops.size) (base := base) (bj := bef.getD i 0) (st i).2.2 (st i).2.1 hwi hpdf (R.nodup i (by omega))
   have hnx : base + ops.size ≤ (st i).2.1.next := by rw [← hHi]; exact I.next
   obtain ⟨m1, nx', W1, r1, r2, r3⟩ := aop_sound g hρ a1 hop
   refine ⟨fun _ _ => trivial, ?_⟩
   rw [Oper.semAt_eq _ _ _ (no_defer hop), r1]
   refine next_sound hs hh r2 hn r3.rel fun m2 v' W2 hv q => ?_
   have hall := r3.trans a1 q
   have hbefore : Snd m0 h W0 m (adopt base (bef.getD i 0) (st i).2.2 (st i).2.1) W := by
    have hI := I.snd
    rw [hHi] at hI
    refine ⟨hI.le, a1, hI.size, hI.block, by rw [a2]; exact hI.next, by rw [a3]; exact hI.lim, fun n hn1 hn2 => a4 n (hI.dead n hn1 hn2) fun j hj _ => by omega, fun n b hn1 => by rw [a2]; exact hI.new n b hn1, hI.rest⟩
   have hfull := hbefore.trans hw0 hall
   have hst : (st (i + 1)).2.1 = h3 := hhh
   rw [← hst] at hfull hall
   have hnext2 : base + ops.size ≤ (st (i + 1)).2.1.next := by
    have := hall.next
    rw [a2] at this; omega
   refine hK (i + 1) m2 _ W2 (I.next_ R ho he hun hr hall.le hv (by omega) ?_ hfull hnext2 ?_ ?_ ?_)
   ·intro k hk
    by_cases hik : i = k
    ·subst hik
     rw [getD_self _ _ (by rw [I.size]; exact hi)]; simp
    ·rw [getD_other _ _ _ hik, I.cut k hk, hcut k hk]; omega
   ·intro j hj hno
    refine hall.dead (base + j) (by rw [a2]; omega) (a4 _ ?_ fun j2 hj2 hb2 he2 => ?_)
    ·rw [← hHi]
     exact I.dead j hj fun k hk hkc => hno k hk (by have := (hcut k hk).1 hkc; omega)
    ·have : j2 = j := by omega
     subst this
     rw [hno i hchain (by omega)] at hb2; simp at hb2
   ·intro j hj hl b hb
    obtain ⟨q1, q2⟩ := new_same I hi j hj hl
    rcases hall.new _ b hb with z | ⟨z1, _, _⟩
    ·exact q2 b z
    ·rw [a2] at z1; omega
   ·intro j f ob hl hf hob hno
    have hij : i ≠ j := by
     rintro rfl
     rw [he] at hf; cases hf
     simp at hob
    rw [getD_other _ _ _ hij] at hl
    have hpj := I.pend j f ob hl hf hob fun k hk hkc => hno k hk (by have := (hcut k hk).1 hkc; omega)
    rw [hHi] at hpj
    obtain ⟨k1, k2, b, o', q1, q2, q3, q4⟩ := a5 j ob hpj fun ob2 _ => hno i hchain (by omega)
    have hbw := a1.ran _ _ q1
    have hdj : (adopt base (bef.getD i 0) (st i).2.2 (st i).2.1).get (base + j) = none := by
     refine a4 _ ?_ fun j2 hj2 hb2 he2 => ?_
     ·rw [← hHi]
      exact I.dead j k2 fun k hk hkc => hno k hk (by have := (hcut k hk).1 hkc; omega)
     ·have : j2 = j := by omega
      subst this
      rw [hno i hchain (by omega)] at hb2; simp at hb2
    have hdeadb : ∀ n, m.r n b → (adopt base (bef.getD i 0) (st i).2.2 (st i).2.1).get n = none := fun n hnb => by
     rcases q4 n hnb with z | ⟨z, _⟩
     ·rw [z]; exact hdj
     ·exact z
    refine ⟨by omega, k2, b, o', (hall.le _ _ q1).1, by rw [hall.block b hbw hdeadb]; exact q2, q3.mono hall.le q1, fun n hnb => ?_⟩
    rcases hall.new n b hnb with z | ⟨z1, z2, z3⟩
    ·rcases q4 n z with z4 | ⟨z4, z5⟩
     ·exact .inl z4
     ·refine .inr ⟨?_, z5⟩
      rcases Nat.lt_or_ge n (adopt base (bef.getD i 0) (st i).2.2 (st i).2.1).next with y | y
      ·exact hall.dead n y z4
      ·rcases Nat.lt_or_ge n (adopt base (bef.getD i 0) (st i).2.2 (st i).2.1).lim with y2 | y2
       ·exact absurd z (a1.fresh n y y2 b)
       ·have hl1 := hall.rel.le
        have hl2 := hall.lim
        exact H.get_ge (by omega)
    ·rcases z3 with z3 | ⟨k, z3, z4⟩
     ·omega
     ·exact absurd (hdeadb k z3) z4
end
end Go.Proofs.YtlbipokkdiiaiaaGreatDoor.Exec
