/- Lemmas for TopTwice: ExecReg7. -/
import Derived.Test.YtlbipokkdiiaiaaGreatDoorU08
namespace Go.Proofs.YtlbipokkdiiaiaaGreatDoor.Exec
variable {P : Program} {m : Bij} {W : World}
def cntF : Nat → Array Bool → Nat
 | 0, _ => 0
 | n + 1, l => cntF n l + (if l.getD n false then 0 else 1)
theorem cnt_zero : ∀ (n : Nat) (l : Array Bool), cntF n l = 0 → ∀ i, i < n → l.getD i false = true
 | 0, _, _, i, hi => by omega
 | n + 1, l, h, i, hi => by
   simp only [cntF] at h
   by_cases hin : i = n
   ·subst hin
    cases hl : l.getD i false with
    | true => rfl
    | false => rw [hl] at h; simp at h
   ·exact cnt_zero n l (by omega) i (by omega)
theorem cnt_above (n : Nat) (l : Array Bool) (i : Nat) (hi : n ≤ i) : cntF n (l.setIfInBounds i true) = cntF n l := by
 induction n with
 | zero => rfl
 | succ n ih => simp only [cntF]; rw [ih (by omega), getD_other _ _ _ (by omega)]
theorem cnt_set : ∀ (n : Nat) (l : Array Bool) (i : Nat), i < n → i < l.size → l.getD i false = false → cntF n (l.setIfInBounds i true) + 1 = cntF n l
 | 0, _, i, h, _, _ => by omega
 | n + 1, l, i, h, h2, h3 => by
   simp only [cntF]
   by_cases hin : i = n
   ·subst hin
    rw [cnt_above i l i (Nat.le_refl _), getD_self _ _ h2, h3]; simp
   ·have := cnt_set n l i (by omega) h2 h3
    rw [getD_other _ _ _ hin]; omega
theorem cnt_le (n : Nat) (l : Array Bool) : cntF n l ≤ n := by
 induction n with
 | zero => exact Nat.le_refl _
 | succ n ih => simp only [cntF]; split <;> omega
theorem region_ok {hk : Hook} (g : Good P) (hh : HookOk P hk) (hmix : P.follows .mixedOrders = true) : RegionOk P (aregion hk P) := by
 intro rec hs ops t h t' h' he id m W a ro ht hw
 unfold aregion at he
 dsimp only at he
 split at he
 ·rename_i hc0
  simp only [Bool.and_eq_true, decide_eq_true_eq] at hc0
  obtain ⟨hok, hlim⟩ := hc0
  split at he
  ·rename_i es t2 h2 p2 hat
   split at he
   ·rename_i hchk
    simp only [Option.some.injEq, Prod.mk.injEq] at he
    obtain ⟨rfl, rfl⟩ := he
    obtain ⟨st, htr⟩ := atr_trace _ _ _ _ _ hat
    obtain ⟨bef, hbef⟩ : ∃ bef, bef = Region.before ops := ⟨_, rfl⟩
    rw [← hbef] at hok hchk htr
    have R : Rg hk P rec ops bef h.next t (bump ops.size h) es t2 h2 p2 st := ⟨htr, okR_spec hok, hchk, ht.room⟩
    obtain ⟨b1, b2, b3⟩ := bump_spec ops.size h hw.room hlim
    refine wpIn_region_any hmix ?_
    obtain ⟨W0, hW0⟩ : ∃ W0 : World, W0 = { W with drawn := W.drawn + 1 } := ⟨_, rfl⟩
    rw [← hW0]
    have hheap : W0.heap = W.heap := by rw [hW0]
    have hw0 : WRel m h W0 := hw.of_heap hheap
    have hfalse : ∀ i, (Array.replicate ops.size false).getD i false = false := fun i => by
     rw [Array.getD_eq_getD_getElem?, Array.getElem?_replicate]; split <;> rfl
    have h0st : (st 0).2.1 = bump ops.size h := by rw [htr.first]
    have I0 : Inv ops.size bef h.next t es ops (st 0).2.1 m h W0 ro (Array.replicate ops.size false) 0 m a W0 := by
     rw [h0st]
     refine ⟨by simp, by omega, fun k _ => by rw [hfalse]; simp, fun j _ hl => by rw [hfalse] at hl; simp at hl, ?_, fun i o e d _ _ _ hl => by rw [hfalse] at hl; simp at hl, fun x _ => ht.get x, ht.size, ht.marks, ht.round, by rw [b1]; exact Nat.le_refl _,
      fun i hi _ => by rw [b3]; exact H.get_ge (by omega), fun i hi _ => hw.fresh _ (by omega) (by omega), fun i e ob hl => by rw [hfalse] at hl; simp at hl⟩
     refine ⟨Bij.le_refl m, ⟨fun n o hn => hw0.obj n o (by rw [← b3]; exact hn), fun n h1 h2 => hw0.fresh n (by omega) (by rw [← b2]; exact h2), hw0.ran, fun n k b h1 h2 g1 g2 => hw0.inj n k b h1 h2 (by rw [← b3]; exact g1) (by rw [← b3]; exact g2), by rw [b2]; exact hw.room, by rw [b1, b2]; exact hlim⟩,
      Nat.le_refl _, fun _ _ _ => rfl, by rw [b1]; omega, b2, fun n _ hn => by rw [b3]; exact hn, fun _ _ k => .inl k, rfl, rfl, rfl⟩
    have fin : ∀ (listed : Array Bool) (c : Nat) (m1 : Bij) (a1 : Act) (W1 : World), Inv ops.size bef h.next t es ops (st c).2.1 m h W0 ro listed c m1 a1 W1 → (∀ i, i < ops.size → listed.getD i false = true) →
      CPost m h W ro .normal t2 (adopt h.next (2 ^ ops.size - 1) p2 h2) .normal a1 W1 := by
     intro listed c m1 a1 W1 I hall
     have hsize : ops.toList.length = ops.size := by simp
     have hlast := htr.last
     rw [hsize] at hlast
     have hcN : ∀ k, Chain es k → k < c := fun k hk => (I.cut k hk).1 (hall k (R.lt hk.choose_spec.1))
     have heq : (st c).2.1 = h2 := by
      rw [R.const ops.size c I.cle (Nat.le_refl _) fun k z1 _ z3 => by have := hcN k z3; omega, hlast]
     have hI := I.snd
     rw [heq] at hI
     have hp2 : p2 = (st ops.size).2.2 := by rw [hlast]
     have hpd : ∀ j ob, (j, ob) ∈ p2 → (2 ^ ops.size - 1).testBit j = true → Pd ops.size h.next m1 h2 W1 j ob := fun j ob hm _ => by
      rw [hp2] at hm
      obtain ⟨z1, ⟨f, f1, f2⟩, z3⟩ := R.pd ops.size (Nat.le_refl _) j ob hm
      rw [← heq]
      exact I.pend j f ob (hall j z1) f1 f2 fun k hk _ => z3 k (R.lt hk.choose_spec.1) hk
     have hnd := R.nodup ops.size (Nat.le_refl _)
     rw [← hp2] at hnd
     obtain ⟨a1', a2, a3, a4, _⟩ := adopt_spec (N := ops.size) (base := h.next) (bj := 2 ^ ops.size - 1) p2 h2 hI.rel hpd hnd
     have hfin : Snd m h W0 m1 (adopt h.next (2 ^ ops.size - 1) p2 h2) W1 :=
      ⟨hI.le, a1', hI.size, hI.block, by rw [a2]; exact hI.next, by rw [a3]; exact hI.lim, fun n hn1 hn2 => a4 n (hI.dead n hn1 hn2) fun j _ _ => by omega, fun n b hn1 => by rw [a2]; exact hI.new n b hn1, hI.rest⟩
     have ht2 : t2 = (st ops.size).1 := by rw [hlast]
     obtain ⟨n1, n2, n3⟩ := R.tn ops.size (Nat.le_refl _)
     refine ⟨.normal, m1, hfin.of_heap rfl hheap.symm (by have := hfin.rest; rw [hW0] at this; exact this), ?_⟩
     rw [ht2]
     refine ⟨fun x => ?_, by rw [n1]; exact I.asz, by rw [n2]; exact I.round, by rw [n3]; exact I.marks, by rw [n1]; exact ht.room⟩
     by_cases hex : ∃ (j : Nat) (p : Oper), ops[j]? = some p ∧ p.dst = some x
     ·obtain ⟨j, p, hp, hd⟩ := hex
      have hj := (Array.getElem?_eq_some_iff.1 hp).1
      obtain ⟨e, q1, _⟩ := R.make hp
      rw [R.tin hp q1 hd ops.size hj (Nat.le_refl _)]
      exact I.tin j p e x hp q1 hd (hall j hj)
     ·rw [R.tout ops.size (Nat.le_refl _) fun j p _ hp hd => hex ⟨j, p, hp, hd⟩]
      exact I.tout x fun j p hp hd => absurd ⟨j, p, hp, hd⟩ hex
    have noneLeft : ∀ (listed : Array Bool), listed.size = ops.size → Region.ready .any ops listed = [] → ∀ i, i < ops.size → listed.getD i false = true := by
     intro listed hsz hnil i
     induction i using Nat.strongRecOn with
     | _ i ih =>
       intro hi
       cases hl : listed.getD i false with
       | true => rfl
       | false =>
         have : i ∈ Region.ready .any ops listed := by
          refine mem_ready.2 ⟨by rw [getD_ft _ _ (by omega)]; exact hl, ops[i], Array.getElem?_eq_getElem hi, fun e hea hb => ?_⟩
          have := R.ok.low i ops[i] (Array.getElem?_eq_getElem hi) e hea hb
          exact ih e.on this (by omega)
         rw [hnil] at this; cases this
    have main : ∀ (fuel : Nat) (listed : Array Bool) (c : Nat) (m1 : Bij) (a1 : Act) (W1 : World), Inv ops.size bef h.next t es ops (st c).2.1 m h W0 ro listed c m1 a1 W1 → cntF ops.size listed ≤ fuel →
      wpAnyIn (Fr ro) 0 P .any ops (CPost m h W ro .normal t2 (adopt h.next (2 ^ ops.size - 1) p2 h2)) fuel listed a1 W1 := by
     intro fuel
     induction fuel with
     | zero =>
       intro listed c m1 a1 W1 I hc
       have hall := cnt_zero ops.size listed (by omega)
       refine ⟨?_, fin listed c m1 a1 W1 I hall⟩
       cases hrd : Region.ready .any ops listed with
       | nil => rfl
       | cons i r =>
         have hm : i ∈ Region.ready .any ops listed := by rw [hrd]; simp
         obtain ⟨h1, o, h3, _⟩ := mem_ready.1 hm
         have hi := (Array.getElem?_eq_some_iff.1 h3).1
         rw [getD_ft _ _ (by rw [I.size]; exact hi), hall i hi] at h1; simp at h1
     | succ fuel ih =>
       intro listed c m1 a1 W1 I hc
       refine ⟨fun hnil => fin listed c m1 a1 W1 I (noneLeft listed I.size hnil), fun i hi => ?_⟩
       obtain ⟨h1, o, h3, h4⟩ := mem_ready.1 hi
       have hil := (Array.getElem?_eq_some_iff.1 h3).1
       rw [getD_ft _ _ (by rw [I.size]; exact hil)] at h1
       refine step_ g hs hh R rfl hw0 hlim I h3 h1 (fun e hea hb => h4 e hea hb) fun c' m' a' W' I' => ih _ c' m' a' W' I' ?_
       have := cnt_set ops.size listed i hil (by rw [I.size]; exact hil) h1
       omega
    exact main ops.size _ 0 m a W0 I0 (cnt_le _ _)
   ·simp at he
  ·simp at he
 ·simp at he
theorem exec_sound {hk : Hook} (g : Good P) (hh : HookOk P hk) (hmix : P.follows .mixedOrders = true) (n : Nat) {f : FuncId} {args : Array Value} {h h' : H} {v : Value} (he : go hk P (aregion hk P) n (.call f args) h = some (.val v, h'))
  {m : Bij} {W : World} {args' : Array Value} (ha : RowRel m args args') (hw : WRel m h W) : CallsIn Fence.wide 0 P f args' W (Done m h W v h') :=
 (go_sound g hh (region_ok g hh hmix) n).call f args h v h' he m W args' ha hw
end Go.Proofs.YtlbipokkdiiaiaaGreatDoor.Exec
