/- Lemmas for TopTwice: ExecOpsD, ExecOpsE, ExecOpsF, ExecOpsG, ExecOpsH. -/
import Derived.Test.YtlbipokkdiiaiaaGreatDoorU04
import Derived.Deep.AppendSrc
namespace Go.Proofs.YtlbipokkdiiaiaaGreatDoor.Exec
variable {P : Program} {m : Bij} {h : H} {W : World}
theorem all_zip {f : Value → Value → Bool} {l l' k k' : List Value} (hl : LRel m l l') (hk : LRel m k k') (hf : ∀ x x' y y', VRel m x x' → VRel m y y' → f x y = true → f x' y' = true) (h : ((l.zip k).all fun (x, y) => f x y) = true) : ((l'.zip k').all fun (x, y) => f x y) = true := by
 induction hl generalizing k k' with
 | nil => simp
 | cons hv _ ih => cases hk with
   | nil => simp
   | cons hu hk =>
     simp only [List.zip_cons_cons, List.all_cons, Bool.and_eq_true] at h ⊢
     exact ⟨hf _ _ _ _ hv hu h.1, ih hk h.2⟩
theorem bits_ptr {a b a' b' : Option Addr} (ha : OptRel (ARel m) a a') (hb : OptRel (ARel m) b b') (h : (a == b) = true) : (a' == b') = true := by
 have e : a = b := by simpa using h
 subst e
 cases ha with
 | none => cases hb; rfl
 | some h1 => cases hb with
   | some h2 => cases h1 with
     | mk h1 => cases h2 with
       | mk h2 => rw [m.fn h1 h2]; simp
theorem bits_true : ∀ (n : Nat) {x x' y y' : Value}, VRel m x x' → VRel m y y' → Instr.sameBits n x y = true → Instr.sameBits n x' y' = true := by
 intro n
 induction n with
 | zero =>
   intro x x' y y' hx hy h
   unfold Instr.sameBits at h
   split at h <;> first | (simp at h; done) | (exfalso; omega) | skip
   ·cases hx; cases hy; exact h
   ·cases hx; cases hy; exact h
   ·cases hx; cases hy; exact h
   ·cases hx; cases hy; exact h
   ·cases hx; cases hy; exact h
   ·cases hx with | pointer h1 => cases hy with | pointer h2 => exact bits_ptr h1 h2 h
   ·cases hx; cases hy; rfl
   ·cases hx; cases hy; rfl
 | succ n ih =>
   intro x x' y y' hx hy h
   unfold Instr.sameBits at h
   split at h <;> first | (simp at h; done) | skip
   ·cases hx; cases hy; exact h
   ·cases hx; cases hy; exact h
   ·cases hx; cases hy; exact h
   ·cases hx; cases hy; exact h
   ·cases hx; cases hy; exact h
   ·cases hx with | pointer h1 => cases hy with | pointer h2 => exact bits_ptr h1 h2 h
   ·cases hx; cases hy; rfl
   ·cases hx; cases hy; rfl
   ·rename_i e
    obtain rfl : n = _ := by simpa using e
    cases hx with | iface t h1 => cases hy with | iface u h2 =>
     simp only [Instr.sameBits, Bool.and_eq_true] at h ⊢
     exact ⟨h.1, ih h1 h2 h.2⟩
   ·rename_i e
    obtain rfl : n = _ := by simpa using e
    cases hx with | agg h1 h2 => cases hy with | agg h3 h4 =>
     simp only [Instr.sameBits, Bool.and_eq_true] at h ⊢
     exact ⟨by rw [← h1, ← h3]; exact h.1, all_zip (RowRel.toList ⟨h1, h2⟩) (RowRel.toList ⟨h3, h4⟩) (fun _ _ _ _ a b c => ih a b c) h.2⟩
noncomputable def entriesOf (x : Value) (h : H) : Option (Array MapEntry) :=
 match x with
 | .map none => some #[]
 | .map (some r) => match h.get r with
   | some ⟨.map es _, _⟩ => some es
   | _ => none
 | _ => none
def entriesJ (x : Value) (K : Array MapEntry → Sem Value) : Sem Value :=
 match x with
 | .map none => do
   let es ← pure #[]
   K es
 | .map (some r) => do
   let .map es _ ← getObj r | (do
    let es ← stuck "Lookup: map expected"
    K es)
   let es ← pure es
   K es
 | _ => do
   let es ← stuck "Lookup: map expected"
   K es
theorem op_lookup (hz : Zeros P) {t : TypeId} {x x' k k' : Value} (hx : VRel m x x') (hk : VRel m k k') (ok : Bool) (hw : WRel m h W) {v : Value} (he : aLookup P t x k ok h = some v) :
  ∃ v', (Instr.lookup t x' k' ok).run P W = .ok v' W ∧ VRel m v v' := by
 unfold aLookup at he
 cases hd : P.underlying t with
 | none => simp [hd] at he
 | some d =>
 rw [hd] at he
 cases d with
 | map key elem =>
   simp only at he
   change (match entriesOf x h with | some es => _ | none => none) = some v at he
   have hes : ∃ es es', entriesOf x h = some es ∧ (∀ K, (entriesJ x' K).run P W = (K es').run P W) ∧ ELRel m es.toList es'.toList := by
    cases hz : entriesOf x h with
    | none => rw [hz] at he; simp at he
    | some es =>
    clear he
    unfold entriesOf at hz
    refine ⟨es, ?_⟩
    cases hx with
    | map hr => cases hr with
      | none => simp only [Option.some.injEq] at hz; subst hz; exact ⟨#[], rfl, fun K => rfl, .nil⟩
      | some hr =>
        simp only at hz
        split at hz
        ·rename_i es2 cl g hg
         simp only [Option.some.injEq] at hz
         subst hz
         obtain ⟨o', q1, q2⟩ := hw.objAt hr hg (by simp)
         cases q2 with
         | @map _ es' _ hs hes =>
           refine ⟨es', rfl, fun K => ?_, .of_get (by simpa using hs) fun i a b => by simpa using hes i (by simpa using a) (by simpa using b)⟩
           simp only [entriesJ]
           rw [run_obj q1 (by simp)]; rfl
        ·simp at hz
    | _ => simp at hz
   obtain ⟨es, es', h1, h2, h3⟩ := hes
   rw [h1] at he
   simp only at he
   split at he
   ·rename_i hkey
    have hkey' := key_true hk hkey
    have hck := run_key (W := W) hkey' es'.isEmpty
    have fin : (Instr.lookup t x' k' ok).run P W = ((Instr.findKey key k' es'.toList).run P W).andThen fun r W => (match r with
      | some (_, v) => pure (if ok then .tuple #[v, .bool true] else v)
      | none => do
        let v ← zeroValue elem
        pure (if ok then .tuple #[v, .bool false] else v) : Sem Value).run P W := by
     have hl : Instr.lookup t x' k' ok = (do
       let .map key elem ← underlying t | stuck "Lookup: map type expected"
       entriesJ x' fun es => do
        Instr.checkKey es.isEmpty 10000 key k'
        let (v, b) ← match ← Instr.findKey key k' es.toList with
         | some (_, v) => pure (v, true)
         | none => pure (← zeroValue elem, false)
        pure (if ok then .tuple #[v, .bool b] else v)) := rfl
     rw [hl]
     simp only [Sem.run_bind, run_underlying hd, Result.andThen_ok, h2, hck]
     congr 1
    split at he
    ·rename_i i w hf
     obtain ⟨r', f1, f2⟩ := find_true hk h3 0 hf
     cases f2 with
     | some f2 =>
       simp only [Option.some.injEq] at he
       subst he
       refine ⟨_, by rw [fin, run_find hkey' f1]; rfl, ?_⟩
       cases ok
       ·exact f2.2
       ·exact rel_tuple2 f2.2 (.bool true)
    ·rename_i hf
     obtain ⟨r', f1, f2⟩ := find_true hk h3 0 hf
     cases f2
     split at he
     ·rename_i z hzz
      simp only [Option.some.injEq] at he
      subst he
      simp only [Option.bind_eq_some_iff] at hzz
      obtain ⟨i, hi, hzz⟩ := hzz
      have hr : (zeroValue elem).run P W = .ok z W := by simp [zeroValue, typeInfo, hi, hzz]
      refine ⟨if ok then .tuple #[z, .bool false] else z, by rw [fin, run_find hkey' f1]; simp only [Result.andThen_ok, Sem.run_bind, hr, Sem.run_pure], ?_⟩
      cases ok
      ·exact hz elem i z hi hzz m
      ·exact rel_tuple2 (hz elem i z hi hzz m) (.bool false)
     ·simp at he
    ·simp at he
   ·simp at he
 | _ => simp at he
end Go.Proofs.YtlbipokkdiiaiaaGreatDoor.Exec
namespace Go.Proofs.YtlbipokkdiiaiaaGreatDoor.Exec
variable {P : Program} {m : Bij} {h : H} {W : World}
theorem op_update {t : TypeId} {x x' k k' y y' : Value} (hx : VRel m x x') (hk : VRel m k k') (hy : VRel m y y') (hw : WRel m h W) {h' : H} (he : aUpdate P t x k y h = some h') :
  ∃ W', (Instr.mapUpdate t x' k' y').run P W = .ok () W' ∧ Snd m h W m h' W' := by
 unfold aUpdate at he
 split at he
 ·rename_i key elem r hd
  cases hx with
  | map hr => cases hr with
    | @some _ r' hr =>
      split at he
      ·rename_i es clock g hg
       obtain ⟨o', q1, q2⟩ := hw.objAt hr hg (by simp)
       cases q2 with
       | @map _ es' _ hs hes =>
         have hel : ELRel m es.toList es'.toList := .of_get (by simpa using hs) fun i a b => by simpa using hes i (by simpa using a) (by simpa using b)
         split at he
         ·rename_i hkey
          have hkey' := key_true hk hkey
          have hck := run_key (W := W) hkey' false
          have hrun : (Instr.mapUpdate t (.map (some r')) k' y').run P W = ((Instr.findKey key k' es'.toList).run P W).andThen fun f W => (match f with
            | some (i, _) => (do
              let k2 ← Instr.keyThatStays (((es'[i]?).map (·.key)).getD k') k'
              setObj r' (.map (es'.modify i fun e => { e with key := k2, val := y' }) clock))
            | none => setObj r' (.map (es'.push { key := k', val := y', born := clock }) (clock + 1)) : Sem Unit).run P W := by
           unfold Instr.mapUpdate
           simp only [Sem.run_bind, run_underlying hd, Result.andThen_ok]
           rw [← Sem.run_bind, run_obj q1 (by simp)]
           simp only [Sem.run_bind, hck, Result.andThen_ok]
           congr 1
          split at he
          ·rename_i i w hf
           obtain ⟨f', f1, f2⟩ := find_true hk hel 0 hf
           cases f2 with
           | @some _ f2v f2 =>
             obtain ⟨i2, w2⟩ := f2v
             obtain ⟨rfl, f2⟩ := f2
             simp only at f1
             split at he
             ·rename_i e hei
              split at he
              ·rename_i hbits
               simp only [Option.some.injEq] at he
               subst he
               have hi : i < es.size := (Array.getElem?_eq_some_iff.1 hei).1
               have hi' : i < es'.size := hs ▸ hi
               have hek := hes i hi hi'
               have hee : es[i] = e := (Array.getElem?_eq_some_iff.1 hei).2
               rw [hee] at hek
               have hb' := bits_true 10000 hek.key hk hbits
               have hp := Snd.put hw hg hr (o := ⟨.map (es.modify i fun e => { e with key := k, val := y }) clock, false⟩) (o' := .map (es'.modify i fun e => { e with key := k', val := y' }) clock) (.obj (.map clock (by simpa using hs) fun j a b => by
                simp only [Array.getElem_modify]
                simp only [Array.size_modify] at a b
                have hj := hes j a b
                split
                ·exact ⟨hk, hy, hj.born⟩
                ·exact hj))
               refine ⟨_, ?_, hp⟩
               rw [hrun, run_find hkey' f1]
               simp only [Result.andThen_ok, Array.getElem?_eq_getElem hi', Option.map_some, Option.getD_some, Instr.keyThatStays, hb', if_true, sem_pure]
               exact run_setObj q1 (by simp)
              ·simp at he
             ·simp at he
          ·rename_i hf
           obtain ⟨f', f1, f2⟩ := find_true hk hel 0 hf
           cases f2
           simp only [Option.some.injEq] at he
           subst he
           have hp := Snd.put hw hg hr (o := ⟨.map (es.push { key := k, val := y, born := clock }) (clock + 1), false⟩) (o' := .map (es'.push { key := k', val := y', born := clock }) (clock + 1)) (.obj (.map _ (by simp [hs]) fun j a b => by
            simp only [Array.size_push] at a b
            by_cases hj : j < es.size
            ·rw [Array.getElem_push_lt hj, Array.getElem_push_lt (hs ▸ hj)]; exact hes j hj _
            ·have e1 : j = es.size := by omega
             subst e1
             rw [Array.getElem_push_eq]
             have : (es'.push ({ key := k', val := y', born := clock } : MapEntry))[es.size]'(by simpa using b) = { key := k', val := y', born := clock } := by simp [hs]
             rw [this]; exact ⟨hk, hy, rfl⟩))
           refine ⟨_, ?_, hp⟩
           rw [hrun, run_find hkey' f1]
           simp only [Result.andThen_ok]
           exact run_setObj q1 (by simp)
          ·simp at he
         ·simp at he
      ·simp at he
 ·simp at he
end Go.Proofs.YtlbipokkdiiaiaaGreatDoor.Exec
namespace Go.Proofs.YtlbipokkdiiaiaaGreatDoor.Exec
variable {P : Program} {m : Bij} {h : H} {W : World}
theorem one_true {v v' : Value} (hv : VRel m v v') (h : oneCell v = true) : v'.oneCell' = true := by
 cases hv <;> first | rfl | (simp [oneCell] at h; done)
theorem add_off (b o j : Nat) : (⟨b, o, none⟩ : Addr).add j = ⟨b, o + j, none⟩ := by
 unfold Addr.add; split
 ·rename_i h; simp [h]
 ·rfl
theorem arun_cells : ∀ (n i : Nat) (a : Addr) (acc : Array Value) {c : Array Value} {h1 : H}, ARun P (loadCellsFrom a i n acc) h = some (c, h1) →
  ∃ l : List Value, l.length = n ∧ c.toList = acc.toList ++ l ∧ ∀ (j : Nat) v, l[j]? = some v → h.cell? (a.add (i + j)) = some v
 | 0, i, a, acc, c, h1, he => by
   simp only [loadCellsFrom] at he
   obtain ⟨rfl, rfl⟩ : acc = c ∧ h = h1 := by simpa [ARun, Pure.pure] using he
   exact ⟨[], rfl, by simp, fun j v hv => by simp at hv⟩
 | n + 1, i, a, acc, c, h1, he => by
   unfold loadCellsFrom at he
   rw [arun_load] at he
   cases hc : h.cell? (a.add i) with
   | none => simp [hc] at he
   | some v =>
     rw [hc] at he
     dsimp only at he
     obtain ⟨l, h2, h3, h4⟩ := arun_cells n (i + 1) a _ he
     refine ⟨v :: l, by simp [h2], by rw [h3]; simp, fun j x hx => ?_⟩
     cases j with
     | zero => simp only [List.getElem?_cons_zero, Option.some.injEq] at hx; subst hx; simpa using hc
     | succ j => have := h4 j x (by simpa using hx); rwa [show i + 1 + j = i + (j + 1) by omega] at this
theorem list_true (hw : WRel m h W) {a a' : Addr} (ha : ARel m a a') : ∀ (l : List Value) (i : Nat), (∀ (j : Nat) v, l[j]? = some v → h.cell? (a.add (i + j)) = some v) →
  ∃ l', LRel m l l' ∧ ∀ (j : Nat) v, l'[j]? = some v → W.cell? (a'.add (i + j)) = some v
 | [], i, _ => ⟨[], .nil, fun j v hv => by simp at hv⟩
 | v :: l, i, hc => by
   obtain ⟨v', h1, h2⟩ := hw.cell (ha.add i) (by simpa using hc 0 v rfl)
   obtain ⟨l', h3, h4⟩ := list_true hw ha l (i + 1) (fun j x hx => by have := hc (j + 1) x (by simpa using hx); rwa [show i + 1 + j = i + (j + 1) by omega])
   refine ⟨v' :: l', .cons h2 h3, fun j x hx => ?_⟩
   cases j with
   | zero => simp only [List.getElem?_cons_zero, Option.some.injEq] at hx; subst hx; simpa using h1
   | succ j => have := h4 j x (by simpa using hx); rwa [show i + 1 + j = i + (j + 1) by omega] at this
theorem cells_list {a : Addr} {n : Nat} {c : Array Value} {h1 : H} (he : ARun P (loadCells a n) h = some (c, h1)) (hw : WRel m h W) {a' : Addr} (ha : ARel m a a') :
  c.toList.length = n ∧ ∃ l', LRel m c.toList l' ∧ ∀ (j : Nat) v, l'[j]? = some v → W.cell? (a'.add j) = some v := by
 obtain ⟨l, h2, h3, h4⟩ := arun_cells n 0 a #[] he
 have h3 : c.toList = l := by simpa using h3
 obtain ⟨l', k1, k2⟩ := list_true hw ha l 0 h4
 rw [h3]
 exact ⟨h2, l', k1, fun j v hv => by simpa using k2 j v hv⟩
theorem LRel.one {l l' : List Value} (h : LRel m l l') (ho : l.all oneCell = true) : ∀ u ∈ l', u.oneCell' = true := by
 induction h with
 | nil => intro u hu; cases hu
 | cons hv _ ih =>
   simp only [List.all_cons, Bool.and_eq_true] at ho
   intro u hu
   rcases List.mem_cons.1 hu with rfl | hu
   ·exact one_true hv ho.1
   ·exact ih ho.2 u hu
theorem src_true {xT : TypeId} {size n : Nat} {x x' : Value} {l : List Value} (hx : VRel m x x') (hw : WRel m h W) (he : aSrc P xT size x h = some (n, l)) : ∃ l', LRel m l l' ∧ Src P size xT x' n l' W := by
 unfold aSrc at he
 split at he
 ·rename_i c e hd
  simp only [Option.some.injEq, Prod.mk.injEq] at he
  obtain ⟨rfl, rfl⟩ := he
  cases hx with
  | slice _ _ _ hp => cases hp; exact ⟨[], .nil, Src.ofNil W hd _⟩
 ·rename_i a k c e hd
  split at he
  ·rename_i cs h1 hr
   split at he
   ·rename_i hone
    simp only [Option.some.injEq, Prod.mk.injEq] at he
    obtain ⟨rfl, rfl⟩ := he
    cases hx with
    | slice _ _ _ hp => cases hp with
      | some ha =>
        obtain ⟨q1, l', q2, q3⟩ := cells_list hr hw ha
        exact ⟨l', q2, Src.ofSlice W hd _ _ _ l' (by rw [← q2.length]; exact q1) q3 (q2.one hone)⟩
    | sliceU _ _ _ hb _ _ _ =>
      obtain ⟨q1, l', q2, q3⟩ := cells_list hr hw (.mk hb)
      exact ⟨l', q2, Src.ofSlice W hd _ _ _ l' (by rw [← q2.length]; exact q1) q3 (q2.one hone)⟩
   ·simp at he
  ·simp at he
 ·rename_i s hd
  split at he
  ·rename_i hs
   have hs : size = 1 := by simpa using hs
   subst hs
   simp only [Option.some.injEq, Prod.mk.injEq] at he
   obtain ⟨rfl, rfl⟩ := he
   cases hx
   refine ⟨byteCells s, ?_, Src.ofString W hd s⟩
   unfold byteCells
   generalize s.data.toList = l
   induction l with
   | nil => exact .nil
   | cons b l ih => exact .cons (.int _ _) ih
  ·simp at he
 ·simp at he
theorem old_true {base base' : Option Addr} (hb : OptRel (ARel m) base base') {sLen size : Nat} (hw : WRel m h W) {l : List Value} (he : aOld P base sLen size h = some l) (c : Nat) :
  ∃ l', LRel m l l' ∧ l.length = sLen * size ∧ (Builtin.firstCells size sLen (.slice base' sLen c)).run P W.drew = .ok l'.toArray W.drew := by
 unfold aOld at he
 cases hb with
 | none =>
   simp only at he
   split at he
   ·rename_i h0; subst h0
    simp only [Option.some.injEq] at he; subst he
    exact ⟨[], .nil, by simp, run_firstCells_none W.drew size 0 0 c⟩
   ·simp at he
 | some ha =>
   simp only at he
   split at he
   ·rename_i cs h1 hr
    simp only [Option.some.injEq] at he; subst he
    obtain ⟨q1, l', q2, q3⟩ := cells_list hr hw ha
    exact ⟨l', q2, q1, run_firstCells_some W.drew size sLen _ sLen c l' (by rw [← q2.length]; exact q1) (fun j v hv => by simpa using q3 j v hv)⟩
   ·simp at he
theorem growBy_le (n : Nat) : ∀ (r c : Nat), Builtin.growBy n r c + 768 ≤ (c + 768) * 2 ^ r
 | 0, c => by simp [Builtin.growBy]
 | r + 1, c => by
   unfold Builtin.growBy
   split
   ·have : 0 < 2 ^ (r + 1) := Nat.two_pow_pos _
    exact Nat.le_mul_of_pos_right _ this
   ·refine Nat.le_trans (growBy_le n r _) ?_
    rw [Nat.pow_succ, Nat.mul_comm (2 ^ r) 2, ← Nat.mul_assoc]
    exact Nat.mul_le_mul_right _ (by omega)
theorem next_le {need old : Nat} (h : old < need) : Builtin.nextslicecap need old ≤ 16 * (need + 768) := by
 unfold Builtin.nextslicecap
 split
 ·omega
 ·split
  ·omega
  ·have := growBy_le need 4 old
   omega
theorem fits_num {a b n : Nat} (h1 : a ≤ 16 * (n + 768)) (h2 : (n + 1200) * b * 8 ≤ 1099511627776) : a * b ≤ 281474976710656 := by
 obtain ⟨y, hy⟩ : ∃ y, y = n + 1200 := ⟨_, rfl⟩
 rw [← hy] at h2
 have h0 : a ≤ 16 * y := by omega
 have h3 := Nat.mul_le_mul_right b h0
 rw [Nat.mul_assoc] at h3
 generalize y * b = z at h2 h3
 omega
theorem fits_spec {ei : TypeInfo} {need : Nat} (h : fits ei need = true) : 1 ≤ ei.size ∧ ei.size ≤ 64 ∧ need < 1099511627776 ∧ ∀ old, old < need → Builtin.nextslicecap need old * ei.bytes ≤ 281474976710656 := by
 simp only [fits, Bool.and_eq_true, decide_eq_true_eq] at h
 obtain ⟨⟨⟨h1, h2⟩, h3⟩, h4⟩ := h
 refine ⟨h1, h2, h4, fun old ho => ?_⟩
 exact fits_num (next_le ho) h3
theorem setCells_eq (b : Nat) (t : TypeId) (fr : Nat × Nat) : ∀ (l : List Value) (o : Nat) (W : World) (c : Array Value), W.heap[b]? = some (.cells c t fr) → W.setCells b o l = { W with heap := W.heap.setIfInBounds b (.cells (putCells c o l) t fr) }
 | [], o, W, c, hb => by
   have hbl : b < W.heap.size := (Array.getElem?_eq_some_iff.1 hb).1
   have : W.heap.setIfInBounds b (.cells c t fr) = W.heap := by
    apply Array.ext_getElem?
    intro j
    by_cases hj : b = j
    ·subst hj; rw [Array.getElem?_setIfInBounds_self_of_lt hbl, hb]
    ·rw [Array.getElem?_setIfInBounds_ne hj]
   simp only [World.setCells, putCells, this]
 | v :: l, o, W, c, hb => by
   have hbl : b < W.heap.size := (Array.getElem?_eq_some_iff.1 hb).1
   rw [World.setCells, setCell_eq hb, setCells_eq b t fr l (o + 1) _ (c.setIfInBounds o v) (by simp [hbl])]
   simp [putCells]
theorem putCells_size : ∀ (l : List Value) (o : Nat) (c : Array Value), (putCells c o l).size = c.size
 | [], _, _ => rfl
 | v :: l, o, c => by rw [putCells, putCells_size l]; simp
theorem HeadRel.puts {l l' : List Value} (hl : LRel m l l') : ∀ (o : Nat) {c c' : Array Value}, HeadRel m c c' → HeadRel m (putCells c o l) (putCells c' o l') := by
 induction hl with
 | nil => intro o c c' h; exact h
 | cons hv _ ih => intro o c c' h; exact ih (o + 1) (h.set hv o)
theorem get_puts : ∀ (l : List Value) (o : Nat) (c : Array Value) (i : Nat), o + l.length ≤ c.size → (putCells c o l)[i]? = if o ≤ i ∧ i < o + l.length then l[i - o]? else c[i]?
 | [], o, c, i, h => by rw [putCells, if_neg (by simp)]
 | v :: l, o, c, i, h => by
   simp only [List.length_cons] at h ⊢
   rw [putCells, get_puts l (o + 1) _ i (by simp; omega)]
   by_cases h1 : i = o
   ·subst h1; rw [if_neg (by omega), if_pos (by omega), Array.getElem?_setIfInBounds_self_of_lt (by omega)]; simp
   ·by_cases h2 : o + 1 ≤ i ∧ i < o + 1 + l.length
    ·rw [if_pos h2, if_pos (by omega)]
     have : i - o = (i - (o + 1)) + 1 := by omega
     rw [this]; simp
    ·rw [if_neg h2, if_neg (by omega), Array.getElem?_setIfInBounds_ne (fun e => h1 e.symm)]
theorem HeadRel.grown {c c' : Array Value} (hc : HeadRel m c c') {l l' : List Value} (hl : LRel m l l') (k : Nat) (hk : k ≤ c.size) (hr : k + l.length ≤ c'.size) : HeadRel m (c.toList.take k ++ l).toArray (putCells c' k l') := by
 have hlen := hl.length
 refine ⟨by rw [putCells_size]; simp; omega, fun i h h' => ?_⟩
 have e1 : (c.toList.take k ++ l).toArray[i]? = some ((c.toList.take k ++ l).toArray[i]) := Array.getElem?_eq_getElem h
 have e2 : (putCells c' k l')[i]? = some ((putCells c' k l')[i]) := Array.getElem?_eq_getElem h'
 have hkl : (c.toList.take k).length = k := by simp; omega
 rw [get_puts l' k c' i (by omega)] at e2
 rw [List.getElem?_toArray, List.getElem?_append, hkl] at e1
 have hi : i < k + l.length := by simpa [hkl] using h
 by_cases h1 : i < k
 ·rw [if_pos h1, List.getElem?_take_of_lt h1, Array.getElem?_toList] at e1
  rw [if_neg (by omega)] at e2
  have hic : i < c.size := by omega
  have hic' : i < c'.size := by omega
  have := hc.at_ i hic hic'
  rw [Array.getElem?_eq_getElem hic, Option.some.injEq] at e1
  rw [Array.getElem?_eq_getElem hic', Option.some.injEq] at e2
  rw [← e1, ← e2]; exact this
 ·rw [if_neg h1] at e1
  rw [if_pos (by omega)] at e2
  have := hl.get (i - k)
  rw [e1, e2] at this
  cases this with | some q => exact q
theorem LRel.head {l l' k k' : List Value} (hl : LRel m l l') (hk : LRel m k k') (r : Array Value) : HeadRel m (l ++ k).toArray ((l' ++ k').toArray ++ r) := by
 have h1 := hl.length
 have h2 := hk.length
 have hr : RowRel m (l ++ k).toArray (l' ++ k').toArray := by
  have : (l ++ k).toArray = l.toArray ++ k.toArray := by simp
  rw [this]
  have : (l' ++ k').toArray = l'.toArray ++ k'.toArray := by simp
  rw [this]
  exact hl.toArray.append hk.toArray
 refine ⟨by simp; omega, fun i a b => ?_⟩
 have hs := hr.size
 have : ((l' ++ k').toArray ++ r)[i] = (l' ++ k').toArray[i]'(by omega) := Array.getElem_append_left _
 rw [this]
 exact hr.at_ i a (by omega)
theorem Snd.kill (hw : WRel m h W) {n : Nat} (hn : n < h.next) : Snd m h W m (h.kill n) W := by
 have hg : ∀ k, (h.kill n).get k = if k = n then none else h.get k := fun k => H.get_kill hw.room hw.le hn k
 refine ⟨Bij.le_refl m, ⟨fun k o hk => ?_, hw.fresh, hw.ran, fun a b c h1 h2 g1 g2 => ?_, hw.room, hw.le⟩, Nat.le_refl _, fun _ _ _ => rfl, Nat.le_refl _, rfl, fun k _ hk => ?_, fun _ _ k => .inl k, rfl, rfl, rfl⟩
 ·rw [hg] at hk; split at hk
  ·simp at hk
  ·exact hw.obj k o hk
 ·rw [hg] at g1 g2
  refine hw.inj a b c h1 h2 ?_ ?_
  ·split at g1
   ·simp at g1
   ·exact g1
  ·split at g2
   ·simp at g2
   ·exact g2
 ·rw [hg]; split
  ·rfl
  ·exact hk
theorem Snd.regrow (hw : WRel m h W) {n b : Nat} {x : AObj} (hg : h.get n = some x) (hb : m.r n b) (hr : h.next < h.lim) (g : Nat) {o : AObj} {o' : Obj} (ho : ∀ m', m ≤ m' → m'.gr h.next = g → NRel m' h.next o o') :
  ∃ m', m'.r h.next b ∧ m'.gr h.next = g ∧ Snd m h W m' ((h.kill n).push o) { W with heap := W.heap.setIfInBounds b o' } := by
 have hn : ∀ x, ¬ m.r h.next x := hw.fresh _ (Nat.le_refl _) hr
 have hlt := H.get_lt hg
 have hbl := hw.ran _ _ hb
 have hm := m.le_add h.next b g hn
 have hgr : (m.add h.next b g hn).gr h.next = g := by simp [Bij.add]
 have hget : ∀ k, ((h.kill n).push o).get k = if k = h.next then some o else if k = n then none else h.get k := fun k => by
  rw [H.get_push (h := h.kill n) hw.room hw.le]
  show (if k = h.next then some o else (h.kill n).get k) = _
  rw [H.get_kill hw.room hw.le hlt]
 refine ⟨m.add h.next b g hn, .inr ⟨rfl, rfl⟩, hgr, hm, ⟨?_, ?_, ?_, ?_, hw.room, ?_⟩, by simp, ?_, by simp [H.push, H.kill], rfl, ?_, ?_, rfl, rfl, rfl⟩
 ·intro k y hy
  rw [hget] at hy
  split at hy
  ·rename_i e; subst e
   simp only [Option.some.injEq] at hy; subst hy
   exact ⟨b, o', .inr ⟨rfl, rfl⟩, by simp [hbl], ho _ hm hgr⟩
  ·split at hy
   ·simp at hy
   ·rename_i e1 e2
    obtain ⟨c, z, h1, h2, h3⟩ := hw.obj k y hy
    have hne : b ≠ c := fun e => e2 (hw.inj k n c h1 (e ▸ hb) (by rw [hy]; simp) (by rw [hg]; simp))
    exact ⟨c, z, .inl h1, by simp [hne, h2], h3.mono hm h1⟩
 ·rintro k hk1 hk2 c (q | ⟨rfl, rfl⟩)
  ·exact hw.fresh k (by simp [H.push, H.kill] at hk1; omega) hk2 c q
  ·simp [H.push, H.kill] at hk1; omega
 ·rintro k c (q | ⟨rfl, rfl⟩)
  ·simpa using hw.ran k c q
  ·simpa using hbl
 ·intro k l c h1 h2 g1 g2
  rw [hget] at g1 g2
  rcases h1 with h1 | ⟨rfl, rfl⟩ <;> rcases h2 with h2 | ⟨rfl, h3⟩
  ·have e1 : k ≠ h.next := by rintro rfl; exact hn _ h1
   have e2 : l ≠ h.next := by rintro rfl; exact hn _ h2
   rw [if_neg e1] at g1; rw [if_neg e2] at g2
   refine hw.inj k l c h1 h2 ?_ ?_
   ·split at g1
    ·simp at g1
    ·exact g1
   ·split at g2
    ·simp at g2
    ·exact g2
  ·subst h3
   have e1 : k ≠ h.next := by rintro rfl; exact hn _ h1
   rw [if_neg e1] at g1
   split at g1
   ·simp at g1
   ·rename_i e; exact absurd (hw.inj k n c h1 hb g1 (by rw [hg]; simp)) e
  ·have e2 : l ≠ h.next := by rintro rfl; exact hn _ h2
   rw [if_neg e2] at g2
   split at g2
   ·simp at g2
   ·rename_i e; exact absurd (hw.inj l n _ h2 hb g2 (by rw [hg]; simp)) e
  ·rfl
 ·simp [H.push, H.kill]; omega
 ·intro c _ hc
  have : b ≠ c := fun e => by have := hc n (e ▸ hb); rw [hg] at this; simp at this
  simp [this]
 ·intro k hk hd
  rw [hget, if_neg (by omega)]; split
  ·rfl
  ·exact hd
 ·rintro k c (q | ⟨rfl, rfl⟩)
  ·exact .inl q
  ·exact .inr ⟨Nat.le_refl _, by simp [H.push, H.kill], .inr ⟨n, hb, by rw [hg]; simp⟩⟩
end Go.Proofs.YtlbipokkdiiaiaaGreatDoor.Exec
namespace Go.Proofs.YtlbipokkdiiaiaaGreatDoor.Exec
variable {P : Program} {m : Bij} {h : H} {W : World}
theorem grown_ge (W : World) {need old : Nat} (e : TypeId) (hn : need < 2 ^ 63) : need ≤ grownCap W need old e ∧ grownCap W need old e < 2 ^ 63 := by
 show need ≤ need + W.tape W.drawn (.appendCap need old e) % (2 ^ 63 - need) ∧ need + W.tape W.drawn (.appendCap need old e) % (2 ^ 63 - need) < 2 ^ 63
 have := Nat.mod_lt (W.tape W.drawn (.appendCap need old e)) (show 0 < 2 ^ 63 - need by omega)
 omega
theorem elem_spec {t e : TypeId} {i : TypeInfo} (h : elemInfo P t = some (e, i)) : P.underlying t = some (.slice e) ∧ P.info? e = some i := by
 unfold elemInfo at h
 split at h
 ·rename_i e2 hd
  cases hi : P.info? e2 with
  | none => rw [hi] at h; simp at h
  | some j => rw [hi] at h; simp only [Option.map_some, Option.some.injEq, Prod.mk.injEq] at h; obtain ⟨rfl, rfl⟩ := h; exact ⟨hd, hi⟩
 ·simp at h
theorem op_grow {m0 : Bij} {h0 : H} (hw0 : WRel m0 h0 W) (hs0 : Snd m0 h0 W m h W) {sT xT e ty : TypeId} {ei : TypeInfo} {z : Value} (hd : P.underlying sT = some (.slice e)) (hi : P.info? e = some ei) (hz : ei.zero = some z) (hzs : z.cells.size = ei.size)
  {sLen n c : Nat} (hf : fits ei (sLen + n) = true) (hc : c < sLen + n) {base' : Option Addr} {x' : Value} {new new' old old' : List Value} (hnew : LRel m new new') (hsrc : Src P ei.size xT x' n new' W)
  (hold : LRel m old old') (hol : old.length = sLen * ei.size) (hor : (Builtin.firstCells ei.size sLen (.slice base' sLen c)).run P W.drew = .ok old'.toArray W.drew) (hr : h.next < h.lim) (fr : Nat × Nat) :
  ∃ m' v' W', (Builtin.append_ #[sT, xT] ty #[.slice base' sLen c, x']).run P W = .ok v' W' ∧ VRel m' (.slice (some ⟨h.next, 0, none⟩) (sLen + n) (BIG + ei.size)) v' ∧ Snd m0 h0 W m' (h.push ⟨.cells (old ++ new).toArray e fr, true⟩) W' := by
 obtain ⟨f1, f2, f3, f4⟩ := fits_spec hf
 have hg := grown_ge W (old := c) e (show sLen + n < 2 ^ 63 by omega)
 have hrun := run_append_grow_src W sT xT ty e ei z hd hi hz base' sLen c old' hor x' n new' hsrc hc (by omega) (f4 c hc)
 have hw : WRel m h W := hs0.rel
 obtain ⟨cap, hcap⟩ : ∃ cap, cap = grownCap W (sLen + n) c e := ⟨_, rfl⟩
 rw [← hcap] at hg hrun
 have hnl := hsrc.newsLen
 have holl := hold.length
 have hzc : (Builtin.zeroCells z.cells (cap - (sLen + n))).size = (cap - (sLen + n)) * ei.size := by simp [Builtin.zeroCells, hzs]
 have hmul : sLen * ei.size + n * ei.size + (cap - (sLen + n)) * ei.size = cap * ei.size := by rw [← Nat.add_mul, ← Nat.add_mul]; congr 1; omega
 have hsize : ((old' ++ new').toArray ++ Builtin.zeroCells z.cells (cap - (sLen + n))).size = cap * ei.size := by
  rw [Array.size_append, hzc]; simp; omega
 have hbig : cap * ei.size < BIG := by
  have : cap * ei.size ≤ cap * 64 := Nat.mul_le_mul_left _ f2
  unfold BIG; omega
 obtain ⟨m', p1, p2, p3⟩ := Snd.push hw hr (cap * ei.size) (o := ⟨.cells (old ++ new).toArray e fr, true⟩) (o' := .cells ((old' ++ new').toArray ++ Builtin.zeroCells z.cells (cap - (sLen + n))) e (0, 0)) (fun m' hm hgr => by
  refine .grow e ⟨fun _ => rfl, fun h => absurd rfl h⟩ ((hold.head hnew _).mono hm) (by rw [hsize, hgr]) (by rw [hsize]; exact hbig))
 have p4 : Snd m0 h0 W m' (h.push ⟨.cells (old ++ new).toArray e fr, true⟩) { W with heap := W.heap.push (.cells ((old' ++ new').toArray ++ Builtin.zeroCells z.cells (cap - (sLen + n))) e (0, 0)) } := hs0.trans hw0 p3
 exact ⟨m', _, _, hrun, .sliceU (sLen + n) cap ei.size p1 hg.1 f1 (by rw [p2]; omega), p4.of_heap rfl rfl ⟨rfl, rfl, rfl⟩⟩
theorem op_append (ts : Array TypeId) (ty : TypeId) {a a' : Array Value} (ha : RowRel m a a') (hw : WRel m h W) {v : Value} {h' : H} (he : aAppend P ts a h = some (v, h')) :
  ∃ m' v' W', (Builtin.append_ ts ty a').run P W = .ok v' W' ∧ VRel m' v v' ∧ Snd m h W m' h' W' := by
 have hshape : ∃ sT xT base sLen sCap x, ts.toList = [sT, xT] ∧ a.toList = [.slice base sLen sCap, x] := by
  unfold aAppend at he
  generalize ts.toList = l1 at he
  generalize a.toList = l2 at he
  match l1, l2, he with
  | [sT, xT], [.slice base sLen sCap, x], _ => exact ⟨sT, xT, base, sLen, sCap, x, rfl, rfl⟩
 obtain ⟨sT, xT, base, sLen, sCap, x, hts, hargs⟩ := hshape
 unfold aAppend at he
 rw [hts, hargs] at he
 dsimp only at he
 ·have hts' : ts = #[sT, xT] := by rw [← Array.toArray_toList (xs := ts), hts]
  subst hts'
  obtain ⟨l', rfl, hl'⟩ := row_of_list ha hargs
  cases hl' with
  | @cons _ s' _ _ hs q2 => cases q2 with
    | @cons _ x' _ _ hx q4 => cases q4 with
      | nil =>
  split at he
  ·rename_i elem ei hel
   obtain ⟨hd, hi⟩ := elem_spec hel
   split at he
   ·rename_i z n new hz hsrc
    obtain ⟨new', hnew, hsrc'⟩ := src_true hx hw hsrc
    have hnl := hsrc'.newsLen
    have hnn := hnew.length
    split at he
    ·simp at he
    ·rename_i hc
     simp only [Bool.or_eq_true, not_or, Bool.not_eq_true', Bool.not_eq_false, beq_iff_eq] at hc
     have hzs : z.cells.size = ei.size := by simpa using hc.1
     have hf : fits ei (sLen + n) = true := by simpa using hc.2
     obtain ⟨f1, f2, f3, f4⟩ := fits_spec hf
     split at he
     ·rename_i hbig
      cases hs with
      | sliceU l c e hb h1 h2 h3 => exact absurd hbig (by omega)
      | slice _ _ _ hbase =>
      split at he
      ·rename_i hroom
       split at he
       ·simp at he
       ·rename_i ad
        cases hbase with
        | @some _ ad' had =>
        split at he
        ·simp at he
        ·rename_i hsp
         have hsp : ad.spot = none := by simpa using hsp
         cases had with
         | @mk b b' o sp hb =>
         simp only at hsp
         subst hsp
         split at he
         ·rename_i hemp
          simp only [Option.some.injEq, Prod.mk.injEq] at he
          obtain ⟨rfl, rfl⟩ := he
          have hne : new = [] := by simpa using hemp
          subst hne
          have hne : new' = [] := by cases hnew; rfl
          subst hne
          have hrun := run_append_room_src W sT xT ty elem ei hd hi b' o sLen sCap x' n [] hsrc' hroom (by simp) (by simp)
          exact ⟨m, _, _, hrun, .slice _ _ hbig (.some (.mk hb)), Snd.refl hw⟩
         ·split at he
          ·rename_i c t fr g hop
           simp only [Option.some.injEq, Prod.mk.injEq] at he
           obtain ⟨rfl, rfl⟩ := he
           rw [add_off] at hop
           obtain ⟨k1, k2, k3, k4⟩ := H.open_spec hop
           simp only at k1 k2 k3 k4
           obtain ⟨o', q1, q2⟩ := hw.at_ hb k1
           obtain ⟨c', fr', rfl, q3, q4, q5, q6⟩ := q2.row
           have hrun := run_append_room_src W sT xT ty elem ei hd hi b' o sLen sCap x' n new' hsrc' hroom
            (fun j hj => by
             have hjl : o + sLen * ei.size + j < c'.size := by have := q3.size; omega
             simp [World.cell?, q1, hjl])
            (fun j hj => by
             have hjl : o + sLen * ei.size + j < c'.size := by have := q3.size; omega
             have := q4.clear hjl (by omega)
             simp only [World.frozen?, q1]; simpa using this)
           rw [setCells_eq b' t fr' new' _ W c' q1] at hrun
           have hp := Snd.put hw k1 hb (NRel.of_row (n := b) (t := t) (fr := fr) (fr' := fr') (g := g) (HeadRel.puts hnew (o + sLen * ei.size) q3) (by rw [putCells_size]; exact q4) (fun e => by rw [putCells_size, putCells_size]; exact q5 e) (fun e => by rw [putCells_size]; exact q6 e))
           exact ⟨m, _, _, hrun, .slice _ _ hbig (.some (.mk hb)), hp⟩
          ·simp at he
      ·rename_i hroom
       split at he
       ·rename_i old hold
        split at he
        ·rename_i hr
         simp only [Option.some.injEq, Prod.mk.injEq] at he
         obtain ⟨rfl, rfl⟩ := he
         obtain ⟨old', o1, o2, o3⟩ := old_true hbase hw hold sCap
         exact op_grow hw (Snd.refl hw) hd hi hz hzs hf (by omega) hnew hsrc' o1 o2 o3 hr (0, 0)
        ·simp at he
       ·simp at he
     ·rename_i hbig
      cases hs with
      | slice _ _ hlt _ => exact absurd hlt hbig
      | @sliceU b b' o _ c e hb h1 h2 h3 =>
      split at he
      ·rename_i b0 heq
       simp only [Option.some.injEq, Addr.mk.injEq] at heq
       obtain ⟨rfl, rfl, _⟩ := heq
       split at he
       ·simp at he
       ·rename_i hce
        have hce : e = ei.size := by
         have : BIG + e = BIG + ei.size := by simpa using hce
         omega
        subst hce
        split at he
        ·rename_i hemp
         split at he
         ·rename_i hn0
          subst hn0
          simp only [Option.some.injEq, Prod.mk.injEq] at he
          obtain ⟨rfl, rfl⟩ := he
          have hne : new = [] := by simpa using hemp
          subst hne
          have hne : new' = [] := by cases hnew; rfl
          subst hne
          have hrun := run_append_room_src W sT xT ty elem ei hd hi b' 0 sLen c x' 0 [] hsrc' (by omega) (by simp) (by simp)
          exact ⟨m, _, _, hrun, .sliceU _ _ _ hb (by omega) h2 h3, Snd.refl hw⟩
         ·simp at he
        ·split at he
         ·rename_i row t fr hg
          split at he
          ·rename_i hcc
           simp only [Bool.and_eq_true, Bool.or_eq_true, decide_eq_true_eq, beq_iff_eq] at hcc
           obtain ⟨⟨⟨g1, rfl⟩, g3⟩, g4⟩ := hcc
           simp only [Option.some.injEq, Prod.mk.injEq] at he
           obtain ⟨rfl, rfl⟩ := he
           obtain ⟨o', q1, q2⟩ := hw.at_ hb hg
           obtain ⟨c', fr', rfl, q3, q4, q5, q6⟩ := q2.row
           obtain ⟨q6, q7⟩ := q6 rfl
           by_cases hroom : sLen + n ≤ c
           ·have hmul : sLen * ei.size + n * ei.size ≤ c * ei.size := by rw [← Nat.add_mul]; exact Nat.mul_le_mul_right _ hroom
            have hrun := run_append_room_src W sT xT ty t ei hd hi b' 0 sLen c x' n new' hsrc' hroom
             (fun j hj => by
              have hjl : 0 + sLen * ei.size + j < c'.size := by omega
              simp [World.cell?, q1]; omega)
             (fun j hj => by
              have hjl : 0 + sLen * ei.size + j < c'.size := by omega
              have hcl : ¬ (fr'.1 ≤ 0 + sLen * ei.size + j ∧ 0 + sLen * ei.size + j < fr'.2) := by
               rintro ⟨z1, z2⟩
               have hne : fr'.1 ≠ fr'.2 := by omega
               obtain ⟨z3, z4⟩ := q4.2 hne
               rcases g3 with (g3 | g3) | g3
               ·exact hne (q4.1 g3)
               ·omega
               ·omega
              simp only [World.frozen?, q1]; simpa using hcl)
            rw [setCells_eq b' t fr' new' _ W c' q1] at hrun
            obtain ⟨m', p1, p2, p3⟩ := Snd.regrow hw hg hb g4 c'.size (o := ⟨.cells (row.toList.take (sLen * ei.size) ++ new).toArray t fr, true⟩) (o' := .cells (putCells c' (0 + sLen * ei.size) new') t fr') (fun m' hm hgr => by
             refine .grow t (by rw [putCells_size]; exact q4) ?_ (by rw [putCells_size, hgr]) (by rw [putCells_size]; exact q7)
             rw [Nat.zero_add]
             exact (q3.grown hnew (sLen * ei.size) g1 (by omega)).mono hm)
            exact ⟨m', _, _, hrun, .sliceU _ _ _ p1 hroom h2 (by rw [p2]; omega), p3⟩
           ·have hlt := H.get_lt hg
            have hk := Snd.kill hw hlt
            have hhead : LRel m (row.toList.take (sLen * ei.size)) (c'.toList.take (sLen * ei.size)) := by
             refine .of_get (by simp; have := q3.size; omega) fun i u u' e1 e2 => ?_
             have hi1 : i < sLen * ei.size := by
              have := (List.getElem?_eq_some_iff.1 e1).1
              simp at this; omega
             rw [List.getElem?_take_of_lt hi1, Array.getElem?_toList] at e1 e2
             have a1 : i < row.size := by omega
             have a2 : i < c'.size := by have := q3.size; omega
             rw [Array.getElem?_eq_getElem a1, Option.some.injEq] at e1
             rw [Array.getElem?_eq_getElem a2, Option.some.injEq] at e2
             rw [← e1, ← e2]; exact q3.at_ i a1 a2
            have hor : (Builtin.firstCells ei.size sLen (.slice (some ⟨b', 0, none⟩) sLen c)).run P W.drew = .ok (c'.toList.take (sLen * ei.size)).toArray W.drew := by
             refine run_firstCells_some W.drew ei.size sLen _ sLen c _ (by simp; have := q3.size; omega) (fun j u hu => ?_)
             have hj1 : j < sLen * ei.size := by
              have := (List.getElem?_eq_some_iff.1 hu).1
              simp at this; omega
             rw [List.getElem?_take_of_lt hj1, Array.getElem?_toList] at hu
             rw [add_off, Nat.zero_add]
             show W.cell? _ = _
             simp only [World.cell?, q1]
             simpa using hu
            exact op_grow hw hk hd hi hz hzs hf (by omega) hnew hsrc' hhead (by simp; omega) hor g4 fr
          ·simp at he
         ·simp at he
      ·simp at he
   ·simp at he
  ·simp at he
end Go.Proofs.YtlbipokkdiiaiaaGreatDoor.Exec
namespace Go.Proofs.YtlbipokkdiiaiaaGreatDoor.Exec
variable {P : Program} {m : Bij} {h : H} {W : World}
structure Good (P : Program) : Prop where
 zeros : Zeros P
 names : ∀ (f : FuncId) (fn : Func), P.funcs[f]? = some fn → (fn.name == "runtime.NumGoroutine") = false
theorem run_enter (g : Good P) {f : FuncId} {fn : Func} (hf : P.funcs[f]? = some fn) {c : Code} (hb : fn.body = some c) (args : Array Value) : (callFunc f args).run P W = .ok (.enter f args) W := by
 have := g.names f fn hf
 have h1 : fn.name ≠ "runtime.NumGoroutine" := by simpa using this
 simp [callFunc, hf, h1, hb]
theorem rel_params {t t' a a' : Array Value} (ht : RowRel m t t') (ha : RowRel m a a') (ps : Array Tmp) :
  RowRel m ((ps.zip a).foldl (fun tmps (t, a) => tmps.setIfInBounds t a) t) ((ps.zip a').foldl (fun tmps (t, a) => tmps.setIfInBounds t a) t') := by
 rw [← Array.foldl_toList, ← Array.foldl_toList, Array.toList_zip, Array.toList_zip]
 have hl := ha.toList
 generalize a.toList = l at hl
 generalize a'.toList = l' at hl
 generalize ps.toList = p
 induction hl generalizing p t t' with
 | nil => simpa using ht
 | cons hv _ ih => cases p with
   | nil => simpa using ht
   | cons q p => simp only [List.zip_cons_cons, List.foldl_cons]; exact ih (ht.set hv q) p
theorem op_call (g : Good P) {gv gv' : Value} (hg : VRel m gv gv') {a a' : Array Value} (ha : RowRel m a a') (hw : WRel m h W) {nx : Next} {h' : H} (he : aCall P gv a h = some (nx, h')) :
  ∃ m' nx' W', (do let d ← Deferred.ofValue gv' a'; invoke d.target d.args : Sem Next).run P W = .ok nx' W' ∧ NxRel m' nx nx' ∧ Snd m h W m' h' W' := by
 unfold aCall at he
 split at he
 ·rename_i f first captured
  cases hg with
  | @func _ f' _ first' _ cap' hf s1 e1 s2 e2 =>
    cases hf
    have hargs : RowRel m ((first ++ a) ++ captured) ((first' ++ a') ++ cap') := ((RowRel.append ⟨s1, e1⟩ ha).append ⟨s2, e2⟩)
    have hrun : (do let d ← Deferred.ofValue (.func (.func f) first' cap') a'; invoke d.target d.args : Sem Next).run P W = (callFunc f ((first' ++ a') ++ cap')).run P W := rfl
    rw [hrun]
    split at he
    ·rename_i fn hfn
     split at he
     ·rename_i c hb
      simp only [Option.some.injEq, Prod.mk.injEq] at he
      obtain ⟨rfl, rfl⟩ := he
      exact ⟨m, _, W, run_enter g hfn hb _, .enter f hargs, Snd.refl hw⟩
     ·rename_i hb
      cases hx : aExtern P fn ((first ++ a) ++ captured) h with
      | none => rw [hx] at he; simp at he
      | some r =>
        obtain ⟨v, h2⟩ := r
        rw [hx] at he
        simp only [Option.map_some, Option.some.injEq, Prod.mk.injEq] at he
        obtain ⟨rfl, rfl⟩ := he
        obtain ⟨m', v', W', r1, r2, r3⟩ := op_extern hfn hb hargs hw hx
        exact ⟨m', _, W', r1, .value r2, r3⟩
    ·simp at he
 ·rename_i l first captured
  cases hg with
  | @func _ f' _ first' _ cap' hf s1 e1 s2 e2 =>
    cases hf with
    | @yield _ l' hl =>
    have hargs : RowRel m (first ++ a) (first' ++ a') := RowRel.append ⟨s1, e1⟩ ha
    have hrun : (do let d ← Deferred.ofValue (.func (.yield l') first' cap') a'; invoke d.target d.args : Sem Next).run P W = (Instr.yield l' (first' ++ a')).run P W := rfl
    rw [hrun]
    split at he
    ·rename_i r gr hgl
     obtain ⟨o', q1, q2⟩ := hw.objAt hl hgl (by simp)
     cases q2 with
     | @loop _ r' p1 p2 p3 p4 p5 p6 p7 =>
     split at he
     ·rename_i hsz
      simp only [Option.some.injEq, Prod.mk.injEq] at he
      obtain ⟨rfl, rfl⟩ := he
      refine ⟨m, .round l' r'.fn ((r'.params.zip (first' ++ a')).foldl (fun tmps (t, a) => tmps.setIfInBounds t a) r'.tmps) r'.assign r'.body, W, ?_, ?_, Snd.refl hw⟩
      ·unfold Instr.yield Instr.getLoop
       rw [sem_assoc, run_obj q1 (by simp)]
       have : (first' ++ a').size = r'.params.size := by rw [← hargs.size, hsz, p4]
       simp only [sem_pure, this, ne_eq, not_true_eq_false, if_false]
       rfl
      ·rw [← p4, ← p5, ← p6]
       exact .round _ _ hl (rel_params p3 hargs _)
     ·simp at he
    ·simp at he
 ·simp at he
theorem op_invoke (g : Good P) {r r' : Value} (hr : VRel m r r') (name : String) {a a' : Array Value} (ha : RowRel m a a') (hw : WRel m h W) {nx : Next} {h' : H} (he : aInvoke P r name a h = some (nx, h')) :
  ∃ m' nx' W', (invoke (.fn (.method name) #[]) (#[r'] ++ a')).run P W = .ok nx' W' ∧ NxRel m' nx nx' ∧ Snd m h W m' h' W' := by
 unfold aInvoke at he
 split at he
 ·rename_i t v
  cases hr with
  | @iface _ _ v' hv =>
  split at he
  ·rename_i i hi
   split at he
   ·rename_i me hme
    split at he
    ·rename_i f e hp hfn hd
     split at he
     ·rename_i fn hf
      split at he
      ·rename_i hb
       simp only [Option.some.injEq, Prod.mk.injEq] at he
       obtain ⟨rfl, rfl⟩ := he
       obtain ⟨c, hb⟩ := Option.isSome_iff_exists.1 hb
       refine ⟨m, .enter f (#[v'] ++ a'), W, ?_, .enter f ((RowRel.one hv).append ha), Snd.refl hw⟩
       have hpath : me.path = #[] := by simpa using hp
       have h0 : ((#[Value.iface t v'] ++ a' : Array Value)[0]? : Option Value) = some (.iface t v') := by rw [Array.getElem?_append_left (by simp)]; rfl
       have hen := run_enter (W := W) g hf hb (#[v'] ++ a')
       have hm : (method (P.types.size + Made.depth) t v' name).run P W = .ok (f, v') W := by
        have : P.types.size + Made.depth = (P.types.size + 99) + 1 := rfl
        rw [this]
        generalize P.types.size + 99 = N
        simp [method, typeInfo, hi, hme, hpath, follow, hfn, receiverAt, run_underlying hd, Place.get]
       simp [invoke, h0, callMethod, hm, hen]
      ·simp at he
     ·simp at he
    ·simp at he
   ·simp at he
  ·simp at he
 ·simp at he
end Go.Proofs.YtlbipokkdiiaiaaGreatDoor.Exec
