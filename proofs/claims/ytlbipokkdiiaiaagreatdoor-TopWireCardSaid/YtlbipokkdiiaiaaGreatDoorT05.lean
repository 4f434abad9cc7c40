/- Lemmas for TopWire: ExecOpsC, ExecOpsD, ExecOpsE, ExecOpsF. -/
import Derived.Test.YtlbipokkdiiaiaaGreatDoorT04
import Derived.Deep.AppendSrc
/- Operations of their own, 7: maps. -/
namespace Go.Proofs.YtlbipokkdiiaiaaGreatDoor.Exec
variable {P : Program} {m : Bij} {h : H} {W : World}
theorem key_true {t : TypeId} {k k' : Value} (hk : VRel m k k') (h : aKey P t k = true) : aKey P t k' = true := by
  unfold aKey at h ⊢
  cases hd : P.underlying t with
  | none => simp [hd] at h
  | some d =>
    rw [hd] at h
    cases d with
    | int j => cases hk <;> first | (simp at h; done) | rfl
    | string => cases hk <;> first | (simp at h; done) | rfl
    | array n e => cases hk with
      | agg hs hc => simp only at h ⊢; rw [← hs]; exact h
      | _ => simp at h
    | _ => simp at h
theorem run_items_key (e : TypeId) {j : IntKind} (hd : P.underlying e = some (.int j)) {i : TypeInfo} (hi : P.info? e = some i) (hs : i.size = 1) (b : Bool) (N : Nat) (cs : Array Value) :
    ∀ (l : List Nat), (∀ x ∈ l, x < cs.size) → (forIn l PUnit.unit fun x _ => (do Instr.checkKey b (N + 1) e (← part e cs (x * (← sizeOf e))); pure (ForInStep.yield PUnit.unit) : Sem (ForInStep PUnit))).run P W = .ok PUnit.unit W
  | [], _ => by simp
  | x :: l, hl => by
    have hx : x < cs.size := hl x (by simp)
    have p1 : aPart P e cs x = some cs[x] := by simp [aPart, hd, hi, hx]
    have hck : ∀ v, (Instr.checkKey b (N + 1) e v).run P W = .ok () W := by
      intro v
      unfold Instr.checkKey
      simp only [Sem.run_bind, run_underlying hd, Result.andThen_ok]
      rfl
    have hsz : (sizeOf e).run P W = .ok 1 W := by simp [sizeOf, typeInfo, hi, hs]
    have ih := run_items_key e hd hi hs b N cs l (fun y hy => hl y (by simp [hy]))
    simp only [List.forIn_cons, Sem.run_bind, hsz, Result.andThen_ok, Nat.mul_one, run_aPart p1, hck, Sem.run_pure]
    exact ih
theorem run_key {t : TypeId} {k : Value} (h : aKey P t k = true) (b : Bool) : (Instr.checkKey b 10000 t k).run P W = .ok () W := by
  rw [show (10000 : Nat) = 9998 + 1 + 1 from rfl]
  generalize 9998 = N
  unfold aKey at h
  cases hd : P.underlying t with
  | none => simp [hd] at h
  | some d =>
    rw [hd] at h
    unfold Instr.checkKey
    simp only [Sem.run_bind, run_underlying hd, Result.andThen_ok]
    cases d with
    | int j => cases k <;> first | (simp at h; done) | rfl
    | string => cases k <;> first | (simp at h; done) | rfl
    | array n e => cases k with
      | agg c =>
        simp only at h
        split at h
        · rename_i j i h1 h2
          simp only [Bool.and_eq_true, beq_iff_eq] at h
          obtain ⟨c1, c2⟩ := h
          have := run_items_key (W := W) e h1 h2 c1 b N c (List.range' 0 n) (by intro x hx; simp at hx; omega)
          simp only [Std.Legacy.Range.forIn_eq_forIn_range', Std.Legacy.Range.size, Nat.sub_zero, Nat.add_one_sub_one, Nat.div_one]
          rw [Sem.run_bind, this]; rfl
        · simp at h
      | _ => simp at h
    | _ => simp at h
theorem run_equal' {t : TypeId} {x y : Value} {r : Bool} (h : aEqual P 4 t x y = some r) : (Op.equal t x y).run P W = .ok r W := run_equal 4 t 10000 (by omega) h
theorem sameNow_true {t : TypeId} {d : TypeDesc} (hd : P.underlying t = some d) {k x : Value} (hk : aKey P t k = true) {r : Bool} (h : aEqual P 4 t k x = some r) : (∀ n e, d ≠ .array n e) → Instr.sameNow d k x = some r := by
  intro hn
  unfold aKey at hk
  rw [hd] at hk
  simp only [aEqual, hd] at h
  cases d with
  | int j =>
    cases k <;> first | (simp at hk; done) | skip
    cases x <;> simp only [reduceCtorEq] at h
    split at h
    · rename_i e; simp only [Instr.sameNow, if_pos e]; exact h
    · simp at h
  | string =>
    cases k <;> first | (simp at hk; done) | skip
    cases x <;> simp only [reduceCtorEq] at h
    exact h
  | array n e => exact absurd rfl (hn n e)
  | _ => simp at hk
theorem run_find {t : TypeId} {k : Value} (hk : aKey P t k = true) {es : List MapEntry} {r : Option (Nat × Value)} (h : aFind P t k es 0 = some r) : (Instr.findKey t k es).run P W = .ok r W := by
  unfold Instr.findKey
  cases hd : P.underlying t with
  | none => simp [aKey, hd] at hk
  | some d =>
    simp only [Sem.run_bind, run_underlying hd, Result.andThen_ok]
    by_cases ha : ∃ n e, d = .array n e
    · obtain ⟨n, e, rfl⟩ := ha
      have go : ∀ (es : List MapEntry) (i : Nat) {r}, aFind P t k es i = some r → (Instr.findAsking t k es i).run P W = .ok r W := by
        intro es
        induction es with
        | nil => intro i r h; simp only [aFind, Option.some.injEq] at h; subst h; rfl
        | cons x es ih =>
          intro i r h
          simp only [aFind] at h
          simp only [Instr.findAsking, Sem.run_bind]
          split at h
          · rename_i e2; rw [run_equal' e2]; simp only [Option.some.injEq] at h; subst h; simp
          · rename_i e2; rw [run_equal' e2]; simpa using ih (i + 1) h
          · simp at h
      cases es with
      | nil => simp only [aFind, Option.some.injEq] at h; subst h; rfl
      | cons x es =>
        have hnow : Instr.findNow (.array n e) k (x :: es) 0 = none := by
          simp only [Instr.findNow]
          cases k <;> cases hx : x.key <;> rfl
        rw [hnow]
        exact go _ 0 h
    · have go : ∀ (es : List MapEntry) (i : Nat) {r}, aFind P t k es i = some r → Instr.findNow d k es i = some r := by
        intro es
        induction es with
        | nil => intro i r h; exact h
        | cons x es ih =>
          intro i r h
          simp only [aFind] at h
          simp only [Instr.findNow]
          split at h
          · rename_i e2; rw [sameNow_true hd hk e2 (fun n e he => ha ⟨n, e, he⟩)]; exact h
          · rename_i e2; rw [sameNow_true hd hk e2 (fun n e he => ha ⟨n, e, he⟩)]; exact ih (i + 1) h
          · simp at h
      rw [go es 0 h]; rfl
/-- Entries, list by list. -/
inductive ELRel (m : Bij) : List MapEntry → List MapEntry → Prop
  | nil : ELRel m [] []
  | cons {e e' : MapEntry} {l l' : List MapEntry} : EntryRel m e e' → ELRel m l l' → ELRel m (e :: l) (e' :: l')
theorem ELRel.of_get : ∀ {l l' : List MapEntry}, l.length = l'.length → (∀ (i : Nat) (h : i < l.length) (h' : i < l'.length), EntryRel m l[i] l'[i]) → ELRel m l l'
  | [], [], _, _ => .nil
  | v :: l, v' :: l', hs, h => .cons (h 0 (by simp) (by simp)) (ELRel.of_get (by simpa using hs) fun i a b => h (i + 1) (by simpa using a) (by simpa using b))
theorem find_true {t : TypeId} {k k' : Value} (hk : VRel m k k') {es es' : List MapEntry} (he : ELRel m es es') : ∀ (i : Nat) {r : Option (Nat × Value)}, aFind P t k es i = some r →
    ∃ r', aFind P t k' es' i = some r' ∧ OptRel (fun a b => a.1 = b.1 ∧ VRel m a.2 b.2) r r' := by
  induction he with
  | nil => intro i r h; simp only [aFind, Option.some.injEq] at h; subst h; exact ⟨none, rfl, .none⟩
  | cons h1 _ ih =>
    intro i r h
    simp only [aFind] at h ⊢
    split at h
    · rename_i e2
      rw [equal_true 4 t hk h1.key e2]
      simp only [Option.some.injEq] at h; subst h
      exact ⟨_, rfl, .some ⟨rfl, h1.val⟩⟩
    · rename_i e2
      rw [equal_true 4 t hk h1.key e2]
      exact ih (i + 1) h
    · simp at h
end Go.Proofs.YtlbipokkdiiaiaaGreatDoor.Exec
/- Operations of their own, 8: maps looked at, maps changed. -/
namespace Go.Proofs.YtlbipokkdiiaiaaGreatDoor.Exec
variable {P : Program} {m : Bij} {h : H} {W : World}
theorem all_zip {f : Value → Value → Bool} {l l' k k' : List Value} (hl : LRel m l l') (hk : LRel m k k') (hf : ∀ x x' y y', VRel m x x' → VRel m y y' → f x y = true → f x' y' = true) (h : ((l.zip k).all fun (x, y) => f x y) = true) : ((l'.zip k').all fun (x, y) => f x y) = true := by
  induction hl generalizing k k' with
  | nil => simp
  | cons hv _ ih => cases hk with
    | nil => simp
    | cons hu hk =>
      simp only [List.zip_cons_cons, List.all_cons, Bool.and_eq_true] at h ⊢
      exact ⟨hf _ _ _ _ hv hu h.1, ih hk h.2⟩
theorem bits_ptr {a b a' b' : Option Addr} (ha : OptRel (ARel m) a a') (hb : OptRel (ARel m) b b') (h : (a == b) = true) : (a' == b') = true := by
  have e : a = b := by simpa using h
  subst e
  cases ha with
  | none => cases hb; rfl
  | some h1 => cases hb with
    | some h2 => cases h1 with
      | mk h1 => cases h2 with
        | mk h2 => rw [m.fn h1 h2]; simp
theorem bits_true : ∀ (n : Nat) {x x' y y' : Value}, VRel m x x' → VRel m y y' → Instr.sameBits n x y = true → Instr.sameBits n x' y' = true := by
  intro n
  induction n with
  | zero =>
    intro x x' y y' hx hy h
    unfold Instr.sameBits at h
    split at h <;> first | (simp at h; done) | (exfalso; omega) | skip
    · cases hx; cases hy; exact h
    · cases hx; cases hy; exact h
    · cases hx; cases hy; exact h
    · cases hx; cases hy; exact h
    · cases hx; cases hy; exact h
    · cases hx with | pointer h1 => cases hy with | pointer h2 => exact bits_ptr h1 h2 h
    · cases hx; cases hy; rfl
    · cases hx; cases hy; rfl
  | succ n ih =>
    intro x x' y y' hx hy h
    unfold Instr.sameBits at h
    split at h <;> first | (simp at h; done) | skip
    · cases hx; cases hy; exact h
    · cases hx; cases hy; exact h
    · cases hx; cases hy; exact h
    · cases hx; cases hy; exact h
    · cases hx; cases hy; exact h
    · cases hx with | pointer h1 => cases hy with | pointer h2 => exact bits_ptr h1 h2 h
    · cases hx; cases hy; rfl
    · cases hx; cases hy; rfl
    · rename_i e
      obtain rfl : n = _ := by simpa using e
      cases hx with | iface t h1 => cases hy with | iface u h2 =>
        simp only [Instr.sameBits, Bool.and_eq_true] at h ⊢
        exact ⟨h.1, ih h1 h2 h.2⟩
    · rename_i e
      obtain rfl : n = _ := by simpa using e
      cases hx with | agg h1 h2 => cases hy with | agg h3 h4 =>
        simp only [Instr.sameBits, Bool.and_eq_true] at h ⊢
        exact ⟨by rw [← h1, ← h3]; exact h.1, all_zip (RowRel.toList ⟨h1, h2⟩) (RowRel.toList ⟨h3, h4⟩) (fun _ _ _ _ a b c => ih a b c) h.2⟩
noncomputable def entriesOf (x : Value) (h : H) : Option (Array MapEntry) :=
  match x with
  | .map none => some #[]
  | .map (some r) => match h.get r with
    | some ⟨.map es _, _⟩ => some es
    | _ => none
  | _ => none
def entriesJ (x : Value) (K : Array MapEntry → Sem Value) : Sem Value :=
  match x with
  | .map none => do
    let es ← pure #[]
    K es
  | .map (some r) => do
    let .map es _ ← getObj r | (do
      let es ← stuck "Lookup: map expected"
      K es)
    let es ← pure es
    K es
  | _ => do
    let es ← stuck "Lookup: map expected"
    K es
theorem op_lookup (hz : Zeros P) {t : TypeId} {x x' k k' : Value} (hx : VRel m x x') (hk : VRel m k k') (ok : Bool) (hw : WRel m h W) {v : Value} (he : aLookup P t x k ok h = some v) :
    ∃ v', (Instr.lookup t x' k' ok).run P W = .ok v' W ∧ VRel m v v' := by
  unfold aLookup at he
  cases hd : P.underlying t with
  | none => simp [hd] at he
  | some d =>
  rw [hd] at he
  cases d with
  | map key elem =>
    simp only at he
    change (match entriesOf x h with | some es => _ | none => none) = some v at he
    have hes : ∃ es es', entriesOf x h = some es ∧ (∀ K, (entriesJ x' K).run P W = (K es').run P W) ∧ ELRel m es.toList es'.toList := by
      cases hz : entriesOf x h with
      | none => rw [hz] at he; simp at he
      | some es =>
      clear he
      unfold entriesOf at hz
      refine ⟨es, ?_⟩
      cases hx with
      | map hr => cases hr with
        | none => simp only [Option.some.injEq] at hz; subst hz; exact ⟨#[], rfl, fun K => rfl, .nil⟩
        | some hr =>
          simp only at hz
          split at hz
          · rename_i es2 cl g hg
            simp only [Option.some.injEq] at hz
            subst hz
            obtain ⟨o', q1, q2⟩ := hw.objAt hr hg (by simp)
            cases q2 with
            | @map _ es' _ hs hes =>
              refine ⟨es', rfl, fun K => ?_, .of_get (by simpa using hs) fun i a b => by simpa using hes i (by simpa using a) (by simpa using b)⟩
              simp only [entriesJ]
              rw [run_obj q1 (by simp)]; rfl
          · simp at hz
      | _ => simp at hz
    obtain ⟨es, es', h1, h2, h3⟩ := hes
    rw [h1] at he
    simp only at he
    split at he
    · rename_i hkey
      have hkey' := key_true hk hkey
      have hck := run_key (W := W) hkey' es'.isEmpty
      have fin : (Instr.lookup t x' k' ok).run P W = ((Instr.findKey key k' es'.toList).run P W).andThen fun r W => (match r with
          | some (_, v) => pure (if ok then .tuple #[v, .bool true] else v)
          | none => do
            let v ← zeroValue elem
            pure (if ok then .tuple #[v, .bool false] else v) : Sem Value).run P W := by
        have hl : Instr.lookup t x' k' ok = (do
            let .map key elem ← underlying t | stuck "Lookup: map type expected"
            entriesJ x' fun es => do
              Instr.checkKey es.isEmpty 10000 key k'
              let (v, b) ← match ← Instr.findKey key k' es.toList with
                | some (_, v) => pure (v, true)
                | none => pure (← zeroValue elem, false)
              pure (if ok then .tuple #[v, .bool b] else v)) := rfl
        rw [hl]
        simp only [Sem.run_bind, run_underlying hd, Result.andThen_ok, h2, hck]
        congr 1
      split at he
      · rename_i i w hf
        obtain ⟨r', f1, f2⟩ := find_true hk h3 0 hf
        cases f2 with
        | some f2 =>
          simp only [Option.some.injEq] at he
          subst he
          refine ⟨_, by rw [fin, run_find hkey' f1]; rfl, ?_⟩
          cases ok
          · exact f2.2
          · exact rel_tuple2 f2.2 (.bool true)
      · rename_i hf
        obtain ⟨r', f1, f2⟩ := find_true hk h3 0 hf
        cases f2
        split at he
        · rename_i z hzz
          simp only [Option.some.injEq] at he
          subst he
          simp only [Option.bind_eq_some_iff] at hzz
          obtain ⟨i, hi, hzz⟩ := hzz
          have hr : (zeroValue elem).run P W = .ok z W := by simp [zeroValue, typeInfo, hi, hzz]
          refine ⟨if ok then .tuple #[z, .bool false] else z, by rw [fin, run_find hkey' f1]; simp only [Result.andThen_ok, Sem.run_bind, hr, Sem.run_pure], ?_⟩
          cases ok
          · exact hz elem i z hi hzz m
          · exact rel_tuple2 (hz elem i z hi hzz m) (.bool false)
        · simp at he
      · simp at he
    · simp at he
  | _ => simp at he
end Go.Proofs.YtlbipokkdiiaiaaGreatDoor.Exec
/- Operations of their own, 9: maps changed. -/
namespace Go.Proofs.YtlbipokkdiiaiaaGreatDoor.Exec
variable {P : Program} {m : Bij} {h : H} {W : World}
theorem op_update {t : TypeId} {x x' k k' y y' : Value} (hx : VRel m x x') (hk : VRel m k k') (hy : VRel m y y') (hw : WRel m h W) {h' : H} (he : aUpdate P t x k y h = some h') :
    ∃ W', (Instr.mapUpdate t x' k' y').run P W = .ok () W' ∧ Snd m h W m h' W' := by
  unfold aUpdate at he
  split at he
  · rename_i key elem r hd
    cases hx with
    | map hr => cases hr with
      | @some _ r' hr =>
        split at he
        · rename_i es clock g hg
          obtain ⟨o', q1, q2⟩ := hw.objAt hr hg (by simp)
          cases q2 with
          | @map _ es' _ hs hes =>
            have hel : ELRel m es.toList es'.toList := .of_get (by simpa using hs) fun i a b => by simpa using hes i (by simpa using a) (by simpa using b)
            split at he
            · rename_i hkey
              have hkey' := key_true hk hkey
              have hck := run_key (W := W) hkey' false
              have hrun : (Instr.mapUpdate t (.map (some r')) k' y').run P W = ((Instr.findKey key k' es'.toList).run P W).andThen fun f W => (match f with
                  | some (i, _) => (do
                    let k2 ← Instr.keyThatStays (((es'[i]?).map (·.key)).getD k') k'
                    setObj r' (.map (es'.modify i fun e => { e with key := k2, val := y' }) clock))
                  | none => setObj r' (.map (es'.push { key := k', val := y', born := clock }) (clock + 1)) : Sem Unit).run P W := by
                unfold Instr.mapUpdate
                simp only [Sem.run_bind, run_underlying hd, Result.andThen_ok]
                rw [← Sem.run_bind, run_obj q1 (by simp)]
                simp only [Sem.run_bind, hck, Result.andThen_ok]
                congr 1
              split at he
              · rename_i i w hf
                obtain ⟨f', f1, f2⟩ := find_true hk hel 0 hf
                cases f2 with
                | @some _ f2v f2 =>
                  obtain ⟨i2, w2⟩ := f2v
                  obtain ⟨rfl, f2⟩ := f2
                  simp only at f1
                  split at he
                  · rename_i e hei
                    split at he
                    · rename_i hbits
                      simp only [Option.some.injEq] at he
                      subst he
                      have hi : i < es.size := (Array.getElem?_eq_some_iff.1 hei).1
                      have hi' : i < es'.size := hs ▸ hi
                      have hek := hes i hi hi'
                      have hee : es[i] = e := (Array.getElem?_eq_some_iff.1 hei).2
                      rw [hee] at hek
                      have hb' := bits_true 10000 hek.key hk hbits
                      have hp := Snd.put hw hg hr (o := ⟨.map (es.modify i fun e => { e with key := k, val := y }) clock, false⟩) (o' := .map (es'.modify i fun e => { e with key := k', val := y' }) clock) (.obj (.map clock (by simpa using hs) fun j a b => by
                        simp only [Array.getElem_modify]
                        simp only [Array.size_modify] at a b
                        have hj := hes j a b
                        split
                        · exact ⟨hk, hy, hj.born⟩
                        · exact hj))
                      refine ⟨_, ?_, hp⟩
                      rw [hrun, run_find hkey' f1]
                      simp only [Result.andThen_ok, Array.getElem?_eq_getElem hi', Option.map_some, Option.getD_some, Instr.keyThatStays, hb', if_true, sem_pure]
                      exact run_setObj q1 (by simp)
                    · simp at he
                  · simp at he
              · rename_i hf
                obtain ⟨f', f1, f2⟩ := find_true hk hel 0 hf
                cases f2
                simp only [Option.some.injEq] at he
                subst he
                have hp := Snd.put hw hg hr (o := ⟨.map (es.push { key := k, val := y, born := clock }) (clock + 1), false⟩) (o' := .map (es'.push { key := k', val := y', born := clock }) (clock + 1)) (.obj (.map _ (by simp [hs]) fun j a b => by
                  simp only [Array.size_push] at a b
                  by_cases hj : j < es.size
                  · rw [Array.getElem_push_lt hj, Array.getElem_push_lt (hs ▸ hj)]; exact hes j hj _
                  · have e1 : j = es.size := by omega
                    subst e1
                    rw [Array.getElem_push_eq]
                    have : (es'.push ({ key := k', val := y', born := clock } : MapEntry))[es.size]'(by simpa using b) = { key := k', val := y', born := clock } := by simp [hs]
                    rw [this]; exact ⟨hk, hy, rfl⟩))
                refine ⟨_, ?_, hp⟩
                rw [hrun, run_find hkey' f1]
                simp only [Result.andThen_ok]
                exact run_setObj q1 (by simp)
              · simp at he
            · simp at he
        · simp at he
  · simp at he
end Go.Proofs.YtlbipokkdiiaiaaGreatDoor.Exec
/- Operations of their own, 10: append. -/
namespace Go.Proofs.YtlbipokkdiiaiaaGreatDoor.Exec
variable {P : Program} {m : Bij} {h : H} {W : World}
theorem one_true {v v' : Value} (hv : VRel m v v') (h : oneCell v = true) : v'.oneCell' = true := by
  cases hv <;> first | rfl | (simp [oneCell] at h; done)
theorem add_off (b o j : Nat) : (⟨b, o, none⟩ : Addr).add j = ⟨b, o + j, none⟩ := by
  unfold Addr.add; split
  · rename_i h; simp [h]
  · rfl
theorem add2 (a : Addr) (i j : Nat) (hs : a.spot = none) : (a.add i).add j = a.add (i + j) := by
  obtain ⟨b, o, s⟩ := a
  simp only at hs; subst hs
  simp [add_off, Nat.add_assoc]
theorem arun_cells : ∀ (n i : Nat) (a : Addr) (acc : Array Value) {c : Array Value} {h1 : H}, ARun P (loadCellsFrom a i n acc) h = some (c, h1) →
    ∃ l : List Value, l.length = n ∧ c.toList = acc.toList ++ l ∧ ∀ (j : Nat) v, l[j]? = some v → h.cell? (a.add (i + j)) = some v
  | 0, i, a, acc, c, h1, he => by
    simp only [loadCellsFrom] at he
    obtain ⟨rfl, rfl⟩ : acc = c ∧ h = h1 := by simpa [ARun, Pure.pure] using he
    exact ⟨[], rfl, by simp, fun j v hv => by simp at hv⟩
  | n + 1, i, a, acc, c, h1, he => by
    unfold loadCellsFrom at he
    rw [arun_load] at he
    cases hc : h.cell? (a.add i) with
    | none => simp [hc] at he
    | some v =>
      rw [hc] at he
      dsimp only at he
      obtain ⟨l, h2, h3, h4⟩ := arun_cells n (i + 1) a _ he
      refine ⟨v :: l, by simp [h2], by rw [h3]; simp, fun j x hx => ?_⟩
      cases j with
      | zero => simp only [List.getElem?_cons_zero, Option.some.injEq] at hx; subst hx; simpa using hc
      | succ j => have := h4 j x (by simpa using hx); rwa [show i + 1 + j = i + (j + 1) by omega] at this
theorem list_true (hw : WRel m h W) {a a' : Addr} (ha : ARel m a a') : ∀ (l : List Value) (i : Nat), (∀ (j : Nat) v, l[j]? = some v → h.cell? (a.add (i + j)) = some v) →
    ∃ l', LRel m l l' ∧ ∀ (j : Nat) v, l'[j]? = some v → W.cell? (a'.add (i + j)) = some v
  | [], i, _ => ⟨[], .nil, fun j v hv => by simp at hv⟩
  | v :: l, i, hc => by
    obtain ⟨v', h1, h2⟩ := hw.cell (ha.add i) (by simpa using hc 0 v rfl)
    obtain ⟨l', h3, h4⟩ := list_true hw ha l (i + 1) (fun j x hx => by have := hc (j + 1) x (by simpa using hx); rwa [show i + 1 + j = i + (j + 1) by omega])
    refine ⟨v' :: l', .cons h2 h3, fun j x hx => ?_⟩
    cases j with
    | zero => simp only [List.getElem?_cons_zero, Option.some.injEq] at hx; subst hx; simpa using h1
    | succ j => have := h4 j x (by simpa using hx); rwa [show i + 1 + j = i + (j + 1) by omega] at this
theorem cells_list {a : Addr} {n : Nat} {c : Array Value} {h1 : H} (he : ARun P (loadCells a n) h = some (c, h1)) (hw : WRel m h W) {a' : Addr} (ha : ARel m a a') :
    c.toList.length = n ∧ ∃ l', LRel m c.toList l' ∧ ∀ (j : Nat) v, l'[j]? = some v → W.cell? (a'.add j) = some v := by
  obtain ⟨l, h2, h3, h4⟩ := arun_cells n 0 a #[] he
  have h3 : c.toList = l := by simpa using h3
  obtain ⟨l', k1, k2⟩ := list_true hw ha l 0 h4
  rw [h3]
  exact ⟨h2, l', k1, fun j v hv => by simpa using k2 j v hv⟩
theorem LRel.one {l l' : List Value} (h : LRel m l l') (ho : l.all oneCell = true) : ∀ u ∈ l', u.oneCell' = true := by
  induction h with
  | nil => intro u hu; cases hu
  | cons hv _ ih =>
    simp only [List.all_cons, Bool.and_eq_true] at ho
    intro u hu
    rcases List.mem_cons.1 hu with rfl | hu
    · exact one_true hv ho.1
    · exact ih ho.2 u hu
theorem src_true {xT : TypeId} {size n : Nat} {x x' : Value} {l : List Value} (hx : VRel m x x') (hw : WRel m h W) (he : aSrc P xT size x h = some (n, l)) : ∃ l', LRel m l l' ∧ Src P size xT x' n l' W := by
  unfold aSrc at he
  split at he
  · rename_i c e hd
    simp only [Option.some.injEq, Prod.mk.injEq] at he
    obtain ⟨rfl, rfl⟩ := he
    cases hx with
    | slice _ _ _ hp => cases hp; exact ⟨[], .nil, Src.ofNil W hd _⟩
  · rename_i a k c e hd
    split at he
    · rename_i cs h1 hr
      split at he
      · rename_i hone
        simp only [Option.some.injEq, Prod.mk.injEq] at he
        obtain ⟨rfl, rfl⟩ := he
        cases hx with
        | slice _ _ _ hp => cases hp with
          | some ha =>
            obtain ⟨q1, l', q2, q3⟩ := cells_list hr hw ha
            exact ⟨l', q2, Src.ofSlice W hd _ _ _ l' (by rw [← q2.length]; exact q1) q3 (q2.one hone)⟩
        | sliceU _ _ _ hb _ _ _ =>
          obtain ⟨q1, l', q2, q3⟩ := cells_list hr hw (.mk hb)
          exact ⟨l', q2, Src.ofSlice W hd _ _ _ l' (by rw [← q2.length]; exact q1) q3 (q2.one hone)⟩
      · simp at he
    · simp at he
  · rename_i s hd
    split at he
    · rename_i hs
      have hs : size = 1 := by simpa using hs
      subst hs
      simp only [Option.some.injEq, Prod.mk.injEq] at he
      obtain ⟨rfl, rfl⟩ := he
      cases hx
      refine ⟨byteCells s, ?_, Src.ofString W hd s⟩
      unfold byteCells
      generalize s.data.toList = l
      induction l with
      | nil => exact .nil
      | cons b l ih => exact .cons (.int _ _) ih
    · simp at he
  · simp at he
theorem old_true {base base' : Option Addr} (hb : OptRel (ARel m) base base') {sLen size : Nat} (hw : WRel m h W) {l : List Value} (he : aOld P base sLen size h = some l) (c : Nat) :
    ∃ l', LRel m l l' ∧ l.length = sLen * size ∧ (Builtin.firstCells size sLen (.slice base' sLen c)).run P W.drew = .ok l'.toArray W.drew := by
  unfold aOld at he
  cases hb with
  | none =>
    simp only at he
    split at he
    · rename_i h0; subst h0
      simp only [Option.some.injEq] at he; subst he
      exact ⟨[], .nil, by simp, run_firstCells_none W.drew size 0 0 c⟩
    · simp at he
  | some ha =>
    simp only at he
    split at he
    · rename_i cs h1 hr
      simp only [Option.some.injEq] at he; subst he
      obtain ⟨q1, l', q2, q3⟩ := cells_list hr hw ha
      exact ⟨l', q2, q1, run_firstCells_some W.drew size sLen _ sLen c l' (by rw [← q2.length]; exact q1) (fun j v hv => by simpa using q3 j v hv)⟩
    · simp at he
theorem growBy_le (n : Nat) : ∀ (r c : Nat), Builtin.growBy n r c + 768 ≤ (c + 768) * 2 ^ r
  | 0, c => by simp [Builtin.growBy]
  | r + 1, c => by
    unfold Builtin.growBy
    split
    · have : 0 < 2 ^ (r + 1) := Nat.two_pow_pos _
      exact Nat.le_mul_of_pos_right _ this
    · refine Nat.le_trans (growBy_le n r _) ?_
      rw [Nat.pow_succ, Nat.mul_comm (2 ^ r) 2, ← Nat.mul_assoc]
      exact Nat.mul_le_mul_right _ (by omega)
theorem next_le {need old : Nat} (h : old < need) : Builtin.nextslicecap need old ≤ 16 * (need + 768) := by
  unfold Builtin.nextslicecap
  split
  · omega
  · split
    · omega
    · have := growBy_le need 4 old
      omega
theorem fits_num {a b n : Nat} (h1 : a ≤ 16 * (n + 768)) (h2 : (n + 1200) * b * 8 ≤ 1099511627776) : a * b ≤ 281474976710656 := by
  obtain ⟨y, hy⟩ : ∃ y, y = n + 1200 := ⟨_, rfl⟩
  rw [← hy] at h2
  have h0 : a ≤ 16 * y := by omega
  have h3 := Nat.mul_le_mul_right b h0
  rw [Nat.mul_assoc] at h3
  generalize y * b = z at h2 h3
  omega
theorem fits_spec {ei : TypeInfo} {need : Nat} (h : fits ei need = true) : 1 ≤ ei.size ∧ ei.size ≤ 64 ∧ need < 1099511627776 ∧ ∀ old, old < need → Builtin.nextslicecap need old * ei.bytes ≤ 281474976710656 := by
  simp only [fits, Bool.and_eq_true, decide_eq_true_eq] at h
  obtain ⟨⟨⟨h1, h2⟩, h3⟩, h4⟩ := h
  refine ⟨h1, h2, h4, fun old ho => ?_⟩
  exact fits_num (next_le ho) h3
theorem setCells_eq (b : Nat) (t : TypeId) (fr : Nat × Nat) : ∀ (l : List Value) (o : Nat) (W : World) (c : Array Value), W.heap[b]? = some (.cells c t fr) → W.setCells b o l = { W with heap := W.heap.setIfInBounds b (.cells (putCells c o l) t fr) }
  | [], o, W, c, hb => by
    have hbl : b < W.heap.size := (Array.getElem?_eq_some_iff.1 hb).1
    have : W.heap.setIfInBounds b (.cells c t fr) = W.heap := by
      apply Array.ext_getElem?
      intro j
      by_cases hj : b = j
      · subst hj; rw [Array.getElem?_setIfInBounds_self_of_lt hbl, hb]
      · rw [Array.getElem?_setIfInBounds_ne hj]
    simp only [World.setCells, putCells, this]
  | v :: l, o, W, c, hb => by
    have hbl : b < W.heap.size := (Array.getElem?_eq_some_iff.1 hb).1
    rw [World.setCells, setCell_eq hb, setCells_eq b t fr l (o + 1) _ (c.setIfInBounds o v) (by simp [hbl])]
    simp [putCells]
theorem putCells_size : ∀ (l : List Value) (o : Nat) (c : Array Value), (putCells c o l).size = c.size
  | [], _, _ => rfl
  | v :: l, o, c => by rw [putCells, putCells_size l]; simp
theorem HeadRel.puts {l l' : List Value} (hl : LRel m l l') : ∀ (o : Nat) {c c' : Array Value}, HeadRel m c c' → HeadRel m (putCells c o l) (putCells c' o l') := by
  induction hl with
  | nil => intro o c c' h; exact h
  | cons hv _ ih => intro o c c' h; exact ih (o + 1) (h.set hv o)
/-- Cells written behind a head. -/
theorem get_puts : ∀ (l : List Value) (o : Nat) (c : Array Value) (i : Nat), o + l.length ≤ c.size → (putCells c o l)[i]? = if o ≤ i ∧ i < o + l.length then l[i - o]? else c[i]?
  | [], o, c, i, h => by rw [putCells, if_neg (by simp)]
  | v :: l, o, c, i, h => by
    simp only [List.length_cons] at h ⊢
    rw [putCells, get_puts l (o + 1) _ i (by simp; omega)]
    by_cases h1 : i = o
    · subst h1; rw [if_neg (by omega), if_pos (by omega), Array.getElem?_setIfInBounds_self_of_lt (by omega)]; simp
    · by_cases h2 : o + 1 ≤ i ∧ i < o + 1 + l.length
      · rw [if_pos h2, if_pos (by omega)]
        have : i - o = (i - (o + 1)) + 1 := by omega
        rw [this]; simp
      · rw [if_neg h2, if_neg (by omega), Array.getElem?_setIfInBounds_ne (fun e => h1 e.symm)]
theorem HeadRel.grown {c c' : Array Value} (hc : HeadRel m c c') {l l' : List Value} (hl : LRel m l l') (k : Nat) (hk : k ≤ c.size) (hr : k + l.length ≤ c'.size) : HeadRel m (c.toList.take k ++ l).toArray (putCells c' k l') := by
  have hlen := hl.length
  refine ⟨by rw [putCells_size]; simp; omega, fun i h h' => ?_⟩
  have e1 : (c.toList.take k ++ l).toArray[i]? = some ((c.toList.take k ++ l).toArray[i]) := Array.getElem?_eq_getElem h
  have e2 : (putCells c' k l')[i]? = some ((putCells c' k l')[i]) := Array.getElem?_eq_getElem h'
  have hkl : (c.toList.take k).length = k := by simp; omega
  rw [get_puts l' k c' i (by omega)] at e2
  rw [List.getElem?_toArray, List.getElem?_append, hkl] at e1
  have hi : i < k + l.length := by simpa [hkl] using h
  by_cases h1 : i < k
  · rw [if_pos h1, List.getElem?_take_of_lt h1, Array.getElem?_toList] at e1
    rw [if_neg (by omega)] at e2
    have hic : i < c.size := by omega
    have hic' : i < c'.size := by omega
    have := hc.at_ i hic hic'
    rw [Array.getElem?_eq_getElem hic, Option.some.injEq] at e1
    rw [Array.getElem?_eq_getElem hic', Option.some.injEq] at e2
    rw [← e1, ← e2]; exact this
  · rw [if_neg h1] at e1
    rw [if_pos (by omega)] at e2
    have := hl.get (i - k)
    rw [e1, e2] at this
    cases this with | some q => exact q
theorem LRel.head {l l' k k' : List Value} (hl : LRel m l l') (hk : LRel m k k') (r : Array Value) : HeadRel m (l ++ k).toArray ((l' ++ k').toArray ++ r) := by
  have h1 := hl.length
  have h2 := hk.length
  have hr : RowRel m (l ++ k).toArray (l' ++ k').toArray := by
    have : (l ++ k).toArray = l.toArray ++ k.toArray := by simp
    rw [this]
    have : (l' ++ k').toArray = l'.toArray ++ k'.toArray := by simp
    rw [this]
    exact hl.toArray.append hk.toArray
  refine ⟨by simp; omega, fun i a b => ?_⟩
  have hs := hr.size
  have : ((l' ++ k').toArray ++ r)[i] = (l' ++ k').toArray[i]'(by omega) := Array.getElem_append_left _
  rw [this]
  exact hr.at_ i a (by omega)
/-- A name dies. -/
theorem Snd.kill (hw : WRel m h W) {n : Nat} (hn : n < h.next) : Snd m h W m (h.kill n) W := by
  have hg : ∀ k, (h.kill n).get k = if k = n then none else h.get k := fun k => H.get_kill hw.room hw.le hn k
  refine ⟨Bij.le_refl m, ⟨fun k o hk => ?_, hw.fresh, hw.ran, fun a b c h1 h2 g1 g2 => ?_, hw.room, hw.le⟩, Nat.le_refl _, fun _ _ _ => rfl, Nat.le_refl _, rfl, fun k _ hk => ?_, fun _ _ k => .inl k, rfl, rfl, rfl⟩
  · rw [hg] at hk; split at hk
    · simp at hk
    · exact hw.obj k o hk
  · rw [hg] at g1 g2
    refine hw.inj a b c h1 h2 ?_ ?_
    · split at g1
      · simp at g1
      · exact g1
    · split at g2
      · simp at g2
      · exact g2
  · rw [hg]; split
    · rfl
    · exact hk
/-- A name dies, and its block gets another. -/
theorem Snd.regrow (hw : WRel m h W) {n b : Nat} {x : AObj} (hg : h.get n = some x) (hb : m.r n b) (hr : h.next < h.lim) (g : Nat) {o : AObj} {o' : Obj} (ho : ∀ m', m ≤ m' → m'.gr h.next = g → NRel m' h.next o o') :
    ∃ m', m'.r h.next b ∧ m'.gr h.next = g ∧ Snd m h W m' ((h.kill n).push o) { W with heap := W.heap.setIfInBounds b o' } := by
  have hn : ∀ x, ¬ m.r h.next x := hw.fresh _ (Nat.le_refl _) hr
  have hlt := H.get_lt hg
  have hbl := hw.ran _ _ hb
  have hm := m.le_add h.next b g hn
  have hgr : (m.add h.next b g hn).gr h.next = g := by simp [Bij.add]
  have hget : ∀ k, ((h.kill n).push o).get k = if k = h.next then some o else if k = n then none else h.get k := fun k => by
    rw [H.get_push (h := h.kill n) hw.room hw.le]
    show (if k = h.next then some o else (h.kill n).get k) = _
    rw [H.get_kill hw.room hw.le hlt]
  refine ⟨m.add h.next b g hn, .inr ⟨rfl, rfl⟩, hgr, hm, ⟨?_, ?_, ?_, ?_, hw.room, ?_⟩, by simp, ?_, by simp [H.push, H.kill], rfl, ?_, ?_, rfl, rfl, rfl⟩
  · intro k y hy
    rw [hget] at hy
    split at hy
    · rename_i e; subst e
      simp only [Option.some.injEq] at hy; subst hy
      exact ⟨b, o', .inr ⟨rfl, rfl⟩, by simp [hbl], ho _ hm hgr⟩
    · split at hy
      · simp at hy
      · rename_i e1 e2
        obtain ⟨c, z, h1, h2, h3⟩ := hw.obj k y hy
        have hne : b ≠ c := fun e => e2 (hw.inj k n c h1 (e ▸ hb) (by rw [hy]; simp) (by rw [hg]; simp))
        exact ⟨c, z, .inl h1, by simp [hne, h2], h3.mono hm h1⟩
  · rintro k hk1 hk2 c (q | ⟨rfl, rfl⟩)
    · exact hw.fresh k (by simp [H.push, H.kill] at hk1; omega) hk2 c q
    · simp [H.push, H.kill] at hk1; omega
  · rintro k c (q | ⟨rfl, rfl⟩)
    · simpa using hw.ran k c q
    · simpa using hbl
  · intro k l c h1 h2 g1 g2
    rw [hget] at g1 g2
    rcases h1 with h1 | ⟨rfl, rfl⟩ <;> rcases h2 with h2 | ⟨rfl, h3⟩
    · have e1 : k ≠ h.next := by rintro rfl; exact hn _ h1
      have e2 : l ≠ h.next := by rintro rfl; exact hn _ h2
      rw [if_neg e1] at g1; rw [if_neg e2] at g2
      refine hw.inj k l c h1 h2 ?_ ?_
      · split at g1
        · simp at g1
        · exact g1
      · split at g2
        · simp at g2
        · exact g2
    · subst h3
      have e1 : k ≠ h.next := by rintro rfl; exact hn _ h1
      rw [if_neg e1] at g1
      split at g1
      · simp at g1
      · rename_i e; exact absurd (hw.inj k n c h1 hb g1 (by rw [hg]; simp)) e
    · have e2 : l ≠ h.next := by rintro rfl; exact hn _ h2
      rw [if_neg e2] at g2
      split at g2
      · simp at g2
      · rename_i e; exact absurd (hw.inj l n _ h2 hb g2 (by rw [hg]; simp)) e
    · rfl
  · simp [H.push, H.kill]; omega
  · intro c _ hc
    have : b ≠ c := fun e => by have := hc n (e ▸ hb); rw [hg] at this; simp at this
    simp [this]
  · intro k hk hd
    rw [hget, if_neg (by omega)]; split
    · rfl
    · exact hd
  · rintro k c (q | ⟨rfl, rfl⟩)
    · exact .inl q
    · exact .inr ⟨Nat.le_refl _, by simp [H.push, H.kill], .inr ⟨n, hb, by rw [hg]; simp⟩⟩
end Go.Proofs.YtlbipokkdiiaiaaGreatDoor.Exec
