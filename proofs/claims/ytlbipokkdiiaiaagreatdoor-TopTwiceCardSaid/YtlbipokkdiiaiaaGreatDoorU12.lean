/- Lemmas for TopTwice: W4, W5, PathPlain, TreePlain. -/
import Derived.Test.YtlbipokkdiiaiaaGreatDoorU11
import Derived.WideKeyArr
import Derived.MapFrom
import Derived.Carry
import Derived.Deep.WholeRow
import Derived.Test.YtlbipokkdiiaiaaGreatDoorU10
import Derived.Lib.Bytealg
import Derived.Shelf.GgClosure.StringsIndexFunc
import Derived.Lib.Strings
namespace Go.Proofs.YtlbipokkdiiaiaaGreatDoor
open Go.RowKit Go.Proofs.YtlbipokkdiiaiaaGreatDoor.Exec
set_option maxRecDepth 100000
structure Foot (D : Nat → Prop) (w w' : World) : Prop where
 os : w'.os = w.os
 tape : w'.tape = w.tape
 output : w'.output = w.output
 size : w.heap.size ≤ w'.heap.size
 block : ∀ k, k < w.heap.size → ¬ D k → w'.heap[k]? = w.heap[k]?
theorem Foot.refl (D : Nat → Prop) (w : World) : Foot D w w := ⟨rfl, rfl, rfl, Nat.le_refl _, fun _ _ _ => rfl⟩
theorem Foot.of_below {D : Nat → Prop} {w w' : World} (h : Below w.heap.size w w') : Foot D w w' := ⟨h.os, h.tape, h.output, h.size, fun k hk _ => h.block k hk⟩
theorem Foot.trans {D D' : Nat → Prop} {a b c : World} (h : Foot D a b) (k : Foot D' b c) (hD : ∀ i, i < a.heap.size → D' i → D i) : Foot D a c :=
 ⟨k.os.trans h.os, k.tape.trans h.tape, k.output.trans h.output, Nat.le_trans h.size k.size, fun i hi hd => (k.block i (Nat.lt_of_lt_of_le hi h.size) (fun e => hd (hD i hi e))).trans (h.block i hi hd)⟩
theorem Foot.chain {D : Nat → Prop} {a b c : World} (h : Foot D a b) (k : Foot D b c) : Foot D a c := h.trans k fun _ _ e => e
theorem Foot.then {D : Nat → Prop} {a b c : World} (h : Foot D a b) (k : Below b.heap.size b c) : Foot D a c := h.chain (Foot.of_below k)
theorem Foot.mono {D D' : Nat → Prop} {a b : World} (h : Foot D a b) (hD : ∀ i, i < a.heap.size → D i → D' i) : Foot D' a b :=
 ⟨h.os, h.tape, h.output, h.size, fun i hi hd => h.block i hi (fun e => hd (hD i hi e))⟩
theorem Foot.below {D : Nat → Prop} {B : Nat} {w w' : World} (h : Foot D w w') (hB : B ≤ w.heap.size) (hD : ∀ i, D i → B ≤ i) : Below B w w' :=
 ⟨h.os, h.tape, h.output, h.size, fun k hk => h.block k (by omega) (fun e => by have := hD k e; omega)⟩
structure Turned (r : Nat) (w w' : World) : Prop where
 lt : r < w.heap.size
 foot : Foot (fun b => b = r) w w'
theorem Turned.below {r B : Nat} {w w' : World} (h : Turned r w w') (hB : B ≤ r) : Below B w w' :=
 h.foot.below (by have := h.lt; omega) (fun i e => by omega)
theorem Turned.trans {r : Nat} {a b c : World} (h : Turned r a b) (k : Turned r b c) : Turned r a c := ⟨h.lt, h.foot.chain k.foot⟩
theorem Turned.then {r : Nat} {a b c : World} (h : Turned r a b) (k : Below b.heap.size b c) : Turned r a c := ⟨h.lt, h.foot.then k⟩
theorem Turned.setCell {w : World} (x : Addr) (v : Value) (hx : x.block < w.heap.size) : Turned x.block w (w.setCell x v) := by
 refine ⟨hx, rfl, rfl, rfl, ?_, fun k hk hne => ?_⟩
 ·unfold World.setCell; split <;> simp
 ·unfold World.setCell
  split
  all_goals (simp only [Array.getElem?_modify]; rw [if_neg (fun e => hne e.symm)])
theorem turned_cell {w : World} {b : Nat} (o : Nat) (v : Value) (h : b < w.heap.size) : Turned b w (w.setCell ⟨b, o, none⟩ v) := Turned.setCell ⟨b, o, none⟩ v h
def putObj (w : World) (r : Nat) (o : Obj) : World := { w with heap := w.heap.setIfInBounds r o }
theorem putObj_at {w : World} {r : Nat} (h : r < w.heap.size) (o : Obj) : (putObj w r o).heap[r]? = some o := by
 simp [putObj, h]
theorem putObj_turned {w : World} {r : Nat} (h : r < w.heap.size) (o : Obj) : Turned r w (putObj w r o) :=
 ⟨h, rfl, rfl, rfl, by simp [putObj], fun k _ hne => by simp only [putObj, Array.getElem?_setIfInBounds]; rw [if_neg (fun e => hne e.symm)]⟩
structure KeyOk (kt : TypeId) {κ : Type} (kv : κ → Value) : Prop where
 inj : ∀ a b, kv a = kv b → a = b
 check : ∀ (w : World) (em : Bool) (d : κ), (Instr.checkKey em 10000 kt (kv d)).run Tryz.prog w = .ok () w
 find : ∀ (w : World) (d : κ) (es : List MapEntry), (∀ e ∈ es, ∃ x, e.key = kv x) → ((Instr.findKey kt (kv d) es).run Tryz.prog w = .ok none w ∧ ∀ e ∈ es, e.key ≠ kv d) ∨
  ∃ j e, (Instr.findKey kt (kv d) es).run Tryz.prog w = .ok (some (j, e.val)) w ∧ es[j]? = some e ∧ e.key = kv d
 stays : ∀ (w : World) (d : κ), (Instr.keyThatStays (kv d) (kv d)).run Tryz.prog w = .ok (kv d) w
theorem dg_keyOf (d : Dg) : ∃ l, keyOf Tryz.prog 31 (dgv d) = some l := by
 have hu : Tryz.prog.underlying 31 = some (.array 32 5) := by kernel_rfl
 have hi : Tryz.prog.underlying 5 = some (.int .u8) := by kernel_rfl
 have hk : Tryz.prog.keyType 31 = true := by kernel_rfl
 have hc : Tryz.prog.cellsOf 31 = 32 := by kernel_rfl
 have h1 : Tryz.prog.cellsOf 5 = 1 := by kernel_rfl
 have hp : decide (0 < Tryz.prog.types.size) = true := by kernel_rfl
 have hp := of_decide_eq_true hp
 obtain ⟨n, hn⟩ : ∃ n, Tryz.prog.types.size + 1 = n + 2 := ⟨Tryz.prog.types.size - 1, by omega⟩
 have hf : (dgv d).formed Tryz.prog 31 = true := by
  unfold dgv Value.formed
  simp only [hu, hc, List.size_toArray, dgc_len, beq_self_eq_true]
 have hl : ∃ L, Tryz.prog.keyLits (n + 2) 31 (dgc d) = some L := by
  unfold Program.keyLits
  simp only [hu, hc, dgc_len, h1, if_true, Nat.mul_one]
  obtain ⟨r, hr⟩ := MapFrom.mapM_some (l := List.range 32) (f := fun i => Tryz.prog.keyLits (n + 1) 5 (((dgc d).drop i).take 1)) (fun i hi2 => by
   have hlt : i < d.1.length := by rw [d.2]; simpa using hi2
   have e : ((dgc d).drop i).take 1 = [Value.int .u8 (d.1[i].toNat : Int)] := by
    unfold dgc Lib.byteCells
    rw [List.drop_eq_getElem_cons (by simpa using hlt)]
    simp
   rw [e]
   refine ⟨[.int .u8 (d.1[i].toNat : Int)], ?_⟩
   unfold Program.keyLits
   simp only [hi]
   have hb := d.1[i].toNat_lt
   have hw : (Lit.int .u8 (d.1[i].toNat : Int)).wf = true := by
    have m1 : IntKind.u8.min = 0 := rfl
    have m2 : IntKind.u8.max = 255 := rfl
    simp only [Lit.wf, m1, m2, Bool.and_eq_true, decide_eq_true_eq]
    omega
   simp only [hw, and_self, if_true])
  exact ⟨_, by rw [hr]; rfl⟩
 obtain ⟨L, hL⟩ := hl
 unfold keyOf
 simp only [hu, hk, hf, Bool.and_self, if_true, hn]
 show ∃ l, (Tryz.prog.keyLits (n + 2) 31 (dgc d)).map _ = some l
 rw [hL]
 exact ⟨_, rfl⟩
theorem keyDg : KeyOk 31 dgv := by
 have K : WideMaps.KeyLaw Tryz.prog 31 := WideMaps.ArrKey.law (n := 32) (e := 5) ⟨by kernel_rfl, by kernel_rfl, by kernel_rfl, by kernel_rfl⟩
 refine ⟨fun a b h => ?_, fun w em d => ?_, fun w d es h => ?_, fun w d => ?_⟩
 ·unfold dgv at h
  exact dgc_inj (by simpa using h)
 ·obtain ⟨l, hl⟩ := dg_keyOf d
  exact K.check w em hl
 ·obtain ⟨l, hl⟩ := dg_keyOf d
  exact K.find w hl es (fun e he => by obtain ⟨x, hx⟩ := h e he; rw [hx]; exact dg_keyOf x)
 ·obtain ⟨l, hl⟩ := dg_keyOf d
  exact K.stays w hl
def strv (l : List UInt8) : Value := .string (bs l)
theorem keyStr : KeyOk 9 strv := by
 have hu : Tryz.prog.underlying 9 = some .string := by kernel_rfl
 refine ⟨fun a b h => ?_, fun w em d => ?_, fun w d es h => ?_, fun w d => ?_⟩
 ·unfold strv bs at h
  simpa using h
 ·exact MapKept.run_checkKey hu (d := .string) (by simp [MapKept.IsKey, strv]) em 9999
 ·unfold Instr.findKey
  rcases MapKept.findNow_spec (d := .string) (k := strv d) (by simp [MapKept.IsKey, strv]) es 0 (fun e he => by obtain ⟨x, hx⟩ := h e he; rw [hx]; simp [MapKept.IsKey, strv]) with ⟨h1, h2⟩ | ⟨j, e, h1, h2, h3⟩
  ·exact .inl ⟨by simp [run_underlying hu, h1], h2⟩
  ·exact .inr ⟨j, e, by simp [run_underlying hu, h1], h2, h3⟩
 ·unfold Instr.keyThatStays strv
  have : Instr.sameBits 10000 (.string (bs d)) (.string (bs d)) = true := by
   show ((bs d).data == (bs d).data) = true
   simp
  simp [this]
theorem modify_mid {α : Type} (f : α → α) : ∀ (a : List α) (x : α) (b : List α), (a ++ x :: b).modify a.length f = a ++ f x :: b
 | [], x, b => by simp
 | y :: a, x, b => by simp [List.modify_succ_cons, modify_mid f a x b]
theorem erase_mid {α : Type} : ∀ (a : List α) (x : α) (b : List α), (a ++ x :: b).eraseIdx a.length = a ++ b
 | [], x, b => by simp
 | y :: a, x, b => by simp [erase_mid a x b]
theorem split_at {α : Type} {l : List α} {j : Nat} {x : α} (h : l[j]? = some x) : ∃ a b, l = a ++ x :: b ∧ a.length = j := by
 obtain ⟨hlt, rfl⟩ := List.getElem?_eq_some_iff.1 h
 exact ⟨l.take j, l.drop (j + 1), by rw [← List.drop_eq_getElem_cons hlt, List.take_append_drop], by rw [List.length_take]; omega⟩
def MapIs {κ : Type} (kv : κ → Value) (M : κ → Option Value) (o : Obj) : Prop :=
 ∃ es clock, o = .map es clock ∧ (∀ e ∈ es.toList, ∃ d, e.key = kv d) ∧ (es.toList.map (·.key)).Nodup ∧ ∀ d v, M d = some v ↔ ∃ e ∈ es.toList, e.key = kv d ∧ e.val = v
theorem MapIs.nil {κ : Type} (kv : κ → Value) : MapIs kv (fun _ => none) (.map #[] 0) := ⟨#[], 0, rfl, by simp, by simp, by simp⟩
section
variable {κ : Type} {kt : TypeId} {kv : κ → Value} {M : κ → Option Value} {o : Obj} {w : World} {r : Nat} {t e : TypeId}
theorem MapIs.look (h : MapIs kv M o) (K : KeyOk kt kv) (hm : w.heap[r]? = some o) (ht : Tryz.prog.underlying t = some (.map kt e)) {z : Value} (hz : (zeroValue e).run Tryz.prog w = .ok z w) (d : κ) (c : Bool) :
  (Instr.lookup t (.map (some r)) (kv d) c).run Tryz.prog w = .ok (if c then .tuple #[(M d).getD z, .bool (M d).isSome] else (M d).getD z) w := by
 obtain ⟨es, clock, rfl, hk, hn, hM⟩ := h
 rcases K.find w d es.toList hk with ⟨h1, h2⟩ | ⟨j, x, h1, h2, h3⟩
 ·have : M d = none := by
   cases hd : M d with
   | none => rfl
   | some v =>
     obtain ⟨x, hx, hx2, _⟩ := (hM d v).1 hd
     exact absurd hx2 (h2 x hx)
  simp [Instr.lookup, run_underlying ht, MapKept.run_getObj_map hm, K.check, h1, hz, Result.andThen, this]
 ·have : M d = some x.val := (hM d x.val).2 ⟨x, List.mem_of_getElem? h2, h3, rfl⟩
  simp [Instr.lookup, run_underlying ht, MapKept.run_getObj_map hm, K.check, h1, Result.andThen, this]
theorem MapIs.put [DecidableEq κ] (h : MapIs kv M o) (K : KeyOk kt kv) (hm : w.heap[r]? = some o) (ht : Tryz.prog.underlying t = some (.map kt e)) (d : κ) (v : Value) :
  ∃ o', (Instr.mapUpdate t (.map (some r)) (kv d) v).run Tryz.prog w = .ok () (putObj w r o') ∧ MapIs kv (fun x => if x = d then some v else M x) o' := by
 obtain ⟨es, clock, rfl, hk, hn, hM⟩ := h
 rcases K.find w d es.toList hk with ⟨h1, h2⟩ | ⟨j, x, h1, h2, h3⟩
 ·refine ⟨.map (es.push ⟨kv d, v, clock⟩) (clock + 1), ?_, ⟨_, _, rfl, ?_, ?_, ?_⟩⟩
  ·simp [Instr.mapUpdate, run_underlying ht, MapKept.run_getObj_map hm, K.check, h1, MapKept.run_setObj_map _ hm, Result.andThen, putObj]
  ·intro y hy
   simp only [Array.toList_push, List.mem_append, List.mem_singleton] at hy
   rcases hy with hy | rfl
   ·exact hk y hy
   ·exact ⟨d, rfl⟩
  ·simp only [Array.toList_push, List.map_append, List.map_cons, List.map_nil]
   refine List.nodup_append.2 ⟨hn, by simp, fun a ha b hb => ?_⟩
   simp only [List.mem_singleton] at hb
   subst hb
   obtain ⟨y, hy, rfl⟩ := List.mem_map.1 ha
   exact h2 y hy
  ·intro x u
   simp only [Array.toList_push, List.mem_append, List.mem_singleton]
   by_cases hx : x = d
   ·subst hx
    simp only [if_true, Option.some.injEq]
    constructor
    ·rintro rfl
     exact ⟨_, .inr rfl, rfl, rfl⟩
    ·rintro ⟨y, hy | rfl, h5, h6⟩
     ·exact absurd h5 (h2 y hy)
     ·exact h6
   ·simp only [if_neg hx, hM]
    constructor
    ·rintro ⟨y, hy, h5⟩
     exact ⟨y, .inl hy, h5⟩
    ·rintro ⟨y, hy | rfl, h5, h6⟩
     ·exact ⟨y, hy, h5, h6⟩
     ·exact absurd (K.inj _ _ h5).symm hx
 ·have hj : es[j]? = some x := by simpa using h2
  obtain ⟨a, b, hab, rfl⟩ := split_at h2
  have hl : (es.modify a.length (fun e' => { e' with key := kv d, val := v })).toList = a ++ { x with key := kv d, val := v } :: b := by
   rw [Array.toList_modify, hab, modify_mid]
  refine ⟨.map (es.modify a.length (fun e' => { e' with key := kv d, val := v })) clock, ?_, ⟨_, _, rfl, ?_, ?_, ?_⟩⟩
  ·simp [Instr.mapUpdate, run_underlying ht, MapKept.run_getObj_map hm, K.check, h1, hj, h3, K.stays, MapKept.run_setObj_map _ hm, Result.andThen, putObj]
  ·rw [hl]
   intro y hy
   simp only [List.mem_append, List.mem_cons] at hy
   rcases hy with hy | rfl | hy
   ·exact hk y (by rw [hab]; simp [hy])
   ·exact ⟨d, rfl⟩
   ·exact hk y (by rw [hab]; simp [hy])
  ·rw [hl]
   rw [hab] at hn
   simpa [h3] using hn
  ·rw [hl]
   rw [hab] at hn hM
   intro y u
   have hp := (List.perm_middle (l₁ := a.map (·.key)) (l₂ := b.map (·.key)) (a := x.key)).nodup_iff.1 (by simpa using hn)
   have hno : ∀ z, z ∈ a ∨ z ∈ b → z.key ≠ x.key := fun z hz e => (List.nodup_cons.1 hp).1 (by rw [← e, ← List.map_append]; exact List.mem_map.2 ⟨z, by simpa using hz, rfl⟩)
   simp only [List.mem_append, List.mem_cons] at hM ⊢
   by_cases hx : y = d
   ·subst hx
    simp only [if_true, Option.some.injEq]
    constructor
    ·rintro rfl
     exact ⟨_, .inr (.inl rfl), rfl, rfl⟩
    ·rintro ⟨z, hz | rfl | hz, h5, h6⟩
     ·exact absurd (h5.trans h3.symm) (hno z (.inl hz))
     ·exact h6
     ·exact absurd (h5.trans h3.symm) (hno z (.inr hz))
   ·simp only [if_neg hx, hM]
    constructor
    ·rintro ⟨z, hz | rfl | hz, h5, h6⟩
     ·exact ⟨z, .inl hz, h5, h6⟩
     ·exact absurd (K.inj _ _ (h5.symm.trans h3)) hx
     ·exact ⟨z, .inr (.inr hz), h5, h6⟩
    ·rintro ⟨z, hz | rfl | hz, h5, h6⟩
     ·exact ⟨z, .inl hz, h5, h6⟩
     ·exact absurd (K.inj _ _ h5).symm hx
     ·exact ⟨z, .inr (.inr hz), h5, h6⟩
theorem MapIs.del [DecidableEq κ] (h : MapIs kv M o) (K : KeyOk kt kv) (hm : w.heap[r]? = some o) (ht : Tryz.prog.underlying t = some (.map kt e)) (d : κ) (ty : TypeId) :
  ∃ o', (Builtin.delete_ #[t, kt] ty #[.map (some r), kv d]).run Tryz.prog w = .ok (.tuple #[]) (putObj w r o') ∧ MapIs kv (fun x => if x = d then none else M x) o' := by
 obtain ⟨es, clock, rfl, hk, hn, hM⟩ := h
 rcases K.find w d es.toList hk with ⟨h1, h2⟩ | ⟨j, x, h1, h2, h3⟩
 ·refine ⟨.map es clock, ?_, ⟨_, _, rfl, hk, hn, fun x u => ?_⟩⟩
  ·simp [Builtin.delete_, run_underlying ht, MapKept.run_getObj_map hm, K.check, h1, MapKept.run_setObj_map _ hm, Result.andThen, putObj]
  ·by_cases hx : x = d
   ·subst hx
    simp only [if_true, reduceCtorEq, false_iff]
    rintro ⟨y, hy, h5, _⟩
    exact h2 y hy h5
   ·simp only [if_neg hx, hM]
 ·obtain ⟨a, b, hab, rfl⟩ := split_at h2
  have hjs : a.length < es.size := by
   rw [← Array.length_toList, hab]; simp
  have hl : (es.eraseIdxIfInBounds a.length).toList = a ++ b := by
   unfold Array.eraseIdxIfInBounds
   rw [dif_pos hjs, Array.toList_eraseIdx, hab, erase_mid]
  refine ⟨.map (es.eraseIdxIfInBounds a.length) clock, ?_, ⟨_, _, rfl, ?_, ?_, ?_⟩⟩
  ·simp [Builtin.delete_, run_underlying ht, MapKept.run_getObj_map hm, K.check, h1, MapKept.run_setObj_map _ hm, Result.andThen, putObj]
  ·rw [hl]
   intro y hy
   exact hk y (by rw [hab]; simp only [List.mem_append, List.mem_cons] at hy ⊢; rcases hy with hy | hy <;> simp [hy])
  ·rw [hl]
   rw [hab] at hn
   have hp := (List.perm_middle (l₁ := a.map (·.key)) (l₂ := b.map (·.key)) (a := x.key)).nodup_iff.1 (by simpa using hn)
   simpa using (List.nodup_cons.1 hp).2
  ·rw [hl]
   rw [hab] at hn hM
   intro y u
   have hp := (List.perm_middle (l₁ := a.map (·.key)) (l₂ := b.map (·.key)) (a := x.key)).nodup_iff.1 (by simpa using hn)
   have hno : ∀ z, z ∈ a ∨ z ∈ b → z.key ≠ x.key := fun z hz e => (List.nodup_cons.1 hp).1 (by rw [← e, ← List.map_append]; exact List.mem_map.2 ⟨z, by simpa using hz, rfl⟩)
   simp only [List.mem_append, List.mem_cons] at hM ⊢
   by_cases hx : y = d
   ·subst hx
    simp only [if_true, reduceCtorEq, false_iff]
    rintro ⟨z, hz, h5, h6⟩
    exact hno z hz (h5.trans h3.symm)
   ·simp only [if_neg hx, hM]
    constructor
    ·rintro ⟨z, hz | rfl | hz, h5, h6⟩
     ·exact ⟨z, .inl hz, h5, h6⟩
     ·exact absurd (K.inj _ _ (h5.symm.trans h3)) hx
     ·exact ⟨z, .inr hz, h5, h6⟩
    ·rintro ⟨z, hz | hz, h5, h6⟩
     ·exact ⟨z, .inl hz, h5, h6⟩
     ·exact ⟨z, .inr (.inr hz), h5, h6⟩
end
def setE (l : List (List UInt8)) : List MapEntry := l.zipIdx.map fun x => ⟨strv x.1, .bool true, x.2⟩
def setO (l : List (List UInt8)) : Obj := .map (setE l).toArray l.length
theorem setE_mem {l : List (List UInt8)} {e : MapEntry} (h : e ∈ setE l) : ∃ p ∈ l, e.key = strv p ∧ e.val = .bool true := by
 obtain ⟨⟨p, i⟩, hx, rfl⟩ := List.mem_map.1 h
 exact ⟨p, (List.mem_zipIdx' hx).2 ▸ List.getElem_mem _, rfl, rfl⟩
theorem mem_setE {l : List (List UInt8)} {p : List UInt8} (h : p ∈ l) : ∃ e ∈ setE l, e.key = strv p := by
 obtain ⟨i, hi, rfl⟩ := List.getElem_of_mem h
 exact ⟨_, List.mem_map.2 ⟨(l[i], i), List.mk_mem_zipIdx_iff_getElem?.2 (by simp [hi]), rfl⟩, rfl⟩
theorem set_look {w : World} {r : Nat} {l : List (List UInt8)} (hm : w.heap[r]? = some (setO l)) (p : List UInt8) (b : Bool) (hb : decide (p ∈ l) = b) :
  (Instr.lookup 195 (.map (some r)) (.string (bs p)) false).run Tryz.prog w = .ok (.bool b) w := by
 have ht : Tryz.prog.underlying 195 = some (.map 9 4) := by kernel_rfl
 have hz : (zeroValue 4).run Tryz.prog w = .ok (.bool false) w := rfl
 unfold setO at hm
 have hk : ∀ e ∈ setE l, ∃ x, e.key = strv x := fun e he => by obtain ⟨q, _, h, _⟩ := setE_mem he; exact ⟨q, h⟩
 have hc : ∀ em, (Instr.checkKey em 10000 9 (.string (bs p))).run Tryz.prog w = .ok () w := fun em => keyStr.check w em p
 rcases keyStr.find w p (setE l) hk with ⟨h1, h2⟩ | ⟨j, x, h1, h2, h3⟩
 ·have : p ∉ l := fun hp => by obtain ⟨e, he, h⟩ := mem_setE hp; exact h2 e he h
  rw [decide_eq_false this] at hb
  subst hb
  unfold strv at h1
  simp [Instr.lookup, run_underlying ht, MapKept.run_getObj_map hm, hc, h1, hz, Result.andThen]
 ·obtain ⟨q, hq, hq1, hq2⟩ := setE_mem (List.mem_of_getElem? h2)
  have : p = q := keyStr.inj _ _ (h3.symm.trans hq1)
  subst this
  rw [decide_eq_true hq] at hb
  subst hb
  unfold strv at h1
  simp [Instr.lookup, run_underlying ht, MapKept.run_getObj_map hm, hc, h1, hq2, Result.andThen]
theorem set_add {w : World} {r : Nat} {l : List (List UInt8)} (hm : w.heap[r]? = some (setO l)) (p : List UInt8) (hb : p ∉ l) :
  ∃ W, (Instr.mapUpdate 195 (.map (some r)) (.string (bs p)) (.bool true)).run Tryz.prog w = .ok () W ∧ Turned r w W ∧ W.heap[r]? = some (setO (l ++ [p])) := by
 have ht : Tryz.prog.underlying 195 = some (.map 9 4) := by kernel_rfl
 have hr : r < w.heap.size := (Array.getElem?_eq_some_iff.1 hm).1
 unfold setO at hm
 have hk : ∀ e ∈ setE l, ∃ x, e.key = strv x := fun e he => by obtain ⟨q, _, h, _⟩ := setE_mem he; exact ⟨q, h⟩
 have hc := keyStr.check w false p
 unfold strv at hc
 have h1 : (Instr.findKey 9 (.string (bs p)) (setE l)).run Tryz.prog w = .ok none w := by
  rcases keyStr.find w p (setE l) hk with ⟨h1, h2⟩ | ⟨j, x, h1, h2, h3⟩
  ·exact h1
  ·obtain ⟨q, hq, hq1, hq2⟩ := setE_mem (List.mem_of_getElem? h2)
   exact absurd (keyStr.inj _ _ (h3.symm.trans hq1) ▸ hq) hb
 refine ⟨putObj w r (setO (l ++ [p])), ?_, putObj_turned hr _, putObj_at hr _⟩
 have he : setO (l ++ [p]) = .map ((setE l).toArray.push ⟨.string (bs p), .bool true, l.length⟩) (l.length + 1) := by
  simp [setO, setE, List.zipIdx_append, strv]
 rw [he]
 simp [Instr.mapUpdate, run_underlying ht, MapKept.run_getObj_map hm, hc, h1, MapKept.run_setObj_map _ hm, Result.andThen, putObj]
end Go.Proofs.YtlbipokkdiiaiaaGreatDoor
namespace Go.Proofs.YtlbipokkdiiaiaaGreatDoor
open Go.RowKit Go.Proofs.YtlbipokkdiiaiaaGreatDoor.Exec
set_option maxRecDepth 100000
noncomputable def zeroOk (ty n : Nat) : Bool := match Tryz.prog.info? ty with | some i => (match i.zero with | some (.agg z) => z.size == n | _ => false) | none => false
theorem zeroOk_out {ty n : Nat} (h : zeroOk ty n = true) : ∃ zs : Array Value, zs.size = n ∧ ∀ w, (zeroValue ty).run Tryz.prog w = .ok (.agg zs) w := by
 unfold zeroOk at h
 split at h
 ·rename_i i hi
  split at h
  ·rename_i z hz
   exact ⟨z, by simpa using h, fun w => by simp [zeroValue, typeInfo, hi, hz]⟩
  ·cases h
 ·cases h
theorem run_alloc_row {ty : TypeId} {zs : Array Value} (w : World) (hz : ∀ w, (zeroValue ty).run Tryz.prog w = .ok (.agg zs) w) :
  (Instr.alloc ty true (.tuple #[])).run Tryz.prog w = .ok (.pointer (some ⟨w.heap.size, 0, none⟩)) (w.alloc (.cells zs ty)) := by
 unfold Instr.alloc
 rw [Sem.run_bind, hz w]
 rfl
section
variable {ops : Array Oper} {rest : List Oper} {o o2 : Oper} {a : Act} {w : World} {Q : Exit → Act → World → Prop}
theorem wl_skip {w' : World} (hr : (execOp a.eval o).run Tryz.prog w = .ok .skip w') (h : wpList Tryz.prog ops Q rest (a.put o.dst undef) w') (hw : Region.wanted o (yielded ops a.tmps) = true := by rfl) : wpList Tryz.prog ops Q (o :: rest) a w := by
 refine wpList_step fun K hK => ?_
 rw [if_pos hw]
 unfold Oper.wp
 rw [hr]
 exact hK _ _ h
theorem wl_new {ty n : Nat} {xs : Array Value} {x y : Operand} (rt : RowTy ty n) (hs : xs.size = n) (h1 : ∀ u ∈ xs.toList, u.oneCell' = true)
  (h : ∀ W1, Below w.heap.size w W1 → W1.heap[w.heap.size]? = some (.cells xs ty (0, 0)) → W1.heap.size = w.heap.size + 1 → wpList Tryz.prog ops Q rest ((a.put o.dst (.pointer (some ⟨w.heap.size, 0, none⟩))).put o2.dst undef) W1)
  (ho : o.op = .alloc ty := by rfl) (ho2 : o2.op = .store ty x y := by rfl) (hx : (a.put o.dst (.pointer (some ⟨w.heap.size, 0, none⟩))).eval x = .pointer (some ⟨w.heap.size, 0, none⟩) := by rfl) (hy : (a.put o.dst (.pointer (some ⟨w.heap.size, 0, none⟩))).eval y = .agg xs := by rfl)
  (hw : Region.wanted o (yielded ops a.tmps) = true := by rfl) (hw2 : Region.wanted o2 (yielded ops (a.put o.dst (.pointer (some ⟨w.heap.size, 0, none⟩))).tmps) = true := by rfl) (hz : zeroOk ty n = true := by kernel_rfl) :
  wpList Tryz.prog ops Q (o :: o2 :: rest) a w := by
 obtain ⟨zs, hzs, hz⟩ := zeroOk_out hz
 obtain ⟨d, _, _, h3⟩ := rt.out
 refine wl_run (v := .pointer (some ⟨w.heap.size, 0, none⟩)) (w' := w.alloc (.cells zs ty)) ?_ ?_ hw
 ·unfold execOp
  simp only [ho, Sem.run_bind, run_alloc_row w hz, Result.andThen_ok, Sem.run_pure]
 ·refine wl_skip (w' := w.alloc (.cells xs ty)) ?_ (h _ (below_new w _) (heap_alloc_new w _) (by rw [World.size_alloc])) hw2
  have hst := run_storeAt_new (P := Tryz.prog) w ty zs xs (by rw [h3, hs]) (by rw [hzs, hs]) (by rw [← Array.toArray_toList (xs := xs)]; exact all_oneCell_toArray h1)
  unfold execOp
  simp only [ho2, hx, hy, Sem.run_bind, hst, Result.andThen_ok, Sem.run_pure]
theorem wl_box {ty n : Nat} {xs : Array Value} {x : Operand} (_ : RowTy ty n)
  (h : ∀ W1, Below w.heap.size w W1 → W1.heap[w.heap.size]? = some (.cells xs ty (0, 0)) → W1.heap.size = w.heap.size + 1 → wpList Tryz.prog ops Q rest (a.put o.dst (.pointer (some ⟨w.heap.size, 0, none⟩))) W1)
  (ho : o.op = .box ty x := by rfl) (hx : a.eval x = .agg xs := by rfl) (hw : Region.wanted o (yielded ops a.tmps) = true := by rfl) :
  wpList Tryz.prog ops Q (o :: rest) a w := by
 refine wl_run (v := .pointer (some ⟨w.heap.size, 0, none⟩)) (w' := w.alloc (.cells xs ty)) ?_ (h _ (below_new w _) (heap_alloc_new w _) (by rw [World.size_alloc])) hw
 unfold execOp
 simp only [ho, hx]
 rfl
theorem wl_alloc {ty : Nat} {zs : Array Value} (hz : (Tryz.prog.info? ty).map (·.zero) = some (some (.agg zs)))
  (h : ∀ W1, Below w.heap.size w W1 → W1.heap[w.heap.size]? = some (.cells zs ty (0, 0)) → W1.heap.size = w.heap.size + 1 → wpList Tryz.prog ops Q rest (a.put o.dst (.pointer (some ⟨w.heap.size, 0, none⟩))) W1)
  (ho : o.op = .alloc ty := by rfl) (hw : Region.wanted o (yielded ops a.tmps) = true := by rfl) :
  wpList Tryz.prog ops Q (o :: rest) a w := by
 have hz' : ∀ w, (zeroValue ty).run Tryz.prog w = .ok (.agg zs) w := fun w => by
  cases hi : Tryz.prog.info? ty with
  | none => rw [hi] at hz; cases hz
  | some i => rw [hi] at hz; simp only [Option.map_some, Option.some.injEq] at hz; simp [zeroValue, typeInfo, hi, hz]
 refine wl_run (v := .pointer (some ⟨w.heap.size, 0, none⟩)) (w' := w.alloc (.cells zs ty)) ?_ (h _ (below_new w _) (heap_alloc_new w _) (by rw [World.size_alloc])) hw
 unfold execOp
 simp only [ho, Sem.run_bind, run_alloc_row w hz', Result.andThen_ok, Sem.run_pure]
theorem wl_al {ty n : Nat} (_ : RowTy ty n)
  (h : ∀ (zs : Array Value) (W1 : World), zs.size = n → Below w.heap.size w W1 → W1.heap[w.heap.size]? = some (.cells zs ty (0, 0)) → W1.heap.size = w.heap.size + 1 → wpList Tryz.prog ops Q rest (a.put o.dst (.pointer (some ⟨w.heap.size, 0, none⟩))) W1)
  (ho : o.op = .alloc ty := by rfl) (hw : Region.wanted o (yielded ops a.tmps) = true := by rfl) (hz : zeroOk ty n = true := by kernel_rfl) :
  wpList Tryz.prog ops Q (o :: rest) a w := by
 obtain ⟨zs, hzs, hz⟩ := zeroOk_out hz
 refine wl_run (v := .pointer (some ⟨w.heap.size, 0, none⟩)) (w' := w.alloc (.cells zs ty)) ?_ (h zs _ hzs (below_new w _) (heap_alloc_new w _) (by rw [World.size_alloc])) hw
 unfold execOp
 simp only [ho, Sem.run_bind, run_alloc_row w hz, Result.andThen_ok, Sem.run_pure]
theorem wl_st {ty n r : Nat} {xs old : Array Value} {x y : Operand} {t : TypeId} (rt : RowTy ty n) (hr : w.heap[r]? = some (.cells old t (0, 0))) (hold : old.size = n) (hs : xs.size = n) (h1 : ∀ u ∈ xs.toList, u.oneCell' = true)
  (h : ∀ W1, Turned r w W1 → W1.heap[r]? = some (.cells xs t (0, 0)) → W1.heap.size = w.heap.size → wpList Tryz.prog ops Q rest (a.put o.dst undef) W1)
  (ho : o.op = .store ty x y := by rfl) (hx : a.eval x = .pointer (some ⟨r, 0, none⟩) := by rfl) (hy : a.eval y = .agg xs := by rfl) (hw : Region.wanted o (yielded ops a.tmps) = true := by rfl) :
  wpList Tryz.prog ops Q (o :: rest) a w := by
 obtain ⟨d, _, _, h3⟩ := rt.out
 have hlt : r < w.heap.size := (Array.getElem?_eq_some_iff.1 hr).1
 have hst := run_storeVar_row (P := Tryz.prog) w r t ty old xs hr (by rw [h3, hs]) (by rw [hold, hs]) (by rw [← Array.toArray_toList (xs := xs)]; exact all_oneCell_toArray h1)
 refine wl_skip (w' := w.setRow r xs) ?_ (h _ ⟨hlt, rfl, rfl, rfl, by simp, fun k _ hne => setRow_other _ _ _ _ hne⟩ (setRow_heap _ _ _ _ _ _ hr) (by simp)) hw
 unfold execOp
 simp only [ho, hx, hy, Instr.storeAt, Instr.sureAddr, Sem.run_bind, Sem.run_pure, Result.andThen_ok, hst]
end
theorem RdL.parts {w : World} {b o : Nat} {r : RdL} (h : w.rangeAt b o r.cells) : w.cell? ⟨b, o, none⟩ = some (.string (bs r.path)) ∧ w.cell? ⟨b, o + 1, none⟩ = some (.bool r.is) ∧ w.rangeAt b (o + 2) (dgc r.sum) := by
 obtain ⟨h1, h2⟩ := range_cons h
 obtain ⟨h3, h4⟩ := range_cons h2
 exact ⟨h1, h3, h4⟩
theorem RdL.parts0 {w : World} {b : Nat} {r : RdL} {t : TypeId} {fr : Nat × Nat} (h : w.heap[b]? = some (.cells r.cells.toArray t fr)) : w.cell? ⟨b, 0, none⟩ = some (.string (bs r.path)) ∧ w.cell? ⟨b, 1, none⟩ = some (.bool r.is) ∧ w.rangeAt b 2 (dgc r.sum) := by
 simpa using RdL.parts (range_of_heap h)
theorem MdL.parts {w : World} {b o : Nat} {r : MdL} (h : w.rangeAt b o r.cells) : w.cell? ⟨b, o, none⟩ = some (.string (bs r.path)) ∧ w.rangeAt b (o + 1) (dgc r.sum) := range_cons h
theorem MdL.parts0 {w : World} {b : Nat} {r : MdL} {t : TypeId} {fr : Nat × Nat} (h : w.heap[b]? = some (.cells r.cells.toArray t fr)) : w.cell? ⟨b, 0, none⟩ = some (.string (bs r.path)) ∧ w.rangeAt b 1 (dgc r.sum) := by
 simpa using MdL.parts (range_of_heap h)
end Go.Proofs.YtlbipokkdiiaiaaGreatDoor
namespace Go.Proofs.YtlbipokkdiiaiaaGreatDoor
open Go.RowKit
def signN (c : Nat) : Bool := (97 ≤ c && c ≤ 122) || (65 ≤ c && c ≤ 90) || (48 ≤ c && c ≤ 57) || c == 95 || c == 46 || c == 45 || c == 43
theorem signN_small {c : Nat} (h : signN c = true) : c < 128 := by
 simp only [signN, Bool.or_eq_true, Bool.and_eq_true, decide_eq_true_eq, beq_iff_eq] at h
 omega
def partB (l : List UInt8) : Bool := !l.isEmpty && decide (l.length ≤ 64) && !(l == [46]) && !(l == [46, 46]) && l.all fun b => signN b.toNat
def consHead (c : UInt8) : List (List UInt8) → List (List UInt8)
 | [] => [[c]]
 | p :: ps => (c :: p) :: ps
def splitL : List UInt8 → List (List UInt8)
 | [] => [[]]
 | c :: r => if c = 47 then [] :: splitL r else consHead c (splitL r)
theorem splitL_ne (l : List UInt8) : splitL l ≠ [] := by
 cases l with
 | nil => simp [splitL]
 | cons c r =>
   unfold splitL
   split
   ·simp
   ·cases splitL r <;> simp [consHead]
def mayB (l : List UInt8) : Bool := decide ((splitL l).length ≤ 16) && (splitL l).all partB
theorem indexByte_ge (l : List UInt8) (c : UInt8) : -1 ≤ Lib.indexByte l c := by
 induction l with
 | nil => simp [Lib.indexByte]
 | cons b l ih =>
   unfold Lib.indexByte
   split
   ·omega
   ·split <;> omega
theorem split_none (l : List UInt8) (h : Lib.indexByte l 47 < 0) : splitL l = [l] := by
 induction l with
 | nil => rfl
 | cons b l ih =>
   have hg := indexByte_ge l 47
   unfold Lib.indexByte at h
   by_cases hb : (b == 47) = true
   ·rw [if_pos hb] at h; omega
   ·rw [if_neg hb] at h
    have hi : Lib.indexByte l 47 < 0 := by
     by_cases h1 : (Lib.indexByte l 47 == -1) = true
     ·have := eq_of_beq h1; omega
     ·rw [if_neg h1] at h; omega
    unfold splitL
    rw [if_neg (by intro e; rw [e] at hb; simp at hb), ih hi]; rfl
theorem split_some (l : List UInt8) : ∀ i : Nat, Lib.indexByte l 47 = i → splitL l = l.take i :: splitL (l.drop (i + 1)) ∧ i < l.length := by
 induction l with
 | nil => intro i h; simp [Lib.indexByte] at h
 | cons b l ih =>
   intro i h
   have hg := indexByte_ge l 47
   unfold Lib.indexByte at h
   by_cases hb : (b == 47) = true
   ·rw [if_pos hb] at h
    obtain rfl : i = 0 := by omega
    rw [eq_of_beq hb]
    refine ⟨?_, by simp⟩
    rw [splitL, if_pos rfl]; rfl
   ·rw [if_neg hb] at h
    by_cases h1 : (Lib.indexByte l 47 == -1) = true
    ·rw [if_pos h1] at h; omega
    ·rw [if_neg h1] at h
     obtain ⟨j, hj⟩ : ∃ j : Nat, Lib.indexByte l 47 = j := by
      have : Lib.indexByte l 47 ≠ -1 := fun e => h1 (by rw [e]; rfl)
      exact ⟨(Lib.indexByte l 47).toNat, by omega⟩
     obtain ⟨h2, h3⟩ := ih j hj
     obtain rfl : i = j + 1 := by omega
     refine ⟨?_, by simp; omega⟩
     rw [splitL, if_neg (by intro e; rw [e] at hb; simp at hb), h2]; rfl
theorem decode_small (s : ByteArray) (i : Nat) (h : (s.get! i).toNat < 128) : Utf8.decode s i = ((s.get! i).toNat, 1) := by
 unfold Utf8.decode; simp [h]
theorem decode_great (s : ByteArray) (i : Nat) (h : ¬ (s.get! i).toNat < 128) : 128 ≤ (Utf8.decode s i).1 := by
 unfold Utf8.decode
 simp only [Nat.add_zero]
 rw [if_neg h]
 split
 ·split
  ·simp; omega
  ·simp [Utf8.runeError]
 ·split
  ·split
   ·rename_i _ hc; simp at hc ⊢; omega
   ·simp [Utf8.runeError]
  ·split
   ·split
    ·rename_i _ hc; simp at hc ⊢; omega
    ·simp [Utf8.runeError]
   ·simp [Utf8.runeError]
theorem bs_get! (l : List UInt8) (k : Nat) (h : k < l.length) : (bs l).get! k = l[k] := by
 show (bs l).data[k]! = l[k]
 simp [bs, h]
theorem idx_sign (f : Nat) : ∀ (l : List UInt8) (pos : Nat), l.length ≤ pos + f → (0 ≤ Lib.idxFuncFrom (fun x => !signN x) true (bs l) f pos ↔ (l.drop pos).all (fun b => signN b.toNat) = false) := by
 induction f with
 | zero =>
   intro l pos h
   rw [List.drop_eq_nil_of_le (by omega)]
   simp [Lib.idxFuncFrom]
 | succ f ih =>
   intro l pos h
   unfold Lib.idxFuncFrom
   by_cases hp : pos < l.length
   ·rw [if_pos (id hp : pos < (bs l).size), drop_at l pos hp, List.all_cons]
    have hg := bs_get! l pos hp
    by_cases hs : l[pos].toNat < 128
    ·rw [decode_small _ _ (by rw [hg]; exact hs), hg]
     by_cases hsg : signN l[pos].toNat = true
     ·rw [if_neg (by show ¬ (!signN l[pos].toNat) = true; rw [hsg]; simp), hsg, Bool.true_and]
      exact ih l (pos + 1) (by omega)
     ·rw [Bool.not_eq_true] at hsg
      rw [if_pos (by rw [hsg]; rfl), hsg]
      simp
    ·have hd := decode_great (bs l) pos (by rw [hg]; exact hs)
     have h1 : signN (Utf8.decode (bs l) pos).1 = false := by
      rw [← Bool.not_eq_true]; intro e; have := signN_small e; omega
     have h2 : signN l[pos].toNat = false := by
      rw [← Bool.not_eq_true]; intro e; have := signN_small e; omega
     rw [if_pos (by rw [h1]; rfl), h2]
     simp
   ·rw [if_neg (id hp : ¬ pos < (bs l).size), List.drop_eq_nil_of_le (by omega)]; simp
theorem contains_sign (l : List UInt8) : decide (0 ≤ Lib.idxFunc (fun x => !signN x) true (bs l)) = !(l.all fun b => signN b.toNat) := by
 have h := idx_sign l.length l 0 (by omega)
 rw [List.drop_zero] at h
 unfold Lib.idxFunc
 rw [show (bs l).size = l.length from rfl]
 by_cases hb : (l.all fun b => signN b.toNat) = false
 ·rw [hb, decide_eq_true (h.2 hb)]; rfl
 ·rw [Bool.not_eq_false] at hb
  rw [hb, decide_eq_false (fun h' => by have := h.1 h'; rw [hb] at this; cases this)]; rfl
end Go.Proofs.YtlbipokkdiiaiaaGreatDoor
namespace Go.Proofs.YtlbipokkdiiaiaaGreatDoor
open Go.RowKit
abbrev FileL := List UInt8 × List UInt8
def fileCells (fs : List FileL) : List Value := fs.flatMap fun f => [.string (bs f.1), .string (bs f.2)]
theorem fileCells_len (fs : List FileL) : (fileCells fs).length = fs.length * 2 := by
 induction fs with
 | nil => rfl
 | cons f fs ih => simp [fileCells] at ih ⊢; omega
theorem fileCells_get (fs : List FileL) : ∀ k (h : k < fs.length), (fileCells fs)[k * 2]? = some (.string (bs fs[k].1)) ∧ (fileCells fs)[k * 2 + 1]? = some (.string (bs fs[k].2)) := by
 induction fs with
 | nil => intro k h; simp at h
 | cons f fs ih =>
   intro k h
   have e : fileCells (f :: fs) = .string (bs f.1) :: .string (bs f.2) :: fileCells fs := rfl
   cases k with
   | zero => rw [e]; exact ⟨rfl, rfl⟩
   | succ k =>
     have := ih k (by simpa using h)
     rw [e, show (k + 1) * 2 = k * 2 + 1 + 1 by omega]
     simpa using this
theorem SliceAt.files {w : World} {v : Value} {n : Nat} {fs : List FileL} (h : SliceAt w 2 v n (fileCells fs)) : n = fs.length ∧ ∃ a c, v = .slice a fs.length c ∧ fs.length ≤ c ∧ c ≤ maxLen ∧
  (∀ k, k < fs.length → ∃ b off, a = some ⟨b, off, none⟩ ∧ b < w.heap.size ∧ ∀ j (hj : j < fs.length), w.cell? ⟨b, off + j * 2, none⟩ = some (.string (bs fs[j].1)) ∧ w.cell? ⟨b, off + j * 2 + 1, none⟩ = some (.string (bs fs[j].2))) := by
 obtain ⟨hl, a, c, rfl, hc, hm, -, hx⟩ := h
 have hn : n = fs.length := by rw [fileCells_len] at hl; omega
 subst hn
 refine ⟨rfl, a, c, rfl, hc, hm, fun k hk => ?_⟩
 obtain ⟨b, off, rfl, hlt, hcell⟩ := hx (by intro e; have := fileCells_len fs; rw [e] at this; simp at this; omega)
 refine ⟨b, off, rfl, hlt, fun j hj => ?_⟩
 have hg := fileCells_get fs j hj
 exact ⟨hcell _ _ hg.1, by rw [Nat.add_assoc]; exact hcell _ _ hg.2⟩
def underB (s dir : List UInt8) : Bool := mayB s && (dir.isEmpty || (mayB dir && Lib.hasPrefix s (dir ++ [47])))
end Go.Proofs.YtlbipokkdiiaiaaGreatDoor
