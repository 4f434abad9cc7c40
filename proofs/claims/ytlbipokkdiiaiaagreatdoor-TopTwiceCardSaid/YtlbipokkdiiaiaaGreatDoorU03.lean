/- Lemmas for TopTwice: ExecOps3, ExecOps4, ExecOps5, ExecOps6, ExecOps7. -/
import Derived.Test.YtlbipokkdiiaiaaGreatDoorU02
import Derived.Laws.BitsLemmas
namespace Go.Proofs.YtlbipokkdiiaiaaGreatDoor.Exec
variable {P : Program} {m : Bij}
theorem rel_panic {α β : Type} {R : Bij → α → β → Prop} (e : RuntimeError) (he : ∀ i c a s, e ≠ .typeAssertion i c a s) (hp : e ≠ .panicNil) (s : Sem β) : SRel P R m (runtimePanic e) s := by
 refine .dead fun h => ?_
 cases e <;> first | rfl | exact absurd rfl (he _ _ _ _) | exact absurd rfl hp
theorem rel_bounds {α β : Type} {R : Bij → α → β → Prop} (k : IntKind) (x y : Int) (c : BoundsCode) (s : Sem β) : SRel P R m (boundsPanic k x y c) s := by
 refine .dead fun h => ?_
 unfold boundsPanic
 split <;> rfl
theorem rel_fieldAt (s : TypeId) (f : Nat) (hf : fieldOk P s f = true) {v v' : Value} (h : VRel m v v') : SRel P VRel m (Instr.fieldAt s v f) (Instr.fieldAt s v' f) := by
 unfold Instr.fieldAt
 refine rel_under_bind s fun d hd => ?_
 unfold fieldOk at hf
 rw [hd] at hf
 cases d with
 | struct fields =>
   simp only at hf ⊢
   cases hff : fields[f]? with
   | none => exact .halt
   | some fl =>
     rw [hff] at hf
     simp only at hf ⊢
     refine rel_sure_bind h fun a a' ha => ?_
     unfold fieldPlace
     rw [sem_assoc, sem_assoc]
     refine rel_size_bind fl.type fun i hi => ?_
     rw [hi] at hf
     have : ¬ i.size = 0 := by simpa using hf
     rw [if_neg this, if_neg this]
     exact .pure (.pointer (.some (ha.add _)))
 | _ => exact .halt
theorem rel_field (s : TypeId) (f : Nat) {v v' : Value} (h : VRel m v v') : SRel P VRel m (Instr.field s v f) (Instr.field s v' f) := by
 unfold Instr.field
 refine rel_under_bind s fun d hd => ?_
 cases d with
 | struct fields =>
   simp only
   cases hff : fields[f]? with
   | none => exact .halt
   | some fl => exact rel_aggOf_bind h fun a a' ha => rel_part _ ha _
 | _ => exact .halt
def elemAt (t : TypeId) (k : IntKind) (n : Int) (b : Option Addr) (len : Nat) (elem : TypeId) : Sem Value := do
 let tiny := len ≤ 1 && (match ← underlying t with | .array .. => true | _ => false)
 match b with
 | some a =>
   if 0 ≤ n ∧ n < len then pure (.pointer (some (a.add (n.toNat * (← sizeOf elem)))))
   else if tiny then unsupported (.noEntry "op/indexAddr.an index out of range at an array of length 0 or 1 (ledger 616)")
   else boundsPanic k n len .index
 | none => boundsPanic k n 0 .index
theorem rel_elemAt (t : TypeId) (k : IntKind) (n : Int) {b b' : Option Addr} (hb : OptRel (ARel m) b b') (len : Nat) (elem : TypeId) : SRel P VRel m (elemAt t k n b len elem) (elemAt t k n b' len elem) := by
 refine rel_under_bind t fun d _ => ?_
 cases hb with
 | none => exact rel_bounds _ _ _ _ _
 | some ha =>
   simp only
   split
   ·exact rel_size_bind elem fun i _ => .pure (.pointer (.some (ha.add _)))
   ·repeat' split
    all_goals first | exact .halt | exact rel_bounds _ _ _ _ _
theorem rel_indexAt (t : TypeId) {v v' x x' : Value} (h : VRel m v v') (hx : VRel m x x') : SRel P VRel m (Instr.indexAt t v x) (Instr.indexAt t v' x') := by
 unfold Instr.indexAt
 refine rel_intOf_bind hx fun k n _ _ => ?_
 simp only
 refine rel_under_bind t fun d hd => ?_
 cases d with
 | array len elem =>
   cases h <;> first
    | exact .halt
    | (rename_i hp; cases hp <;> first | exact .halt | (rename_i ha; exact rel_elemAt t k n (.some ha) len elem))
 | slice elem =>
   cases h with
   | slice l c _ ha => exact rel_elemAt t k n ha l elem
   | sliceU l c e hb _ _ _ => exact rel_elemAt t k n (.some (.mk hb)) l elem
   | _ => exact .halt
 | _ => exact .halt
theorem rel_index (t : TypeId) {v v' x x' : Value} (h : VRel m v v') (hx : VRel m x x') : SRel P VRel m (Instr.index t v x) (Instr.index t v' x') := by
 unfold Instr.index
 refine rel_intOf_bind hx fun k n _ _ => ?_
 simp only
 refine rel_under_bind t fun d hd => ?_
 cases d with
 | array len elem =>
   cases h with
   | agg hs hc =>
     simp only
     split
     ·exact rel_size_bind elem fun i _ => rel_part _ ⟨hs, hc⟩ _
     ·exact rel_bounds _ _ _ _ _
   | _ => exact .halt
 | string =>
   cases h with
   | string s =>
     simp only
     split
     ·exact .pure (.int _ _)
     ·exact rel_bounds _ _ _ _ _
   | _ => exact .halt
 | _ => exact .halt
theorem rel_bound {v v' : Value} (h : VRel m v v') (y : Nat) (c : BoundsCode) : SRel P (fun _ a b => a = b ∧ a ≤ y) m (Instr.sliceBound v y c) (Instr.sliceBound v' y c) := by
 unfold Instr.sliceBound
 refine rel_intOf_bind h fun k n _ _ => ?_
 simp only
 split
 ·exact .pure ⟨rfl, by omega⟩
 ·exact rel_bounds _ _ _ _ _
theorem OptRel.vmono {m' : Bij} (h : m ≤ m') {x x' : Option Value} (k : OptRel (VRel m) x x') : OptRel (VRel m') x x' := k.mono fun _ _ => VRel.mono h
def lowOf (l : Option Value) (h mm : Nat) (cd : BoundsCode) : Sem (Nat × Nat × Nat) :=
 match l with
 | some v => do
   let l ← Instr.sliceBound v h cd
   pure (l, h, mm)
 | none => pure (0, h, mm)
theorem rel_lowOf {cap : Nat} {l l' : Option Value} (hh : Nat) {mm : Nat} (hm : mm ≤ cap) (hl : OptRel (VRel m) l l') (cd : BoundsCode) : SRel P (fun _ a b => a = b ∧ a.2.2 ≤ cap) m (lowOf l hh mm cd) (lowOf l' hh mm cd) := by
 cases hl with
 | none => exact .pure ⟨rfl, hm⟩
 | some k => exact (rel_bound k _ _).bind fun _ _ _ _ e => by obtain ⟨rfl, _⟩ := e; exact .pure ⟨rfl, hm⟩
theorem rel_sliceBounds (s : Bool) (len cap : Nat) {l l' h h' x x' : Option Value} (hl : OptRel (VRel m) l l') (hh : OptRel (VRel m) h h') (hx : OptRel (VRel m) x x') :
  SRel P (fun _ a b => a = b ∧ a.2.2 ≤ cap) m (Instr.sliceBounds s len cap l h x) (Instr.sliceBounds s len cap l' h' x') := by
 have fin := fun {m : Bij} (hh mm : Nat) (hm : mm ≤ cap) (hl : OptRel (VRel m) l l') (cd : BoundsCode) => rel_lowOf (P := P) hh hm hl cd
 unfold Instr.sliceBounds
 cases hx with
 | none => cases hh with
   | none => exact fin len cap (Nat.le_refl _) hl _
   | some k =>
     simp only [sem_pure]
     exact (rel_bound k _ _).bind fun _ a b h1 e => by obtain ⟨rfl, _⟩ := e; exact fin a cap (Nat.le_refl _) (hl.vmono h1) _
 | some q => cases hh with
   | none => exact (rel_bound q _ _).bind fun _ a b h1 e => .dead fun h => rfl
   | some k =>
     exact (rel_bound q _ _).bind fun _ a b h1 e => by
      obtain ⟨rfl, ha⟩ := e
      exact (rel_bound (k.mono h1) _ _).bind fun _ c d h2 e => by obtain ⟨rfl, _⟩ := e; exact fin c a ha ((hl.vmono h1).vmono h2) _
theorem rel_unary (op : UnOp) {v v' : Value} (h : VRel m v v') (hv : (∃ k n, v = .int k n) ∨ ∃ b, v = .bool b) : SRel P VRel m (Op.unary op v) (Op.unary op v') := by
 rcases hv with ⟨k, n, rfl⟩ | ⟨b, rfl⟩ <;> cases h <;> cases op <;> simp only [Op.unary, Op.intArith, Op.intBits] <;> first | exact .halt | exact .pure (.int _ _) | exact .pure (.bool _)
theorem rel_binInt (op : BinOp) (t : TypeId) (k k' : IntKind) (a b : Int) : SRel P VRel m (binOp op t (.int k a) (.int k' b)) (binOp op t (.int k a) (.int k' b)) := by
 cases op <;> simp only [binOp, Op.shift, Op.intArith, Op.intDiv, Op.intBits, Op.intCmp] <;> (repeat' split) <;> first | exact .halt | exact .pure (.int _ _) | exact .pure (.bool _) | exact rel_panic _ (by simp) (by simp) _
theorem rel_binStr (op : BinOp) (t : TypeId) (a b : ByteArray) : SRel P VRel m (binOp op t (.string a) (.string b)) (binOp op t (.string a) (.string b)) := by
 cases op <;> simp only [binOp, Op.stringOp] <;> (repeat' split) <;> first | exact .halt | exact .pure (.string _) | exact .pure (.bool _)
theorem rel_slice (t : TypeId) {v v' : Value} (h : VRel m v v') (hv : (∃ s, v = .string s) ∨ ∃ a l c, v = .slice a l c ∧ c < BIG) {l l' u u' x x' : Option Value} (hl : OptRel (VRel m) l l') (hu : OptRel (VRel m) u u') (hx : OptRel (VRel m) x x') :
  SRel P VRel m (Instr.sliceAt t v l u x) (Instr.sliceAt t v' l' u' x') := by
 have hsl : SRel P VRel m (Instr.slice t v l u x) (Instr.slice t v' l' u' x') := by
  unfold Instr.slice
  refine rel_under_bind t fun d hd => ?_
  rcases hv with ⟨s, rfl⟩ | ⟨a, n, c, rfl, hc⟩
  ·cases h
   cases d with
   | string =>
     simp only
     cases hx with
     | none => exact (rel_sliceBounds false s.size s.size hl hu .none).bind fun _ a b _ e => by obtain ⟨rfl, _⟩ := e; exact .pure (.string _)
     | some _ => exact .halt
   | pointer e => exact .halt
   | _ => exact .halt
  ·cases h with
   | slice _ _ _ ha =>
     cases d with
     | slice elem =>
       simp only
       refine (rel_sliceBounds true n c hl hu hx).bind fun m1 a b h1 e => ?_
       obtain ⟨rfl, hle⟩ := e
       obtain ⟨lo, hi, mx⟩ := a
       refine rel_size_bind elem fun i _ => .pure (.slice _ _ (by simp only at hle ⊢; omega) ?_)
       split
       ·exact ha.mono fun _ _ => ARel.mono h1
       ·cases ha with
        | none => exact .none
        | some ha => exact .some ((ha.mono h1).add _)
     | pointer e => exact .halt
     | _ => exact .halt
   | sliceU l c e _ _ _ _ => exact absurd hc (by omega)
 unfold Instr.sliceAt
 refine rel_under_bind t fun d hd => ?_
 cases d with
 | array n e =>
   rcases hv with ⟨s, rfl⟩ | ⟨a, n, c, rfl, hc⟩ <;> exact .halt
 | _ => exact hsl
end Go.Proofs.YtlbipokkdiiaiaaGreatDoor.Exec
namespace Go.Proofs.YtlbipokkdiiaiaaGreatDoor.Exec
variable {P : Program} {m : Bij}
theorem RowRel.get! {c c' : Array Value} (h : RowRel m c c') (i : Nat) : VRel m c[i]! c'[i]! := by
 have := h.get i
 rw [getElem!_def, getElem!_def]
 cases hc : c[i]? <;> cases hc' : c'[i]? <;> rw [hc, hc'] at this <;> cases this
 ·exact .bool _
 ·assumption
theorem rel_repeat {c c' : Array Value} (h : RowRel m c c') (n : Nat) : RowRel m ((Array.range n).map (c[· % c.size]!)) ((Array.range n).map (c'[· % c'.size]!)) := by
 rw [← h.size]
 exact .map _ fun a _ => h.get! _
inductive PRel (m : Bij) : List (Nat × Value) → List (Nat × Value) → Prop
 | nil : PRel m [] []
 | cons (i : Nat) {v v' : Value} {l l' : List (Nat × Value)} : VRel m v v' → PRel m l l' → PRel m ((i, v) :: l) ((i, v') :: l')
theorem PRel.map {α : Type} {f g : α → Value} : ∀ (l : List (Nat × α)), (∀ a ∈ l, VRel m (f a.2) (g a.2)) → PRel m (l.map fun a => (a.1, f a.2)) (l.map fun a => (a.1, g a.2))
 | [], _ => .nil
 | a :: l, h => .cons a.1 (h a (by simp)) (PRel.map l fun b hb => h b (by simp [hb]))
theorem rel_puts (off : Nat) {l l' : List Value} (h : LRel m l l') : ∀ (k : Nat) {c c' : Array Value}, RowRel m c c' →
  RowRel m ((l.zipIdx k).foldl (fun cs x => cs.setIfInBounds (off + x.2) x.1) c) ((l'.zipIdx k).foldl (fun cs x => cs.setIfInBounds (off + x.2) x.1) c') := by
 induction h with
 | nil => intro k c c' hc; exact hc
 | cons hv _ ih => intro k c c' hc; simp only [List.zipIdx_cons, List.foldl_cons]; exact ih (k + 1) (hc.set hv _)
theorem rel_fill (place : Nat → Option (Nat × Nat)) {l l' : List (Nat × Value)} (h : PRel m l l') : ∀ {c c' : Array Value}, RowRel m c c' → OptRel (RowRel m) (Instr.fill place c l) (Instr.fill place c' l') := by
 induction h with
 | nil => intro c c' hc; exact .some hc
 | cons i hv _ ih =>
   intro c c' hc
   simp only [Instr.fill]
   cases place i with
   | none => exact .none
   | some p =>
     obtain ⟨off, size⟩ := p
     have hcs := RowRel.of_cells hv
     simp only
     rw [hcs.size, hc.size]
     split
     ·exact .none
     ·refine ih ?_
      have := rel_puts off hcs.toList 0 hc
      rw [← Array.foldl_toList, ← Array.foldl_toList, Array.toList_zipIdx, Array.toList_zipIdx]
      exact this
theorem rel_build (hz : Zeros P) (t : TypeId) {l l' : Array (Nat × Value)} (h : PRel m l.toList l'.toList) : SRel P VRel m (Instr.build t l) (Instr.build t l') := by
 unfold Instr.build
 refine rel_zero_bind t fun i z h1 h2 => ?_
 have hzr := RowRel.of_cells (hz t i z h1 h2 m)
 refine rel_under_bind t fun d hd => ?_
 have fin : ∀ place, SRel P VRel m
   (match Instr.fill place z.cells l.toList with | some cells => pure (.agg cells) | _ => stuck "build: no such field, or a part of the wrong size")
   (match Instr.fill place z.cells l'.toList with | some cells => pure (.agg cells) | _ => stuck "build: no such field, or a part of the wrong size") := by
  intro place
  have := rel_fill place h hzr
  cases ha : Instr.fill place z.cells l.toList <;> cases hb : Instr.fill place z.cells l'.toList <;> rw [ha, hb] at this <;> cases this
  ·exact .halt
  ·rename_i q; exact .pure (.agg q.size q.at_)
 have fin2 : ∀ place, SRel P VRel m
   (match Instr.fill place z.cells l.toList with | some cells => pure (.agg cells) | _ => stuck "build: a part of the wrong size")
   (match Instr.fill place z.cells l'.toList with | some cells => pure (.agg cells) | _ => stuck "build: a part of the wrong size") := by
  intro place
  have := rel_fill place h hzr
  cases ha : Instr.fill place z.cells l.toList <;> cases hb : Instr.fill place z.cells l'.toList <;> rw [ha, hb] at this <;> cases this
  ·exact .halt
  ·rename_i q; exact .pure (.agg q.size q.at_)
 cases d with
 | struct fields => exact rel_still_bind (Still.mapM (fun f => (Still.sizeOf f.type).bind fun _ => .pure _) fields) fun places => fin _
 | array n elem => exact rel_size_bind elem fun i _ => fin2 _
 | _ => exact .halt
theorem rel_buildSlice (hz : Zeros P) (t : TypeId) (n : Nat) (hn : n < BIG) {l l' : Array (Nat × Value)} (h : PRel m l.toList l'.toList) : SRel P VRel m (Instr.buildSlice t n l) (Instr.buildSlice t n l') := by
 unfold Instr.buildSlice
 refine rel_under_bind t fun d hd => ?_
 cases d with
 | slice elem =>
   refine rel_size_bind elem fun i _ => ?_
   simp only
   split
   ·exact .halt
   ·have fin : ∀ z : Array Value, RowRel m z z → SRel P VRel m
      (match Instr.fill (fun j => some (j * i.size, i.size)) ((Array.range (n * i.size)).map (z[· % z.size]!)) l.toList with | some cells => do pure (.slice (some (← newRow elem cells)) n n) | _ => stuck "buildSlice: a part of the wrong size")
      (match Instr.fill (fun j => some (j * i.size, i.size)) ((Array.range (n * i.size)).map (z[· % z.size]!)) l'.toList with | some cells => do pure (.slice (some (← newRow elem cells)) n n) | _ => stuck "buildSlice: a part of the wrong size") := by
     intro z hzz
     have := rel_fill (fun j => some (j * i.size, i.size)) h (rel_repeat hzz (n * i.size))
     cases ha : Instr.fill (fun j => some (j * i.size, i.size)) ((Array.range (n * i.size)).map (z[· % z.size]!)) l.toList <;> cases hb : Instr.fill (fun j => some (j * i.size, i.size)) ((Array.range (n * i.size)).map (z[· % z.size]!)) l'.toList <;> rw [ha, hb] at this <;> cases this
     ·exact .halt
     ·rename_i q; exact (rel_newRow elem q).bind fun _ _ _ _ k => .pure (.slice n n hn (.some k))
    split
    ·exact fin #[] .nil
    ·exact rel_zero_bind elem fun i2 z h1 h2 => fin z.cells (.of_cells (hz elem i2 z h1 h2 m))
 | _ => exact .halt
end Go.Proofs.YtlbipokkdiiaiaaGreatDoor.Exec
namespace Go.Proofs.YtlbipokkdiiaiaaGreatDoor.Exec
variable {P : Program} {m : Bij}
theorem wrap_big (n : Int) : (IntKind.i64.wrap n).toNat < BIG := by
 rw [IntKind.wrap_i64]
 unfold BIG
 omega
theorem rel_zeroRow (hz : Zeros P) (elem : TypeId) (n : Nat) {α β : Type} {R : Bij → α → β → Prop} {k : Array Value → Sem α} {k' : Array Value → Sem β} (h : ∀ z, RowRel m z z → SRel P R m (k z) (k' z)) :
  SRel P R m (if n = 0 then (do let z ← pure #[]; k z) else (do let z ← zeroValue elem; let z ← pure z.cells; k z)) (if n = 0 then (do let z ← pure #[]; k' z) else (do let z ← zeroValue elem; let z ← pure z.cells; k' z)) := by
 split
 ·exact h _ .nil
 ·exact rel_zero_bind elem fun i z h3 h4 => h _ (.of_cells (hz elem i z h3 h4 m))
theorem rel_ask {α β : Type} {R : Bij → α → β → Prop} (n : Nat) {k : Sem α} {k' : Sem β} (h : SRel P R m k k') : SRel P R m (do askRoom n; k) (do askRoom n; k') := by
 unfold askRoom
 split
 ·exact .mark h
 ·exact h
theorem rel_makeSlice (hz : Zeros P) (t : TypeId) {l l' c c' : Value} (hl : VRel m l l') (hc : VRel m c c') : SRel P VRel m (Instr.makeSlice t l c) (Instr.makeSlice t l' c') := by
 unfold Instr.makeSlice
 refine rel_under_bind t fun d hd => ?_
 cases d with
 | slice elem =>
   simp only
   refine rel_int_bind hl fun k1 n1 _ _ => ?_
   refine rel_int_bind hc fun k2 n2 _ _ => ?_
   refine rel_info_bind elem fun i hi => ?_
   split
   ·split
    ·exact .dead fun h => rfl
    ·split
     ·exact .dead fun h => rfl
     ·exact .dead fun h => rfl
   ·refine rel_ask _ (rel_size_bind elem fun i2 h2 => rel_zeroRow hz elem _ fun z hzz => ?_)
    exact (rel_newRow elem (rel_repeat hzz _)).bind fun _ _ _ _ k => .pure (.slice _ _ (wrap_big n2) (.some k))
 | _ => exact .halt
theorem rel_makeMap (t : TypeId) {r r' : Option Value} (h : OptRel (VRel m) r r') : SRel P VRel m (Instr.makeMap t r) (Instr.makeMap t r') := by
 have fin : ∀ m : Bij, SRel P VRel m (do pure (.map (some (← newObj (.map #[] 0))))) (do pure (.map (some (← newObj (.map #[] 0))))) := fun m =>
  .new (.map 0 rfl fun i a => by simp at a) fun _ _ _ _ hr => .pure (.map (.some hr))
 unfold Instr.makeMap
 cases h with
 | none => exact fin m
 | some h =>
   simp only
   refine rel_under_bind t fun d hd => ?_
   cases d with
   | map k e => exact rel_int_bind h fun _ _ _ _ => fin m
   | _ => exact .halt
theorem rel_range (t : TypeId) {v v' : Value} (h : VRel m v v') : SRel P VRel m (Instr.range t v) (Instr.range t v') := by
 have fin : ∀ (m : Bij) (o o' : Obj), ORel m o o' → SRel P VRel m (do pure (.pointer (some ⟨← newObj o, 0, none⟩))) (do pure (.pointer (some ⟨← newObj o', 0, none⟩))) := fun m o o' ho =>
  .new ho fun _ _ _ _ hr => .pure (.pointer (.some (.mk hr)))
 unfold Instr.range
 refine rel_under_bind t fun d hd => ?_
 cases d with
 | string => cases h with
   | string s => exact fin _ _ _ (.stringIter s 0)
   | _ => exact .halt
 | map k e => cases h with
   | map hr => cases hr with
     | none => exact fin _ _ _ (.mapIter 0 #[] 0 .none)
     | some hr =>
       refine .getObj hr fun o o' ho => ?_
       cases ho with
       | map n _ _ => exact fin _ _ _ (.mapIter n #[] n (.some hr))
       | _ => exact .halt
   | _ => exact .halt
 | _ => exact .halt
theorem rel_len (ts : Array TypeId) (ty : TypeId) {a a' : Array Value} (h : RowRel m a a') : SRel P VRel m (Builtin.len_ ts ty a) (Builtin.len_ ts ty a') := by
 unfold Builtin.len_
 have h0 := h.get 0
 cases ht : (ts[0]? : Option TypeId) with
 | none => exact .halt
 | some t =>
   cases ha : (a[0]? : Option Value) <;> cases hb : (a'[0]? : Option Value) <;> rw [ha, hb] at h0 <;> cases h0
   ·exact .halt
   ·rename_i x x' hx
    refine rel_under_bind t fun d hd => ?_
    cases d with
    | string => cases hx <;> first | exact .halt | exact .pure (.int _ _)
    | array n e => exact .pure (.int _ _)
    | pointer arr =>
      refine rel_under_bind arr fun d2 _ => ?_
      cases d2 <;> first | exact .halt | exact .pure (.int _ _)
    | slice e => cases hx <;> first | exact .halt | exact .pure (.int _ _)
    | map k e => cases hx with
      | map hr => cases hr with
        | none => exact .pure (.int _ _)
        | some hr =>
          refine .getObj hr fun o o' ho => ?_
          cases ho with
          | map n hs _ =>
            show SRel P VRel m (Pure.pure (goInt _)) (Pure.pure (goInt _))
            rw [hs]; exact .pure (.int _ _)
          | _ => exact .halt
      | _ => exact .halt
    | chan k e => cases hx <;> first | exact .halt | exact .pure (.int _ _)
    | _ => exact .halt
end Go.Proofs.YtlbipokkdiiaiaaGreatDoor.Exec
namespace Go.Proofs.YtlbipokkdiiaiaaGreatDoor.Exec
variable {P : Program} {m : Bij} {h : H} {W : World}
theorem WRel.objAt (hw : WRel m h W) {r r' : Nat} (hr : m.r r r') {o : Obj} {g : Bool} (hg : h.get r = some ⟨o, g⟩) (ho : ∀ c t f, o ≠ .cells c t f) : ∃ o', W.heap[r']? = some o' ∧ ORel m o o' := by
 obtain ⟨o', h1, h2⟩ := hw.at_ hr hg
 cases h2 with
 | obj k => exact ⟨o', h1, k⟩
 | grow t _ _ _ _ => exact absurd rfl (ho _ _ _)
theorem run_obj {α : Type} {r : Nat} {o : Obj} (ho : W.heap[r]? = some o) (hc : ∀ c t f, o ≠ .cells c t f) (k : Obj → Sem α) : (getObj r >>= k).run P W = (k o).run P W := by
 show (Sem.getObj r (fun o => (Sem.pure o).bind k)).run P W = _
 simp only [Sem.run, ho]
 rfl
theorem run_setObj {r : Nat} {o x : Obj} (ho : W.heap[r]? = some o) (hc : ∀ c t f, o ≠ .cells c t f) : (setObj r x).run P W = .ok () { W with heap := W.heap.setIfInBounds r x } := by
 show (Sem.setObj r x (.pure ())).run P W = _
 simp only [Sem.run, ho]
theorem filter_nil {α : Type} (p : α → Bool) : Array.filter p #[] = #[] := rfl
theorem filter_one {α : Type} (p : α → Bool) (e : α) : Array.filter p #[e] = if p e then #[e] else #[] := by
 apply Array.ext'
 rw [Array.toList_filter]
 cases h : p e <;> simp [List.filter, h]
theorem run_choose1 {q : Question} (hq : q.forced = true) {α : Type} (k : Nat → Sem α) : (choose q >>= k).run P W = (k 0).run P W := by
 show (Sem.choose q (fun n => (Sem.pure n).bind k)).run P W = _
 simp only [Sem.run, hq, if_true]; rfl
theorem rel_tuple1 {v v' : Value} (h : VRel m v v') : VRel m (.tuple #[v]) (.tuple #[v']) := .tuple rfl (RowRel.one h).at_
theorem rel_tuple2 {v v' u u' : Value} (h : VRel m v v') (k : VRel m u u') : VRel m (.tuple #[v, u]) (.tuple #[v', u']) := .tuple rfl ((RowRel.one h).push k).at_
theorem rel_tuple3 {v v' u u' x x' : Value} (h : VRel m v v') (k : VRel m u u') (l : VRel m x x') : VRel m (.tuple #[v, u, x]) (.tuple #[v', u', x']) := .tuple rfl (((RowRel.one h).push k).push l).at_
theorem map_list {e e' : Array MapEntry} (hs : e.size = e'.size) (h : ∀ i (h : i < e.size) (h' : i < e'.size), EntryRel m e[i] e'[i]) : (e.toList = [] → e' = #[]) ∧ ∀ x, e.toList = [x] → ∃ x', e' = #[x'] ∧ EntryRel m x x' := by
 obtain ⟨l⟩ := e
 obtain ⟨l'⟩ := e'
 simp only [List.size_toArray] at hs h
 refine ⟨fun k => ?_, fun x k => ?_⟩
 ·simp only at k
  subst k
  simp only [List.length_nil] at hs
  rw [List.eq_nil_of_length_eq_zero hs.symm]
 ·simp only at k
  subst k
  match l', hs, h with
  | [y], _, h => exact ⟨y, rfl, h 0 (by simp) (by simp)⟩
theorem op_nextMap {it it' : Value} (hi : VRel m it it') (hw : WRel m h W) (ty : TypeId) {v : Value} {h' : H} (he : aNextMap it h = some (v, h')) :
  ∃ m' v' W', (Instr.next it' false ty).run P W = .ok v' W' ∧ VRel m' v v' ∧ Snd m h W m' h' W' := by
 unfold aNextMap at he
 split at he
 ·rename_i r
  cases hi with
  | pointer hp => cases hp with
    | some ha => cases ha with
      | @mk _ r' _ _ hr =>
        split at he
        ·rename_i a b c g hg
         obtain ⟨o', q1, q2⟩ := hw.objAt hr hg (by simp)
         simp only [Option.some.injEq, Prod.mk.injEq] at he
         obtain ⟨rfl, rfl⟩ := he
         cases q2 with
         | mapIter _ _ _ hm =>
           cases hm
           refine ⟨m, _, W, ?_, rel_tuple1 (.bool false), Snd.refl hw⟩
           simp only [Instr.next]
           rw [run_obj q1 (by simp)]; rfl
        ·rename_i mm since seen last g hg
         obtain ⟨o', q1, q2⟩ := hw.objAt hr hg (by simp)
         cases q2 with
         | mapIter _ _ _ hm =>
           cases hm with
           | @some _ mm' hm =>
           split at he
           ·rename_i es clock g2 hg2
            obtain ⟨o2, p1, p2⟩ := hw.objAt hm hg2 (by simp)
            cases p2 with
            | @map _ es' _ hs hes =>
              have hl := map_list hs hes
              split at he
              ·rename_i hnil
               simp only [Option.some.injEq, Prod.mk.injEq] at he
               obtain ⟨rfl, rfl⟩ := he
               obtain rfl := hl.1 hnil
               refine ⟨m, _, W, ?_, rel_tuple1 (.bool false), Snd.refl hw⟩
               simp only [Instr.next]
               rw [run_obj q1 (by simp)]
               simp only
               rw [run_obj p1 (by simp)]
               simp only [filter_nil, Array.isEmpty_empty, if_true, Bool.not_true, Bool.and_false, Bool.false_and, Bool.false_eq_true, if_false]
               rw [run_choose1 (by simp [Question.forced])]
               simp [Sem.run_pure]
              ·rename_i e hone
               obtain ⟨e', rfl, hk⟩ := hl.2 e hone
               have hb := hk.born
               split at he
               ·rename_i hsn
                split at he
                ·rename_i hlt
                 simp only [Option.some.injEq, Prod.mk.injEq] at he
                 obtain ⟨rfl, rfl⟩ := he
                 refine ⟨m, _, W, ?_, rel_tuple1 (.bool false), Snd.refl hw⟩
                 simp only [Instr.next]
                 rw [run_obj q1 (by simp)]
                 simp only
                 rw [run_obj p1 (by simp)]
                 rw [hb] at hsn hlt
                 have hge : ¬ last ≤ e'.born := by omega
                 simp only [filter_nil, filter_one, hsn, Bool.not_true, Bool.false_eq_true, if_false, Array.isEmpty_empty, if_true]
                 rw [if_neg (by simp [hge]), run_choose1 (by simp [Question.forced])]
                 simp [Sem.run_pure]
                ·simp at he
               ·rename_i hsn
                split at he
                ·rename_i hc
                 simp only [Option.some.injEq, Prod.mk.injEq] at he
                 obtain ⟨rfl, rfl⟩ := he
                 have hp := Snd.put hw hg hr (.obj (.mapIter since (seen.push e.born) clock (.some hm)))
                 refine ⟨m, _, _, ?_, rel_tuple3 (.bool true) hk.key hk.val, hp⟩
                 simp only [Instr.next]
                 rw [run_obj q1 (by simp)]
                 simp only
                 rw [run_obj p1 (by simp)]
                 rw [hb] at hsn hc ⊢
                 simp only [Bool.and_eq_true, Bool.or_eq_true, decide_eq_true_eq] at hc
                 have hlt2 : ¬ since ≤ e'.born := by omega
                 have hcond : (!seen.isEmpty && !(#[e'] : Array MapEntry).isEmpty && (#[e'] : Array MapEntry).all (fun x => decide (x.born ≥ last))) = false := by
                  rcases hc.1 with h1 | h1
                  ·simp [h1]
                  ·have : ¬ last ≤ e'.born := by omega
                   simp [this]
                 have hsn2 : seen.contains e'.born = false := by simpa using hsn
                 simp only [filter_one, hsn2, Bool.not_false, if_true, hc.2, decide_true, hlt2, decide_false, Bool.false_eq_true, if_false]
                 rw [if_neg (by rw [hcond]; simp), run_choose1 (by simp [Question.forced])]
                 simp [run_setObj q1 (by simp)]
                ·simp at he
              ·simp at he
           ·simp at he
        ·simp at he
 ·simp at he
end Go.Proofs.YtlbipokkdiiaiaaGreatDoor.Exec
namespace Go.Proofs.YtlbipokkdiiaiaaGreatDoor.Exec
variable {P : Program} {m : Bij} {h : H} {W : World}
theorem op_entry {it it' : Value} (hi : VRel m it it') (hw : WRel m h W) {v : Value} (he : aEntry it h = some v) :
  ∃ v', (Instr.entry it').run P W = .ok v' W ∧ VRel m v v' := by
 unfold aEntry at he
 split at he
 ·rename_i r
  cases hi with
  | pointer hp => cases hp with
    | some ha => cases ha with
      | @mk _ r' _ _ hr =>
        split at he
        ·rename_i mm a seen stepped g hg
         obtain ⟨o', q1, q2⟩ := hw.objAt hr hg (by simp)
         cases q2 with
         | mapIter _ _ _ hm =>
           cases hm with
           | @some _ mm' hm =>
           split at he
           ·rename_i stamp es clock g2 hb hg2
            obtain ⟨o2, p1, p2⟩ := hw.objAt hm hg2 (by simp)
            cases p2 with
            | @map _ es' _ hs hes =>
              have hl := map_list hs hes
              split at he
              ·rename_i e hone
               obtain ⟨e', rfl, hk⟩ := hl.2 e hone
               split at he
               ·rename_i hc
                simp only [Option.some.injEq] at he
                subst he
                simp only [Bool.and_eq_true, beq_iff_eq] at hc
                obtain ⟨rfl, hc⟩ := hc
                refine ⟨_, ?_, rel_tuple2 hk.key hk.val⟩
                simp only [Instr.entry]
                rw [run_obj q1 (by simp)]
                simp only [hb]
                rw [run_obj p1 (by simp)]
                rw [hk.born] at hc
                simp [hc]
               ·simp at he
              ·simp at he
           ·simp at he
        ·simp at he
 ·simp at he
theorem rel_nextStr {v v' : Value} (h : VRel m v v') (ty : TypeId) : SRel P VRel m (Instr.next v true ty) (Instr.next v' true ty) := by
 unfold Instr.next
 cases h with
 | pointer hp => cases hp with
   | none => exact .halt
   | some ha => cases ha with
     | @mk b b' o s hb =>
       cases o with
       | zero =>
         refine .getObj hb fun x x' hx => ?_
         cases hx with
         | stringIter s p =>
           show SRel P VRel m (if p < s.size then _ else _) (if p < s.size then _ else _)
           split
           ·exact .setObj hb (.stringIter _ _) (.pure (rel_tuple3 (.bool true) (.int _ _) (.int _ _)))
           ·exact .pure (rel_tuple1 (.bool false))
         | mapIter _ _ _ hm => cases hm <;> exact .halt
         | _ => exact .halt
       | succ o => exact .halt
 | _ => exact .halt
theorem run_bound {k : IntKind} {n y : Nat} (c : BoundsCode) (hn : n ≤ y) : (Instr.sliceBound (.int k (n : Int)) y c).run P W = .ok n W := by
 unfold Instr.sliceBound
 simp [asIntOf, hn]
theorem ix_spec {x : Option Value} {d n : Nat} (h : ix? x d = some n) : (x = none ∧ n = d) ∨ ∃ k, x = some (.int k (Int.ofNat n)) := by
 unfold ix? at h
 split at h
 ·left; simp_all
 ·right; simp_all
 ·simp at h
theorem opt_int {x x' : Option Value} (h : OptRel (VRel m) x x') {k : IntKind} {n : Int} (e : x = some (.int k n)) : x' = some (.int k n) := by
 subst e; cases h with | some h => cases h; rfl
theorem opt_none {x x' : Option Value} (h : OptRel (VRel m) x x') (e : x = none) : x' = none := by subst e; cases h; rfl
theorem run_bounds {l c lo hi : Nat} {x y z : Option Value} {mx : Nat} (hx : (x = none ∧ lo = 0) ∨ ∃ k, x = some (.int k (Int.ofNat lo))) (hy : (y = none ∧ hi = l) ∨ ∃ k, y = some (.int k (Int.ofNat hi)))
  (hz : (z = none ∧ mx = c) ∨ (y.isSome = true ∧ mx ≤ c ∧ ∃ k, z = some (.int k (Int.ofNat mx)))) (h1 : lo ≤ hi) (h2 : hi ≤ mx) : (Instr.sliceBounds true l c x y z).run P W = .ok (lo, hi, mx) W := by
 rcases hx with ⟨rfl, rfl⟩ | ⟨k1, rfl⟩ <;> rcases hy with ⟨rfl, rfl⟩ | ⟨k2, rfl⟩ <;> rcases hz with ⟨rfl, rfl⟩ | ⟨h3, h4, k3, rfl⟩ <;>
  first
  | (simp at h3; done)
  | (simp [Instr.sliceBounds, Sem.run_bind, run_bound, h1, h2, h4]; done)
  | (simp [Instr.sliceBounds, Sem.run_bind, run_bound, h1, h2]; done)
theorem op_slice {t : TypeId} {b b' o l c e : Nat} (hb : m.r b b') (h1 : l ≤ c) (h2 : 1 ≤ e) (h3 : o + c * e ≤ m.gr b) {lo hi mx lo' hi' mx' : Option Value} (hl : OptRel (VRel m) lo lo') (hu : OptRel (VRel m) hi hi') (hm : OptRel (VRel m) mx mx')
  {v : Value} (hv : aSlice P t ⟨b, o, none⟩ l (BIG + e) lo hi mx = some v) : ∃ v', (Instr.sliceAt t (.slice (some ⟨b', o, none⟩) l c) lo' hi' mx').run P W = .ok v' W ∧ VRel m v v' := by
 unfold aSlice elemInfo at hv
 cases hd : P.underlying t with
 | none => simp [hd] at hv
 | some d =>
 cases d with
 | slice elem =>
   cases hi2 : P.info? elem with
   | none => simp [hd, hi2] at hv
   | some i =>
     cases hlo : ix? lo 0 with
     | none => simp [hd, hi2, hlo] at hv
     | some lo0 =>
     cases hhi : ix? hi l with
     | none => simp [hd, hi2, hlo, hhi] at hv
     | some hi0 =>
     simp only [hd, hi2, hlo, hhi, Option.map_some] at hv
     split at hv
     ·simp at hv
     ·rename_i hc
      have hc : e = i.size ∧ lo0 ≤ hi0 ∧ hi0 ≤ l ∧ (lo0 = 0 ∨ lo0 < l) := by
       simp only [Bool.or_eq_true, not_or, Bool.not_eq_true', Bool.not_eq_false, beq_iff_eq, decide_eq_true_eq, decide_eq_false_iff_not] at hc
       obtain ⟨⟨⟨p1, p2⟩, p3⟩, p4⟩ := hc
       refine ⟨by simpa using p1, by simpa using p2, by simpa using p3, ?_⟩
       simpa using p4
      obtain ⟨rfl, hlu, hul, hz⟩ := hc
      have hadd : ∀ c2, (lo0 = 0 ∨ lo0 < c2) → (if c2 = lo0 then (some ⟨b', o, none⟩ : Option Addr) else (some ⟨b', o, none⟩ : Option Addr).map (·.add (lo0 * i.size))) = some ⟨b', o + lo0 * i.size, none⟩ := by
       intro c2 h0
       split
       ·have : lo0 = 0 := by omega
        subst this; simp
       ·simp only [Option.map_some, Option.some.injEq, Addr.add]
        split
        ·rename_i h; simp [h]
        ·rfl
      have hadd2 : (Addr.add ⟨b, o, none⟩ (lo0 * i.size)) = ⟨b, o + lo0 * i.size, none⟩ := by
       unfold Addr.add; split
       ·rename_i h; simp [h]
       ·rfl
      rw [hadd2] at hv
      have hmul : ∀ c2, lo0 ≤ c2 → lo0 * i.size + (c2 - lo0) * i.size = c2 * i.size := by intro c2 hc2; rw [← Nat.add_mul]; congr 1; omega
      have xl : (lo' = none ∧ lo0 = 0) ∨ ∃ k, lo' = some (.int k (Int.ofNat lo0)) := by
       rcases ix_spec hlo with ⟨e1, e2⟩ | ⟨k, e1⟩
       ·exact .inl ⟨opt_none hl e1, e2⟩
       ·exact .inr ⟨k, opt_int hl e1⟩
      have xh : (hi' = none ∧ hi0 = l) ∨ ∃ k, hi' = some (.int k (Int.ofNat hi0)) := by
       rcases ix_spec hhi with ⟨e1, e2⟩ | ⟨k, e1⟩
       ·exact .inl ⟨opt_none hu e1, e2⟩
       ·exact .inr ⟨k, opt_int hu e1⟩
      have hsz : ∀ w : World, (sizeOf elem).run P w = .ok i.size w := fun w => by simp [sizeOf, typeInfo, hi2]
      have run : ∀ mx0, ((mx' = none ∧ mx0 = c) ∨ (hi'.isSome = true ∧ mx0 ≤ c ∧ ∃ k, mx' = some (.int k (Int.ofNat mx0)))) → hi0 ≤ mx0 → (lo0 = 0 ∨ lo0 < mx0) →
        (Instr.sliceAt t (.slice (some ⟨b', o, none⟩) l c) lo' hi' mx').run P W = .ok (.slice (some ⟨b', o + lo0 * i.size, none⟩) (hi0 - lo0) (mx0 - lo0)) W := by
       intro mx0 hz0 hle h0
       have hr := run_bounds (P := P) (W := W) xl xh hz0 hlu hle
       have := hadd mx0 h0
       unfold Instr.sliceAt Instr.slice
       simp only [Sem.run_bind, run_underlying hd, Result.andThen_ok, hr, hsz, this, Sem.run_pure]
      cases hm with
      | none =>
        simp only [Option.some.injEq] at hv
        subst hv
        exact ⟨_, run c (.inl ⟨rfl, rfl⟩) (by omega) (by omega), .sliceU _ _ _ hb (by omega) h2 (by have := hmul c (by omega); omega)⟩
      | some hm =>
        cases hm with
        | int k n =>
          cases n with
          | negSucc n => simp at hv
          | ofNat n =>
            simp only at hv
            split at hv
            ·rename_i hc
             simp only [Bool.and_eq_true, decide_eq_true_eq, Bool.or_eq_true, beq_iff_eq] at hc
             obtain ⟨⟨⟨⟨p1, p2⟩, p3⟩, p4⟩, p5⟩ := hc
             simp only [Option.some.injEq] at hv
             subst hv
             have his : hi'.isSome = true := by cases hu <;> simp_all
             exact ⟨_, run n (.inr ⟨his, by omega, k, rfl⟩) p3 p5, .slice _ _ (by omega) (.some (.mk hb))⟩
            ·simp at hv
        | _ => simp at hv
 | _ => simp [hd] at hv
end Go.Proofs.YtlbipokkdiiaiaaGreatDoor.Exec
